/- Manifests: read from bytes: sums; loads that stay. -/
import Derived.Test.YtgdifegbpbnekaaManL
import Derived.Test.YtgdifegbpbnekaaOrdH
namespace Go.Proofs.Ytgdifegbpbnekaa
open Go.RowKit

section
variable {P : Program} {ops : Array Oper} {S H : List Nat} {j : Nat} {a : Act} {w : World} {o : Oper}
theorem sure_load1 (hj : ops[j]? = some o) {ty : TypeId} {x : Operand} (ho : o.op = .load ty x) {b k : Nat} {cs : List Value} {t : TypeId} {v : Value} (hb : Blk w b cs t) (hx : a.eval x = .pointer (some ⟨b, k, none⟩)) (hv : cs[k]? = some v) (hr : isOne P ty = true) (hn : b ∉ S) : Sure P ops S H j a w := fun _ o' ho' => by
  have e : o' = o := by rw [hj] at ho'; exact (Option.some.inj ho').symm
  subst e
  refine ⟨.value v, fun w' hw' => ?_⟩
  unfold isOne at hr
  have hc : w'.cell? ⟨b, k, none⟩ = some v := (hb.only hw' hn).cell hv
  cases hu : P.underlying ty with
  | none => simp [hu] at hr
  | some d =>
    cases hq : P.info? ty with
    | none => simp [hq] at hr
    | some inf =>
      rw [hu, hq] at hr
      have hs : inf.size = 1 := by simp at hr; exact hr.2
      have hagg : (isAgg ty).run P w' = .ok false w' := by
        unfold isAgg
        rw [Sem.run_bind, run_underlying hu w']
        cases d <;> simp_all
      have hrun : (loadVar ty ⟨b, k, none⟩).run P w' = .ok v w' := by
        simp [loadVar, Sem.run_bind, hagg, sizeOf, typeInfo, hq, hs]
        rw [hc]
      unfold execOp
      simp only [ho, hx, Instr.loadAt, Instr.sureAddr, Sem.run_bind, Sem.run_pure, Result.andThen_ok, hrun]
theorem sure_row (hj : ops[j]? = some o) {ty : TypeId} {x : Operand} (ho : o.op = .load ty x) {b : Nat} {cs : List Value} {t : TypeId} (hb : Blk w b cs t) (hx : a.eval x = .pointer (some ⟨b, 0, none⟩)) (hr : isRow P ty = true) {n : Nat} (hi : (P.info? ty).map (·.size) = some n) (hl : cs.length = n) (hn : b ∉ S) : Sure P ops S H j a w := fun _ o' ho' => by
  have e : o' = o := by rw [hj] at ho'; exact (Option.some.inj ho').symm
  subst e
  refine ⟨.value (.agg cs.toArray), fun w' hw' => ?_⟩
  unfold isRow at hr
  cases hu : P.underlying ty with
  | none => simp [hu] at hr
  | some d =>
    unfold execOp
    simp only [ho, hx, Instr.loadAt, Instr.sureAddr, Sem.run_bind, Sem.run_pure, Result.andThen_ok, run_loadVar_at ty b 0 cs d (fun k v hv => by rw [Nat.zero_add]; exact (hb.only hw' hn).cell hv) hu (by rw [hu] at hr; revert hr; cases d <;> simp) hi hl]
end

/-- A sum read off. -/
theorem eyeDigest_list (b : Nat) (d t : List UInt8) (w : World) (hd : d.length = 32) (h : Blk w b [.string ⟨(d ++ t).toArray⟩, .bool false] 214) :
    Calls Try.prog 103 #[.pointer (some ⟨b, 0, none⟩)] w fun e w' => e = .returned (.agg (Lib.byteCells d).toArray) ∧ Blk w' b [.string ⟨t.toArray⟩, .bool false] 214 ∧ Only [b] w w' := by
  obtain ⟨h1, h2, h3⟩ := digs_take d t hd
  have := eyeDigest_yes b _ w h h3
  rwa [h1, h2, bl_mk] at this

/-- The bytes behind the first j sums. -/
def sumT (ds : List (List UInt8)) (r : List UInt8) (j : Nat) : List UInt8 := (ds.drop j).flatten ++ [r, Sha.tree ds].flatten
theorem sumT_next (ds : List (List UInt8)) (r : List UInt8) (j : Nat) (h : j < ds.length) : sumT ds r j = ds.getD j [] ++ sumT ds r (j + 1) := by
  unfold sumT
  rw [List.drop_eq_getElem_cons h, List.flatten_cons, List.append_assoc, List.getD_eq_getElem?_getD, List.getElem?_eq_getElem h]
  rfl
theorem sumT_end (ds : List (List UInt8)) (r : List UInt8) : sumT ds r ds.length = r ++ (Sha.tree ds ++ []) := by
  unfold sumT
  rw [List.drop_length]
  simp
theorem manB_sumT (b v z k : Int) (ds : List (List UInt8)) (r : List UInt8) : manB b v z k ds r = ([b, v, z, k].map num4).flatten ++ sumT ds r 0 := by
  unfold manB sumT
  rw [List.drop_zero, List.append_assoc]
theorem wide_flat : ∀ (l : List (List UInt8)), Wide l → l.flatten.length = 32 * l.length
  | [], _ => rfl
  | x :: l, hl => by
    rw [List.flatten_cons, List.length_append, wide_flat l (fun d hd => hl d (List.mem_cons_of_mem _ hd)), hl x List.mem_cons_self, List.length_cons]
    omega
theorem sumT_size (ds : List (List UInt8)) (r : List UInt8) (hw : Wide ds) (hr : r.length = 32) (ht : (Sha.tree ds).length = 32) : (⟨(sumT ds r 0).toArray⟩ : ByteArray).size = 32 * (ds.length + 2) := by
  rw [← bl_length, bl_mk]
  unfold sumT
  rw [List.drop_zero, List.length_append, wide_flat ds hw]
  simp [hr, ht]
  omega
theorem getD_wide (ds : List (List UInt8)) (hw : Wide ds) (j : Nat) (h : j < ds.length) : (ds.getD j []).length = 32 := by
  rw [List.getD_eq_getElem?_getD, List.getElem?_eq_getElem h]
  exact hw _ (List.getElem_mem h)
theorem digCells_take_succ (ds : List (List UInt8)) (j : Nat) (h : j < ds.length) : digCells (ds.take (j + 1)) = digCells (ds.take j) ++ Lib.byteCells (ds.getD j []) := by
  rw [List.take_add_one, List.getElem?_eq_getElem h, digCells_append, List.getD_eq_getElem?_getD, List.getElem?_eq_getElem h]
  simp [digCells]

end Go.Proofs.Ytgdifegbpbnekaa
