/- Manifests: read from bytes: sums; loads that stay. -/
import Derived.Test.YtmogkiacakkmbaaManK
import Derived.Test.YtmogkiacakkmbaaPenR
import Derived.Test.YtmogkiacakkmbaaOrdH
namespace Go.Proofs.Ytmogkiacakkmbaa
open Go.RowKit

/-- A manifest's fields, the first so many numbers read. -/
def parM (v : Nat → Int) (k : Nat) : List Value := ((List.range 4).map fun j => Value.int .i64 (if j < k then v j else 0)) ++ (.slice none 0 0 :: zeros32)
theorem parM_0 (v : Nat → Int) : parM v 0 = mfZ := rfl
theorem parM_4 (v : Nat → Int) : parM v 4 = .int .i64 (v 0) :: .int .i64 (v 1) :: .int .i64 (v 2) :: .int .i64 (v 3) :: .slice none 0 0 :: zeros32 := rfl
theorem parM_at (v : Nat → Int) (k : Nat) (h : k < 4) : (parM v k)[k]? = some (.int .i64 0) := by
  have : k = 0 ∨ k = 1 ∨ k = 2 ∨ k = 3 := by omega
  rcases this with rfl | rfl | rfl | rfl <;> rfl
theorem parM_set (v : Nat → Int) (k : Nat) (h : k < 4) : (parM v k).set k (.int .i64 (v k)) = parM v (k + 1) := by
  have : k = 0 ∨ k = 1 ∨ k = 2 ∨ k = 3 := by omega
  rcases this with rfl | rfl | rfl | rfl <;> rfl
theorem parM_length (v : Nat → Int) (k : Nat) : (parM v k).length = 37 := by simp [parM, zeros32]

theorem eyeNum_most (most n : Int) (h : told n = true) (hm : n ≤ most) (r : List UInt8) : eyeNum most ⟨(num4 n ++ r).toArray⟩ false = (n, ⟨r.toArray⟩, false) := by
  have hn : 0 ≤ n ∧ n < 4294967296 := by simpa [told] using h
  have hsz : (⟨(num4 n ++ r).toArray⟩ : ByteArray).size = 4 + r.length := by rw [← bl_length, bl_mk, List.length_append, num4_length]
  have h4 : 4 ≤ (⟨(num4 n ++ r).toArray⟩ : ByteArray).size := by omega
  have e1 : bl ((⟨(num4 n ++ r).toArray⟩ : ByteArray).extract 0 4) = num4 n := by
    rw [bl_extract, bl_mk, List.drop_zero, List.take_append_of_le_length (by rw [num4_length]; exact Nat.le_refl _), List.take_of_length_le (by rw [num4_length]; exact Nat.le_refl _)]
  have e2 : (⟨(num4 n ++ r).toArray⟩ : ByteArray).extract 4 (⟨(num4 n ++ r).toArray⟩ : ByteArray).size = ⟨r.toArray⟩ := by
    refine bl_ext ?_
    rw [bl_extract, bl_mk, bl_mk, hsz, List.take_of_length_le (by rw [List.length_append, num4_length]; exact Nat.le_refl _)]
    exact List.drop_left' (num4_length n)
  have e3 : (leNat (bl ((⟨(num4 n ++ r).toArray⟩ : ByteArray).extract 0 4)) : Int) = n := by
    rw [e1, num4_told h, leNat_le4 _ (by omega)]
    omega
  rw [eyeNum_ok most _ h4 (by rw [e3]; omega), e2, e3]
theorem eyeSt_most (most : Int) (ns : List Int) (t : List UInt8) (h : ∀ n ∈ ns, told n = true ∧ n ≤ most) : ∀ k, k ≤ ns.length → eyeSt most ⟨((ns.map num4).flatten ++ t).toArray⟩ k = (⟨(((ns.drop k).map num4).flatten ++ t).toArray⟩, false)
  | 0, _ => rfl
  | k + 1, hk => by
    have ih := eyeSt_most most ns t h k (by omega)
    show (eyeNum most (eyeSt most _ k).1 (eyeSt most _ k).2).2 = _
    have hm := h _ (List.getElem_mem (by omega : k < ns.length))
    rw [ih, List.drop_eq_getElem_cons (by omega : k < ns.length), List.map_cons, List.flatten_cons, List.append_assoc, eyeNum_most most _ hm.1 hm.2]
theorem eyeVal_most (most : Int) (ns : List Int) (t : List UInt8) (h : ∀ n ∈ ns, told n = true ∧ n ≤ most) (k : Nat) (hk : k < ns.length) : eyeVal most ⟨((ns.map num4).flatten ++ t).toArray⟩ k = ns[k] := by
  show (eyeNum most (eyeSt most _ k).1 (eyeSt most _ k).2).1 = _
  have hm := h _ (List.getElem_mem hk)
  rw [eyeSt_most most ns t h k (by omega), List.drop_eq_getElem_cons hk, List.map_cons, List.flatten_cons, List.append_assoc, eyeNum_most most _ hm.1 hm.2]

/-- An eye before its j-th sum, and that sum. -/
theorem digs_take (d : List UInt8) (t : List UInt8) (hd : d.length = 32) : (⟨(d ++ t).toArray⟩ : ByteArray).extract 0 32 = ⟨d.toArray⟩ ∧ (⟨(d ++ t).toArray⟩ : ByteArray).extract 32 (⟨(d ++ t).toArray⟩ : ByteArray).size = ⟨t.toArray⟩ ∧ 32 ≤ (⟨(d ++ t).toArray⟩ : ByteArray).size := by
  have hsz : (⟨(d ++ t).toArray⟩ : ByteArray).size = 32 + t.length := by rw [← bl_length, bl_mk, List.length_append, hd]
  refine ⟨bl_ext ?_, bl_ext ?_, by omega⟩
  · rw [bl_extract, bl_mk, bl_mk, List.drop_zero, List.take_left' hd]
  · rw [bl_extract, bl_mk, bl_mk, hsz, List.take_of_length_le (by rw [List.length_append, hd]; exact Nat.le_refl _)]
    exact List.drop_left' hd

end Go.Proofs.Ytmogkiacakkmbaa

namespace Go.Proofs.Ytmogkiacakkmbaa
open Go.RowKit

section
variable {P : Program} {ops : Array Oper} {S H : List Nat} {j : Nat} {a : Act} {w : World} {o : Oper}
theorem sure_load1 (hj : ops[j]? = some o) {ty : TypeId} {x : Operand} (ho : o.op = .load ty x) {b k : Nat} {cs : List Value} {t : TypeId} {v : Value} (hb : Blk w b cs t) (hx : a.eval x = .pointer (some ⟨b, k, none⟩)) (hv : cs[k]? = some v) (hr : isOne P ty = true) (hn : b ∉ S) : Sure P ops S H j a w := fun _ o' ho' => by
  have e : o' = o := by rw [hj] at ho'; exact (Option.some.inj ho').symm
  subst e
  refine ⟨.value v, fun w' hw' => ?_⟩
  unfold isOne at hr
  have hc : w'.cell? ⟨b, k, none⟩ = some v := (hb.only hw' hn).cell hv
  cases hu : P.underlying ty with
  | none => simp [hu] at hr
  | some d =>
    cases hq : P.info? ty with
    | none => simp [hq] at hr
    | some inf =>
      rw [hu, hq] at hr
      have hs : inf.size = 1 := by simp at hr; exact hr.2
      have hagg : (isAgg ty).run P w' = .ok false w' := by
        unfold isAgg
        rw [Sem.run_bind, run_underlying hu w']
        cases d <;> simp_all
      have hrun : (loadVar ty ⟨b, k, none⟩).run P w' = .ok v w' := by
        simp [loadVar, Sem.run_bind, hagg, sizeOf, typeInfo, hq, hs]
        rw [hc]
      unfold execOp
      simp only [ho, hx, Instr.loadAt, Instr.sureAddr, Sem.run_bind, Sem.run_pure, Result.andThen_ok, hrun]
theorem sure_row (hj : ops[j]? = some o) {ty : TypeId} {x : Operand} (ho : o.op = .load ty x) {b : Nat} {cs : List Value} {t : TypeId} (hb : Blk w b cs t) (hx : a.eval x = .pointer (some ⟨b, 0, none⟩)) (hr : isRow P ty = true) {n : Nat} (hi : (P.info? ty).map (·.size) = some n) (hl : cs.length = n) (hn : b ∉ S) : Sure P ops S H j a w := fun _ o' ho' => by
  have e : o' = o := by rw [hj] at ho'; exact (Option.some.inj ho').symm
  subst e
  refine ⟨.value (.agg cs.toArray), fun w' hw' => ?_⟩
  unfold isRow at hr
  cases hu : P.underlying ty with
  | none => simp [hu] at hr
  | some d =>
    unfold execOp
    simp only [ho, hx, Instr.loadAt, Instr.sureAddr, Sem.run_bind, Sem.run_pure, Result.andThen_ok, run_loadVar_at ty b 0 cs d (fun k v hv => by rw [Nat.zero_add]; exact (hb.only hw' hn).cell hv) hu (by rw [hu] at hr; revert hr; cases d <;> simp) hi hl]
end

/-- A sum read off. -/
theorem eyeDigest_list (b : Nat) (d t : List UInt8) (w : World) (hd : d.length = 32) (h : Blk w b [.string ⟨(d ++ t).toArray⟩, .bool false] 190) :
    Calls Try.prog 154 #[.pointer (some ⟨b, 0, none⟩)] w fun e w' => e = .returned (.agg (Lib.byteCells d).toArray) ∧ Blk w' b [.string ⟨t.toArray⟩, .bool false] 190 ∧ Only [b] w w' := by
  obtain ⟨h1, h2, h3⟩ := digs_take d t hd
  have := eyeDigest_yes b _ w h h3
  rwa [h1, h2, bl_mk] at this

/-- The bytes behind the first j sums. -/
def sumT (ds : List (List UInt8)) (r : List UInt8) (j : Nat) : List UInt8 := (ds.drop j).flatten ++ [r, Sha.tree ds].flatten
theorem sumT_next (ds : List (List UInt8)) (r : List UInt8) (j : Nat) (h : j < ds.length) : sumT ds r j = ds.getD j [] ++ sumT ds r (j + 1) := by
  unfold sumT
  rw [List.drop_eq_getElem_cons h, List.flatten_cons, List.append_assoc, List.getD_eq_getElem?_getD, List.getElem?_eq_getElem h]
  rfl
theorem sumT_end (ds : List (List UInt8)) (r : List UInt8) : sumT ds r ds.length = r ++ (Sha.tree ds ++ []) := by
  unfold sumT
  rw [List.drop_length]
  simp
theorem manB_sumT (b v z k : Int) (ds : List (List UInt8)) (r : List UInt8) : manB b v z k ds r = ([b, v, z, k].map num4).flatten ++ sumT ds r 0 := by
  unfold manB sumT
  rw [List.drop_zero, List.append_assoc]
theorem wide_flat : ∀ (l : List (List UInt8)), Wide l → l.flatten.length = 32 * l.length
  | [], _ => rfl
  | x :: l, hl => by
    rw [List.flatten_cons, List.length_append, wide_flat l (fun d hd => hl d (List.mem_cons_of_mem _ hd)), hl x List.mem_cons_self, List.length_cons]
    omega
theorem sumT_size (ds : List (List UInt8)) (r : List UInt8) (hw : Wide ds) (hr : r.length = 32) (ht : (Sha.tree ds).length = 32) : (⟨(sumT ds r 0).toArray⟩ : ByteArray).size = 32 * (ds.length + 2) := by
  rw [← bl_length, bl_mk]
  unfold sumT
  rw [List.drop_zero, List.length_append, wide_flat ds hw]
  simp [hr, ht]
  omega
theorem getD_wide (ds : List (List UInt8)) (hw : Wide ds) (j : Nat) (h : j < ds.length) : (ds.getD j []).length = 32 := by
  rw [List.getD_eq_getElem?_getD, List.getElem?_eq_getElem h]
  exact hw _ (List.getElem_mem h)
theorem digCells_take_succ (ds : List (List UInt8)) (j : Nat) (h : j < ds.length) : digCells (ds.take (j + 1)) = digCells (ds.take j) ++ Lib.byteCells (ds.getD j []) := by
  rw [List.take_add_one, List.getElem?_eq_getElem h, digCells_append, List.getD_eq_getElem?_getD, List.getElem?_eq_getElem h]
  simp [digCells]

end Go.Proofs.Ytmogkiacakkmbaa
