/- Rows of sums: made, written in the middle. -/
import Derived.Test.YtmogkiacakkmbaaManC
import Derived.Laws.CopyRow
namespace Go.Proofs.Ytmogkiacakkmbaa
open Go.RowKit

section
variable {P : Program} {w : World} {ops : Array Oper} {rest : List Oper} {o : Oper} {a : Act} {Q : Exit → Act → World → Prop}
variable {w0 : World} {S : List Nat} {L : List Ent}
/-- Cells written into a row from a place on. -/
def putAt (cs D : List Value) (j : Nat) : List Value := cs.take j ++ D ++ cs.drop (j + D.length)
theorem putAt_length (cs D : List Value) (j : Nat) (h : j + D.length ≤ cs.length) : (putAt cs D j).length = cs.length := by simp [putAt]; omega

theorem wpL_storeAtS (hst : St w0 S w L) (hgd : o.guard = none) {ty : TypeId} {x y : Operand} (ho : o.op = .store ty x y) (i : Nat) {b j : Nat} {cs : List Value} {t : TypeId} (hL : L[i]? = some ⟨b, cs, t, true⟩)
    (hx : a.eval x = .pointer (some ⟨b, j, none⟩)) {D : List Value} (hy : a.eval y = .agg D.toArray) (hn : (P.info? ty).map (·.size) = some D.length) (hl : j + D.length ≤ cs.length) (h1 : D.all (·.oneCell') = true)
    (h : ∀ w1, St w0 S w1 (L.set i ⟨b, putAt cs D j, t, true⟩) → wpList P ops Q rest (a.put o.dst undef) w1) : wpList P ops Q (o :: rest) a w := by
  have hb := hst.blk i hL
  have hcs : (Value.agg D.toArray).cells = D.toArray := rfl
  have h1' : ∀ v ∈ D, v.oneCell' = true := by simpa using h1
  have hrun : (storeVar ty ⟨b, j, none⟩ (.agg D.toArray)).run P w = .ok () (w.setRow b (putAt cs D j).toArray) := by
    cases hq : P.info? ty with
    | none => simp [hq] at hn
    | some inf =>
      have hs : inf.size = D.length := by simpa [hq] using hn
      have hr := run_storeCells_at (P := P) b j t D 0 cs.toArray w hb (by simpa using hl) h1'
      simp only [Nat.add_zero] at hr
      simp [storeVar, sizeOf, typeInfo, hq, hs, hcs, Sem.run_bind, hr, putAt]
  refine wpList_plain hgd fun K hK => ?_
  unfold Oper.wp
  simp only [execOp, ho, hx, hy, Instr.storeAt, Instr.sureAddr, Sem.run_bind, Sem.run_pure, Result.andThen_ok, hrun]
  refine hK _ _ (h _ (hst.chg i hL ?_ ?_))
  · exact ⟨rfl, rfl, rfl, by simp, fun k hk hn => setRow_other w b k _ (by simpa using hn)⟩
  · unfold Blk
    rw [setRow_heap w b cs.toArray _ t (0, 0) hb]

/-- A new row of elements of several like cells. -/
theorem wpL_makeR (hst : St w0 S w L) (hgd : o.guard = none) (t : TypeId) (x : Operand) (ho : o.op = .makeSlice t x x) {e : TypeId} (ht : P.underlying t = some (.slice e)) (z c0 : Value) (size bytes : Nat) (hzc : z.cells = (List.replicate size c0).toArray) (hs0 : 0 < size)
    (hi : (P.info? e).map (fun i => (i.zero, i.size, i.bytes)) = some (some z, size, bytes)) (n : Nat) (hx : a.eval x = .int .i64 (n : Int)) (hn : n ≤ 1024) (hsz : size ≤ 1024) (hby : bytes ≤ 1024)
    (h : ∀ w1 b, w.heap.size ≤ b → St w0 S w1 (⟨b, List.replicate (n * size) c0, e, true⟩ :: L) → wpList P ops Q rest (a.put o.dst (.slice (some ⟨b, 0, none⟩) n n)) w1) : wpList P ops Q (o :: rest) a w := by
  obtain ⟨i, hi1, hi2, hi3, hi4⟩ : ∃ i, P.info? e = some i ∧ i.zero = some z ∧ i.size = size ∧ i.bytes = bytes := by
    cases hq : P.info? e with
    | none => simp [hq] at hi
    | some i => simp [hq] at hi; exact ⟨i, rfl, hi.1, hi.2.1, hi.2.2⟩
  have hm1 : n * bytes ≤ 1024 * 1024 := Nat.mul_le_mul hn hby
  have hm2 : n * size ≤ 1024 * 1024 := Nat.mul_le_mul hn hsz
  have hm3 : (bytes : Int) * (n : Int) ≤ 281474976710656 := by
    have e3 : ((n * bytes : Nat) : Int) = (bytes : Int) * n := by rw [Int.natCast_mul, Int.mul_comm]
    omega
  have hrun := run_make (P := P) w t e i _ ht hi1 hi2 .i64 .i64 n n (by omega) (Int.le_refl _) (by rw [hi4]; exact hm3) (by omega)
  have hc : madeCells z.cells ((n : Int).toNat * i.size) = (List.replicate (n * size) c0).toArray := by
    rw [hi3, Int.toNat_natCast, hzc]
    apply Array.ext'
    unfold madeCells
    apply List.ext_getElem?
    intro j
    simp [List.getElem?_replicate]
    by_cases hj : j < n * size
    · simp [hj]
      have : j % size < size := Nat.mod_lt _ hs0
      rw [getElem!_pos _ _ (by simpa using this)]
      simp
    · simp [hj]
  rw [hc, Int.toNat_natCast] at hrun
  refine wpList_plain hgd fun K hK => ?_
  unfold Oper.wp
  simp only [execOp, ho, hx, Sem.run_bind, hrun, Result.andThen_ok, Sem.run_pure]
  exact hK _ _ (h _ _ (Nat.le_refl _) (hst.new ((Only.refl _ w).alloc _) (Blk.new _ _ _) (Nat.le_refl _)))
end

end Go.Proofs.Ytmogkiacakkmbaa
