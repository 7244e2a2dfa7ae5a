/- Shapes: the document's size. -/
import Derived.Test.YtgdifegbpbnekaaConfEb
namespace Go.Proofs.Ytgdifegbpbnekaa
open Go.RowKit

theorem rowCells_get {L : List Row4} {i : Nat} {r : Row4} (h : L[i]? = some r) (k : Nat) (hk : k < 4) : (rowCells L)[i * 4 + k]? = (row4 r)[k]? := by
  induction L generalizing i with
  | nil => simp at h
  | cons x L ih =>
    have e : rowCells (x :: L) = row4 x ++ rowCells L := by simp [rowCells]
    have hl : (row4 x).length = 4 := rfl
    cases i with
    | zero =>
      simp at h
      subst h
      rw [e, Nat.zero_mul, Nat.zero_add, List.getElem?_append_left (by omega)]
    | succ i =>
      have := ih (i := i) (by simpa using h)
      rw [e, List.getElem?_append_right (by omega), hl, show (i + 1) * 4 + k - 4 = i * 4 + k by omega]
      exact this

set_option maxRecDepth 100000 in
set_option maxHeartbeats 4000000 in
theorem refSize_any (c : Cfg) (hf : Fit c) (w : World) : Calls Try.prog 57 #[.agg c.cells.toArray] w fun e w' => e = .returned (.int .i64 c.all) ∧ Only [] w w' := by
  obtain ⟨bn, hbn, hb1, hb3⟩ := Cfg.bn hf
  have hb0 := Blk.new w c.cells 23
  obtain ⟨L0, eL0⟩ : ∃ L, L = rowsUpto c bn := ⟨_, rfl⟩
  obtain ⟨at0, eat⟩ : ∃ a, a = c.base bn := ⟨_, rfl⟩
  obtain ⟨s0, es⟩ : ∃ s, s = c.sz 11 := ⟨_, rfl⟩
  have RW : Hid (∀ w, Calls Try.prog 112 #[.agg c.cells.toArray] w fun e w' => ∃ v, e = .returned v ∧ w'.ownsRow w.heap.size 160 4 v (L0.length + 1) (rowCells (L0 ++ [(11, 0, at0, s0)])) ∧ Only [] w w') := fun w => by
    have := rows_any c hf bn hbn w
    rw [rows_all c bn hbn, ← eL0, ← eat, ← es] at this
    simpa using this
  have hA : Hid (c.all = at0 + s0) := by show _ = _; rw [eat, es]; exact all_base c bn hbn
  have hab := all_bounds hf
  have hs := sz_bounds hf 11
  rw [hA.out] at hab
  rw [← es] at hs
  have HL : Hid (c.cells.length = 6) := rfl
  rw [hA.out]
  obtain ⟨K, eK⟩ : ∃ K, K = c.cells := ⟨_, rfl⟩
  rw [← eK] at hb0 RW HL ⊢
  clear eK eat es hf hbn
  go_enter Try.func57, Try.ntmps57
  go_wp2_with (first
    | (refine wpL_load rfl 23 _ rfl w.heap.size rfl _ _ _ hb0 Try.underlying23 rfl (by kernel_rfl : (Try.prog.info? 23).map (·.size) = some 6) HL.out ?_)
    | (go_at_call 112; refine (RW.out _).mono ?_))
  rintro e w1 ⟨v, rfl, hown, ho1⟩
  obtain ⟨g, cap, rfl, hcap⟩ : ∃ g cap, v = .slice (some ⟨g, 0, none⟩) (L0.length + 1) cap ∧ L0.length + 1 ≤ cap := by
    rcases hown.2 with ⟨_, hz⟩ | ⟨g, cap, cur, rfl, _, _, hcap, _⟩
    · omega
    · exact ⟨g, cap, rfl, hcap⟩
  have hget : (L0 ++ [((11 : Int), (0 : Int), at0, s0)])[L0.length]? = some (11, 0, at0, s0) := by simp
  have k2 : w1.cell? ⟨g, L0.length * 4 + 2, none⟩ = some (.int .i64 at0) := by
    have := hown.cells (g := g) rfl (L0.length * 4 + 2) (.int .i64 at0) (by rw [rowCells_get hget 2 (by decide)]; rfl)
    rwa [show (⟨g, 0, none⟩ : Addr).add (L0.length * 4 + 2) = ⟨g, L0.length * 4 + 2, none⟩ by unfold Addr.add; split <;> simp_all] at this
  have k3 : w1.cell? ⟨g, L0.length * 4 + 3, none⟩ = some (.int .i64 s0) := by
    have := hown.cells (g := g) rfl (L0.length * 4 + 3) (.int .i64 s0) (by rw [rowCells_get hget 3 (by decide)]; rfl)
    rwa [show (⟨g, 0, none⟩ : Addr).add (L0.length * 4 + 3) = ⟨g, L0.length * 4 + 3, none⟩ by unfold Addr.add; split <;> simp_all] at this
  have hlen : L0.length ≤ 1000 := by
    rw [eL0]
    have : bn = 1 ∨ bn = 2 ∨ bn = 3 := by omega
    rcases this with rfl | rfl | rfl <;> simp [rowsUpto, blockRows]
  obtain ⟨n, en⟩ : ∃ n, n = L0.length := ⟨_, rfl⟩
  rw [← en] at k2 k3 hcap hlen ⊢
  clear hown hget en eL0
  go_wp2_with fail
  refine wp_region_text (by kernel_rfl) (by kernel_rfl) ?_
  go_wp2_with fail
  refine TextQ.mk ?_ rfl
  go_wp2_with fail
  go_ret
  exact ⟨rfl, (((Only.refl [] w).alloc _).trans ho1).drew⟩

end Go.Proofs.Ytgdifegbpbnekaa
