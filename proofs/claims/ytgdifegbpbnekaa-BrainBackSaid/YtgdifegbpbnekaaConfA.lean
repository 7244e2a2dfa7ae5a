/- Shapes: a part's rows and columns, on both sides. -/
import Derived.Test.YtgdifegbpbnekaaRows
import Derived.Test.YtgdifegbpbnekaaOrd
namespace Go.Proofs.Ytgdifegbpbnekaa
open Go.RowKit

/-- A shape's six numbers. -/
structure Cfg where
  V : Int
  D : Int
  H : Int
  B : Int
  F : Int
  C : Int
def Cfg.cells (c : Cfg) : List Value := [.int .i64 c.V, .int .i64 c.D, .int .i64 c.H, .int .i64 c.B, .int .i64 c.F, .int .i64 c.C]
/-- A part's rows and columns. -/
def Cfg.side (c : Cfg) (p : Int) : Int × Int :=
  if p = 0 then (c.V, c.D) else if p = 1 then (c.C, c.D) else if p = 2 then (1, c.D) else if p = 3 then (c.D, c.D) else if p = 4 then (c.D, c.D) else if p = 5 then (c.D, c.D) else if p = 6 then (c.D, c.D)
  else if p = 7 then (1, c.D) else if p = 8 then (c.F, c.D) else if p = 9 then (c.F, c.D) else if p = 10 then (c.D, c.F) else if p = 11 then (1, c.D) else (0, 0)
theorem Cfg.side_other (c : Cfg) (p : Int) (h : p < 0 ∨ 11 < p) : c.side p = (0, 0) := by
  unfold Cfg.side
  repeat' rw [if_neg (by omega)]

set_option maxHeartbeats 1000000 in
theorem within_any (n a b : Int) (w : World) : Calls Try.prog 134 #[.int .i64 n, .int .i64 a, .int .i64 b] w fun e w' => e = .returned (.bool (decide (a ≤ n) && decide (n ≤ b))) ∧ w = w' := by
  by_cases h1 : a ≤ n
  · by_cases h2 : n ≤ b
    · have e : (decide (a ≤ n) && decide (n ≤ b)) = true := by simp [h1, h2]
      rw [e]
      go_enter Try.func134, Try.ntmps134
      go_wp2
      go_ret
      exact ⟨rfl, rfl⟩
    · have e : (decide (a ≤ n) && decide (n ≤ b)) = false := by simp [h2]
      rw [e]
      go_enter Try.func134, Try.ntmps134
      go_wp2
      go_ret
      exact ⟨rfl, rfl⟩
  · have e : (decide (a ≤ n) && decide (n ≤ b)) = false := by simp [h1]
    rw [e]
    go_enter Try.func134, Try.ntmps134
    go_wp2
    go_ret
    exact ⟨rfl, rfl⟩
set_option maxHeartbeats 1000000 in
theorem in_any (n a b : Int) (w : World) : Calls Try.prog 110 #[.int .i64 n, .int .i64 a, .int .i64 b] w fun e w' => e = .returned (.bool (decide (a ≤ n) && decide (n ≤ b))) ∧ w = w' := by
  by_cases h1 : a ≤ n
  · by_cases h2 : n ≤ b
    · have e : (decide (a ≤ n) && decide (n ≤ b)) = true := by simp [h1, h2]
      rw [e]
      go_enter Try.func110, Try.ntmps110
      go_wp2
      go_ret
      exact ⟨rfl, rfl⟩
    · have e : (decide (a ≤ n) && decide (n ≤ b)) = false := by simp [h2]
      rw [e]
      go_enter Try.func110, Try.ntmps110
      go_wp2
      go_ret
      exact ⟨rfl, rfl⟩
  · have e : (decide (a ≤ n) && decide (n ≤ b)) = false := by simp [h1]
    rw [e]
    go_enter Try.func110, Try.ntmps110
    go_wp2
    go_ret
    exact ⟨rfl, rfl⟩

set_option maxRecDepth 100000 in
set_option maxHeartbeats 4000000 in
theorem confSide_any (c : Cfg) (p : Int) (w : World) : Calls Try.prog 86 #[.agg c.cells.toArray, .int .i64 p] w fun e w' => e = .returned (.tuple #[.int .i64 (c.side p).1, .int .i64 (c.side p).2]) ∧ Only [] w w' := by
  obtain ⟨V, D, H, B, F, C⟩ := c
  show Calls Try.prog 86 #[.agg #[.int .i64 V, .int .i64 D, .int .i64 H, .int .i64 B, .int .i64 F, .int .i64 C], .int .i64 p] w _
  by_cases ho : p < 0 ∨ 11 < p
  · rw [Cfg.side_other _ _ ho]
    have n : ∀ k : Int, 0 ≤ k → k ≤ 11 → (p == k) = false := fun k h0 h1 => by rw [beq_eq_false_iff_ne]; omega
    have n0 := n 0 (by decide) (by decide)
    have n1 := n 1 (by decide) (by decide)
    have n2 := n 2 (by decide) (by decide)
    have n3 := n 3 (by decide) (by decide)
    have n4 := n 4 (by decide) (by decide)
    have n5 := n 5 (by decide) (by decide)
    have n6 := n 6 (by decide) (by decide)
    have n7 := n 7 (by decide) (by decide)
    have n8 := n 8 (by decide) (by decide)
    have n9 := n 9 (by decide) (by decide)
    have n10 := n 10 (by decide) (by decide)
    have n11 := n 11 (by decide) (by decide)
    clear n ho
    go_enter Try.func86, Try.ntmps86
    go_wp2
    go_ret2
    exact ⟨rfl, (Only.refl _ w).alloc _⟩
  · have hp : p = 0 ∨ p = 1 ∨ p = 2 ∨ p = 3 ∨ p = 4 ∨ p = 5 ∨ p = 6 ∨ p = 7 ∨ p = 8 ∨ p = 9 ∨ p = 10 ∨ p = 11 := by omega
    clear ho
    rcases hp with rfl | rfl | rfl | rfl | rfl | rfl | rfl | rfl | rfl | rfl | rfl | rfl
    · show Calls _ _ _ _ fun e w' => e = .returned (.tuple #[.int .i64 V, .int .i64 D]) ∧ Only [] w w'
      go_enter Try.func86, Try.ntmps86
      go_wp2_with fail
      refine wp_region_text (by kernel_rfl) (by kernel_rfl) ?_
      go_wp2_with fail
      refine TextQ.mk ?_ rfl
      go_wp2_with fail
      go_ret2
      exact ⟨rfl, ((Only.refl _ w).alloc _).drew⟩
    · show Calls _ _ _ _ fun e w' => e = .returned (.tuple #[.int .i64 C, .int .i64 D]) ∧ Only [] w w'
      go_enter Try.func86, Try.ntmps86
      go_wp2_with fail
      refine wp_region_text (by kernel_rfl) (by kernel_rfl) ?_
      go_wp2_with fail
      refine TextQ.mk ?_ rfl
      go_wp2_with fail
      go_ret2
      exact ⟨rfl, ((Only.refl _ w).alloc _).drew⟩
    · show Calls _ _ _ _ fun e w' => e = .returned (.tuple #[.int .i64 1, .int .i64 D]) ∧ Only [] w w'
      go_enter Try.func86, Try.ntmps86
      go_wp2_with fail
      refine wp_region_text (by kernel_rfl) (by kernel_rfl) ?_
      go_wp2_with fail
      refine TextQ.mk ?_ rfl
      go_wp2_with fail
      go_ret2
      exact ⟨rfl, ((Only.refl _ w).alloc _).drew⟩
    · show Calls _ _ _ _ fun e w' => e = .returned (.tuple #[.int .i64 D, .int .i64 D]) ∧ Only [] w w'
      go_enter Try.func86, Try.ntmps86
      go_wp2_with fail
      refine wp_region_text (by kernel_rfl) (by kernel_rfl) ?_
      go_wp2_with fail
      refine TextQ.mk ?_ rfl
      go_wp2_with fail
      go_ret2
      exact ⟨rfl, ((Only.refl _ w).alloc _).drew⟩
    · show Calls _ _ _ _ fun e w' => e = .returned (.tuple #[.int .i64 D, .int .i64 D]) ∧ Only [] w w'
      go_enter Try.func86, Try.ntmps86
      go_wp2_with fail
      refine wp_region_text (by kernel_rfl) (by kernel_rfl) ?_
      go_wp2_with fail
      refine TextQ.mk ?_ rfl
      go_wp2_with fail
      go_ret2
      exact ⟨rfl, ((Only.refl _ w).alloc _).drew⟩
    · show Calls _ _ _ _ fun e w' => e = .returned (.tuple #[.int .i64 D, .int .i64 D]) ∧ Only [] w w'
      go_enter Try.func86, Try.ntmps86
      go_wp2_with fail
      refine wp_region_text (by kernel_rfl) (by kernel_rfl) ?_
      go_wp2_with fail
      refine TextQ.mk ?_ rfl
      go_wp2_with fail
      go_ret2
      exact ⟨rfl, ((Only.refl _ w).alloc _).drew⟩
    · show Calls _ _ _ _ fun e w' => e = .returned (.tuple #[.int .i64 D, .int .i64 D]) ∧ Only [] w w'
      go_enter Try.func86, Try.ntmps86
      go_wp2_with fail
      refine wp_region_text (by kernel_rfl) (by kernel_rfl) ?_
      go_wp2_with fail
      refine TextQ.mk ?_ rfl
      go_wp2_with fail
      go_ret2
      exact ⟨rfl, ((Only.refl _ w).alloc _).drew⟩
    · show Calls _ _ _ _ fun e w' => e = .returned (.tuple #[.int .i64 1, .int .i64 D]) ∧ Only [] w w'
      go_enter Try.func86, Try.ntmps86
      go_wp2_with fail
      refine wp_region_text (by kernel_rfl) (by kernel_rfl) ?_
      go_wp2_with fail
      refine TextQ.mk ?_ rfl
      go_wp2_with fail
      go_ret2
      exact ⟨rfl, ((Only.refl _ w).alloc _).drew⟩
    · show Calls _ _ _ _ fun e w' => e = .returned (.tuple #[.int .i64 F, .int .i64 D]) ∧ Only [] w w'
      go_enter Try.func86, Try.ntmps86
      go_wp2_with fail
      refine wp_region_text (by kernel_rfl) (by kernel_rfl) ?_
      go_wp2_with fail
      refine TextQ.mk ?_ rfl
      go_wp2_with fail
      go_ret2
      exact ⟨rfl, ((Only.refl _ w).alloc _).drew⟩
    · show Calls _ _ _ _ fun e w' => e = .returned (.tuple #[.int .i64 F, .int .i64 D]) ∧ Only [] w w'
      go_enter Try.func86, Try.ntmps86
      go_wp2_with fail
      refine wp_region_text (by kernel_rfl) (by kernel_rfl) ?_
      go_wp2_with fail
      refine TextQ.mk ?_ rfl
      go_wp2_with fail
      go_ret2
      exact ⟨rfl, ((Only.refl _ w).alloc _).drew⟩
    · show Calls _ _ _ _ fun e w' => e = .returned (.tuple #[.int .i64 D, .int .i64 F]) ∧ Only [] w w'
      go_enter Try.func86, Try.ntmps86
      go_wp2_with fail
      refine wp_region_text (by kernel_rfl) (by kernel_rfl) ?_
      go_wp2_with fail
      refine TextQ.mk ?_ rfl
      go_wp2_with fail
      go_ret2
      exact ⟨rfl, ((Only.refl _ w).alloc _).drew⟩
    · show Calls _ _ _ _ fun e w' => e = .returned (.tuple #[.int .i64 1, .int .i64 D]) ∧ Only [] w w'
      go_enter Try.func86, Try.ntmps86
      go_wp2_with fail
      refine wp_region_text (by kernel_rfl) (by kernel_rfl) ?_
      go_wp2_with fail
      refine TextQ.mk ?_ rfl
      go_wp2_with fail
      go_ret2
      exact ⟨rfl, ((Only.refl _ w).alloc _).drew⟩

set_option maxRecDepth 100000 in
set_option maxHeartbeats 4000000 in
theorem refSide_any (c : Cfg) (p : Int) (w : World) : Calls Try.prog 151 #[.agg c.cells.toArray, .int .i64 p] w fun e w' => e = .returned (.tuple #[.int .i64 (c.side p).1, .int .i64 (c.side p).2]) ∧ Only [] w w' := by
  obtain ⟨V, D, H, B, F, C⟩ := c
  show Calls Try.prog 151 #[.agg #[.int .i64 V, .int .i64 D, .int .i64 H, .int .i64 B, .int .i64 F, .int .i64 C], .int .i64 p] w _
  by_cases ho : p < 0 ∨ 11 < p
  · rw [Cfg.side_other _ _ ho]
    have n : ∀ k : Int, 0 ≤ k → k ≤ 11 → (p == k) = false := fun k h0 h1 => by rw [beq_eq_false_iff_ne]; omega
    have n0 := n 0 (by decide) (by decide)
    have n1 := n 1 (by decide) (by decide)
    have n2 := n 2 (by decide) (by decide)
    have n3 := n 3 (by decide) (by decide)
    have n4 := n 4 (by decide) (by decide)
    have n5 := n 5 (by decide) (by decide)
    have n6 := n 6 (by decide) (by decide)
    have n7 := n 7 (by decide) (by decide)
    have n8 := n 8 (by decide) (by decide)
    have n9 := n 9 (by decide) (by decide)
    have n10 := n 10 (by decide) (by decide)
    have n11 := n 11 (by decide) (by decide)
    clear n ho
    go_enter Try.func151, Try.ntmps151
    go_wp2
    go_ret2
    exact ⟨rfl, (Only.refl _ w).alloc _⟩
  · have hp : p = 0 ∨ p = 1 ∨ p = 2 ∨ p = 3 ∨ p = 4 ∨ p = 5 ∨ p = 6 ∨ p = 7 ∨ p = 8 ∨ p = 9 ∨ p = 10 ∨ p = 11 := by omega
    clear ho
    rcases hp with rfl | rfl | rfl | rfl | rfl | rfl | rfl | rfl | rfl | rfl | rfl | rfl
    · show Calls _ _ _ _ fun e w' => e = .returned (.tuple #[.int .i64 V, .int .i64 D]) ∧ Only [] w w'
      go_enter Try.func151, Try.ntmps151
      go_wp2_with fail
      refine wp_region_text (by kernel_rfl) (by kernel_rfl) ?_
      go_wp2_with fail
      refine TextQ.mk ?_ rfl
      go_wp2_with fail
      go_ret2
      exact ⟨rfl, ((Only.refl _ w).alloc _).drew⟩
    · show Calls _ _ _ _ fun e w' => e = .returned (.tuple #[.int .i64 C, .int .i64 D]) ∧ Only [] w w'
      go_enter Try.func151, Try.ntmps151
      go_wp2_with fail
      refine wp_region_text (by kernel_rfl) (by kernel_rfl) ?_
      go_wp2_with fail
      refine TextQ.mk ?_ rfl
      go_wp2_with fail
      go_ret2
      exact ⟨rfl, ((Only.refl _ w).alloc _).drew⟩
    · show Calls _ _ _ _ fun e w' => e = .returned (.tuple #[.int .i64 1, .int .i64 D]) ∧ Only [] w w'
      go_enter Try.func151, Try.ntmps151
      go_wp2_with fail
      refine wp_region_text (by kernel_rfl) (by kernel_rfl) ?_
      go_wp2_with fail
      refine TextQ.mk ?_ rfl
      go_wp2_with fail
      go_ret2
      exact ⟨rfl, ((Only.refl _ w).alloc _).drew⟩
    · show Calls _ _ _ _ fun e w' => e = .returned (.tuple #[.int .i64 D, .int .i64 D]) ∧ Only [] w w'
      go_enter Try.func151, Try.ntmps151
      go_wp2_with fail
      refine wp_region_text (by kernel_rfl) (by kernel_rfl) ?_
      go_wp2_with fail
      refine TextQ.mk ?_ rfl
      go_wp2_with fail
      go_ret2
      exact ⟨rfl, ((Only.refl _ w).alloc _).drew⟩
    · show Calls _ _ _ _ fun e w' => e = .returned (.tuple #[.int .i64 D, .int .i64 D]) ∧ Only [] w w'
      go_enter Try.func151, Try.ntmps151
      go_wp2_with fail
      refine wp_region_text (by kernel_rfl) (by kernel_rfl) ?_
      go_wp2_with fail
      refine TextQ.mk ?_ rfl
      go_wp2_with fail
      go_ret2
      exact ⟨rfl, ((Only.refl _ w).alloc _).drew⟩
    · show Calls _ _ _ _ fun e w' => e = .returned (.tuple #[.int .i64 D, .int .i64 D]) ∧ Only [] w w'
      go_enter Try.func151, Try.ntmps151
      go_wp2_with fail
      refine wp_region_text (by kernel_rfl) (by kernel_rfl) ?_
      go_wp2_with fail
      refine TextQ.mk ?_ rfl
      go_wp2_with fail
      go_ret2
      exact ⟨rfl, ((Only.refl _ w).alloc _).drew⟩
    · show Calls _ _ _ _ fun e w' => e = .returned (.tuple #[.int .i64 D, .int .i64 D]) ∧ Only [] w w'
      go_enter Try.func151, Try.ntmps151
      go_wp2_with fail
      refine wp_region_text (by kernel_rfl) (by kernel_rfl) ?_
      go_wp2_with fail
      refine TextQ.mk ?_ rfl
      go_wp2_with fail
      go_ret2
      exact ⟨rfl, ((Only.refl _ w).alloc _).drew⟩
    · show Calls _ _ _ _ fun e w' => e = .returned (.tuple #[.int .i64 1, .int .i64 D]) ∧ Only [] w w'
      go_enter Try.func151, Try.ntmps151
      go_wp2_with fail
      refine wp_region_text (by kernel_rfl) (by kernel_rfl) ?_
      go_wp2_with fail
      refine TextQ.mk ?_ rfl
      go_wp2_with fail
      go_ret2
      exact ⟨rfl, ((Only.refl _ w).alloc _).drew⟩
    · show Calls _ _ _ _ fun e w' => e = .returned (.tuple #[.int .i64 F, .int .i64 D]) ∧ Only [] w w'
      go_enter Try.func151, Try.ntmps151
      go_wp2_with fail
      refine wp_region_text (by kernel_rfl) (by kernel_rfl) ?_
      go_wp2_with fail
      refine TextQ.mk ?_ rfl
      go_wp2_with fail
      go_ret2
      exact ⟨rfl, ((Only.refl _ w).alloc _).drew⟩
    · show Calls _ _ _ _ fun e w' => e = .returned (.tuple #[.int .i64 F, .int .i64 D]) ∧ Only [] w w'
      go_enter Try.func151, Try.ntmps151
      go_wp2_with fail
      refine wp_region_text (by kernel_rfl) (by kernel_rfl) ?_
      go_wp2_with fail
      refine TextQ.mk ?_ rfl
      go_wp2_with fail
      go_ret2
      exact ⟨rfl, ((Only.refl _ w).alloc _).drew⟩
    · show Calls _ _ _ _ fun e w' => e = .returned (.tuple #[.int .i64 D, .int .i64 F]) ∧ Only [] w w'
      go_enter Try.func151, Try.ntmps151
      go_wp2_with fail
      refine wp_region_text (by kernel_rfl) (by kernel_rfl) ?_
      go_wp2_with fail
      refine TextQ.mk ?_ rfl
      go_wp2_with fail
      go_ret2
      exact ⟨rfl, ((Only.refl _ w).alloc _).drew⟩
    · show Calls _ _ _ _ fun e w' => e = .returned (.tuple #[.int .i64 1, .int .i64 D]) ∧ Only [] w w'
      go_enter Try.func151, Try.ntmps151
      go_wp2_with fail
      refine wp_region_text (by kernel_rfl) (by kernel_rfl) ?_
      go_wp2_with fail
      refine TextQ.mk ?_ rfl
      go_wp2_with fail
      go_ret2
      exact ⟨rfl, ((Only.refl _ w).alloc _).drew⟩

end Go.Proofs.Ytgdifegbpbnekaa
