/- Shapes: whether one can be, by the program. -/
import Derived.Test.YtgdifegbpbnekaaConfB
namespace Go.Proofs.Ytgdifegbpbnekaa
open Go.RowKit

theorem all_bounds {c : Cfg} (hf : Fit c) : 0 ≤ c.all ∧ c.all ≤ 100000 := by
  obtain ⟨a0, a1⟩ := span_bounds hf 0 2
  obtain ⟨b0, b1⟩ := span_bounds hf 2 9
  obtain ⟨d0, d1⟩ := span_bounds hf 11 1
  have hb := hf.b0
  have hb3 := hf.b1
  have m0 : 0 ≤ c.B * c.span 2 9 := Int.mul_nonneg (by omega) b0
  have m1 : c.B * c.span 2 9 ≤ 3 * 9216 := Int.mul_le_mul hb3 (by omega) b0 (by decide)
  unfold Cfg.all
  omega

/-- A shape that can be. -/
structure CanBe (c : Cfg) : Prop where
  fit : Fit c
  div : c.D % c.H = 0
  all : c.all ≤ 8192

theorem within_yes (n a b : Int) (h1 : a ≤ n) (h2 : n ≤ b) (w : World) : Calls Try.prog 134 #[.int .i64 n, .int .i64 a, .int .i64 b] w fun e w' => e = .returned (.bool true) ∧ w = w' := by
  have := within_any n a b w
  rwa [show (decide (a ≤ n) && decide (n ≤ b)) = true by simp [h1, h2]] at this
theorem within_no (n a b : Int) (h : n < a ∨ b < n) (w : World) : Calls Try.prog 134 #[.int .i64 n, .int .i64 a, .int .i64 b] w fun e w' => e = .returned (.bool false) ∧ w = w' := by
  have := within_any n a b w
  rwa [show (decide (a ≤ n) && decide (n ≤ b)) = false by simp; omega] at this
theorem in_yes (n a b : Int) (h1 : a ≤ n) (h2 : n ≤ b) (w : World) : Calls Try.prog 110 #[.int .i64 n, .int .i64 a, .int .i64 b] w fun e w' => e = .returned (.bool true) ∧ w = w' := by
  have := in_any n a b w
  rwa [show (decide (a ≤ n) && decide (n ≤ b)) = true by simp [h1, h2]] at this
theorem in_no (n a b : Int) (h : n < a ∨ b < n) (w : World) : Calls Try.prog 110 #[.int .i64 n, .int .i64 a, .int .i64 b] w fun e w' => e = .returned (.bool false) ∧ w = w' := by
  have := in_any n a b w
  rwa [show (decide (a ≤ n) && decide (n ≤ b)) = false by simp; omega] at this

set_option maxRecDepth 100000 in
set_option maxHeartbeats 2000000 in
theorem confGood_noV (V D H B F C : Int)  (hn : Hid (V < 2 ∨ 32 < V)) (w : World) : Calls Try.prog 83 #[.agg #[.int .i64 V, .int .i64 D, .int .i64 H, .int .i64 B, .int .i64 F, .int .i64 C]] w fun e w' => e = .returned (.bool false) ∧ Only [] w w' := by
  go_enter Try.func83, Try.ntmps83
  go_wp2_with (go_at_call 134; refine (within_no V 2 32 hn.out _).mono ?_)
  intro e w1 hx
  first | (subst hx; intro hw; subst hw) | (obtain ⟨rfl, rfl⟩ := hx)
  go_wp2_with fail
  go_ret
  exact ⟨rfl, (Only.refl [] w).alloc _⟩

set_option maxRecDepth 100000 in
set_option maxHeartbeats 2000000 in
theorem confGood_noD (V D H B F C : Int) (hVa : Hid (2 ≤ V)) (hVb : Hid (V ≤ 32)) (hn : Hid (D < 1 ∨ 16 < D)) (w : World) : Calls Try.prog 83 #[.agg #[.int .i64 V, .int .i64 D, .int .i64 H, .int .i64 B, .int .i64 F, .int .i64 C]] w fun e w' => e = .returned (.bool false) ∧ Only [] w w' := by
  go_enter Try.func83, Try.ntmps83
  go_wp2_with (go_at_call 134; refine (within_yes V 2 32 hVa.out hVb.out _).mono ?_)
  intro e w1 hx
  first | (subst hx; intro hw; subst hw) | (obtain ⟨rfl, rfl⟩ := hx)
  go_wp2_with (go_at_call 134; refine (within_no D 1 16 hn.out _).mono ?_)
  intro e w1 hx
  first | (subst hx; intro hw; subst hw) | (obtain ⟨rfl, rfl⟩ := hx)
  go_wp2_with fail
  go_ret
  exact ⟨rfl, (Only.refl [] w).alloc _⟩

set_option maxRecDepth 100000 in
set_option maxHeartbeats 2000000 in
theorem confGood_noH (V D H B F C : Int) (hVa : Hid (2 ≤ V)) (hVb : Hid (V ≤ 32)) (hDa : Hid (1 ≤ D)) (hDb : Hid (D ≤ 16)) (hn : Hid (H < 1 ∨ 4 < H)) (w : World) : Calls Try.prog 83 #[.agg #[.int .i64 V, .int .i64 D, .int .i64 H, .int .i64 B, .int .i64 F, .int .i64 C]] w fun e w' => e = .returned (.bool false) ∧ Only [] w w' := by
  go_enter Try.func83, Try.ntmps83
  go_wp2_with (go_at_call 134; refine (within_yes V 2 32 hVa.out hVb.out _).mono ?_)
  intro e w1 hx
  first | (subst hx; intro hw; subst hw) | (obtain ⟨rfl, rfl⟩ := hx)
  go_wp2_with (go_at_call 134; refine (within_yes D 1 16 hDa.out hDb.out _).mono ?_)
  intro e w1 hx
  first | (subst hx; intro hw; subst hw) | (obtain ⟨rfl, rfl⟩ := hx)
  go_wp2_with (go_at_call 134; refine (within_no H 1 4 hn.out _).mono ?_)
  intro e w1 hx
  first | (subst hx; intro hw; subst hw) | (obtain ⟨rfl, rfl⟩ := hx)
  go_wp2_with fail
  go_ret
  exact ⟨rfl, (Only.refl [] w).alloc _⟩

set_option maxRecDepth 100000 in
set_option maxHeartbeats 2000000 in
theorem confGood_noB (V D H B F C : Int) (hVa : Hid (2 ≤ V)) (hVb : Hid (V ≤ 32)) (hDa : Hid (1 ≤ D)) (hDb : Hid (D ≤ 16)) (hHa : Hid (1 ≤ H)) (hHb : Hid (H ≤ 4)) (hn : Hid (B < 1 ∨ 3 < B)) (w : World) : Calls Try.prog 83 #[.agg #[.int .i64 V, .int .i64 D, .int .i64 H, .int .i64 B, .int .i64 F, .int .i64 C]] w fun e w' => e = .returned (.bool false) ∧ Only [] w w' := by
  go_enter Try.func83, Try.ntmps83
  go_wp2_with (go_at_call 134; refine (within_yes V 2 32 hVa.out hVb.out _).mono ?_)
  intro e w1 hx
  first | (subst hx; intro hw; subst hw) | (obtain ⟨rfl, rfl⟩ := hx)
  go_wp2_with (go_at_call 134; refine (within_yes D 1 16 hDa.out hDb.out _).mono ?_)
  intro e w1 hx
  first | (subst hx; intro hw; subst hw) | (obtain ⟨rfl, rfl⟩ := hx)
  go_wp2_with (go_at_call 134; refine (within_yes H 1 4 hHa.out hHb.out _).mono ?_)
  intro e w1 hx
  first | (subst hx; intro hw; subst hw) | (obtain ⟨rfl, rfl⟩ := hx)
  go_wp2_with (go_at_call 134; refine (within_no B 1 3 hn.out _).mono ?_)
  intro e w1 hx
  first | (subst hx; intro hw; subst hw) | (obtain ⟨rfl, rfl⟩ := hx)
  go_wp2_with fail
  go_ret
  exact ⟨rfl, (Only.refl [] w).alloc _⟩

set_option maxRecDepth 100000 in
set_option maxHeartbeats 2000000 in
theorem confGood_noF (V D H B F C : Int) (hVa : Hid (2 ≤ V)) (hVb : Hid (V ≤ 32)) (hDa : Hid (1 ≤ D)) (hDb : Hid (D ≤ 16)) (hHa : Hid (1 ≤ H)) (hHb : Hid (H ≤ 4)) (hBa : Hid (1 ≤ B)) (hBb : Hid (B ≤ 3)) (hn : Hid (F < 1 ∨ 32 < F)) (w : World) : Calls Try.prog 83 #[.agg #[.int .i64 V, .int .i64 D, .int .i64 H, .int .i64 B, .int .i64 F, .int .i64 C]] w fun e w' => e = .returned (.bool false) ∧ Only [] w w' := by
  go_enter Try.func83, Try.ntmps83
  go_wp2_with (go_at_call 134; refine (within_yes V 2 32 hVa.out hVb.out _).mono ?_)
  intro e w1 hx
  first | (subst hx; intro hw; subst hw) | (obtain ⟨rfl, rfl⟩ := hx)
  go_wp2_with (go_at_call 134; refine (within_yes D 1 16 hDa.out hDb.out _).mono ?_)
  intro e w1 hx
  first | (subst hx; intro hw; subst hw) | (obtain ⟨rfl, rfl⟩ := hx)
  go_wp2_with (go_at_call 134; refine (within_yes H 1 4 hHa.out hHb.out _).mono ?_)
  intro e w1 hx
  first | (subst hx; intro hw; subst hw) | (obtain ⟨rfl, rfl⟩ := hx)
  go_wp2_with (go_at_call 134; refine (within_yes B 1 3 hBa.out hBb.out _).mono ?_)
  intro e w1 hx
  first | (subst hx; intro hw; subst hw) | (obtain ⟨rfl, rfl⟩ := hx)
  go_wp2_with (go_at_call 134; refine (within_no F 1 32 hn.out _).mono ?_)
  intro e w1 hx
  first | (subst hx; intro hw; subst hw) | (obtain ⟨rfl, rfl⟩ := hx)
  go_wp2_with fail
  go_ret
  exact ⟨rfl, (Only.refl [] w).alloc _⟩

set_option maxRecDepth 100000 in
set_option maxHeartbeats 2000000 in
theorem confGood_noC (V D H B F C : Int) (hVa : Hid (2 ≤ V)) (hVb : Hid (V ≤ 32)) (hDa : Hid (1 ≤ D)) (hDb : Hid (D ≤ 16)) (hHa : Hid (1 ≤ H)) (hHb : Hid (H ≤ 4)) (hBa : Hid (1 ≤ B)) (hBb : Hid (B ≤ 3)) (hFa : Hid (1 ≤ F)) (hFb : Hid (F ≤ 32)) (hn : Hid (C < 1 ∨ 32 < C)) (w : World) : Calls Try.prog 83 #[.agg #[.int .i64 V, .int .i64 D, .int .i64 H, .int .i64 B, .int .i64 F, .int .i64 C]] w fun e w' => e = .returned (.bool false) ∧ Only [] w w' := by
  go_enter Try.func83, Try.ntmps83
  go_wp2_with (go_at_call 134; refine (within_yes V 2 32 hVa.out hVb.out _).mono ?_)
  intro e w1 hx
  first | (subst hx; intro hw; subst hw) | (obtain ⟨rfl, rfl⟩ := hx)
  go_wp2_with (go_at_call 134; refine (within_yes D 1 16 hDa.out hDb.out _).mono ?_)
  intro e w1 hx
  first | (subst hx; intro hw; subst hw) | (obtain ⟨rfl, rfl⟩ := hx)
  go_wp2_with (go_at_call 134; refine (within_yes H 1 4 hHa.out hHb.out _).mono ?_)
  intro e w1 hx
  first | (subst hx; intro hw; subst hw) | (obtain ⟨rfl, rfl⟩ := hx)
  go_wp2_with (go_at_call 134; refine (within_yes B 1 3 hBa.out hBb.out _).mono ?_)
  intro e w1 hx
  first | (subst hx; intro hw; subst hw) | (obtain ⟨rfl, rfl⟩ := hx)
  go_wp2_with (go_at_call 134; refine (within_yes F 1 32 hFa.out hFb.out _).mono ?_)
  intro e w1 hx
  first | (subst hx; intro hw; subst hw) | (obtain ⟨rfl, rfl⟩ := hx)
  go_wp2_with (go_at_call 134; refine (within_no C 1 32 hn.out _).mono ?_)
  intro e w1 hx
  first | (subst hx; intro hw; subst hw) | (obtain ⟨rfl, rfl⟩ := hx)
  go_wp2_with fail
  go_ret
  exact ⟨rfl, (Only.refl [] w).alloc _⟩

set_option maxRecDepth 100000 in
set_option maxHeartbeats 2000000 in
theorem confGood_noM (V D H B F C : Int) (hVa : Hid (2 ≤ V)) (hVb : Hid (V ≤ 32)) (hDa : Hid (1 ≤ D)) (hDb : Hid (D ≤ 16)) (hHa : Hid (1 ≤ H)) (hHb : Hid (H ≤ 4)) (hBa : Hid (1 ≤ B)) (hBb : Hid (B ≤ 3)) (hFa : Hid (1 ≤ F)) (hFb : Hid (F ≤ 32)) (hCa : Hid (1 ≤ C)) (hCb : Hid (C ≤ 32)) (hm : Hid ((D % H == 0) = false)) (w : World) : Calls Try.prog 83 #[.agg #[.int .i64 V, .int .i64 D, .int .i64 H, .int .i64 B, .int .i64 F, .int .i64 C]] w fun e w' => e = .returned (.bool false) ∧ Only [] w w' := by
  have hHne : ¬ H = 0 := by have := hHa.out; omega
  have h1 := hHa.out
  have h2 := hDa.out
  have h3 := hHb.out
  have h4 := hDb.out
  have hm' := hm.out
  go_enter Try.func83, Try.ntmps83
  go_wp2_with (go_at_call 134; refine (within_yes V 2 32 hVa.out hVb.out _).mono ?_)
  intro e w1 hx
  first | (subst hx; intro hw; subst hw) | (obtain ⟨rfl, rfl⟩ := hx)
  go_wp2_with (go_at_call 134; refine (within_yes D 1 16 hDa.out hDb.out _).mono ?_)
  intro e w1 hx
  first | (subst hx; intro hw; subst hw) | (obtain ⟨rfl, rfl⟩ := hx)
  go_wp2_with (go_at_call 134; refine (within_yes H 1 4 hHa.out hHb.out _).mono ?_)
  intro e w1 hx
  first | (subst hx; intro hw; subst hw) | (obtain ⟨rfl, rfl⟩ := hx)
  go_wp2_with (go_at_call 134; refine (within_yes B 1 3 hBa.out hBb.out _).mono ?_)
  intro e w1 hx
  first | (subst hx; intro hw; subst hw) | (obtain ⟨rfl, rfl⟩ := hx)
  go_wp2_with (go_at_call 134; refine (within_yes F 1 32 hFa.out hFb.out _).mono ?_)
  intro e w1 hx
  first | (subst hx; intro hw; subst hw) | (obtain ⟨rfl, rfl⟩ := hx)
  go_wp2_with (go_at_call 134; refine (within_yes C 1 32 hCa.out hCb.out _).mono ?_)
  intro e w1 hx
  first | (subst hx; intro hw; subst hw) | (obtain ⟨rfl, rfl⟩ := hx)
  go_wp2_with fail
  go_ret
  exact ⟨rfl, (Only.refl [] w).alloc _⟩

set_option maxRecDepth 100000 in
set_option maxHeartbeats 2000000 in
theorem confGood_noA (V D H B F C T : Int) (hVa : Hid (2 ≤ V)) (hVb : Hid (V ≤ 32)) (hDa : Hid (1 ≤ D)) (hDb : Hid (D ≤ 16)) (hHa : Hid (1 ≤ H)) (hHb : Hid (H ≤ 4)) (hBa : Hid (1 ≤ B)) (hBb : Hid (B ≤ 3)) (hFa : Hid (1 ≤ F)) (hFb : Hid (F ≤ 32)) (hCa : Hid (1 ≤ C)) (hCb : Hid (C ≤ 32)) (hm : D % H = 0) (hT : 8192 < T) (hT0 : 0 ≤ T) (hT1 : T ≤ 100000) (AL : Hid (∀ w, Calls Try.prog 87 #[.agg #[.int .i64 V, .int .i64 D, .int .i64 H, .int .i64 B, .int .i64 F, .int .i64 C]] w fun e w' => e = .returned (.int .i64 T) ∧ Only [] w w')) (w : World) : Calls Try.prog 83 #[.agg #[.int .i64 V, .int .i64 D, .int .i64 H, .int .i64 B, .int .i64 F, .int .i64 C]] w fun e w' => e = .returned (.bool false) ∧ Only [] w w' := by
  have hHne : ¬ H = 0 := by have := hHa.out; omega
  have h1 := hHa.out
  have h2 := hDa.out
  have h3 := hHb.out
  have h4 := hDb.out
  go_enter Try.func83, Try.ntmps83
  go_wp2_with (go_at_call 134; refine (within_yes V 2 32 hVa.out hVb.out _).mono ?_)
  intro e w1 hx
  first | (subst hx; intro hw; subst hw) | (obtain ⟨rfl, rfl⟩ := hx)
  go_wp2_with (go_at_call 134; refine (within_yes D 1 16 hDa.out hDb.out _).mono ?_)
  intro e w1 hx
  first | (subst hx; intro hw; subst hw) | (obtain ⟨rfl, rfl⟩ := hx)
  go_wp2_with (go_at_call 134; refine (within_yes H 1 4 hHa.out hHb.out _).mono ?_)
  intro e w1 hx
  first | (subst hx; intro hw; subst hw) | (obtain ⟨rfl, rfl⟩ := hx)
  go_wp2_with (go_at_call 134; refine (within_yes B 1 3 hBa.out hBb.out _).mono ?_)
  intro e w1 hx
  first | (subst hx; intro hw; subst hw) | (obtain ⟨rfl, rfl⟩ := hx)
  go_wp2_with (go_at_call 134; refine (within_yes F 1 32 hFa.out hFb.out _).mono ?_)
  intro e w1 hx
  first | (subst hx; intro hw; subst hw) | (obtain ⟨rfl, rfl⟩ := hx)
  go_wp2_with (go_at_call 134; refine (within_yes C 1 32 hCa.out hCb.out _).mono ?_)
  intro e w1 hx
  first | (subst hx; intro hw; subst hw) | (obtain ⟨rfl, rfl⟩ := hx)
  go_wp2_with (go_at_call 87; refine (AL.out _).mono ?_; rintro e w2 ⟨rfl, ho2⟩)
  go_ret
  exact ⟨by first | rfl | (show Ending.returned (Value.bool (decide (T ≤ 8192))) = _; rw [decide_eq_false (by omega)]), ((Only.refl [] w).alloc _).trans ho2⟩

set_option maxRecDepth 100000 in
set_option maxHeartbeats 2000000 in
theorem confGood_yes0 (V D H B F C T : Int) (hVa : Hid (2 ≤ V)) (hVb : Hid (V ≤ 32)) (hDa : Hid (1 ≤ D)) (hDb : Hid (D ≤ 16)) (hHa : Hid (1 ≤ H)) (hHb : Hid (H ≤ 4)) (hBa : Hid (1 ≤ B)) (hBb : Hid (B ≤ 3)) (hFa : Hid (1 ≤ F)) (hFb : Hid (F ≤ 32)) (hCa : Hid (1 ≤ C)) (hCb : Hid (C ≤ 32)) (hm : D % H = 0) (hT : T ≤ 8192) (hT0 : 0 ≤ T) (hT1 : T ≤ 100000) (AL : Hid (∀ w, Calls Try.prog 87 #[.agg #[.int .i64 V, .int .i64 D, .int .i64 H, .int .i64 B, .int .i64 F, .int .i64 C]] w fun e w' => e = .returned (.int .i64 T) ∧ Only [] w w')) (w : World) : Calls Try.prog 83 #[.agg #[.int .i64 V, .int .i64 D, .int .i64 H, .int .i64 B, .int .i64 F, .int .i64 C]] w fun e w' => e = .returned (.bool true) ∧ Only [] w w' := by
  have hHne : ¬ H = 0 := by have := hHa.out; omega
  have h1 := hHa.out
  have h2 := hDa.out
  have h3 := hHb.out
  have h4 := hDb.out
  go_enter Try.func83, Try.ntmps83
  go_wp2_with (go_at_call 134; refine (within_yes V 2 32 hVa.out hVb.out _).mono ?_)
  intro e w1 hx
  first | (subst hx; intro hw; subst hw) | (obtain ⟨rfl, rfl⟩ := hx)
  go_wp2_with (go_at_call 134; refine (within_yes D 1 16 hDa.out hDb.out _).mono ?_)
  intro e w1 hx
  first | (subst hx; intro hw; subst hw) | (obtain ⟨rfl, rfl⟩ := hx)
  go_wp2_with (go_at_call 134; refine (within_yes H 1 4 hHa.out hHb.out _).mono ?_)
  intro e w1 hx
  first | (subst hx; intro hw; subst hw) | (obtain ⟨rfl, rfl⟩ := hx)
  go_wp2_with (go_at_call 134; refine (within_yes B 1 3 hBa.out hBb.out _).mono ?_)
  intro e w1 hx
  first | (subst hx; intro hw; subst hw) | (obtain ⟨rfl, rfl⟩ := hx)
  go_wp2_with (go_at_call 134; refine (within_yes F 1 32 hFa.out hFb.out _).mono ?_)
  intro e w1 hx
  first | (subst hx; intro hw; subst hw) | (obtain ⟨rfl, rfl⟩ := hx)
  go_wp2_with (go_at_call 134; refine (within_yes C 1 32 hCa.out hCb.out _).mono ?_)
  intro e w1 hx
  first | (subst hx; intro hw; subst hw) | (obtain ⟨rfl, rfl⟩ := hx)
  go_wp2_with (go_at_call 87; refine (AL.out _).mono ?_; rintro e w2 ⟨rfl, ho2⟩)
  go_ret
  exact ⟨by first | rfl | (show Ending.returned (Value.bool (decide (T ≤ 8192))) = _; rw [decide_eq_false (by omega)]), ((Only.refl [] w).alloc _).trans ho2⟩

theorem confGood_yes (c : Cfg) (h : CanBe c) (w : World) : Calls Try.prog 83 #[.agg c.cells.toArray] w fun e w' => e = .returned (.bool true) ∧ Only [] w w' :=
  confGood_yes0 c.V c.D c.H c.B c.F c.C c.all h.fit.v0 h.fit.v1 h.fit.d0 h.fit.d1 h.fit.h0 h.fit.h1 h.fit.b0 h.fit.b1 h.fit.f0 h.fit.f1 h.fit.c0 h.fit.c1 h.div h.all (all_bounds h.fit).1 (all_bounds h.fit).2 (fun w => all_any c h.fit w) w
theorem confGood_no (c : Cfg) (h : ¬ CanBe c) (w : World) : Calls Try.prog 83 #[.agg c.cells.toArray] w fun e w' => e = .returned (.bool false) ∧ Only [] w w' := by
  by_cases nV : c.V < 2 ∨ 32 < c.V
  · exact confGood_noV c.V c.D c.H c.B c.F c.C  nV w
  · have hVa : 2 ≤ c.V := by omega
    have hVb : c.V ≤ 32 := by omega
    by_cases nD : c.D < 1 ∨ 16 < c.D
    · exact confGood_noD c.V c.D c.H c.B c.F c.C  hVa hVb nD w
    · have hDa : 1 ≤ c.D := by omega
      have hDb : c.D ≤ 16 := by omega
      by_cases nH : c.H < 1 ∨ 4 < c.H
      · exact confGood_noH c.V c.D c.H c.B c.F c.C  hVa hVb hDa hDb nH w
      · have hHa : 1 ≤ c.H := by omega
        have hHb : c.H ≤ 4 := by omega
        by_cases nB : c.B < 1 ∨ 3 < c.B
        · exact confGood_noB c.V c.D c.H c.B c.F c.C  hVa hVb hDa hDb hHa hHb nB w
        · have hBa : 1 ≤ c.B := by omega
          have hBb : c.B ≤ 3 := by omega
          by_cases nF : c.F < 1 ∨ 32 < c.F
          · exact confGood_noF c.V c.D c.H c.B c.F c.C  hVa hVb hDa hDb hHa hHb hBa hBb nF w
          · have hFa : 1 ≤ c.F := by omega
            have hFb : c.F ≤ 32 := by omega
            by_cases nC : c.C < 1 ∨ 32 < c.C
            · exact confGood_noC c.V c.D c.H c.B c.F c.C  hVa hVb hDa hDb hHa hHb hBa hBb hFa hFb nC w
            · have hCa : 1 ≤ c.C := by omega
              have hCb : c.C ≤ 32 := by omega
              have hf : Fit c := ⟨hVa, hVb, hDa, hDb, hHa, hHb, hBa, hBb, hFa, hFb, hCa, hCb⟩
              by_cases hm : c.D % c.H = 0
              · have h9 : 8192 < c.all := by
                  have : ¬ c.all ≤ 8192 := fun ha => h ⟨hf, hm, ha⟩
                  omega
                exact confGood_noA c.V c.D c.H c.B c.F c.C c.all hVa hVb hDa hDb hHa hHb hBa hBb hFa hFb hCa hCb hm h9 (all_bounds hf).1 (all_bounds hf).2 (fun w => all_any c hf w) w
              · exact confGood_noM c.V c.D c.H c.B c.F c.C hVa hVb hDa hDb hHa hHb hBa hBb hFa hFb hCa hCb (by show _ = false; rw [beq_eq_false_iff_ne]; exact hm) w

end Go.Proofs.Ytgdifegbpbnekaa
