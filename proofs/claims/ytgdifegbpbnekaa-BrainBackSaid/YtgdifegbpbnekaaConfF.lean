/- Shapes: whether one can be, by the document. -/
import Derived.Test.YtgdifegbpbnekaaConfEc
namespace Go.Proofs.Ytgdifegbpbnekaa
open Go.RowKit

set_option maxRecDepth 100000 in
set_option maxHeartbeats 2000000 in
theorem refGood_noV (V D H B F C : Int)  (hn : Hid (V < 2 ∨ 32 < V)) (w : World) : Calls Try.prog 55 #[.agg #[.int .i64 V, .int .i64 D, .int .i64 H, .int .i64 B, .int .i64 F, .int .i64 C]] w fun e w' => e = .returned (.bool false) ∧ Only [] w w' := by
  go_enter Try.func55, Try.ntmps55
  go_wp2_with (go_at_call 110; refine (in_no V 2 32 hn.out _).mono ?_)
  intro e w1 hx
  first | (subst hx; intro hw; subst hw) | (obtain ⟨rfl, rfl⟩ := hx)
  go_wp2_with fail
  go_ret
  exact ⟨rfl, (Only.refl [] w).alloc _⟩

set_option maxRecDepth 100000 in
set_option maxHeartbeats 2000000 in
theorem refGood_noD (V D H B F C : Int) (hVa : Hid (2 ≤ V)) (hVb : Hid (V ≤ 32)) (hn : Hid (D < 1 ∨ 16 < D)) (w : World) : Calls Try.prog 55 #[.agg #[.int .i64 V, .int .i64 D, .int .i64 H, .int .i64 B, .int .i64 F, .int .i64 C]] w fun e w' => e = .returned (.bool false) ∧ Only [] w w' := by
  go_enter Try.func55, Try.ntmps55
  go_wp2_with (go_at_call 110; refine (in_yes V 2 32 hVa.out hVb.out _).mono ?_)
  intro e w1 hx
  first | (subst hx; intro hw; subst hw) | (obtain ⟨rfl, rfl⟩ := hx)
  go_wp2_with (go_at_call 110; refine (in_no D 1 16 hn.out _).mono ?_)
  intro e w1 hx
  first | (subst hx; intro hw; subst hw) | (obtain ⟨rfl, rfl⟩ := hx)
  go_wp2_with fail
  go_ret
  exact ⟨rfl, (Only.refl [] w).alloc _⟩

set_option maxRecDepth 100000 in
set_option maxHeartbeats 2000000 in
theorem refGood_noH (V D H B F C : Int) (hVa : Hid (2 ≤ V)) (hVb : Hid (V ≤ 32)) (hDa : Hid (1 ≤ D)) (hDb : Hid (D ≤ 16)) (hn : Hid (H < 1 ∨ 4 < H)) (w : World) : Calls Try.prog 55 #[.agg #[.int .i64 V, .int .i64 D, .int .i64 H, .int .i64 B, .int .i64 F, .int .i64 C]] w fun e w' => e = .returned (.bool false) ∧ Only [] w w' := by
  go_enter Try.func55, Try.ntmps55
  go_wp2_with (go_at_call 110; refine (in_yes V 2 32 hVa.out hVb.out _).mono ?_)
  intro e w1 hx
  first | (subst hx; intro hw; subst hw) | (obtain ⟨rfl, rfl⟩ := hx)
  go_wp2_with (go_at_call 110; refine (in_yes D 1 16 hDa.out hDb.out _).mono ?_)
  intro e w1 hx
  first | (subst hx; intro hw; subst hw) | (obtain ⟨rfl, rfl⟩ := hx)
  go_wp2_with (go_at_call 110; refine (in_no H 1 4 hn.out _).mono ?_)
  intro e w1 hx
  first | (subst hx; intro hw; subst hw) | (obtain ⟨rfl, rfl⟩ := hx)
  go_wp2_with fail
  go_ret
  exact ⟨rfl, (Only.refl [] w).alloc _⟩

set_option maxRecDepth 100000 in
set_option maxHeartbeats 2000000 in
theorem refGood_noB (V D H B F C : Int) (hVa : Hid (2 ≤ V)) (hVb : Hid (V ≤ 32)) (hDa : Hid (1 ≤ D)) (hDb : Hid (D ≤ 16)) (hHa : Hid (1 ≤ H)) (hHb : Hid (H ≤ 4)) (hn : Hid (B < 1 ∨ 3 < B)) (w : World) : Calls Try.prog 55 #[.agg #[.int .i64 V, .int .i64 D, .int .i64 H, .int .i64 B, .int .i64 F, .int .i64 C]] w fun e w' => e = .returned (.bool false) ∧ Only [] w w' := by
  go_enter Try.func55, Try.ntmps55
  go_wp2_with (go_at_call 110; refine (in_yes V 2 32 hVa.out hVb.out _).mono ?_)
  intro e w1 hx
  first | (subst hx; intro hw; subst hw) | (obtain ⟨rfl, rfl⟩ := hx)
  go_wp2_with (go_at_call 110; refine (in_yes D 1 16 hDa.out hDb.out _).mono ?_)
  intro e w1 hx
  first | (subst hx; intro hw; subst hw) | (obtain ⟨rfl, rfl⟩ := hx)
  go_wp2_with (go_at_call 110; refine (in_yes H 1 4 hHa.out hHb.out _).mono ?_)
  intro e w1 hx
  first | (subst hx; intro hw; subst hw) | (obtain ⟨rfl, rfl⟩ := hx)
  go_wp2_with (go_at_call 110; refine (in_no B 1 3 hn.out _).mono ?_)
  intro e w1 hx
  first | (subst hx; intro hw; subst hw) | (obtain ⟨rfl, rfl⟩ := hx)
  go_wp2_with fail
  go_ret
  exact ⟨rfl, (Only.refl [] w).alloc _⟩

set_option maxRecDepth 100000 in
set_option maxHeartbeats 2000000 in
theorem refGood_noF (V D H B F C : Int) (hVa : Hid (2 ≤ V)) (hVb : Hid (V ≤ 32)) (hDa : Hid (1 ≤ D)) (hDb : Hid (D ≤ 16)) (hHa : Hid (1 ≤ H)) (hHb : Hid (H ≤ 4)) (hBa : Hid (1 ≤ B)) (hBb : Hid (B ≤ 3)) (hn : Hid (F < 1 ∨ 32 < F)) (w : World) : Calls Try.prog 55 #[.agg #[.int .i64 V, .int .i64 D, .int .i64 H, .int .i64 B, .int .i64 F, .int .i64 C]] w fun e w' => e = .returned (.bool false) ∧ Only [] w w' := by
  go_enter Try.func55, Try.ntmps55
  go_wp2_with (go_at_call 110; refine (in_yes V 2 32 hVa.out hVb.out _).mono ?_)
  intro e w1 hx
  first | (subst hx; intro hw; subst hw) | (obtain ⟨rfl, rfl⟩ := hx)
  go_wp2_with (go_at_call 110; refine (in_yes D 1 16 hDa.out hDb.out _).mono ?_)
  intro e w1 hx
  first | (subst hx; intro hw; subst hw) | (obtain ⟨rfl, rfl⟩ := hx)
  go_wp2_with (go_at_call 110; refine (in_yes H 1 4 hHa.out hHb.out _).mono ?_)
  intro e w1 hx
  first | (subst hx; intro hw; subst hw) | (obtain ⟨rfl, rfl⟩ := hx)
  go_wp2_with (go_at_call 110; refine (in_yes B 1 3 hBa.out hBb.out _).mono ?_)
  intro e w1 hx
  first | (subst hx; intro hw; subst hw) | (obtain ⟨rfl, rfl⟩ := hx)
  go_wp2_with (go_at_call 110; refine (in_no F 1 32 hn.out _).mono ?_)
  intro e w1 hx
  first | (subst hx; intro hw; subst hw) | (obtain ⟨rfl, rfl⟩ := hx)
  go_wp2_with fail
  go_ret
  exact ⟨rfl, (Only.refl [] w).alloc _⟩

set_option maxRecDepth 100000 in
set_option maxHeartbeats 2000000 in
theorem refGood_noC (V D H B F C : Int) (hVa : Hid (2 ≤ V)) (hVb : Hid (V ≤ 32)) (hDa : Hid (1 ≤ D)) (hDb : Hid (D ≤ 16)) (hHa : Hid (1 ≤ H)) (hHb : Hid (H ≤ 4)) (hBa : Hid (1 ≤ B)) (hBb : Hid (B ≤ 3)) (hFa : Hid (1 ≤ F)) (hFb : Hid (F ≤ 32)) (hn : Hid (C < 1 ∨ 32 < C)) (w : World) : Calls Try.prog 55 #[.agg #[.int .i64 V, .int .i64 D, .int .i64 H, .int .i64 B, .int .i64 F, .int .i64 C]] w fun e w' => e = .returned (.bool false) ∧ Only [] w w' := by
  go_enter Try.func55, Try.ntmps55
  go_wp2_with (go_at_call 110; refine (in_yes V 2 32 hVa.out hVb.out _).mono ?_)
  intro e w1 hx
  first | (subst hx; intro hw; subst hw) | (obtain ⟨rfl, rfl⟩ := hx)
  go_wp2_with (go_at_call 110; refine (in_yes D 1 16 hDa.out hDb.out _).mono ?_)
  intro e w1 hx
  first | (subst hx; intro hw; subst hw) | (obtain ⟨rfl, rfl⟩ := hx)
  go_wp2_with (go_at_call 110; refine (in_yes H 1 4 hHa.out hHb.out _).mono ?_)
  intro e w1 hx
  first | (subst hx; intro hw; subst hw) | (obtain ⟨rfl, rfl⟩ := hx)
  go_wp2_with (go_at_call 110; refine (in_yes B 1 3 hBa.out hBb.out _).mono ?_)
  intro e w1 hx
  first | (subst hx; intro hw; subst hw) | (obtain ⟨rfl, rfl⟩ := hx)
  go_wp2_with (go_at_call 110; refine (in_yes F 1 32 hFa.out hFb.out _).mono ?_)
  intro e w1 hx
  first | (subst hx; intro hw; subst hw) | (obtain ⟨rfl, rfl⟩ := hx)
  go_wp2_with (go_at_call 110; refine (in_no C 1 32 hn.out _).mono ?_)
  intro e w1 hx
  first | (subst hx; intro hw; subst hw) | (obtain ⟨rfl, rfl⟩ := hx)
  go_wp2_with fail
  go_ret
  exact ⟨rfl, (Only.refl [] w).alloc _⟩

set_option maxRecDepth 100000 in
set_option maxHeartbeats 2000000 in
theorem refGood_noM (V D H B F C : Int) (hVa : Hid (2 ≤ V)) (hVb : Hid (V ≤ 32)) (hDa : Hid (1 ≤ D)) (hDb : Hid (D ≤ 16)) (hHa : Hid (1 ≤ H)) (hHb : Hid (H ≤ 4)) (hBa : Hid (1 ≤ B)) (hBb : Hid (B ≤ 3)) (hFa : Hid (1 ≤ F)) (hFb : Hid (F ≤ 32)) (hCa : Hid (1 ≤ C)) (hCb : Hid (C ≤ 32)) (hm : Hid ((D % H == 0) = false)) (w : World) : Calls Try.prog 55 #[.agg #[.int .i64 V, .int .i64 D, .int .i64 H, .int .i64 B, .int .i64 F, .int .i64 C]] w fun e w' => e = .returned (.bool false) ∧ Only [] w w' := by
  have hHne : ¬ H = 0 := by have := hHa.out; omega
  have h1 := hHa.out
  have h2 := hDa.out
  have h3 := hHb.out
  have h4 := hDb.out
  have hm' := hm.out
  go_enter Try.func55, Try.ntmps55
  go_wp2_with (go_at_call 110; refine (in_yes V 2 32 hVa.out hVb.out _).mono ?_)
  intro e w1 hx
  first | (subst hx; intro hw; subst hw) | (obtain ⟨rfl, rfl⟩ := hx)
  go_wp2_with (go_at_call 110; refine (in_yes D 1 16 hDa.out hDb.out _).mono ?_)
  intro e w1 hx
  first | (subst hx; intro hw; subst hw) | (obtain ⟨rfl, rfl⟩ := hx)
  go_wp2_with (go_at_call 110; refine (in_yes H 1 4 hHa.out hHb.out _).mono ?_)
  intro e w1 hx
  first | (subst hx; intro hw; subst hw) | (obtain ⟨rfl, rfl⟩ := hx)
  go_wp2_with (go_at_call 110; refine (in_yes B 1 3 hBa.out hBb.out _).mono ?_)
  intro e w1 hx
  first | (subst hx; intro hw; subst hw) | (obtain ⟨rfl, rfl⟩ := hx)
  go_wp2_with (go_at_call 110; refine (in_yes F 1 32 hFa.out hFb.out _).mono ?_)
  intro e w1 hx
  first | (subst hx; intro hw; subst hw) | (obtain ⟨rfl, rfl⟩ := hx)
  go_wp2_with (go_at_call 110; refine (in_yes C 1 32 hCa.out hCb.out _).mono ?_)
  intro e w1 hx
  first | (subst hx; intro hw; subst hw) | (obtain ⟨rfl, rfl⟩ := hx)
  go_wp2_with fail
  go_ret
  exact ⟨rfl, (Only.refl [] w).alloc _⟩

set_option maxRecDepth 100000 in
set_option maxHeartbeats 2000000 in
theorem refGood_noA (V D H B F C T : Int) (hVa : Hid (2 ≤ V)) (hVb : Hid (V ≤ 32)) (hDa : Hid (1 ≤ D)) (hDb : Hid (D ≤ 16)) (hHa : Hid (1 ≤ H)) (hHb : Hid (H ≤ 4)) (hBa : Hid (1 ≤ B)) (hBb : Hid (B ≤ 3)) (hFa : Hid (1 ≤ F)) (hFb : Hid (F ≤ 32)) (hCa : Hid (1 ≤ C)) (hCb : Hid (C ≤ 32)) (hm : D % H = 0) (hT : 8192 < T) (hT0 : 0 ≤ T) (hT1 : T ≤ 100000) (AL : Hid (∀ w, Calls Try.prog 57 #[.agg #[.int .i64 V, .int .i64 D, .int .i64 H, .int .i64 B, .int .i64 F, .int .i64 C]] w fun e w' => e = .returned (.int .i64 T) ∧ Only [] w w')) (w : World) : Calls Try.prog 55 #[.agg #[.int .i64 V, .int .i64 D, .int .i64 H, .int .i64 B, .int .i64 F, .int .i64 C]] w fun e w' => e = .returned (.bool false) ∧ Only [] w w' := by
  have hHne : ¬ H = 0 := by have := hHa.out; omega
  have h1 := hHa.out
  have h2 := hDa.out
  have h3 := hHb.out
  have h4 := hDb.out
  go_enter Try.func55, Try.ntmps55
  go_wp2_with (go_at_call 110; refine (in_yes V 2 32 hVa.out hVb.out _).mono ?_)
  intro e w1 hx
  first | (subst hx; intro hw; subst hw) | (obtain ⟨rfl, rfl⟩ := hx)
  go_wp2_with (go_at_call 110; refine (in_yes D 1 16 hDa.out hDb.out _).mono ?_)
  intro e w1 hx
  first | (subst hx; intro hw; subst hw) | (obtain ⟨rfl, rfl⟩ := hx)
  go_wp2_with (go_at_call 110; refine (in_yes H 1 4 hHa.out hHb.out _).mono ?_)
  intro e w1 hx
  first | (subst hx; intro hw; subst hw) | (obtain ⟨rfl, rfl⟩ := hx)
  go_wp2_with (go_at_call 110; refine (in_yes B 1 3 hBa.out hBb.out _).mono ?_)
  intro e w1 hx
  first | (subst hx; intro hw; subst hw) | (obtain ⟨rfl, rfl⟩ := hx)
  go_wp2_with (go_at_call 110; refine (in_yes F 1 32 hFa.out hFb.out _).mono ?_)
  intro e w1 hx
  first | (subst hx; intro hw; subst hw) | (obtain ⟨rfl, rfl⟩ := hx)
  go_wp2_with (go_at_call 110; refine (in_yes C 1 32 hCa.out hCb.out _).mono ?_)
  intro e w1 hx
  first | (subst hx; intro hw; subst hw) | (obtain ⟨rfl, rfl⟩ := hx)
  go_wp2_with (go_at_call 57; refine (AL.out _).mono ?_; rintro e w2 ⟨rfl, ho2⟩)
  go_ret
  exact ⟨by first | rfl | (show Ending.returned (Value.bool (decide (T ≤ 8192))) = _; rw [decide_eq_false (by omega)]), ((Only.refl [] w).alloc _).trans ho2⟩

set_option maxRecDepth 100000 in
set_option maxHeartbeats 2000000 in
theorem refGood_yes0 (V D H B F C T : Int) (hVa : Hid (2 ≤ V)) (hVb : Hid (V ≤ 32)) (hDa : Hid (1 ≤ D)) (hDb : Hid (D ≤ 16)) (hHa : Hid (1 ≤ H)) (hHb : Hid (H ≤ 4)) (hBa : Hid (1 ≤ B)) (hBb : Hid (B ≤ 3)) (hFa : Hid (1 ≤ F)) (hFb : Hid (F ≤ 32)) (hCa : Hid (1 ≤ C)) (hCb : Hid (C ≤ 32)) (hm : D % H = 0) (hT : T ≤ 8192) (hT0 : 0 ≤ T) (hT1 : T ≤ 100000) (AL : Hid (∀ w, Calls Try.prog 57 #[.agg #[.int .i64 V, .int .i64 D, .int .i64 H, .int .i64 B, .int .i64 F, .int .i64 C]] w fun e w' => e = .returned (.int .i64 T) ∧ Only [] w w')) (w : World) : Calls Try.prog 55 #[.agg #[.int .i64 V, .int .i64 D, .int .i64 H, .int .i64 B, .int .i64 F, .int .i64 C]] w fun e w' => e = .returned (.bool true) ∧ Only [] w w' := by
  have hHne : ¬ H = 0 := by have := hHa.out; omega
  have h1 := hHa.out
  have h2 := hDa.out
  have h3 := hHb.out
  have h4 := hDb.out
  go_enter Try.func55, Try.ntmps55
  go_wp2_with (go_at_call 110; refine (in_yes V 2 32 hVa.out hVb.out _).mono ?_)
  intro e w1 hx
  first | (subst hx; intro hw; subst hw) | (obtain ⟨rfl, rfl⟩ := hx)
  go_wp2_with (go_at_call 110; refine (in_yes D 1 16 hDa.out hDb.out _).mono ?_)
  intro e w1 hx
  first | (subst hx; intro hw; subst hw) | (obtain ⟨rfl, rfl⟩ := hx)
  go_wp2_with (go_at_call 110; refine (in_yes H 1 4 hHa.out hHb.out _).mono ?_)
  intro e w1 hx
  first | (subst hx; intro hw; subst hw) | (obtain ⟨rfl, rfl⟩ := hx)
  go_wp2_with (go_at_call 110; refine (in_yes B 1 3 hBa.out hBb.out _).mono ?_)
  intro e w1 hx
  first | (subst hx; intro hw; subst hw) | (obtain ⟨rfl, rfl⟩ := hx)
  go_wp2_with (go_at_call 110; refine (in_yes F 1 32 hFa.out hFb.out _).mono ?_)
  intro e w1 hx
  first | (subst hx; intro hw; subst hw) | (obtain ⟨rfl, rfl⟩ := hx)
  go_wp2_with (go_at_call 110; refine (in_yes C 1 32 hCa.out hCb.out _).mono ?_)
  intro e w1 hx
  first | (subst hx; intro hw; subst hw) | (obtain ⟨rfl, rfl⟩ := hx)
  go_wp2_with (go_at_call 57; refine (AL.out _).mono ?_; rintro e w2 ⟨rfl, ho2⟩)
  go_ret
  exact ⟨by first | rfl | (show Ending.returned (Value.bool (decide (T ≤ 8192))) = _; rw [decide_eq_false (by omega)]), ((Only.refl [] w).alloc _).trans ho2⟩

theorem refGood_yes (c : Cfg) (h : CanBe c) (w : World) : Calls Try.prog 55 #[.agg c.cells.toArray] w fun e w' => e = .returned (.bool true) ∧ Only [] w w' :=
  refGood_yes0 c.V c.D c.H c.B c.F c.C c.all h.fit.v0 h.fit.v1 h.fit.d0 h.fit.d1 h.fit.h0 h.fit.h1 h.fit.b0 h.fit.b1 h.fit.f0 h.fit.f1 h.fit.c0 h.fit.c1 h.div h.all (all_bounds h.fit).1 (all_bounds h.fit).2 (fun w => refSize_any c h.fit w) w
theorem refGood_no (c : Cfg) (h : ¬ CanBe c) (w : World) : Calls Try.prog 55 #[.agg c.cells.toArray] w fun e w' => e = .returned (.bool false) ∧ Only [] w w' := by
  by_cases nV : c.V < 2 ∨ 32 < c.V
  · exact refGood_noV c.V c.D c.H c.B c.F c.C  nV w
  · have hVa : 2 ≤ c.V := by omega
    have hVb : c.V ≤ 32 := by omega
    by_cases nD : c.D < 1 ∨ 16 < c.D
    · exact refGood_noD c.V c.D c.H c.B c.F c.C  hVa hVb nD w
    · have hDa : 1 ≤ c.D := by omega
      have hDb : c.D ≤ 16 := by omega
      by_cases nH : c.H < 1 ∨ 4 < c.H
      · exact refGood_noH c.V c.D c.H c.B c.F c.C  hVa hVb hDa hDb nH w
      · have hHa : 1 ≤ c.H := by omega
        have hHb : c.H ≤ 4 := by omega
        by_cases nB : c.B < 1 ∨ 3 < c.B
        · exact refGood_noB c.V c.D c.H c.B c.F c.C  hVa hVb hDa hDb hHa hHb nB w
        · have hBa : 1 ≤ c.B := by omega
          have hBb : c.B ≤ 3 := by omega
          by_cases nF : c.F < 1 ∨ 32 < c.F
          · exact refGood_noF c.V c.D c.H c.B c.F c.C  hVa hVb hDa hDb hHa hHb hBa hBb nF w
          · have hFa : 1 ≤ c.F := by omega
            have hFb : c.F ≤ 32 := by omega
            by_cases nC : c.C < 1 ∨ 32 < c.C
            · exact refGood_noC c.V c.D c.H c.B c.F c.C  hVa hVb hDa hDb hHa hHb hBa hBb hFa hFb nC w
            · have hCa : 1 ≤ c.C := by omega
              have hCb : c.C ≤ 32 := by omega
              have hf : Fit c := ⟨hVa, hVb, hDa, hDb, hHa, hHb, hBa, hBb, hFa, hFb, hCa, hCb⟩
              by_cases hm : c.D % c.H = 0
              · have h9 : 8192 < c.all := by
                  have : ¬ c.all ≤ 8192 := fun ha => h ⟨hf, hm, ha⟩
                  omega
                exact refGood_noA c.V c.D c.H c.B c.F c.C c.all hVa hVb hDa hDb hHa hHb hBa hBb hFa hFb hCa hCb hm h9 (all_bounds hf).1 (all_bounds hf).2 (fun w => refSize_any c hf w) w
              · exact refGood_noM c.V c.D c.H c.B c.F c.C hVa hVb hDa hDb hHa hHb hBa hBb hFa hFb hCa hCb (by show _ = false; rw [beq_eq_false_iff_ne]; exact hm) w

end Go.Proofs.Ytgdifegbpbnekaa
