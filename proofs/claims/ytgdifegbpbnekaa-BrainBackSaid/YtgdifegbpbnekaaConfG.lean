/- Shapes: where a part stands, by the program. -/
import Derived.Test.YtgdifegbpbnekaaConfD
namespace Go.Proofs.Ytgdifegbpbnekaa
open Go.RowKit

set_option maxRecDepth 100000 in
set_option maxHeartbeats 2000000 in
theorem range_a1 (c : Cfg) (p b : Int) (h : ¬ CanBe c) (hp : p < 2) (w : World) : Calls Try.prog 84 #[.agg c.cells.toArray, .int .i64 p, .int .i64 b] w fun e w' => e = .returned (.tuple #[.int .i64 0, .int .i64 0, .bool false]) ∧ Only [] w w' := by
  have hb0 := Blk.new w c.cells 36
  have c3 := Lib.hid (hb0.cell (i := 3) (v := .int .i64 c.B) rfl)
  have GG : Hid (∀ w, Calls Try.prog 83 #[.agg c.cells.toArray] w fun e w' => e = .returned (.bool false) ∧ Only [] w w') := confGood_no c h
  have HL : Hid (c.cells.length = 6) := rfl
  skip
  obtain ⟨bv, ebv⟩ : ∃ b, b = c.B := ⟨_, rfl⟩
  rw [← ebv] at c3 
  obtain ⟨K, eK⟩ : ∃ K, K = c.cells := ⟨_, rfl⟩
  rw [← eK] at hb0 GG HL c3 ⊢
  clear eK ebv h
  have c3' := c3.out
  go_enter Try.func84, Try.ntmps84
  go_wp2_with (first
    | (refine wpL_load rfl 23 _ rfl w.heap.size rfl _ _ _ hb0 Try.underlying23 rfl cfgInfo HL.out ?_)
    | (go_at_call 83; refine (GG.out _).mono ?_; rintro e w1 ⟨rfl, ho1⟩))
  go_ret3
  exact ⟨rfl, ((Only.refl [] w).alloc _).trans ho1⟩
set_option maxRecDepth 100000 in
set_option maxHeartbeats 2000000 in
theorem range_a2 (c : Cfg) (p b : Int) (h : ¬ CanBe c) (hp : 2 ≤ p) (hp2 : p ≠ 11) (w : World) : Calls Try.prog 84 #[.agg c.cells.toArray, .int .i64 p, .int .i64 b] w fun e w' => e = .returned (.tuple #[.int .i64 0, .int .i64 0, .bool false]) ∧ Only [] w w' := by
  have hb0 := Blk.new w c.cells 36
  have c3 := Lib.hid (hb0.cell (i := 3) (v := .int .i64 c.B) rfl)
  have GG : Hid (∀ w, Calls Try.prog 83 #[.agg c.cells.toArray] w fun e w' => e = .returned (.bool false) ∧ Only [] w w') := confGood_no c h
  have HL : Hid (c.cells.length = 6) := rfl
  skip
  obtain ⟨bv, ebv⟩ : ∃ b, b = c.B := ⟨_, rfl⟩
  rw [← ebv] at c3 
  obtain ⟨K, eK⟩ : ∃ K, K = c.cells := ⟨_, rfl⟩
  rw [← eK] at hb0 GG HL c3 ⊢
  clear eK ebv h
  have g0 : ¬ p < 2 := by omega
  have e11 : (p == 11) = false := by rw [beq_eq_false_iff_ne]; omega
  have c3' := c3.out
  go_enter Try.func84, Try.ntmps84
  go_wp2_with (first
    | (refine wpL_load rfl 23 _ rfl w.heap.size rfl _ _ _ hb0 Try.underlying23 rfl cfgInfo HL.out ?_)
    | (go_at_call 83; refine (GG.out _).mono ?_; rintro e w1 ⟨rfl, ho1⟩))
  go_ret3
  exact ⟨rfl, ((Only.refl [] w).alloc _).trans ho1⟩
theorem range_a3 (c : Cfg) (b : Int) (h : ¬ CanBe c) (w : World) : Calls Try.prog 84 #[.agg c.cells.toArray, .int .i64 11, .int .i64 b] w fun e w' => e = .returned (.tuple #[.int .i64 0, .int .i64 0, .bool false]) ∧ Only [] w w' := by
  have hb0 := Blk.new w c.cells 36
  have c3 := Lib.hid (hb0.cell (i := 3) (v := .int .i64 c.B) rfl)
  have GG : Hid (∀ w, Calls Try.prog 83 #[.agg c.cells.toArray] w fun e w' => e = .returned (.bool false) ∧ Only [] w w') := confGood_no c h
  have HL : Hid (c.cells.length = 6) := rfl
  skip
  obtain ⟨bv, ebv⟩ : ∃ b, b = c.B := ⟨_, rfl⟩
  rw [← ebv] at c3 
  obtain ⟨K, eK⟩ : ∃ K, K = c.cells := ⟨_, rfl⟩
  rw [← eK] at hb0 GG HL c3 ⊢
  clear eK ebv h
  have c3' := c3.out
  go_enter Try.func84, Try.ntmps84
  go_wp2_with (first
    | (refine wpL_load rfl 23 _ rfl w.heap.size rfl _ _ _ hb0 Try.underlying23 rfl cfgInfo HL.out ?_)
    | (go_at_call 83; refine (GG.out _).mono ?_; rintro e w1 ⟨rfl, ho1⟩))
  go_ret3
  exact ⟨rfl, ((Only.refl [] w).alloc _).trans ho1⟩
set_option maxRecDepth 100000 in
set_option maxHeartbeats 2000000 in
theorem range_b1 (c : Cfg) (p b : Int) (h : CanBe c) (hp : p < 0) (w : World) : Calls Try.prog 84 #[.agg c.cells.toArray, .int .i64 p, .int .i64 b] w fun e w' => e = .returned (.tuple #[.int .i64 0, .int .i64 0, .bool false]) ∧ Only [] w w' := by
  have hb0 := Blk.new w c.cells 36
  have c3 := Lib.hid (hb0.cell (i := 3) (v := .int .i64 c.B) rfl)
  have GG : Hid (∀ w, Calls Try.prog 83 #[.agg c.cells.toArray] w fun e w' => e = .returned (.bool true) ∧ Only [] w w') := confGood_yes c h
  have HL : Hid (c.cells.length = 6) := rfl
  have hb1 := h.fit.b0
  have hb3 := h.fit.b1
  obtain ⟨bv, ebv⟩ : ∃ b, b = c.B := ⟨_, rfl⟩
  rw [← ebv] at c3 hb1 hb3
  obtain ⟨K, eK⟩ : ∃ K, K = c.cells := ⟨_, rfl⟩
  rw [← eK] at hb0 GG HL c3 ⊢
  clear eK ebv h
  have g0 : p < 2 := by omega
  have c3' := c3.out
  go_enter Try.func84, Try.ntmps84
  go_wp2_with (first
    | (refine wpL_load rfl 23 _ rfl w.heap.size rfl _ _ _ hb0 Try.underlying23 rfl cfgInfo HL.out ?_)
    | (go_at_call 83; refine (GG.out _).mono ?_; rintro e w1 ⟨rfl, ho1⟩))
  go_ret3
  exact ⟨rfl, ((Only.refl [] w).alloc _).trans ho1⟩
set_option maxRecDepth 100000 in
set_option maxHeartbeats 2000000 in
theorem range_b2 (c : Cfg) (p b : Int) (h : CanBe c) (hp : 11 < p) (w : World) : Calls Try.prog 84 #[.agg c.cells.toArray, .int .i64 p, .int .i64 b] w fun e w' => e = .returned (.tuple #[.int .i64 0, .int .i64 0, .bool false]) ∧ Only [] w w' := by
  have hb0 := Blk.new w c.cells 36
  have c3 := Lib.hid (hb0.cell (i := 3) (v := .int .i64 c.B) rfl)
  have GG : Hid (∀ w, Calls Try.prog 83 #[.agg c.cells.toArray] w fun e w' => e = .returned (.bool true) ∧ Only [] w w') := confGood_yes c h
  have HL : Hid (c.cells.length = 6) := rfl
  have hb1 := h.fit.b0
  have hb3 := h.fit.b1
  obtain ⟨bv, ebv⟩ : ∃ b, b = c.B := ⟨_, rfl⟩
  rw [← ebv] at c3 hb1 hb3
  obtain ⟨K, eK⟩ : ∃ K, K = c.cells := ⟨_, rfl⟩
  rw [← eK] at hb0 GG HL c3 ⊢
  clear eK ebv h
  have g0 : ¬ p < 2 := by omega
  have g1 : ¬ p < 0 := by omega
  have e11 : (p == 11) = false := by rw [beq_eq_false_iff_ne]; omega
  have c3' := c3.out
  go_enter Try.func84, Try.ntmps84
  go_wp2_with (first
    | (refine wpL_load rfl 23 _ rfl w.heap.size rfl _ _ _ hb0 Try.underlying23 rfl cfgInfo HL.out ?_)
    | (go_at_call 83; refine (GG.out _).mono ?_; rintro e w1 ⟨rfl, ho1⟩))
  go_ret3
  exact ⟨rfl, ((Only.refl [] w).alloc _).trans ho1⟩
set_option maxRecDepth 100000 in
set_option maxHeartbeats 2000000 in
theorem range_b3 (c : Cfg) (p b : Int) (h : CanBe c) (hp : 0 ≤ p) (hp2 : p < 2) (hB : b < 0) (w : World) : Calls Try.prog 84 #[.agg c.cells.toArray, .int .i64 p, .int .i64 b] w fun e w' => e = .returned (.tuple #[.int .i64 0, .int .i64 0, .bool false]) ∧ Only [] w w' := by
  have hb0 := Blk.new w c.cells 36
  have c3 := Lib.hid (hb0.cell (i := 3) (v := .int .i64 c.B) rfl)
  have GG : Hid (∀ w, Calls Try.prog 83 #[.agg c.cells.toArray] w fun e w' => e = .returned (.bool true) ∧ Only [] w w') := confGood_yes c h
  have HL : Hid (c.cells.length = 6) := rfl
  have hb1 := h.fit.b0
  have hb3 := h.fit.b1
  obtain ⟨bv, ebv⟩ : ∃ b, b = c.B := ⟨_, rfl⟩
  rw [← ebv] at c3 hb1 hb3
  obtain ⟨K, eK⟩ : ∃ K, K = c.cells := ⟨_, rfl⟩
  rw [← eK] at hb0 GG HL c3 ⊢
  clear eK ebv h
  have g1 : ¬ p < 0 := by omega
  have g2 : ¬ 11 < p := by omega
  have c3' := c3.out
  go_enter Try.func84, Try.ntmps84
  go_wp2_with (first
    | (refine wpL_load rfl 23 _ rfl w.heap.size rfl _ _ _ hb0 Try.underlying23 rfl cfgInfo HL.out ?_)
    | (go_at_call 83; refine (GG.out _).mono ?_; rintro e w1 ⟨rfl, ho1⟩))
  go_ret3
  exact ⟨rfl, ((Only.refl [] w).alloc _).trans ho1⟩
set_option maxRecDepth 100000 in
set_option maxHeartbeats 2000000 in
theorem range_b4 (c : Cfg) (p b : Int) (h : CanBe c) (hp : 0 ≤ p) (hp2 : p < 2) (hB : 1 ≤ b) (w : World) : Calls Try.prog 84 #[.agg c.cells.toArray, .int .i64 p, .int .i64 b] w fun e w' => e = .returned (.tuple #[.int .i64 0, .int .i64 0, .bool false]) ∧ Only [] w w' := by
  have hb0 := Blk.new w c.cells 36
  have c3 := Lib.hid (hb0.cell (i := 3) (v := .int .i64 c.B) rfl)
  have GG : Hid (∀ w, Calls Try.prog 83 #[.agg c.cells.toArray] w fun e w' => e = .returned (.bool true) ∧ Only [] w w') := confGood_yes c h
  have HL : Hid (c.cells.length = 6) := rfl
  have hb1 := h.fit.b0
  have hb3 := h.fit.b1
  obtain ⟨bv, ebv⟩ : ∃ b, b = c.B := ⟨_, rfl⟩
  rw [← ebv] at c3 hb1 hb3
  obtain ⟨K, eK⟩ : ∃ K, K = c.cells := ⟨_, rfl⟩
  rw [← eK] at hb0 GG HL c3 ⊢
  clear eK ebv h
  have g1 : ¬ p < 0 := by omega
  have g2 : ¬ 11 < p := by omega
  have g3 : ¬ b < 0 := by omega
  have c3' := c3.out
  go_enter Try.func84, Try.ntmps84
  go_wp2_with (first
    | (refine wpL_load rfl 23 _ rfl w.heap.size rfl _ _ _ hb0 Try.underlying23 rfl cfgInfo HL.out ?_)
    | (go_at_call 83; refine (GG.out _).mono ?_; rintro e w1 ⟨rfl, ho1⟩))
  go_ret3
  exact ⟨rfl, ((Only.refl [] w).alloc _).trans ho1⟩
set_option maxRecDepth 100000 in
set_option maxHeartbeats 2000000 in
theorem range_b5 (c : Cfg) (p b : Int) (h : CanBe c) (hp : 2 ≤ p) (hp2 : p ≤ 10) (hB : b < 0) (w : World) : Calls Try.prog 84 #[.agg c.cells.toArray, .int .i64 p, .int .i64 b] w fun e w' => e = .returned (.tuple #[.int .i64 0, .int .i64 0, .bool false]) ∧ Only [] w w' := by
  have hb0 := Blk.new w c.cells 36
  have c3 := Lib.hid (hb0.cell (i := 3) (v := .int .i64 c.B) rfl)
  have GG : Hid (∀ w, Calls Try.prog 83 #[.agg c.cells.toArray] w fun e w' => e = .returned (.bool true) ∧ Only [] w w') := confGood_yes c h
  have HL : Hid (c.cells.length = 6) := rfl
  have hb1 := h.fit.b0
  have hb3 := h.fit.b1
  obtain ⟨bv, ebv⟩ : ∃ b, b = c.B := ⟨_, rfl⟩
  rw [← ebv] at c3 hb1 hb3
  obtain ⟨K, eK⟩ : ∃ K, K = c.cells := ⟨_, rfl⟩
  rw [← eK] at hb0 GG HL c3 ⊢
  clear eK ebv h
  have g0 : ¬ p < 2 := by omega
  have g1 : ¬ p < 0 := by omega
  have g2 : ¬ 11 < p := by omega
  have e11 : (p == 11) = false := by rw [beq_eq_false_iff_ne]; omega
  have c3' := c3.out
  go_enter Try.func84, Try.ntmps84
  go_wp2_with (first
    | (refine wpL_load rfl 23 _ rfl w.heap.size rfl _ _ _ hb0 Try.underlying23 rfl cfgInfo HL.out ?_)
    | (go_at_call 83; refine (GG.out _).mono ?_; rintro e w1 ⟨rfl, ho1⟩))
  go_ret3
  exact ⟨rfl, ((Only.refl [] w).alloc _).trans ho1⟩
set_option maxRecDepth 100000 in
set_option maxHeartbeats 2000000 in
theorem range_b6 (c : Cfg) (p b : Int) (h : CanBe c) (hp : 2 ≤ p) (hp2 : p ≤ 10) (hB : c.B ≤ b) (w : World) : Calls Try.prog 84 #[.agg c.cells.toArray, .int .i64 p, .int .i64 b] w fun e w' => e = .returned (.tuple #[.int .i64 0, .int .i64 0, .bool false]) ∧ Only [] w w' := by
  have hb0 := Blk.new w c.cells 36
  have c3 := Lib.hid (hb0.cell (i := 3) (v := .int .i64 c.B) rfl)
  have GG : Hid (∀ w, Calls Try.prog 83 #[.agg c.cells.toArray] w fun e w' => e = .returned (.bool true) ∧ Only [] w w') := confGood_yes c h
  have HL : Hid (c.cells.length = 6) := rfl
  have hb1 := h.fit.b0
  have hb3 := h.fit.b1
  obtain ⟨bv, ebv⟩ : ∃ b, b = c.B := ⟨_, rfl⟩
  rw [← ebv] at c3 hb1 hb3 hB
  obtain ⟨K, eK⟩ : ∃ K, K = c.cells := ⟨_, rfl⟩
  rw [← eK] at hb0 GG HL c3 ⊢
  clear eK ebv h
  have g0 : ¬ p < 2 := by omega
  have g1 : ¬ p < 0 := by omega
  have g2 : ¬ 11 < p := by omega
  have g3 : ¬ b < 0 := by omega
  have e11 : (p == 11) = false := by rw [beq_eq_false_iff_ne]; omega
  have c3' := c3.out
  go_enter Try.func84, Try.ntmps84
  go_wp2_with (first
    | (refine wpL_load rfl 23 _ rfl w.heap.size rfl _ _ _ hb0 Try.underlying23 rfl cfgInfo HL.out ?_)
    | (go_at_call 83; refine (GG.out _).mono ?_; rintro e w1 ⟨rfl, ho1⟩))
  go_ret3
  exact ⟨rfl, ((Only.refl [] w).alloc _).trans ho1⟩
set_option maxRecDepth 100000 in
set_option maxHeartbeats 2000000 in
theorem range_b7 (c : Cfg) (b : Int) (h : CanBe c) (hB : b < 0) (w : World) : Calls Try.prog 84 #[.agg c.cells.toArray, .int .i64 11, .int .i64 b] w fun e w' => e = .returned (.tuple #[.int .i64 0, .int .i64 0, .bool false]) ∧ Only [] w w' := by
  have hb0 := Blk.new w c.cells 36
  have c3 := Lib.hid (hb0.cell (i := 3) (v := .int .i64 c.B) rfl)
  have GG : Hid (∀ w, Calls Try.prog 83 #[.agg c.cells.toArray] w fun e w' => e = .returned (.bool true) ∧ Only [] w w') := confGood_yes c h
  have HL : Hid (c.cells.length = 6) := rfl
  skip
  obtain ⟨bv, ebv⟩ : ∃ b, b = c.B := ⟨_, rfl⟩
  rw [← ebv] at c3 
  obtain ⟨K, eK⟩ : ∃ K, K = c.cells := ⟨_, rfl⟩
  rw [← eK] at hb0 GG HL c3 ⊢
  clear eK ebv h
  have c3' := c3.out
  go_enter Try.func84, Try.ntmps84
  go_wp2_with (first
    | (refine wpL_load rfl 23 _ rfl w.heap.size rfl _ _ _ hb0 Try.underlying23 rfl cfgInfo HL.out ?_)
    | (go_at_call 83; refine (GG.out _).mono ?_; rintro e w1 ⟨rfl, ho1⟩))
  go_ret3
  exact ⟨rfl, ((Only.refl [] w).alloc _).trans ho1⟩
set_option maxRecDepth 100000 in
set_option maxHeartbeats 2000000 in
theorem range_b8 (c : Cfg) (b : Int) (h : CanBe c) (hB : 1 ≤ b) (w : World) : Calls Try.prog 84 #[.agg c.cells.toArray, .int .i64 11, .int .i64 b] w fun e w' => e = .returned (.tuple #[.int .i64 0, .int .i64 0, .bool false]) ∧ Only [] w w' := by
  have hb0 := Blk.new w c.cells 36
  have c3 := Lib.hid (hb0.cell (i := 3) (v := .int .i64 c.B) rfl)
  have GG : Hid (∀ w, Calls Try.prog 83 #[.agg c.cells.toArray] w fun e w' => e = .returned (.bool true) ∧ Only [] w w') := confGood_yes c h
  have HL : Hid (c.cells.length = 6) := rfl
  skip
  obtain ⟨bv, ebv⟩ : ∃ b, b = c.B := ⟨_, rfl⟩
  rw [← ebv] at c3 
  obtain ⟨K, eK⟩ : ∃ K, K = c.cells := ⟨_, rfl⟩
  rw [← eK] at hb0 GG HL c3 ⊢
  clear eK ebv h
  have g3 : ¬ b < 0 := by omega
  have c3' := c3.out
  go_enter Try.func84, Try.ntmps84
  go_wp2_with (first
    | (refine wpL_load rfl 23 _ rfl w.heap.size rfl _ _ _ hb0 Try.underlying23 rfl cfgInfo HL.out ?_)
    | (go_at_call 83; refine (GG.out _).mono ?_; rintro e w1 ⟨rfl, ho1⟩))
  go_ret3
  exact ⟨rfl, ((Only.refl [] w).alloc _).trans ho1⟩
set_option maxRecDepth 100000 in
set_option maxHeartbeats 4000000 in
theorem range_f0 (c : Cfg) (h : CanBe c) (w : World) : Calls Try.prog 84 #[.agg c.cells.toArray, .int .i64 0, .int .i64 0] w fun e w' => e = .returned (.tuple #[.int .i64 (c.span 0 0), .int .i64 (c.sz 0), .bool true]) ∧ Only [] w w' := by
  have hb0 := Blk.new w c.cells 36
  have c3 := Lib.hid (hb0.cell (i := 3) (v := .int .i64 c.B) rfl)
  have GG : Hid (∀ w, Calls Try.prog 83 #[.agg c.cells.toArray] w fun e w' => e = .returned (.bool true) ∧ Only [] w w') := confGood_yes c h
  have HL : Hid (c.cells.length = 6) := rfl
  have S1 : Hid (∀ w, Calls Try.prog 135 #[.agg c.cells.toArray, .int .i64 0, .int .i64 0] w fun e w' => e = .returned (.int .i64 (c.sz 0)) ∧ Only [] w w') := fun w => by rw [← span1 c 0]; exact span_any c h.fit 0 0 1 w rfl (by decide) (by decide) (by decide)
  have S2 : Hid (∀ w, Calls Try.prog 135 #[.agg c.cells.toArray, .int .i64 0, .int .i64 (-1)] w fun e w' => e = .returned (.int .i64 (c.span 0 0)) ∧ Only [] w w') := fun w => span_any c h.fit 0 (-1) 0 w rfl (by decide) (by decide) (by decide)
  obtain ⟨s, es⟩ : ∃ s, s = c.sz 0 := ⟨_, rfl⟩
  obtain ⟨T, eT⟩ : ∃ T, T = c.span 0 0 := ⟨_, rfl⟩
  rw [← es] at S1 ⊢
  rw [← eT] at S2 ⊢
  obtain ⟨bv, ebv⟩ : ∃ b, b = c.B := ⟨_, rfl⟩
  rw [← ebv] at c3 
  obtain ⟨K, eK⟩ : ∃ K, K = c.cells := ⟨_, rfl⟩
  rw [← eK] at hb0 GG HL c3 S1 S2 ⊢
  clear eK ebv h es eT
  have c3' := c3.out
  go_enter Try.func84, Try.ntmps84
  go_wp2_with (first
    | (refine wpL_load rfl 23 _ rfl w.heap.size rfl _ _ _ hb0 Try.underlying23 rfl cfgInfo HL.out ?_)
    | (go_at_call 83; refine (GG.out _).mono ?_))
  intro e w1 hx
  first | (subst hx; intro ho1) | (obtain ⟨rfl, ho1⟩ := hx)
  go_wp2_with (first
    | (refine wpL_load rfl 36 _ rfl w.heap.size rfl _ _ _ (hb0.keep ho1) Try.underlying36 rfl shpInfo HL.out ?_)
    | (go_at_call 135; refine (S1.out _).mono ?_))
  intro e w2 hx
  first | (subst hx; intro ho2) | (obtain ⟨rfl, ho2⟩ := hx)
  go_wp2_with (first
    | (refine wpL_load rfl 36 _ rfl w.heap.size rfl _ _ _ (hb0.keep (ho1.trans ho2)) Try.underlying36 rfl shpInfo HL.out ?_)
    | (go_at_call 135; refine (S2.out _).mono ?_))
  intro e w3 hx
  first | (subst hx; intro ho3) | (obtain ⟨rfl, ho3⟩ := hx)
  go_wp2_with fail
  go_ret3
  exact ⟨rfl, ((((Only.refl [] w).alloc _).trans ho1).trans ho2).trans ho3⟩
set_option maxRecDepth 100000 in
set_option maxHeartbeats 4000000 in
theorem range_f1 (c : Cfg) (h : CanBe c) (w : World) : Calls Try.prog 84 #[.agg c.cells.toArray, .int .i64 1, .int .i64 0] w fun e w' => e = .returned (.tuple #[.int .i64 (c.span 0 1), .int .i64 (c.sz 1), .bool true]) ∧ Only [] w w' := by
  have hb0 := Blk.new w c.cells 36
  have c3 := Lib.hid (hb0.cell (i := 3) (v := .int .i64 c.B) rfl)
  have GG : Hid (∀ w, Calls Try.prog 83 #[.agg c.cells.toArray] w fun e w' => e = .returned (.bool true) ∧ Only [] w w') := confGood_yes c h
  have HL : Hid (c.cells.length = 6) := rfl
  have S1 : Hid (∀ w, Calls Try.prog 135 #[.agg c.cells.toArray, .int .i64 1, .int .i64 1] w fun e w' => e = .returned (.int .i64 (c.sz 1)) ∧ Only [] w w') := fun w => by rw [← span1 c 1]; exact span_any c h.fit 1 1 1 w rfl (by decide) (by decide) (by decide)
  have S2 : Hid (∀ w, Calls Try.prog 135 #[.agg c.cells.toArray, .int .i64 0, .int .i64 (0)] w fun e w' => e = .returned (.int .i64 (c.span 0 1)) ∧ Only [] w w') := fun w => span_any c h.fit 0 (0) 1 w rfl (by decide) (by decide) (by decide)
  obtain ⟨s, es⟩ : ∃ s, s = c.sz 1 := ⟨_, rfl⟩
  obtain ⟨T, eT⟩ : ∃ T, T = c.span 0 1 := ⟨_, rfl⟩
  rw [← es] at S1 ⊢
  rw [← eT] at S2 ⊢
  obtain ⟨bv, ebv⟩ : ∃ b, b = c.B := ⟨_, rfl⟩
  rw [← ebv] at c3 
  obtain ⟨K, eK⟩ : ∃ K, K = c.cells := ⟨_, rfl⟩
  rw [← eK] at hb0 GG HL c3 S1 S2 ⊢
  clear eK ebv h es eT
  have c3' := c3.out
  go_enter Try.func84, Try.ntmps84
  go_wp2_with (first
    | (refine wpL_load rfl 23 _ rfl w.heap.size rfl _ _ _ hb0 Try.underlying23 rfl cfgInfo HL.out ?_)
    | (go_at_call 83; refine (GG.out _).mono ?_))
  intro e w1 hx
  first | (subst hx; intro ho1) | (obtain ⟨rfl, ho1⟩ := hx)
  go_wp2_with (first
    | (refine wpL_load rfl 36 _ rfl w.heap.size rfl _ _ _ (hb0.keep ho1) Try.underlying36 rfl shpInfo HL.out ?_)
    | (go_at_call 135; refine (S1.out _).mono ?_))
  intro e w2 hx
  first | (subst hx; intro ho2) | (obtain ⟨rfl, ho2⟩ := hx)
  go_wp2_with (first
    | (refine wpL_load rfl 36 _ rfl w.heap.size rfl _ _ _ (hb0.keep (ho1.trans ho2)) Try.underlying36 rfl shpInfo HL.out ?_)
    | (go_at_call 135; refine (S2.out _).mono ?_))
  intro e w3 hx
  first | (subst hx; intro ho3) | (obtain ⟨rfl, ho3⟩ := hx)
  go_wp2_with fail
  go_ret3
  exact ⟨rfl, ((((Only.refl [] w).alloc _).trans ho1).trans ho2).trans ho3⟩
set_option maxRecDepth 100000 in
set_option maxHeartbeats 4000000 in
theorem range_f11 (c : Cfg) (h : CanBe c) (w : World) : Calls Try.prog 84 #[.agg c.cells.toArray, .int .i64 11, .int .i64 0] w fun e w' => e = .returned (.tuple #[.int .i64 (c.all - c.sz 11), .int .i64 (c.sz 11), .bool true]) ∧ Only [] w w' := by
  have hb0 := Blk.new w c.cells 36
  have c3 := Lib.hid (hb0.cell (i := 3) (v := .int .i64 c.B) rfl)
  have GG : Hid (∀ w, Calls Try.prog 83 #[.agg c.cells.toArray] w fun e w' => e = .returned (.bool true) ∧ Only [] w w') := confGood_yes c h
  have HL : Hid (c.cells.length = 6) := rfl
  have S1 : Hid (∀ w, Calls Try.prog 135 #[.agg c.cells.toArray, .int .i64 11, .int .i64 11] w fun e w' => e = .returned (.int .i64 (c.sz 11)) ∧ Only [] w w') := fun w => by rw [← span1 c 11]; exact span_any c h.fit 11 11 1 w rfl (by decide) (by decide) (by decide)
  have S2 : Hid (∀ w, Calls Try.prog 87 #[.agg c.cells.toArray] w fun e w' => e = .returned (.int .i64 c.all) ∧ Only [] w w') := fun w => all_any c h.fit w
  have ab := all_bounds h.fit
  have sb := sz_bounds h.fit 11
  obtain ⟨s, es⟩ : ∃ s, s = c.sz 11 := ⟨_, rfl⟩
  obtain ⟨T, eT⟩ : ∃ T, T = c.all := ⟨_, rfl⟩
  rw [← es] at sb S1 ⊢
  rw [← eT] at ab S2 ⊢
  obtain ⟨bv, ebv⟩ : ∃ b, b = c.B := ⟨_, rfl⟩
  rw [← ebv] at c3 
  obtain ⟨K, eK⟩ : ∃ K, K = c.cells := ⟨_, rfl⟩
  rw [← eK] at hb0 GG HL c3 S1 S2 ⊢
  clear eK ebv h es eT
  have c3' := c3.out
  go_enter Try.func84, Try.ntmps84
  go_wp2_with (first
    | (refine wpL_load rfl 23 _ rfl w.heap.size rfl _ _ _ hb0 Try.underlying23 rfl cfgInfo HL.out ?_)
    | (go_at_call 83; refine (GG.out _).mono ?_))
  intro e w1 hx
  first | (subst hx; intro ho1) | (obtain ⟨rfl, ho1⟩ := hx)
  go_wp2_with (first
    | (refine wpL_load rfl 36 _ rfl w.heap.size rfl _ _ _ (hb0.keep ho1) Try.underlying36 rfl shpInfo HL.out ?_)
    | (go_at_call 135; refine (S1.out _).mono ?_))
  intro e w2 hx
  first | (subst hx; intro ho2) | (obtain ⟨rfl, ho2⟩ := hx)
  go_wp2_with (first
    | (refine wpL_load rfl 36 _ rfl w.heap.size rfl _ _ _ (hb0.keep (ho1.trans ho2)) Try.underlying36 rfl shpInfo HL.out ?_)
    | (go_at_call 87; refine (S2.out _).mono ?_))
  intro e w3 hx
  first | (subst hx; intro ho3) | (obtain ⟨rfl, ho3⟩ := hx)
  go_wp2_with fail
  go_ret3
  exact ⟨rfl, ((((Only.refl [] w).alloc _).trans ho1).trans ho2).trans ho3⟩
set_option maxRecDepth 100000 in
set_option maxHeartbeats 4000000 in
theorem range_mid (c : Cfg) (h : CanBe c) (n : Nat) (b : Int) (hn : n ≤ 8) (hB0 : 0 ≤ b) (hB : b < c.B) (w : World) : Calls Try.prog 84 #[.agg c.cells.toArray, .int .i64 ((n : Int) + 2), .int .i64 b] w fun e w' => e = .returned (.tuple #[.int .i64 (c.span 0 2 + b * c.span 2 9 + c.span 2 n), .int .i64 (c.sz ((n : Int) + 2)), .bool true]) ∧ Only [] w w' := by
  have hb0 := Blk.new w c.cells 36
  have c3 := Lib.hid (hb0.cell (i := 3) (v := .int .i64 c.B) rfl)
  have GG : Hid (∀ w, Calls Try.prog 83 #[.agg c.cells.toArray] w fun e w' => e = .returned (.bool true) ∧ Only [] w w') := confGood_yes c h
  have HL : Hid (c.cells.length = 6) := rfl
  have S1 : Hid (∀ w, Calls Try.prog 135 #[.agg c.cells.toArray, .int .i64 ((n : Int) + 2), .int .i64 ((n : Int) + 2)] w fun e w' => e = .returned (.int .i64 (c.sz ((n : Int) + 2))) ∧ Only [] w w') := fun w => by rw [← span1 c]; exact span_any c h.fit _ _ 1 w (by omega) (by decide) (by omega) (by omega)
  have S2 : Hid (∀ w, Calls Try.prog 135 #[.agg c.cells.toArray, .int .i64 0, .int .i64 1] w fun e w' => e = .returned (.int .i64 (c.span 0 2)) ∧ Only [] w w') := fun w => span_any c h.fit 0 1 2 w rfl (by decide) (by decide) (by decide)
  have S3 : Hid (∀ w, Calls Try.prog 135 #[.agg c.cells.toArray, .int .i64 2, .int .i64 10] w fun e w' => e = .returned (.int .i64 (c.span 2 9)) ∧ Only [] w w') := fun w => span_any c h.fit 2 10 9 w rfl (by decide) (by decide) (by decide)
  have S4 : Hid (∀ w, Calls Try.prog 135 #[.agg c.cells.toArray, .int .i64 2, .int .i64 ((n : Int) + 2 - 1)] w fun e w' => e = .returned (.int .i64 (c.span 2 n)) ∧ Only [] w w') := fun w => span_any c h.fit 2 _ n w (by omega) (by omega) (by decide) (by decide)
  have hb1 := h.fit.b0
  have hb3 := h.fit.b1
  obtain ⟨a0, a1⟩ := span_bounds h.fit 0 2
  obtain ⟨y0, y1⟩ := span_bounds h.fit 2 9
  obtain ⟨z0, z1⟩ := span_bounds h.fit 2 n
  have m0 : 0 ≤ b * c.span 2 9 := Int.mul_nonneg hB0 y0
  have m1 : b * c.span 2 9 ≤ 3 * 9216 := Int.mul_le_mul (by omega) (by omega) y0 (by decide)
  obtain ⟨s, es⟩ : ∃ s, s = c.sz ((n : Int) + 2) := ⟨_, rfl⟩
  obtain ⟨x, ex⟩ : ∃ x, x = c.span 0 2 := ⟨_, rfl⟩
  obtain ⟨y, ey⟩ : ∃ y, y = c.span 2 9 := ⟨_, rfl⟩
  obtain ⟨z, ez⟩ : ∃ z, z = c.span 2 n := ⟨_, rfl⟩
  rw [← es] at S1 ⊢
  rw [← ex] at S2 a0 a1 ⊢
  rw [← ey] at S3 y0 y1 m0 m1 ⊢
  rw [← ez] at S4 z0 z1 ⊢
  obtain ⟨bv, ebv⟩ : ∃ b, b = c.B := ⟨_, rfl⟩
  rw [← ebv] at c3 hb1 hb3 hB
  obtain ⟨K, eK⟩ : ∃ K, K = c.cells := ⟨_, rfl⟩
  rw [← eK] at hb0 GG HL c3 S1 S2 S3 S4 ⊢
  have g0 : ¬ (n : Int) + 2 < 2 := by omega
  have g1 : ¬ (n : Int) + 2 < 0 := by omega
  have g2 : ¬ 11 < (n : Int) + 2 := by omega
  have g3 : ¬ b < 0 := by omega
  have e11 : ((n : Int) + 2 == 11) = false := by rw [beq_eq_false_iff_ne]; omega
  clear eK ebv h es ex ey ez
  have c3' := c3.out
  go_enter Try.func84, Try.ntmps84
  go_wp2_with (first
    | (refine wpL_load rfl 23 _ rfl w.heap.size rfl _ _ _ hb0 Try.underlying23 rfl cfgInfo HL.out ?_)
    | (go_at_call 83; refine (GG.out _).mono ?_))
  intro e w1 hx
  first | (subst hx; intro ho1) | (obtain ⟨rfl, ho1⟩ := hx)
  go_wp2_with (first
    | (refine wpL_load rfl 36 _ rfl w.heap.size rfl _ _ _ (hb0.keep ho1) Try.underlying36 rfl shpInfo HL.out ?_)
    | (go_at_call 135; refine (S1.out _).mono ?_))
  intro e w2 hx
  first | (subst hx; intro ho2) | (obtain ⟨rfl, ho2⟩ := hx)
  have hbW := ((hb0.keep ho1).keep ho2).drew
  have hW : Only [] w w2.drew := ((((Only.refl [] w).alloc _).trans ho1).trans ho2).drew
  go_wp2_with fail
  refine wp_region_ord [1, 4, 10] [0, 3, 7, 1, 2, 4, 5, 6, 8, 9, 10, 11, 12, 13, 14, 15] (by kernel_rfl) (by kernel_rfl) ?_
  generalize w2.drew = W at *
  refine Ord.cut 1 0 rfl rfl rfl rfl (by kernel_rfl) (by kernel_rfl) ?_
  simp only [List.take_succ_cons, List.take_zero, List.drop_succ_cons, List.drop_zero, List.filterMap_cons, List.filterMap_nil, List.getElem?_cons_succ, List.getElem?_cons_zero]
  refine wpL_load rfl _ _ rfl w.heap.size rfl _ _ _ hbW Try.underlying36 rfl shpInfo HL.out ?_
  refine TextQ.mk ⟨fun h => by simp at h, ?_⟩ rfl
  refine Ord.cut 1 3 rfl rfl rfl rfl (by kernel_rfl) (by kernel_rfl) ?_
  simp only [List.take_succ_cons, List.take_zero, List.drop_succ_cons, List.drop_zero, List.filterMap_cons, List.filterMap_nil, List.getElem?_cons_succ, List.getElem?_cons_zero]
  refine wpL_load rfl _ _ rfl w.heap.size rfl _ _ _ hbW Try.underlying36 rfl shpInfo HL.out ?_
  refine TextQ.mk ⟨fun h => by simp at h, ?_⟩ rfl
  refine Ord.cut 1 7 rfl rfl rfl rfl (by kernel_rfl) (by kernel_rfl) ?_
  simp only [List.take_succ_cons, List.take_zero, List.drop_succ_cons, List.drop_zero, List.filterMap_cons, List.filterMap_nil, List.getElem?_cons_succ, List.getElem?_cons_zero]
  refine wpL_load rfl _ _ rfl w.heap.size rfl _ _ _ hbW Try.underlying36 rfl shpInfo HL.out ?_
  refine TextQ.mk ⟨fun h => by simp at h, ?_⟩ rfl
  refine Ord.cut 1 1 rfl rfl rfl rfl (by kernel_rfl) (by kernel_rfl) ?_
  simp only [List.take_succ_cons, List.take_zero, List.drop_succ_cons, List.drop_zero, List.filterMap_cons, List.filterMap_nil, List.getElem?_cons_succ, List.getElem?_cons_zero]
  go_wp2_with (go_at_call 135; refine (S2.out _).mono ?_; rintro e w3 ⟨rfl, ho3⟩)
  refine TextQ.mk ⟨fun _ => ho3, ?_⟩ rfl
  refine Ord.cut 2 4 rfl rfl rfl rfl (by kernel_rfl) (by kernel_rfl) ?_
  simp only [List.take_succ_cons, List.take_zero, List.drop_succ_cons, List.drop_zero, List.filterMap_cons, List.filterMap_nil, List.getElem?_cons_succ, List.getElem?_cons_zero]
  go_wp2_with (go_at_call 135; refine (S3.out _).mono ?_; rintro e w4 ⟨rfl, ho4⟩)
  refine TextQ.mk ⟨fun _ => ho4, ?_⟩ rfl
  refine Ord.cut 5 10 rfl rfl rfl rfl (by kernel_rfl) (by kernel_rfl) ?_
  simp only [List.take_succ_cons, List.take_zero, List.drop_succ_cons, List.drop_zero, List.filterMap_cons, List.filterMap_nil, List.getElem?_cons_succ, List.getElem?_cons_zero]
  go_wp2_with (go_at_call 135; refine (S4.out _).mono ?_; rintro e w5 ⟨rfl, ho5⟩)
  refine TextQ.mk ⟨fun _ => ho5, ?_⟩ rfl
  refine Ord.cut 5 15 rfl rfl rfl rfl (by kernel_rfl) (by kernel_rfl) ?_
  simp only [List.take_succ_cons, List.take_zero, List.drop_succ_cons, List.drop_zero, List.filterMap_cons, List.filterMap_nil, List.getElem?_cons_succ, List.getElem?_cons_zero]
  go_wp2_with fail
  refine TextQ.mk ⟨fun h => by simp at h, ?_⟩ rfl
  refine Ord.done ?_
  go_wp2_with fail
  go_ret3
  exact ⟨rfl, ((hW.trans ho3).trans ho4).trans ho5⟩

end Go.Proofs.Ytgdifegbpbnekaa
