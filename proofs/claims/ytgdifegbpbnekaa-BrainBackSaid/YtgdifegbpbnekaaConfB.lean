/- Shapes: how many bytes parts have together, and all of them. -/
import Derived.Test.YtgdifegbpbnekaaConfA
namespace Go.Proofs.Ytgdifegbpbnekaa
open Go.RowKit

/-- The numbers lie within their bounds. -/
structure Fit (c : Cfg) : Prop where
  v0 : 2 ≤ c.V
  v1 : c.V ≤ 32
  d0 : 1 ≤ c.D
  d1 : c.D ≤ 16
  h0 : 1 ≤ c.H
  h1 : c.H ≤ 4
  b0 : 1 ≤ c.B
  b1 : c.B ≤ 3
  f0 : 1 ≤ c.F
  f1 : c.F ≤ 32
  c0 : 1 ≤ c.C
  c1 : c.C ≤ 32
/-- How many bytes a part has. -/
def Cfg.sz (c : Cfg) (p : Int) : Int := (c.side p).1 * (c.side p).2
theorem side_cases (c : Cfg) (p : Int) : c.side p = (c.V, c.D) ∨ c.side p = (c.C, c.D) ∨ c.side p = (1, c.D) ∨ c.side p = (c.D, c.D) ∨ c.side p = (c.F, c.D) ∨ c.side p = (c.D, c.F) ∨ c.side p = (0, 0) := by
  by_cases ho : p < 0 ∨ 11 < p
  · exact .inr (.inr (.inr (.inr (.inr (.inr (Cfg.side_other c p ho))))))
  · have hp : p = 0 ∨ p = 1 ∨ p = 2 ∨ p = 3 ∨ p = 4 ∨ p = 5 ∨ p = 6 ∨ p = 7 ∨ p = 8 ∨ p = 9 ∨ p = 10 ∨ p = 11 := by omega
    rcases hp with rfl | rfl | rfl | rfl | rfl | rfl | rfl | rfl | rfl | rfl | rfl | rfl
    · exact .inl rfl
    · exact .inr (.inl rfl)
    · exact .inr (.inr (.inl rfl))
    · exact .inr (.inr (.inr (.inl rfl)))
    · exact .inr (.inr (.inr (.inl rfl)))
    · exact .inr (.inr (.inr (.inl rfl)))
    · exact .inr (.inr (.inr (.inl rfl)))
    · exact .inr (.inr (.inl rfl))
    · exact .inr (.inr (.inr (.inr (.inl rfl))))
    · exact .inr (.inr (.inr (.inr (.inl rfl))))
    · exact .inr (.inr (.inr (.inr (.inr (.inl rfl)))))
    · exact .inr (.inr (.inl rfl))
theorem side_bounds {c : Cfg} (h : Fit c) (p : Int) : 0 ≤ (c.side p).1 ∧ (c.side p).1 ≤ 32 ∧ 0 ≤ (c.side p).2 ∧ (c.side p).2 ≤ 32 := by
  obtain ⟨_, _, _, _, _, _, _, _, _, _, _, _⟩ := h
  rcases side_cases c p with e | e | e | e | e | e | e <;> rw [e] <;> simp only <;> omega
theorem sz_bounds {c : Cfg} (h : Fit c) (p : Int) : 0 ≤ c.sz p ∧ c.sz p ≤ 1024 := by
  obtain ⟨h1, h2, h3, h4⟩ := side_bounds h p
  unfold Cfg.sz
  refine ⟨Int.mul_nonneg h1 h3, ?_⟩
  exact Int.le_trans (Int.mul_le_mul h2 h4 h3 (by decide)) (by decide)
/-- How many bytes so many parts from one on have together. -/
def Cfg.span (c : Cfg) (a : Int) : Nat → Int
  | 0 => 0
  | n + 1 => c.span a n + c.sz (a + n)
theorem span_bounds {c : Cfg} (h : Fit c) (a : Int) (n : Nat) : 0 ≤ c.span a n ∧ c.span a n ≤ 1024 * n := by
  induction n with
  | zero => exact ⟨Int.le_refl _, by simp [Cfg.span]⟩
  | succ n ih =>
    have := sz_bounds h (a + n)
    unfold Cfg.span
    omega

set_option maxRecDepth 100000 in
set_option maxHeartbeats 1000000 in
theorem span_any (c : Cfg) (hf : Fit c) (a b : Int) (n : Nat) (w : World) (hb : b = a + n - 1) (hn : n ≤ 12) (ha : 0 ≤ a) (ha2 : a ≤ 12) :
    Calls Try.prog 135 #[.agg c.cells.toArray, .int .i64 a, .int .i64 b] w fun e w' => e = .returned (.int .i64 (c.span a n)) ∧ Only [] w w' := by
  have hb0 := Blk.new w c.cells 36
  have hcl : c.cells.length = 6 := rfl
  obtain ⟨K, eK⟩ : ∃ K, K = c.cells := ⟨_, rfl⟩
  have HS : Hid (∀ p w, Calls Try.prog 86 #[.agg K.toArray, .int .i64 p] w fun e w' => e = .returned (.tuple #[.int .i64 (c.side p).1, .int .i64 (c.side p).2]) ∧ Only [] w w') := fun p w => by rw [eK]; exact confSide_any c p w
  rw [← eK] at hb0 hcl ⊢
  have HL := Lib.hid hcl
  have HF := Lib.hid hf
  clear eK hf hcl
  subst hb
  go_enter Try.func135, Try.ntmps135
  go_wp2
  go_loopw [7, 8] (fun s p wr => ∃ (k : Nat), k ≤ n ∧ p = .int .i64 (a + k) ∧ s = .int .i64 (c.span a k) ∧ Only [] (w.alloc (.cells K.toArray 36)) wr) (fun _ p _ => (a + n - intOf p).toNat)
  case atStart => exact ⟨0, by omega, by simp, rfl, Only.refl _ _⟩
  case round =>
    obtain ⟨k, hk, rfl, rfl, hor⟩ := hrel
    have hbk := hb0.keep hor
    by_cases hlt : k < n
    · have g1 : a + (k : Int) ≤ a + n - 1 := by omega
      obtain ⟨h1, h2, h3, h4⟩ := side_bounds HF.out (a + k)
      obtain ⟨z0, z1⟩ := sz_bounds HF.out (a + k)
      obtain ⟨s0, s1⟩ := span_bounds HF.out a k
      have hsp : c.span a (k + 1) = c.span a k + c.sz (a + k) := rfl
      unfold Cfg.sz at z0 z1 hsp
      have HSK := HS.out (a + k)
      obtain ⟨x, ex⟩ : ∃ x, x = (c.side (a + k)).1 := ⟨_, rfl⟩
      obtain ⟨y, ey⟩ : ∃ y, y = (c.side (a + k)).2 := ⟨_, rfl⟩
      obtain ⟨m, em⟩ : ∃ m, m = c.span a k := ⟨_, rfl⟩
      rw [← ex, ← ey] at z0 z1 hsp HSK
      rw [← em] at s0 s1 hsp
      have HSP := Lib.hid hsp
      have HSK' := Lib.hid HSK
      rw [← em]
      clear ex ey em hsp HSK h1 h2 h3 h4
      go_wp2_with (first
        | (refine wpL_load rfl _ _ rfl w.heap.size rfl _ _ _ hbk Try.underlying36 rfl (by kernel_rfl : (Try.prog.info? 36).map (·.size) = some 6) HL.out ?_)
        | (go_at_call 86; refine (HSK'.out _).mono ?_; rintro e w1 ⟨rfl, ho1⟩))
      go_roundw
      case rel => exact ⟨k + 1, by omega, by go_num, by rw [HSP.out], hor.trans ho1⟩
      case measure => simp [intOf]; omega
    · have g1 : ¬ a + (k : Int) ≤ a + n - 1 := by omega
      have ek : Hid (k = n) := by show k = n; omega
      go_wp2_with fail
      go_ret
      refine ⟨?_, ((Only.refl _ w).alloc _).trans hor⟩
      rw [ek.out]
      rfl

/-- How many bytes there are. -/
def Cfg.all (c : Cfg) : Int := c.span 0 2 + c.B * c.span 2 9 + c.span 11 1

set_option maxRecDepth 100000 in
set_option maxHeartbeats 1000000 in
theorem all_any (c : Cfg) (hf : Fit c) (w : World) : Calls Try.prog 87 #[.agg c.cells.toArray] w fun e w' => e = .returned (.int .i64 c.all) ∧ Only [] w w' := by
  have hb0 := (Blk.new w c.cells 36).drew
  have hcl : c.cells.length = 6 := rfl
  have c3 := hb0.cell (i := 3) rfl
  have S1 : Hid (∀ w, Calls Try.prog 135 #[.agg c.cells.toArray, .int .i64 0, .int .i64 1] w fun e w' => e = .returned (.int .i64 (c.span 0 2)) ∧ Only [] w w') := fun w => span_any c hf 0 1 2 w rfl (by decide) (by decide) (by decide)
  have S2 : Hid (∀ w, Calls Try.prog 135 #[.agg c.cells.toArray, .int .i64 2, .int .i64 10] w fun e w' => e = .returned (.int .i64 (c.span 2 9)) ∧ Only [] w w') := fun w => span_any c hf 2 10 9 w rfl (by decide) (by decide) (by decide)
  have S3 : Hid (∀ w, Calls Try.prog 135 #[.agg c.cells.toArray, .int .i64 11, .int .i64 11] w fun e w' => e = .returned (.int .i64 (c.span 11 1)) ∧ Only [] w w') := fun w => span_any c hf 11 11 1 w rfl (by decide) (by decide) (by decide)
  obtain ⟨a0, a1⟩ := span_bounds hf 0 2
  obtain ⟨b0, b1⟩ := span_bounds hf 2 9
  obtain ⟨d0, d1⟩ := span_bounds hf 11 1
  have hb := hf.b0
  have hb3 := hf.b1
  have m0 : 0 ≤ c.B * c.span 2 9 := Int.mul_nonneg (by omega) b0
  have m1 : c.B * c.span 2 9 ≤ 3 * 9216 := Int.mul_le_mul hb3 (by omega) b0 (by decide)
  have EA : Hid (c.all = c.span 0 2 + c.B * c.span 2 9 + c.span 11 1) := rfl
  obtain ⟨x, ex⟩ : ∃ x, x = c.span 0 2 := ⟨_, rfl⟩
  obtain ⟨y, ey⟩ : ∃ y, y = c.span 2 9 := ⟨_, rfl⟩
  obtain ⟨z, ez⟩ : ∃ z, z = c.span 11 1 := ⟨_, rfl⟩
  rw [← ex] at a0 a1 EA S1
  rw [← ey] at b0 b1 m0 m1 EA S2
  rw [← ez] at d0 d1 EA S3
  obtain ⟨K, eK⟩ : ∃ K, K = c.cells := ⟨_, rfl⟩
  rw [← eK] at hb0 hcl S1 S2 S3 ⊢
  obtain ⟨b, eb⟩ : ∃ b, b = c.B := ⟨_, rfl⟩
  rw [← eb] at m0 m1 EA hb hb3
  have c3' : ((w.alloc (.cells K.toArray 36)).drew).cell? ⟨w.heap.size, 3, none⟩ = some (.int .i64 b) := by rw [eK, eb]; exact c3
  have HL := Lib.hid hcl
  clear ex ey ez eK eb c3 hcl hf
  go_enter Try.func87, Try.ntmps87
  go_wp2_with fail
  have hW : Only [] w (w.alloc (.cells K.toArray 36)).drew := ((Only.refl [] w).alloc _).drew
  refine wp_region_ord [1, 6, 10] [0, 2, 3, 4, 5, 9, 1, 6, 7, 8, 10, 11, 12] (by kernel_rfl) (by kernel_rfl) ?_
  generalize (w.alloc (.cells K.toArray 36)).drew = W at *
  refine Ord.cut 1 0 rfl rfl rfl rfl (by kernel_rfl) (by kernel_rfl) ?_
  simp only [List.take_succ_cons, List.take_zero, List.drop_succ_cons, List.drop_zero, List.filterMap_cons, List.filterMap_nil, List.getElem?_cons_succ, List.getElem?_cons_zero]
  refine wpL_load rfl _ _ rfl w.heap.size rfl _ _ _ hb0 Try.underlying36 rfl (by kernel_rfl : (Try.prog.info? 36).map (·.size) = some 6) HL.out ?_
  refine TextQ.mk ⟨fun h => by simp at h, ?_⟩ rfl
  refine Ord.cut 3 4 rfl rfl rfl rfl (by kernel_rfl) (by kernel_rfl) ?_
  simp only [List.take_succ_cons, List.take_zero, List.drop_succ_cons, List.drop_zero, List.filterMap_cons, List.filterMap_nil, List.getElem?_cons_succ, List.getElem?_cons_zero]
  go_wp2_with fail
  refine TextQ.mk ⟨fun h => by simp at h, ?_⟩ rfl
  refine Ord.cut 1 5 rfl rfl rfl rfl (by kernel_rfl) (by kernel_rfl) ?_
  simp only [List.take_succ_cons, List.take_zero, List.drop_succ_cons, List.drop_zero, List.filterMap_cons, List.filterMap_nil, List.getElem?_cons_succ, List.getElem?_cons_zero]
  refine wpL_load rfl _ _ rfl w.heap.size rfl _ _ _ hb0 Try.underlying36 rfl (by kernel_rfl : (Try.prog.info? 36).map (·.size) = some 6) HL.out ?_
  refine TextQ.mk ⟨fun h => by simp at h, ?_⟩ rfl
  refine Ord.cut 1 9 rfl rfl rfl rfl (by kernel_rfl) (by kernel_rfl) ?_
  simp only [List.take_succ_cons, List.take_zero, List.drop_succ_cons, List.drop_zero, List.filterMap_cons, List.filterMap_nil, List.getElem?_cons_succ, List.getElem?_cons_zero]
  refine wpL_load rfl _ _ rfl w.heap.size rfl _ _ _ hb0 Try.underlying36 rfl (by kernel_rfl : (Try.prog.info? 36).map (·.size) = some 6) HL.out ?_
  refine TextQ.mk ⟨fun h => by simp at h, ?_⟩ rfl
  refine Ord.cut 1 1 rfl rfl rfl rfl (by kernel_rfl) (by kernel_rfl) ?_
  simp only [List.take_succ_cons, List.take_zero, List.drop_succ_cons, List.drop_zero, List.filterMap_cons, List.filterMap_nil, List.getElem?_cons_succ, List.getElem?_cons_zero]
  go_wp2_with (go_at_call 135; refine (S1.out _).mono ?_; rintro e w1 ⟨rfl, ho1⟩)
  refine TextQ.mk ⟨fun _ => ho1, ?_⟩ rfl
  refine Ord.cut 1 6 rfl rfl rfl rfl (by kernel_rfl) (by kernel_rfl) ?_
  simp only [List.take_succ_cons, List.take_zero, List.drop_succ_cons, List.drop_zero, List.filterMap_cons, List.filterMap_nil, List.getElem?_cons_succ, List.getElem?_cons_zero]
  go_wp2_with (go_at_call 135; refine (S2.out _).mono ?_; rintro e w2 ⟨rfl, ho2⟩)
  refine TextQ.mk ⟨fun _ => ho2, ?_⟩ rfl
  refine Ord.cut 3 10 rfl rfl rfl rfl (by kernel_rfl) (by kernel_rfl) ?_
  simp only [List.take_succ_cons, List.take_zero, List.drop_succ_cons, List.drop_zero, List.filterMap_cons, List.filterMap_nil, List.getElem?_cons_succ, List.getElem?_cons_zero]
  go_wp2_with (go_at_call 135; refine (S3.out _).mono ?_; rintro e w3 ⟨rfl, ho3⟩)
  refine TextQ.mk ⟨fun _ => ho3, ?_⟩ rfl
  refine Ord.cut 2 12 rfl rfl rfl rfl (by kernel_rfl) (by kernel_rfl) ?_
  simp only [List.take_succ_cons, List.take_zero, List.drop_succ_cons, List.drop_zero, List.filterMap_cons, List.filterMap_nil, List.getElem?_cons_succ, List.getElem?_cons_zero]
  go_wp2_with fail
  refine TextQ.mk ⟨fun h => by simp at h, ?_⟩ rfl
  refine Ord.done ?_
  go_wp2_with fail
  go_ret
  refine ⟨?_, ((hW.trans ho1).trans ho2).trans ho3⟩
  rw [EA.out]
  rfl

end Go.Proofs.Ytgdifegbpbnekaa
