/- Stores: made of a disk and a twin; a slot of it; its layout. -/
import Derived.Test.YtmogkiacakkmbaaSlotB
namespace Go.Proofs.Ytmogkiacakkmbaa
open Go.RowKit

section
variable {P : Program} {w : World} {ops : Array Oper} {rest : List Oper} {o : Oper} {a : Act} {Q : Exit → Act → World → Prop}
/-- An operation whose guard is unmet. -/
theorem wpL_skipS {g : Nat × Bool} (_hs : o.guard = some g) (hg : Region.wanted o (yielded ops a.tmps) = false) (h : wpList P ops Q rest (a.put o.dst undef) w) : wpList P ops Q (o :: rest) a w := by
  rw [wpList, if_neg (by rw [hg]; decide)]
  exact h
end

set_option maxRecDepth 100000 in
theorem slotPer_no (s : Int) (h : s < 1 ∨ 256 < s) (w : World) : Calls Try.prog 105 #[.int .i64 s] w fun e w' => e = .returned (.int .i64 0) ∧ Only [] w w' := by
  by_cases h1 : s < 1
  · clear h
    go_enter Try.func105, Try.ntmps105
    go_wp2_with (first | ((with_reducible refine wpL_skipS rfl ?_ ?_); focus (go_simp; done)) | ((with_reducible refine wpL_peel rfl ?_ ?_); focus (go_simp; done)))
    go_ret
    exact ⟨rfl, Only.refl _ _⟩
  · have h2 : 256 < s := by omega
    clear h
    go_enter Try.func105, Try.ntmps105
    go_wp2_with (first | ((with_reducible refine wpL_skipS rfl ?_ ?_); focus (go_simp; done)) | ((with_reducible refine wpL_peel rfl ?_ ?_); focus (go_simp; done)))
    go_ret
    exact ⟨rfl, Only.refl _ _⟩
/-- How many sectors a chunk has. -/
def perM (s : Int) : Int := if s < 1 ∨ 256 < s then 0 else (secsOf s.toNat : Int)
theorem perM_nat (n : Nat) (h1 : 1 ≤ n) (h2 : n ≤ 256) : perM (n : Int) = (secsOf n : Int) := by
  unfold perM
  rw [if_neg (by omega)]
  rfl
theorem perM_range (s : Int) : 0 ≤ perM s ∧ perM s ≤ 20 := by
  unfold perM
  split
  · omega
  · rename_i h
    have : secsOf s.toNat ≤ 20 := by unfold secsOf; omega
    omega
theorem slotPer_all (s : Int) (w : World) : Calls Try.prog 105 #[.int .i64 s] w fun e w' => e = .returned (.int .i64 (perM s)) ∧ Only [] w w' := by
  by_cases h : s < 1 ∨ 256 < s
  · have e : perM s = 0 := if_pos h
    rw [e]
    exact slotPer_no s h w
  · obtain ⟨n, rfl⟩ : ∃ n : Nat, s = (n : Int) := ⟨s.toNat, by omega⟩
    rw [perM_nat n (by omega) (by omega)]
    exact slotPer_any n (by omega) (by omega) w

set_option maxRecDepth 100000 in
set_option maxHeartbeats 4000000 in
theorem slotSize_any (r s c : Int) (w : World) (h0 : 0 ≤ c) (h1 : c ≤ 4096) : Calls Try.prog 114 #[.agg #[.int .i64 r, .int .i64 s, .int .i64 c]] w fun e w' => e = .returned (.int .i64 (c * perM s)) ∧ Only [] w w' := by
  have hst := Sd.start w []
  have PE : Hid (∀ w, Calls Try.prog 105 #[.int .i64 s] w fun e w' => e = .returned (.int .i64 (perM s)) ∧ Only [] w w') := fun w => slotPer_all s w
  have hp := perM_range s
  obtain ⟨p, ep⟩ : ∃ p, p = perM s := ⟨_, rfl⟩
  rw [← ep] at PE hp ⊢
  obtain ⟨hp0, hp1⟩ := hp
  have hm0 : 0 ≤ c * p := Int.mul_nonneg h0 hp0
  have hm1 : c * p ≤ 81920 := by
    have : c * p ≤ 4096 * 20 := Int.mul_le_mul h1 hp1 hp0 (by omega)
    omega
  clear ep
  go_enter Try.func114, Try.ntmps114
  go_wp2_with (first | ((with_reducible refine wpL_isBoxD rfl ?_); refine wpL_boxD hst rfl 84 rfl rfl ?_; clear hst; intro w1 bl hbl hst))
  replace hst := hst.drew
  refine wp_region_ord [4] [0, 1, 2, 3, 4, 5, 6] (by kernel_rfl) (by kernel_rfl) ?_
  generalize World.drew _ = W at *
  refine Ord.cut 1 0 rfl rfl rfl rfl (by kernel_rfl) (by kernel_rfl) ?_; simp only [List.take_succ_cons, List.take_zero, List.drop_succ_cons, List.drop_zero, List.filterMap_cons, List.filterMap_nil, List.getElem?_cons_zero]; go_wp2_with fail; refine TextQ.mk ⟨fun h => by simp at h, ?_⟩ rfl
  refine Ord.cut 1 1 rfl rfl rfl rfl (by kernel_rfl) (by kernel_rfl) ?_; simp only [List.take_succ_cons, List.take_zero, List.drop_succ_cons, List.drop_zero, List.filterMap_cons, List.filterMap_nil, List.getElem?_cons_succ, List.getElem?_cons_zero]; (try refine wpL_peel rfl rfl ?_); (first | (refine wpL_load1S hst.st rfl rfl 0 rfl rfl rfl (by kernel_rfl) ?_) | (refine wpL_load1S hst.st rfl rfl 1 rfl rfl rfl (by kernel_rfl) ?_) | (refine wpL_load1S hst.st rfl rfl 2 rfl rfl rfl (by kernel_rfl) ?_) | (refine wpL_load1S hst.st rfl rfl 3 rfl rfl rfl (by kernel_rfl) ?_)); refine TextQ.mk ⟨fun h => by simp at h, ?_⟩ rfl
  refine Ord.cut 1 2 rfl rfl rfl rfl (by kernel_rfl) (by kernel_rfl) ?_; simp only [List.take_succ_cons, List.take_zero, List.drop_succ_cons, List.drop_zero, List.filterMap_cons, List.filterMap_nil, List.getElem?_cons_succ, List.getElem?_cons_zero]; go_wp2_with fail; refine TextQ.mk ⟨fun h => by simp at h, ?_⟩ rfl
  refine Ord.cut 1 3 rfl rfl rfl rfl (by kernel_rfl) (by kernel_rfl) ?_; simp only [List.take_succ_cons, List.take_zero, List.drop_succ_cons, List.drop_zero, List.filterMap_cons, List.filterMap_nil, List.getElem?_cons_succ, List.getElem?_cons_zero]; (try refine wpL_peel rfl rfl ?_); (first | (refine wpL_load1S hst.st rfl rfl 0 rfl rfl rfl (by kernel_rfl) ?_) | (refine wpL_load1S hst.st rfl rfl 1 rfl rfl rfl (by kernel_rfl) ?_) | (refine wpL_load1S hst.st rfl rfl 2 rfl rfl rfl (by kernel_rfl) ?_) | (refine wpL_load1S hst.st rfl rfl 3 rfl rfl rfl (by kernel_rfl) ?_)); refine TextQ.mk ⟨fun h => by simp at h, ?_⟩ rfl
  refine Ord.cut 1 4 rfl rfl rfl rfl (by kernel_rfl) (by kernel_rfl) ?_; simp only [List.take_succ_cons, List.take_zero, List.drop_succ_cons, List.drop_zero, List.filterMap_cons, List.filterMap_nil, List.getElem?_cons_succ, List.getElem?_cons_zero]
  go_wp2_with (go_at_call 105; (with_reducible refine (PE.out _).mono ?_); rintro e1 w1 ⟨rfl, ho1⟩)
  refine TextQ.mk ⟨fun _ => ho1, ?_⟩ rfl
  replace hst := hst.keep ho1
  clear ho1
  refine Ord.cut 1 5 rfl rfl rfl rfl (by kernel_rfl) (by kernel_rfl) ?_; simp only [List.take_succ_cons, List.take_zero, List.drop_succ_cons, List.drop_zero, List.filterMap_cons, List.filterMap_nil, List.getElem?_cons_succ, List.getElem?_cons_zero]; go_wp2_with fail; refine TextQ.mk ⟨fun h => by simp at h, ?_⟩ rfl
  refine Ord.cut 1 6 rfl rfl rfl rfl (by kernel_rfl) (by kernel_rfl) ?_; simp only [List.take_succ_cons, List.take_zero, List.drop_succ_cons, List.drop_zero, List.filterMap_cons, List.filterMap_nil, List.getElem?_cons_succ, List.getElem?_cons_zero]; go_wp2_with fail; refine TextQ.mk ⟨fun h => by simp at h, ?_⟩ rfl
  refine Ord.done ?_
  go_wp2_with fail
  go_ret
  exact ⟨rfl, hst.only⟩

/-- How many sectors a layout has; 0: it can't be. -/
def needM (r s c : Int) : Int := if r < 4 ∨ 128 < r ∨ r % 2 ≠ 0 ∨ perM s = 0 ∨ c < 1 ∨ 64 < c then 0 else if 4096 < 2 + r + 2 * (c * perM s) then 0 else 2 + r + 2 * (c * perM s)

set_option maxRecDepth 100000 in
set_option maxHeartbeats 8000000 in
theorem storeNeed_any (r s c : Int) (w : World) : Calls Try.prog 53 #[.agg #[.int .i64 r, .int .i64 s, .int .i64 c]] w fun e w' => e = .returned (.int .i64 (needM r s c)) ∧ Only [] w w' := by
  have hst := Sd.start w []
  have PE : Hid (∀ w, Calls Try.prog 105 #[.int .i64 s] w fun e w' => e = .returned (.int .i64 (perM s)) ∧ Only [] w w') := fun w => slotPer_all s w
  have hp := perM_range s
  have SZ : Hid (∀ w, 0 ≤ c → c ≤ 4096 → Calls Try.prog 114 #[.agg #[.int .i64 r, .int .i64 s, .int .i64 c]] w fun e w' => e = .returned (.int .i64 (c * perM s)) ∧ Only [] w w') := fun w h0 h1 => slotSize_any r s c w h0 h1
  have hn : ∀ X, needM r s c = X → X = needM r s c := fun _ h => h.symm
  unfold needM
  generalize perM s = p at *
  obtain ⟨hp0, hp1⟩ := hp
  clear hn
  by_cases c1 : r < 4
  · rw [if_pos (.inl c1)]
    go_enter Try.func53, Try.ntmps53
    go_wp2_with (first | ((with_reducible refine wpL_isBoxD rfl ?_); refine wpL_boxD hst rfl 84 rfl rfl ?_; clear hst; intro w1 bl hbl hst) | ((with_reducible refine wpL_skipS rfl ?_ ?_); focus (go_simp; done)) | ((with_reducible refine wpL_peel rfl ?_ ?_); focus (go_simp; done)) | ((with_reducible refine wpL_peel rfl ?_ ?_); focus (go_simp; done)) | ((with_reducible refine wpL_isLoad rfl ?_); first | (refine wpL_load1S hst.st rfl rfl 0 rfl rfl rfl (by kernel_rfl) ?_)))
    go_ret
    exact ⟨rfl, hst.only⟩
  by_cases c2 : 128 < r
  · rw [if_pos (.inr (.inl c2))]
    go_enter Try.func53, Try.ntmps53
    go_wp2_with (first | ((with_reducible refine wpL_isBoxD rfl ?_); refine wpL_boxD hst rfl 84 rfl rfl ?_; clear hst; intro w1 bl hbl hst) | ((with_reducible refine wpL_skipS rfl ?_ ?_); focus (go_simp; done)) | ((with_reducible refine wpL_peel rfl ?_ ?_); focus (go_simp; done)) | ((with_reducible refine wpL_peel rfl ?_ ?_); focus (go_simp; done)) | ((with_reducible refine wpL_isLoad rfl ?_); first | (refine wpL_load1S hst.st rfl rfl 0 rfl rfl rfl (by kernel_rfl) ?_)))
    go_ret
    exact ⟨rfl, hst.only⟩
  by_cases c3 : r % 2 = 0
  rotate_left
  · rw [if_pos (.inr (.inr (.inl c3)))]
    have d3 : (r % 2 == 0) = false := beq_eq_false_iff_ne.2 c3
    go_enter Try.func53, Try.ntmps53
    go_wp2_with (first | ((with_reducible refine wpL_isBoxD rfl ?_); refine wpL_boxD hst rfl 84 rfl rfl ?_; clear hst; intro w1 bl hbl hst) | ((with_reducible refine wpL_skipS rfl ?_ ?_); focus (go_simp; done)) | ((with_reducible refine wpL_peel rfl ?_ ?_); focus (go_simp; done)) | ((with_reducible refine wpL_peel rfl ?_ ?_); focus (go_simp; done)) | ((with_reducible refine wpL_isLoad rfl ?_); first | (refine wpL_load1S hst.st rfl rfl 0 rfl rfl rfl (by kernel_rfl) ?_)))
    go_ret
    exact ⟨rfl, hst.only⟩
  have d3 : (r % 2 == 0) = true := beq_iff_eq.2 c3
  by_cases c4 : p = 0
  · rw [if_pos (.inr (.inr (.inr (.inl c4))))]
    have d4 : (p == 0) = true := beq_iff_eq.2 c4
    clear c4
    go_enter Try.func53, Try.ntmps53
    go_wp2_with (first | ((with_reducible refine wpL_isBoxD rfl ?_); refine wpL_boxD hst rfl 84 rfl rfl ?_; clear hst; intro w1 bl hbl hst) | ((with_reducible refine wpL_skipS rfl ?_ ?_); focus (go_simp; done)) | ((with_reducible refine wpL_peel rfl ?_ ?_); focus (go_simp; done)) | (go_at_call 105; (with_reducible refine (PE.out _).mono ?_); rintro e1 w1 ⟨rfl, ho1⟩; replace hst := hst.keep ho1; clear ho1) | ((with_reducible refine wpL_peel rfl ?_ ?_); focus (go_simp; done)) | ((with_reducible refine wpL_isLoad rfl ?_); first | (refine wpL_load1S hst.st rfl rfl 0 rfl rfl rfl (by kernel_rfl) ?_)))
    go_ret
    exact ⟨rfl, hst.only⟩
  have d4 : (p == 0) = false := beq_eq_false_iff_ne.2 c4
  by_cases c5 : c < 1
  · rw [if_pos (.inr (.inr (.inr (.inr (.inl c5)))))]
    clear c4
    go_enter Try.func53, Try.ntmps53
    go_wp2_with (first | ((with_reducible refine wpL_isBoxD rfl ?_); refine wpL_boxD hst rfl 84 rfl rfl ?_; clear hst; intro w1 bl hbl hst) | ((with_reducible refine wpL_skipS rfl ?_ ?_); focus (go_simp; done)) | ((with_reducible refine wpL_peel rfl ?_ ?_); focus (go_simp; done)) | (go_at_call 105; (with_reducible refine (PE.out _).mono ?_); rintro e1 w1 ⟨rfl, ho1⟩; replace hst := hst.keep ho1; clear ho1) | ((with_reducible refine wpL_peel rfl ?_ ?_); focus (go_simp; done)) | ((with_reducible refine wpL_isLoad rfl ?_); first | (refine wpL_load1S hst.st rfl rfl 0 rfl rfl rfl (by kernel_rfl) ?_)))
    go_ret
    exact ⟨rfl, hst.only⟩
  by_cases c6 : 64 < c
  · rw [if_pos (.inr (.inr (.inr (.inr (.inr c6)))))]
    clear c4
    go_enter Try.func53, Try.ntmps53
    go_wp2_with (first | ((with_reducible refine wpL_isBoxD rfl ?_); refine wpL_boxD hst rfl 84 rfl rfl ?_; clear hst; intro w1 bl hbl hst) | ((with_reducible refine wpL_skipS rfl ?_ ?_); focus (go_simp; done)) | ((with_reducible refine wpL_peel rfl ?_ ?_); focus (go_simp; done)) | (go_at_call 105; (with_reducible refine (PE.out _).mono ?_); rintro e1 w1 ⟨rfl, ho1⟩; replace hst := hst.keep ho1; clear ho1) | ((with_reducible refine wpL_peel rfl ?_ ?_); focus (go_simp; done)) | ((with_reducible refine wpL_isLoad rfl ?_); first | (refine wpL_load1S hst.st rfl rfl 0 rfl rfl rfl (by kernel_rfl) ?_)))
    go_ret
    exact ⟨rfl, hst.only⟩
  rw [if_neg (by omega)]
  have SZ2 := Lib.hid (fun w => SZ.out w (by omega) (by omega))
  have hm0 : 0 ≤ c * p := Int.mul_nonneg (by omega) hp0
  have hm1 : c * p ≤ 1280 := by
    have : c * p ≤ 64 * 20 := Int.mul_le_mul (by omega) hp1 hp0 (by omega)
    omega
  have r4 : 4 ≤ r := by omega
  have r128 : r ≤ 128 := by omega
  suffices key : ∀ Z : Int, (4096 < 2 + r + 2 * (c * p) → Z = 0) → (¬ 4096 < 2 + r + 2 * (c * p) → Z = 2 + r + 2 * (c * p)) → Calls Try.prog 53 #[.agg #[.int .i64 r, .int .i64 s, .int .i64 c]] w fun e w' => e = .returned (.int .i64 Z) ∧ Only [] w w' from key _ (fun h => if_pos h) (fun h => if_neg h)
  intro Z hZ1 hZ2
  have HZ1 := Lib.hid hZ1
  have HZ2 := Lib.hid hZ2
  clear c4 hZ1 hZ2 SZ c1 c2
  by_cases c7 : 4096 < 2 + r + 2 * (c * p)
  · have EZ := Lib.hid (HZ1.out c7)
    have d7 : decide (4096 < 2 + r + 2 * (c * p)) = true := decide_eq_true c7
    generalize c * p = q at *
    clear HZ1 HZ2 c7
    go_enter Try.func53, Try.ntmps53
    go_wp2_with (first | ((with_reducible refine wpL_isBoxD rfl ?_); refine wpL_boxD hst rfl 84 rfl rfl ?_; clear hst; intro w1 bl hbl hst) | ((with_reducible refine wpL_skipS rfl ?_ ?_); focus (go_simp; done)) | ((with_reducible refine wpL_peel rfl ?_ ?_); focus (go_simp; done)) | (go_at_call 105; (with_reducible refine (PE.out _).mono ?_); rintro e1 w1 ⟨rfl, ho1⟩; replace hst := hst.keep ho1; clear ho1) | ((with_reducible refine wpL_peel rfl ?_ ?_); focus (go_simp; done)) | ((with_reducible refine wpL_isLoad rfl ?_); first | (refine wpL_load1S hst.st rfl rfl 0 rfl rfl rfl (by kernel_rfl) ?_)))
    replace hst := hst.drew
    refine wp_region_ord [4] [0, 1, 2, 3, 4, 5, 6, 7] (by kernel_rfl) (by kernel_rfl) ?_
    generalize World.drew _ = W at *
    refine Ord.cut 1 0 rfl rfl rfl rfl (by kernel_rfl) (by kernel_rfl) ?_; simp only [List.take_succ_cons, List.take_zero, List.drop_succ_cons, List.drop_zero, List.filterMap_cons, List.filterMap_nil, List.getElem?_cons_zero]; go_wp2_with fail; refine TextQ.mk ⟨fun h => by simp at h, ?_⟩ rfl
    refine Ord.cut 1 1 rfl rfl rfl rfl (by kernel_rfl) (by kernel_rfl) ?_; simp only [List.take_succ_cons, List.take_zero, List.drop_succ_cons, List.drop_zero, List.filterMap_cons, List.filterMap_nil, List.getElem?_cons_succ, List.getElem?_cons_zero]; (try refine wpL_peel rfl rfl ?_); (first | (refine wpL_load1S hst.st rfl rfl 0 rfl rfl rfl (by kernel_rfl) ?_) | (refine wpL_load1S hst.st rfl rfl 1 rfl rfl rfl (by kernel_rfl) ?_) | (refine wpL_load1S hst.st rfl rfl 2 rfl rfl rfl (by kernel_rfl) ?_) | (refine wpL_load1S hst.st rfl rfl 3 rfl rfl rfl (by kernel_rfl) ?_)); refine TextQ.mk ⟨fun h => by simp at h, ?_⟩ rfl
    refine Ord.cut 1 2 rfl rfl rfl rfl (by kernel_rfl) (by kernel_rfl) ?_; simp only [List.take_succ_cons, List.take_zero, List.drop_succ_cons, List.drop_zero, List.filterMap_cons, List.filterMap_nil, List.getElem?_cons_succ, List.getElem?_cons_zero]; go_wp2_with fail; refine TextQ.mk ⟨fun h => by simp at h, ?_⟩ rfl
    refine Ord.cut 1 3 rfl rfl rfl rfl (by kernel_rfl) (by kernel_rfl) ?_; simp only [List.take_succ_cons, List.take_zero, List.drop_succ_cons, List.drop_zero, List.filterMap_cons, List.filterMap_nil, List.getElem?_cons_succ, List.getElem?_cons_zero]; (try refine wpL_peel rfl rfl ?_); (first | (refine wpL_loadAtS hst.st rfl (ty := 84) rfl 0 rfl rfl (by kernel_rfl) 3 (by kernel_rfl) [_, _, _] rfl rfl ?_) | (refine wpL_loadAtS hst.st rfl (ty := 84) rfl 1 rfl rfl (by kernel_rfl) 3 (by kernel_rfl) [_, _, _] rfl rfl ?_) | (refine wpL_loadAtS hst.st rfl (ty := 84) rfl 2 rfl rfl (by kernel_rfl) 3 (by kernel_rfl) [_, _, _] rfl rfl ?_) | (refine wpL_loadAtS hst.st rfl (ty := 84) rfl 3 rfl rfl (by kernel_rfl) 3 (by kernel_rfl) [_, _, _] rfl rfl ?_) | (refine wpL_load1S hst.st rfl rfl 0 rfl rfl rfl (by kernel_rfl) ?_) | (refine wpL_load1S hst.st rfl rfl 1 rfl rfl rfl (by kernel_rfl) ?_) | (refine wpL_load1S hst.st rfl rfl 2 rfl rfl rfl (by kernel_rfl) ?_) | (refine wpL_load1S hst.st rfl rfl 3 rfl rfl rfl (by kernel_rfl) ?_)); refine TextQ.mk ⟨fun h => by simp at h, ?_⟩ rfl
    refine Ord.cut 1 4 rfl rfl rfl rfl (by kernel_rfl) (by kernel_rfl) ?_; simp only [List.take_succ_cons, List.take_zero, List.drop_succ_cons, List.drop_zero, List.filterMap_cons, List.filterMap_nil, List.getElem?_cons_succ, List.getElem?_cons_zero]
    go_wp2_with (go_at_call 114; (with_reducible refine (SZ2.out _).mono ?_); rintro e1 w1 ⟨rfl, ho1⟩)
    refine TextQ.mk ⟨fun _ => ho1, ?_⟩ rfl
    replace hst := hst.keep ho1
    clear ho1
    refine Ord.cut 2 6 rfl rfl rfl rfl (by kernel_rfl) (by kernel_rfl) ?_; simp only [List.take_succ_cons, List.take_zero, List.drop_succ_cons, List.drop_zero, List.filterMap_cons, List.filterMap_nil, List.getElem?_cons_succ, List.getElem?_cons_zero]; go_wp2_with fail; refine TextQ.mk ⟨fun h => by simp at h, ?_⟩ rfl
    refine Ord.cut 1 7 rfl rfl rfl rfl (by kernel_rfl) (by kernel_rfl) ?_; simp only [List.take_succ_cons, List.take_zero, List.drop_succ_cons, List.drop_zero, List.filterMap_cons, List.filterMap_nil, List.getElem?_cons_succ, List.getElem?_cons_zero]; go_wp2_with fail; refine TextQ.mk ⟨fun h => by simp at h, ?_⟩ rfl
    refine Ord.done ?_
    go_wp2_with fail
    go_ret
    exact ⟨(by rw [EZ.out]; rfl), hst.only⟩
  · have EZ := Lib.hid (HZ2.out c7)
    have d7 : decide (4096 < 2 + r + 2 * (c * p)) = false := decide_eq_false c7
    generalize c * p = q at *
    clear HZ1 HZ2 c7
    go_enter Try.func53, Try.ntmps53
    go_wp2_with (first | ((with_reducible refine wpL_isBoxD rfl ?_); refine wpL_boxD hst rfl 84 rfl rfl ?_; clear hst; intro w1 bl hbl hst) | ((with_reducible refine wpL_skipS rfl ?_ ?_); focus (go_simp; done)) | ((with_reducible refine wpL_peel rfl ?_ ?_); focus (go_simp; done)) | (go_at_call 105; (with_reducible refine (PE.out _).mono ?_); rintro e1 w1 ⟨rfl, ho1⟩; replace hst := hst.keep ho1; clear ho1) | ((with_reducible refine wpL_peel rfl ?_ ?_); focus (go_simp; done)) | ((with_reducible refine wpL_isLoad rfl ?_); first | (refine wpL_load1S hst.st rfl rfl 0 rfl rfl rfl (by kernel_rfl) ?_)))
    replace hst := hst.drew
    refine wp_region_ord [4] [0, 1, 2, 3, 4, 5, 6, 7] (by kernel_rfl) (by kernel_rfl) ?_
    generalize World.drew _ = W at *
    refine Ord.cut 1 0 rfl rfl rfl rfl (by kernel_rfl) (by kernel_rfl) ?_; simp only [List.take_succ_cons, List.take_zero, List.drop_succ_cons, List.drop_zero, List.filterMap_cons, List.filterMap_nil, List.getElem?_cons_zero]; go_wp2_with fail; refine TextQ.mk ⟨fun h => by simp at h, ?_⟩ rfl
    refine Ord.cut 1 1 rfl rfl rfl rfl (by kernel_rfl) (by kernel_rfl) ?_; simp only [List.take_succ_cons, List.take_zero, List.drop_succ_cons, List.drop_zero, List.filterMap_cons, List.filterMap_nil, List.getElem?_cons_succ, List.getElem?_cons_zero]; (try refine wpL_peel rfl rfl ?_); (first | (refine wpL_load1S hst.st rfl rfl 0 rfl rfl rfl (by kernel_rfl) ?_) | (refine wpL_load1S hst.st rfl rfl 1 rfl rfl rfl (by kernel_rfl) ?_) | (refine wpL_load1S hst.st rfl rfl 2 rfl rfl rfl (by kernel_rfl) ?_) | (refine wpL_load1S hst.st rfl rfl 3 rfl rfl rfl (by kernel_rfl) ?_)); refine TextQ.mk ⟨fun h => by simp at h, ?_⟩ rfl
    refine Ord.cut 1 2 rfl rfl rfl rfl (by kernel_rfl) (by kernel_rfl) ?_; simp only [List.take_succ_cons, List.take_zero, List.drop_succ_cons, List.drop_zero, List.filterMap_cons, List.filterMap_nil, List.getElem?_cons_succ, List.getElem?_cons_zero]; go_wp2_with fail; refine TextQ.mk ⟨fun h => by simp at h, ?_⟩ rfl
    refine Ord.cut 1 3 rfl rfl rfl rfl (by kernel_rfl) (by kernel_rfl) ?_; simp only [List.take_succ_cons, List.take_zero, List.drop_succ_cons, List.drop_zero, List.filterMap_cons, List.filterMap_nil, List.getElem?_cons_succ, List.getElem?_cons_zero]; (try refine wpL_peel rfl rfl ?_); (first | (refine wpL_loadAtS hst.st rfl (ty := 84) rfl 0 rfl rfl (by kernel_rfl) 3 (by kernel_rfl) [_, _, _] rfl rfl ?_) | (refine wpL_loadAtS hst.st rfl (ty := 84) rfl 1 rfl rfl (by kernel_rfl) 3 (by kernel_rfl) [_, _, _] rfl rfl ?_) | (refine wpL_loadAtS hst.st rfl (ty := 84) rfl 2 rfl rfl (by kernel_rfl) 3 (by kernel_rfl) [_, _, _] rfl rfl ?_) | (refine wpL_loadAtS hst.st rfl (ty := 84) rfl 3 rfl rfl (by kernel_rfl) 3 (by kernel_rfl) [_, _, _] rfl rfl ?_) | (refine wpL_load1S hst.st rfl rfl 0 rfl rfl rfl (by kernel_rfl) ?_) | (refine wpL_load1S hst.st rfl rfl 1 rfl rfl rfl (by kernel_rfl) ?_) | (refine wpL_load1S hst.st rfl rfl 2 rfl rfl rfl (by kernel_rfl) ?_) | (refine wpL_load1S hst.st rfl rfl 3 rfl rfl rfl (by kernel_rfl) ?_)); refine TextQ.mk ⟨fun h => by simp at h, ?_⟩ rfl
    refine Ord.cut 1 4 rfl rfl rfl rfl (by kernel_rfl) (by kernel_rfl) ?_; simp only [List.take_succ_cons, List.take_zero, List.drop_succ_cons, List.drop_zero, List.filterMap_cons, List.filterMap_nil, List.getElem?_cons_succ, List.getElem?_cons_zero]
    go_wp2_with (go_at_call 114; (with_reducible refine (SZ2.out _).mono ?_); rintro e1 w1 ⟨rfl, ho1⟩)
    refine TextQ.mk ⟨fun _ => ho1, ?_⟩ rfl
    replace hst := hst.keep ho1
    clear ho1
    refine Ord.cut 2 6 rfl rfl rfl rfl (by kernel_rfl) (by kernel_rfl) ?_; simp only [List.take_succ_cons, List.take_zero, List.drop_succ_cons, List.drop_zero, List.filterMap_cons, List.filterMap_nil, List.getElem?_cons_succ, List.getElem?_cons_zero]; go_wp2_with fail; refine TextQ.mk ⟨fun h => by simp at h, ?_⟩ rfl
    refine Ord.cut 1 7 rfl rfl rfl rfl (by kernel_rfl) (by kernel_rfl) ?_; simp only [List.take_succ_cons, List.take_zero, List.drop_succ_cons, List.drop_zero, List.filterMap_cons, List.filterMap_nil, List.getElem?_cons_succ, List.getElem?_cons_zero]; go_wp2_with fail; refine TextQ.mk ⟨fun h => by simp at h, ?_⟩ rfl
    refine Ord.done ?_
    go_wp2_with fail
    go_ret
    exact ⟨(by rw [EZ.out]; rfl), hst.only⟩
end Go.Proofs.Ytmogkiacakkmbaa

namespace Go.Proofs.Ytmogkiacakkmbaa
open Go.RowKit

/-- A layout that can be. -/
structure GoodL (R Z C : Nat) : Prop where
  r1 : 4 ≤ R
  r2 : R ≤ 128
  r3 : R % 2 = 0
  z1 : 1 ≤ Z
  z2 : Z ≤ 256
  c1 : 1 ≤ C
  c2 : C ≤ 64
  few : 2 + R + 2 * (C * secsOf Z) ≤ 4096
def needN (R Z C : Nat) : Nat := 2 + R + 2 * (C * secsOf Z)
theorem GoodL.need {R Z C : Nat} (h : GoodL R Z C) : needM R Z C = (needN R Z C : Int) := by
  obtain ⟨r1, r2, r3, z1, z2, c1, c2, few⟩ := h
  have hp := perM_nat Z z1 z2
  have h2 := secsOf_two Z
  have e : (C : Int) * (secsOf Z : Int) = ((C * secsOf Z : Nat) : Int) := (Int.natCast_mul _ _).symm
  unfold needM needN
  rw [hp, e, if_neg (by omega), if_neg (by omega)]
  omega
theorem GoodL.pos (R Z C : Nat) : 2 + R ≤ needN R Z C := by unfold needN; omega

def numsB (R Z C : Nat) : List UInt8 := num4 (R : Int) ++ (num4 (Z : Int) ++ num4 (C : Int))
def superB (R Z C : Nat) : ByteArray := ⟨(numsB R Z C).toArray⟩
theorem superB_size (R Z C : Nat) : (superB R Z C).size = 12 := rfl

theorem penNums3T (b : Nat) (bad : Bool) (l : List UInt8) (F : List Nat) (g : Nat) (x y z : Int) (w : World) (h : PenAt w b bad l F) (hg : Blk w g [.int .i64 x, .int .i64 y, .int .i64 z] 3) (hgF : g ∉ F) (hl : l.length ≤ 1000000000) :
    Calls Try.prog 90 #[.pointer (some ⟨b, 0, none⟩), .slice (some ⟨g, 0, none⟩) 3 3] w fun e w' => ∃ F', e = .returned (.tuple #[]) ∧ PenAt w' b (bad || (!told x || (!told y || !told z))) (l ++ (num4 x ++ (num4 y ++ num4 z))) F' ∧ Turn F F' w w' := by
  obtain ⟨v, hb, rfl⟩ := h
  simp only [List.mem_cons, Option.mem_toList, not_or] at hgF
  refine (penNum_any b bad v l (.slice (some ⟨g, 0, none⟩) 3 3) [x, y, z] w hb (Ints.of_blk (xs := [x, y, z]) hg 3 (Nat.le_refl 3)) (fun a k c e => ?_) (by simp) hl).mono ?_
  · simp only [Value.slice.injEq, Option.some.injEq] at e
    obtain ⟨rfl, _, _⟩ := e
    exact ⟨hgF.1, hgF.2⟩
  · rintro e w' ⟨rfl, v', hb', hw⟩
    refine ⟨_, rfl, ⟨v', ?_, rfl⟩, hw.turn⟩
    simpa using hb'

set_option maxRecDepth 100000 in
set_option maxHeartbeats 4000000 in
theorem layText_yes (R Z C : Nat) (w : World) (h1 : R ≤ 4096) (h2 : Z ≤ 4096) (h3 : C ≤ 4096) : Calls Try.prog 117 #[.agg #[.int .i64 (R : Int), .int .i64 (Z : Int), .int .i64 (C : Int)]] w fun e w' => e = .returned (.string (superB R Z C)) ∧ Only [] w w' := by
  have hst := Sd.start w []
  have t1 : told (R : Int) = true := by unfold told; simp; omega
  have t2 : told (Z : Int) = true := by unfold told; simp; omega
  have t3 : told (C : Int) = true := by unfold told; simp; omega
  have NN : Hid (∀ b F g w, PenAt w b false [] F → Blk w g [.int .i64 (R : Int), .int .i64 (Z : Int), .int .i64 (C : Int)] 3 → g ∉ F → Calls Try.prog 90 #[.pointer (some ⟨b, 0, none⟩), .slice (some ⟨g, 0, none⟩) 3 3] w fun e w' => ∃ F', e = .returned (.tuple #[]) ∧ PenAt w' b false (numsB R Z C) F' ∧ Turn F F' w w') := fun b F g w h1 h2 h3 => by
    refine (penNums3T b false [] F g _ _ _ w h1 h2 h3 (by simp)).mono ?_
    rintro e w' ⟨F', k1, k2, k3⟩
    refine ⟨F', k1, ?_, k3⟩
    rw [t1, t2, t3, List.nil_append] at k2
    exact k2
  have BS : Hid (∀ b F w, PenFr w b false (numsB R Z C) F → Calls Try.prog 91 #[.pointer (some ⟨b, 0, none⟩)] w fun e w' => e = .returned (.string (superB R Z C)) ∧ PenFr w' b false (numsB R Z C) F ∧ Turn F F w w') := fun b F w h => penBytesT b false _ F w h
  generalize superB R Z C = sb at *
  generalize numsB R Z C = l1 at *
  clear h1 h2 h3 t1 t2 t3
  go_enter Try.func117, Try.ntmps117
  go_wp2_with (first
    | ((with_reducible refine wpL_isBoxD rfl ?_); refine wpL_boxD hst rfl 84 rfl rfl ?_; clear hst; intro w1 bl hbl hst) | ((with_reducible refine wpL_peel rfl ?_ ?_); focus (go_simp; done))
    | ((with_reducible refine wpL_isAlloc rfl ?_); refine wpL_allocPen hst rfl rfl (by kernel_rfl) 3 rfl ?_; clear hst; intro w1 b hb hst)
    | ((with_reducible refine wpL_peel rfl ?_ ?_); focus (go_simp; done)) | ((with_reducible refine wpL_isLoad rfl ?_); first | (refine wpL_load1S hst.st rfl rfl 0 rfl rfl rfl (by kernel_rfl) ?_) | (refine wpL_load1S hst.st rfl rfl 1 rfl rfl rfl (by kernel_rfl) ?_))
    | ((with_reducible refine wpL_isSliceT rfl ?_); refine wpL_sliceD hst rfl 63 3 _ rfl Try.underlying63 intInfoT (by decide) (by decide) [.int .i64 (R : Int), .int .i64 (Z : Int), .int .i64 (C : Int)] rfl rfl (by simp [Value.cells]) ?_; clear hst; intro w1 g hg hst)
    | (go_at_call 90; (with_reducible refine (NN.out _ _ _ _ (hst.rs 0 rfl) (hst.blk 0 rfl) (hst.away 0 0 rfl rfl)).mono ?_); rintro e1 w1 ⟨F1, rfl, hd1, ht1⟩; replace hst := hst.act 0 rfl (penF b false l1 F1) rfl ht1 hd1.fr; simp only [List.set] at hst; clear ht1 hd1)
    | (go_at_call 91; (with_reducible refine (BS.out _ _ _ (hst.rs 0 rfl)).mono ?_); rintro e1 w1 ⟨rfl, hd3, ht3⟩; replace hst := hst.act 0 rfl (penF b false l1 F1) rfl ht3 hd3; simp only [List.set] at hst; clear ht3 hd3))
  go_ret
  exact ⟨rfl, hst.only⟩

theorem eyeNum_num (n : Nat) (hn : n ≤ 4096) (r : List UInt8) : eyeNum 4096 ⟨(num4 (n : Int) ++ r).toArray⟩ false = ((n : Int), ⟨r.toArray⟩, false) := by
  have ht : told (n : Int) = true := by unfold told; simp; omega
  have hs : 4 ≤ (⟨(num4 (n : Int) ++ r).toArray⟩ : ByteArray).size := by
    rw [← bl_length, bl_mk, List.length_append, num4_lenT]
    omega
  have he : bl ((⟨(num4 (n : Int) ++ r).toArray⟩ : ByteArray).extract 0 4) = num4 (n : Int) := by
    rw [bl_extract, bl_mk, List.drop_zero]
    exact List.take_left' (num4_lenT _)
  have hl : (leNat (num4 (n : Int)) : Int) = (n : Int) := by
    rw [num4_told ht, leNat_le4 _ (by omega)]
    omega
  rw [eyeNum_ok 4096 _ hs (by rw [he, hl]; omega), he, hl]
  refine Prod.ext rfl (Prod.ext ?_ rfl)
  apply bl_ext
  rw [bl_extract, bl_mk, bl_mk]
  have hsz : (⟨(num4 (n : Int) ++ r).toArray⟩ : ByteArray).size = 4 + r.length := by rw [← bl_length, bl_mk, List.length_append, num4_lenT]
  rw [hsz, List.take_of_length_le (by rw [List.length_append, num4_lenT]; omega), List.drop_left' (num4_lenT _)]

theorem layInfo : (Try.prog.info? 84).map (·.size) = some 3 := by kernel_rfl
set_option maxRecDepth 100000 in
set_option maxHeartbeats 8000000 in
theorem storeParse_yes (R Z C : Nat) (w : World) (h : GoodL R Z C) : Calls Try.prog 120 #[.string (superB R Z C)] w fun e w' => e = .returned (.tuple #[.agg #[.int .i64 (R : Int), .int .i64 (Z : Int), .int .i64 (C : Int)], .bool true]) ∧ Only [] w w' := by
  have hst := Sd.start w []
  have hR := h.r2
  have hZ := h.z2
  have hC := h.c2
  have OF : Hid (∀ w, Calls Try.prog 85 #[.string (superB R Z C)] w fun e w' => ∃ E, e = .returned (.pointer (some ⟨E, 0, none⟩)) ∧ w.heap.size ≤ E ∧ Blk w' E [.string ⟨(num4 (R : Int) ++ (num4 (Z : Int) ++ num4 (C : Int))).toArray⟩, .bool false] 190 ∧ Only [] w w') := fun w => by
    refine (penOf_any (superB R Z C) w).mono ?_
    rintro e w' ⟨rfl, h1, h2⟩
    exact ⟨_, rfl, Nat.le_refl _, h1, h2⟩
  have N1 : Hid (∀ E w, Blk w E [.string ⟨(num4 (R : Int) ++ (num4 (Z : Int) ++ num4 (C : Int))).toArray⟩, .bool false] 190 → Calls Try.prog 86 #[.pointer (some ⟨E, 0, none⟩), .int .i64 4096] w fun e w' => e = .returned (.int .i64 (R : Int)) ∧ Blk w' E [.string ⟨(num4 (Z : Int) ++ num4 (C : Int)).toArray⟩, .bool false] 190 ∧ Only [E] w w') := fun E w hb => by
    have := penEyeNum_any E _ false 4096 w hb
    rw [eyeNum_num R (by omega)] at this
    exact this
  have N2 : Hid (∀ E w, Blk w E [.string ⟨(num4 (Z : Int) ++ num4 (C : Int)).toArray⟩, .bool false] 190 → Calls Try.prog 86 #[.pointer (some ⟨E, 0, none⟩), .int .i64 4096] w fun e w' => e = .returned (.int .i64 (Z : Int)) ∧ Blk w' E [.string ⟨(num4 (C : Int)).toArray⟩, .bool false] 190 ∧ Only [E] w w') := fun E w hb => by
    have := penEyeNum_any E _ false 4096 w hb
    rw [eyeNum_num Z (by omega)] at this
    exact this
  have N3 : Hid (∀ E w, Blk w E [.string ⟨(num4 (C : Int)).toArray⟩, .bool false] 190 → Calls Try.prog 86 #[.pointer (some ⟨E, 0, none⟩), .int .i64 4096] w fun e w' => e = .returned (.int .i64 (C : Int)) ∧ Blk w' E [.string ⟨#[]⟩, .bool false] 190 ∧ Only [E] w w') := fun E w hb => by
    have := penEyeNum_any E _ false 4096 w hb
    have e := eyeNum_num C (by omega) []
    rw [List.append_nil] at e
    rw [e] at this
    exact this
  have EN : Hid (∀ E w, Blk w E [.string ⟨#[]⟩, .bool false] 190 → Calls Try.prog 149 #[.pointer (some ⟨E, 0, none⟩)] w fun e w' => e = .returned (.int .i64 0) ∧ w = w') := fun E w hb => penEnd_any E ⟨#[]⟩ false w hb
  have ND : Hid (∀ w, Calls Try.prog 53 #[.agg #[.int .i64 (R : Int), .int .i64 (Z : Int), .int .i64 (C : Int)]] w fun e w' => e = .returned (.int .i64 (needN R Z C : Int)) ∧ Only [] w w') := fun w => by
    have := storeNeed_any R Z C w
    rw [h.need] at this
    exact this
  have hpos := GoodL.pos R Z C
  have hr1 := h.r1
  generalize (⟨(num4 (R : Int) ++ (num4 (Z : Int) ++ num4 (C : Int))).toArray⟩ : ByteArray) = s0 at *
  generalize (⟨(num4 (Z : Int) ++ num4 (C : Int)).toArray⟩ : ByteArray) = s1 at *
  generalize (⟨(num4 (C : Int)).toArray⟩ : ByteArray) = s2 at *
  generalize superB R Z C = sb at *
  generalize needN R Z C = nd at *
  have hnd : decide (0 < nd) = true := decide_eq_true (by omega)
  clear h hR hZ hC hpos hr1
  go_enter Try.func120, Try.ntmps120
  go_wp2_with (first
    | ((with_reducible refine wpL_peel rfl ?_ ?_); focus (go_simp; done))
    | ((with_reducible refine wpL_isAlloc rfl ?_); refine wpL_allocD hst rfl 84 rfl (.agg #[.int .i64 0, .int .i64 0, .int .i64 0]) [.int .i64 0, .int .i64 0, .int .i64 0] (by kernel_rfl) rfl _ rfl ?_; clear hst; intro w1 b1 hb1 hst)
    | (go_at_call 85; (with_reducible refine (OF.out _).mono ?_); rintro e1 w1 ⟨E, rfl, hg1, hb1, ho1⟩; replace hst := hst.new ho1 hb1 hg1; clear ho1 hb1 hg1)
    | (go_at_call 86; (with_reducible refine (N1.out _ _ (hst.blk 0 rfl)).mono ?_); rintro e1 w1 ⟨rfl, hb1, ho1⟩; replace hst := hst.chg 0 rfl ho1 hb1; simp only [List.set] at hst; clear ho1 hb1)
    | (go_at_call 86; (with_reducible refine (N1.out _ _ (hst.blk 1 rfl)).mono ?_); rintro e1 w1 ⟨rfl, hb1, ho1⟩; replace hst := hst.chg 1 rfl ho1 hb1; simp only [List.set] at hst; clear ho1 hb1)
    | (go_at_call 86; (with_reducible refine (N2.out _ _ (hst.blk 1 rfl)).mono ?_); rintro e1 w1 ⟨rfl, hb1, ho1⟩; replace hst := hst.chg 1 rfl ho1 hb1; simp only [List.set] at hst; clear ho1 hb1)
    | (go_at_call 86; (with_reducible refine (N3.out _ _ (hst.blk 1 rfl)).mono ?_); rintro e1 w1 ⟨rfl, hb1, ho1⟩; replace hst := hst.chg 1 rfl ho1 hb1; simp only [List.set] at hst; clear ho1 hb1)
    | ((with_reducible refine wpL_isStore rfl ?_); refine wpL_store1D hst rfl rfl 0 rfl rfl rfl (v := .int .i64 _) rfl rfl rfl ?_; clear hst; intro w1 hst; simp only [List.set] at hst) | ((with_reducible refine wpL_peel rfl ?_ ?_); focus (go_simp; done)) | ((with_reducible refine wpL_isLoad rfl ?_); first | (refine wpL_load1S hst.st rfl rfl 0 rfl rfl rfl (by kernel_rfl) ?_) | (refine wpL_load1S hst.st rfl rfl 1 rfl rfl rfl (by kernel_rfl) ?_) | (refine wpL_load1S hst.st rfl rfl 2 rfl rfl rfl (by kernel_rfl) ?_)) | ((with_reducible refine wpL_isStore rfl ?_); first | (refine wpL_storeD hst rfl (ty := 84) rfl 0 rfl rfl rfl (by kernel_rfl) (by kernel_rfl) rfl rfl ?_; clear hst; intro w1 hst; simp only [List.set] at hst) | (refine wpL_storeD hst rfl (ty := 84) rfl 1 rfl rfl rfl (by kernel_rfl) (by kernel_rfl) rfl rfl ?_; clear hst; intro w1 hst; simp only [List.set] at hst) | (refine wpL_storeD hst rfl (ty := 84) rfl 2 rfl rfl rfl (by kernel_rfl) (by kernel_rfl) rfl rfl ?_; clear hst; intro w1 hst; simp only [List.set] at hst) | (refine wpL_store1D hst rfl rfl 0 rfl rfl rfl rfl (by kernel_rfl) rfl ?_; clear hst; intro w1 hst; simp only [List.set] at hst) | (refine wpL_store1D hst rfl rfl 1 rfl rfl rfl rfl (by kernel_rfl) rfl ?_; clear hst; intro w1 hst; simp only [List.set] at hst) | (refine wpL_store1D hst rfl rfl 2 rfl rfl rfl rfl (by kernel_rfl) rfl ?_; clear hst; intro w1 hst; simp only [List.set] at hst)))
  replace hst := hst.drew
  refine wp_region_ord [2, 6] [0, 1, 2, 3, 4, 5, 6, 7, 8, 9, 10] (by kernel_rfl) (by kernel_rfl) ?_
  generalize World.drew _ = W at *
  refine Ord.cut 1 0 rfl rfl rfl rfl (by kernel_rfl) (by kernel_rfl) ?_; simp only [List.take_succ_cons, List.take_zero, List.drop_succ_cons, List.drop_zero, List.filterMap_cons, List.filterMap_nil, List.getElem?_cons_zero]; (try refine wpL_peel rfl rfl ?_); (first | (refine wpL_loadAtS hst.st rfl (ty := 84) rfl 0 rfl rfl (by kernel_rfl) 3 (by kernel_rfl) [_, _, _] rfl rfl ?_) | (refine wpL_loadAtS hst.st rfl (ty := 84) rfl 1 rfl rfl (by kernel_rfl) 3 (by kernel_rfl) [_, _, _] rfl rfl ?_) | (refine wpL_loadAtS hst.st rfl (ty := 84) rfl 2 rfl rfl (by kernel_rfl) 3 (by kernel_rfl) [_, _, _] rfl rfl ?_) | (refine wpL_loadAtS hst.st rfl (ty := 84) rfl 3 rfl rfl (by kernel_rfl) 3 (by kernel_rfl) [_, _, _] rfl rfl ?_) | (refine wpL_load1S hst.st rfl rfl 0 rfl rfl rfl (by kernel_rfl) ?_) | (refine wpL_load1S hst.st rfl rfl 1 rfl rfl rfl (by kernel_rfl) ?_) | (refine wpL_load1S hst.st rfl rfl 2 rfl rfl rfl (by kernel_rfl) ?_) | (refine wpL_load1S hst.st rfl rfl 3 rfl rfl rfl (by kernel_rfl) ?_)); refine TextQ.mk ⟨fun h => by simp at h, ?_⟩ rfl
  refine Ord.cut 1 1 rfl rfl rfl rfl (by kernel_rfl) (by kernel_rfl) ?_; simp only [List.take_succ_cons, List.take_zero, List.drop_succ_cons, List.drop_zero, List.filterMap_cons, List.filterMap_nil, List.getElem?_cons_succ, List.getElem?_cons_zero]; go_wp2_with fail; refine TextQ.mk ⟨fun h => by simp at h, ?_⟩ rfl
  refine Ord.cut 1 2 rfl rfl rfl rfl (by kernel_rfl) (by kernel_rfl) ?_; simp only [List.take_succ_cons, List.take_zero, List.drop_succ_cons, List.drop_zero, List.filterMap_cons, List.filterMap_nil, List.getElem?_cons_succ, List.getElem?_cons_zero]
  go_wp2_with (go_at_call 149; (with_reducible refine (EN.out _ _ (hst.blk 1 rfl)).mono ?_); rintro e1 w1 ⟨rfl, rfl⟩)
  refine TextQ.mk ⟨fun _ => Only.refl _ _, ?_⟩ rfl
  refine Ord.cut 2 4 rfl rfl rfl rfl (by kernel_rfl) (by kernel_rfl) ?_; simp only [List.take_succ_cons, List.take_zero, List.drop_succ_cons, List.drop_zero, List.filterMap_cons, List.filterMap_nil, List.getElem?_cons_succ, List.getElem?_cons_zero]; go_wp2_with fail; refine TextQ.mk ⟨fun h => by simp at h, ?_⟩ rfl
  refine Ord.cut 1 5 rfl rfl rfl rfl (by kernel_rfl) (by kernel_rfl) ?_; simp only [List.take_succ_cons, List.take_zero, List.drop_succ_cons, List.drop_zero, List.filterMap_cons, List.filterMap_nil, List.getElem?_cons_succ, List.getElem?_cons_zero]; (try refine wpL_peel rfl rfl ?_); (first | (refine wpL_loadAtS hst.st rfl (ty := 84) rfl 0 rfl rfl (by kernel_rfl) 3 (by kernel_rfl) [_, _, _] rfl rfl ?_) | (refine wpL_loadAtS hst.st rfl (ty := 84) rfl 1 rfl rfl (by kernel_rfl) 3 (by kernel_rfl) [_, _, _] rfl rfl ?_) | (refine wpL_loadAtS hst.st rfl (ty := 84) rfl 2 rfl rfl (by kernel_rfl) 3 (by kernel_rfl) [_, _, _] rfl rfl ?_) | (refine wpL_loadAtS hst.st rfl (ty := 84) rfl 3 rfl rfl (by kernel_rfl) 3 (by kernel_rfl) [_, _, _] rfl rfl ?_) | (refine wpL_load1S hst.st rfl rfl 0 rfl rfl rfl (by kernel_rfl) ?_) | (refine wpL_load1S hst.st rfl rfl 1 rfl rfl rfl (by kernel_rfl) ?_) | (refine wpL_load1S hst.st rfl rfl 2 rfl rfl rfl (by kernel_rfl) ?_) | (refine wpL_load1S hst.st rfl rfl 3 rfl rfl rfl (by kernel_rfl) ?_)); refine TextQ.mk ⟨fun h => by simp at h, ?_⟩ rfl
  refine Ord.cut 1 6 rfl rfl rfl rfl (by kernel_rfl) (by kernel_rfl) ?_; simp only [List.take_succ_cons, List.take_zero, List.drop_succ_cons, List.drop_zero, List.filterMap_cons, List.filterMap_nil, List.getElem?_cons_succ, List.getElem?_cons_zero]
  (try refine wpL_peel rfl rfl ?_)
  go_wp2_with (go_at_call 53; (with_reducible refine (ND.out _).mono ?_); rintro e1 w1 ⟨rfl, ho1⟩)
  refine TextQ.mk ⟨fun _ => ho1, ?_⟩ rfl
  replace hst := hst.keep ho1
  clear ho1
  refine Ord.cut 2 8 rfl rfl rfl rfl (by kernel_rfl) (by kernel_rfl) ?_; simp only [List.take_succ_cons, List.take_zero, List.drop_succ_cons, List.drop_zero, List.filterMap_cons, List.filterMap_nil, List.getElem?_cons_succ, List.getElem?_cons_zero]; go_wp2_with fail; refine TextQ.mk ⟨fun h => by simp at h, ?_⟩ rfl
  refine Ord.cut 1 9 rfl rfl rfl rfl (by kernel_rfl) (by kernel_rfl) ?_; simp only [List.take_succ_cons, List.take_zero, List.drop_succ_cons, List.drop_zero, List.filterMap_cons, List.filterMap_nil, List.getElem?_cons_succ, List.getElem?_cons_zero]
  refine wpL_storeD hst rfl (ty := 84) rfl 2 rfl rfl rfl (by kernel_rfl) (by kernel_rfl) rfl rfl ?_
  clear hst
  intro w1 hst
  simp only [List.set] at hst
  refine TextQ.mk ⟨fun h => by simp at h, ?_⟩ rfl
  refine Ord.cut 1 10 rfl rfl rfl rfl (by kernel_rfl) (by kernel_rfl) ?_; simp only [List.take_succ_cons, List.take_zero, List.drop_succ_cons, List.drop_zero, List.filterMap_cons, List.filterMap_nil, List.getElem?_cons_succ, List.getElem?_cons_zero]; go_wp2_with fail; refine TextQ.mk ⟨fun h => by simp at h, ?_⟩ rfl
  refine Ord.done ?_
  go_wp2_with fail
  refine end_row_tmp2 (ty := 84) Try.results120 rfl (hst.blk 2 rfl) Try.underlying84 rfl layInfo rfl rfl rfl ⟨rfl, hst.only⟩

set_option maxRecDepth 100000 in
set_option maxHeartbeats 8000000 in
theorem storeParse_no (w : World) : Calls Try.prog 120 #[.string ⟨#[]⟩] w fun e w' => e = .returned (.tuple #[.agg #[.int .i64 0, .int .i64 0, .int .i64 0], .bool false]) ∧ Only [] w w' := by
  have hst := Sd.start w []
  have OF : Hid (∀ w, Calls Try.prog 85 #[.string ⟨#[]⟩] w fun e w' => ∃ E, e = .returned (.pointer (some ⟨E, 0, none⟩)) ∧ w.heap.size ≤ E ∧ Blk w' E [.string ⟨#[]⟩, .bool false] 190 ∧ Only [] w w') := fun w => by
    refine (penOf_any ⟨#[]⟩ w).mono ?_
    rintro e w' ⟨rfl, h1, h2⟩
    exact ⟨_, rfl, Nat.le_refl _, h1, h2⟩
  have N1 : Hid (∀ E w, Blk w E [.string ⟨#[]⟩, .bool false] 190 → Calls Try.prog 86 #[.pointer (some ⟨E, 0, none⟩), .int .i64 4096] w fun e w' => e = .returned (.int .i64 0) ∧ Blk w' E [.string ⟨#[]⟩, .bool true] 190 ∧ Only [E] w w') := fun E w hb => by
    have := penEyeNum_any E _ false 4096 w hb
    rw [eyeNum_bad 4096 ⟨#[]⟩ false (.inr (by decide))] at this
    exact this
  have N2 : Hid (∀ E w, Blk w E [.string ⟨#[]⟩, .bool true] 190 → Calls Try.prog 86 #[.pointer (some ⟨E, 0, none⟩), .int .i64 4096] w fun e w' => e = .returned (.int .i64 0) ∧ Blk w' E [.string ⟨#[]⟩, .bool true] 190 ∧ Only [E] w w') := fun E w hb => by
    have := penEyeNum_any E _ true 4096 w hb
    rw [eyeNum_bad 4096 ⟨#[]⟩ true (.inl rfl)] at this
    exact this
  have EN : Hid (∀ E w, Blk w E [.string ⟨#[]⟩, .bool true] 190 → Calls Try.prog 149 #[.pointer (some ⟨E, 0, none⟩)] w fun e w' => e = .returned (.int .i64 5) ∧ w = w') := fun E w hb => penEnd_any E ⟨#[]⟩ true w hb
  go_enter Try.func120, Try.ntmps120
  go_wp2_with (first
    | ((with_reducible refine wpL_peel rfl ?_ ?_); focus (go_simp; done))
    | ((with_reducible refine wpL_isAlloc rfl ?_); refine wpL_allocD hst rfl 84 rfl (.agg #[.int .i64 0, .int .i64 0, .int .i64 0]) [.int .i64 0, .int .i64 0, .int .i64 0] (by kernel_rfl) rfl _ rfl ?_; clear hst; intro w1 b1 hb1 hst)
    | (go_at_call 85; (with_reducible refine (OF.out _).mono ?_); rintro e1 w1 ⟨E, rfl, hg1, hb1, ho1⟩; replace hst := hst.new ho1 hb1 hg1; clear ho1 hb1 hg1)
    | (go_at_call 86; (with_reducible refine (N1.out _ _ (hst.blk 0 rfl)).mono ?_); rintro e1 w1 ⟨rfl, hb1, ho1⟩; replace hst := hst.chg 0 rfl ho1 hb1; simp only [List.set] at hst; clear ho1 hb1)
    | (go_at_call 86; (with_reducible refine (N1.out _ _ (hst.blk 1 rfl)).mono ?_); rintro e1 w1 ⟨rfl, hb1, ho1⟩; replace hst := hst.chg 1 rfl ho1 hb1; simp only [List.set] at hst; clear ho1 hb1)
    | (go_at_call 86; (with_reducible refine (N2.out _ _ (hst.blk 1 rfl)).mono ?_); rintro e1 w1 ⟨rfl, hb1, ho1⟩; replace hst := hst.chg 1 rfl ho1 hb1; simp only [List.set] at hst; clear ho1 hb1)
    | ((with_reducible refine wpL_isStore rfl ?_); refine wpL_store1D hst rfl rfl 0 rfl rfl rfl (v := .int .i64 _) rfl rfl rfl ?_; clear hst; intro w1 hst; simp only [List.set] at hst) | ((with_reducible refine wpL_peel rfl ?_ ?_); focus (go_simp; done)) | ((with_reducible refine wpL_isLoad rfl ?_); first | (refine wpL_load1S hst.st rfl rfl 0 rfl rfl rfl (by kernel_rfl) ?_) | (refine wpL_load1S hst.st rfl rfl 1 rfl rfl rfl (by kernel_rfl) ?_) | (refine wpL_load1S hst.st rfl rfl 2 rfl rfl rfl (by kernel_rfl) ?_)) | ((with_reducible refine wpL_isStore rfl ?_); first | (refine wpL_storeD hst rfl (ty := 84) rfl 0 rfl rfl rfl (by kernel_rfl) (by kernel_rfl) rfl rfl ?_; clear hst; intro w1 hst; simp only [List.set] at hst) | (refine wpL_storeD hst rfl (ty := 84) rfl 1 rfl rfl rfl (by kernel_rfl) (by kernel_rfl) rfl rfl ?_; clear hst; intro w1 hst; simp only [List.set] at hst) | (refine wpL_storeD hst rfl (ty := 84) rfl 2 rfl rfl rfl (by kernel_rfl) (by kernel_rfl) rfl rfl ?_; clear hst; intro w1 hst; simp only [List.set] at hst) | (refine wpL_store1D hst rfl rfl 0 rfl rfl rfl rfl (by kernel_rfl) rfl ?_; clear hst; intro w1 hst; simp only [List.set] at hst) | (refine wpL_store1D hst rfl rfl 1 rfl rfl rfl rfl (by kernel_rfl) rfl ?_; clear hst; intro w1 hst; simp only [List.set] at hst) | (refine wpL_store1D hst rfl rfl 2 rfl rfl rfl rfl (by kernel_rfl) rfl ?_; clear hst; intro w1 hst; simp only [List.set] at hst)))
  replace hst := hst.drew
  refine wp_region_ord [2, 6] [0, 1, 2, 3, 4, 5, 6, 7, 8, 9, 10] (by kernel_rfl) (by kernel_rfl) ?_
  generalize World.drew _ = W at *
  refine Ord.cut 1 0 rfl rfl rfl rfl (by kernel_rfl) (by kernel_rfl) ?_; simp only [List.take_succ_cons, List.take_zero, List.drop_succ_cons, List.drop_zero, List.filterMap_cons, List.filterMap_nil, List.getElem?_cons_zero]; (try refine wpL_peel rfl rfl ?_); (first | (refine wpL_loadAtS hst.st rfl (ty := 84) rfl 0 rfl rfl (by kernel_rfl) 3 (by kernel_rfl) [_, _, _] rfl rfl ?_) | (refine wpL_loadAtS hst.st rfl (ty := 84) rfl 1 rfl rfl (by kernel_rfl) 3 (by kernel_rfl) [_, _, _] rfl rfl ?_) | (refine wpL_loadAtS hst.st rfl (ty := 84) rfl 2 rfl rfl (by kernel_rfl) 3 (by kernel_rfl) [_, _, _] rfl rfl ?_) | (refine wpL_loadAtS hst.st rfl (ty := 84) rfl 3 rfl rfl (by kernel_rfl) 3 (by kernel_rfl) [_, _, _] rfl rfl ?_) | (refine wpL_load1S hst.st rfl rfl 0 rfl rfl rfl (by kernel_rfl) ?_) | (refine wpL_load1S hst.st rfl rfl 1 rfl rfl rfl (by kernel_rfl) ?_) | (refine wpL_load1S hst.st rfl rfl 2 rfl rfl rfl (by kernel_rfl) ?_) | (refine wpL_load1S hst.st rfl rfl 3 rfl rfl rfl (by kernel_rfl) ?_)); refine TextQ.mk ⟨fun h => by simp at h, ?_⟩ rfl
  refine Ord.cut 1 1 rfl rfl rfl rfl (by kernel_rfl) (by kernel_rfl) ?_; simp only [List.take_succ_cons, List.take_zero, List.drop_succ_cons, List.drop_zero, List.filterMap_cons, List.filterMap_nil, List.getElem?_cons_succ, List.getElem?_cons_zero]; go_wp2_with fail; refine TextQ.mk ⟨fun h => by simp at h, ?_⟩ rfl
  refine Ord.cut 1 2 rfl rfl rfl rfl (by kernel_rfl) (by kernel_rfl) ?_; simp only [List.take_succ_cons, List.take_zero, List.drop_succ_cons, List.drop_zero, List.filterMap_cons, List.filterMap_nil, List.getElem?_cons_succ, List.getElem?_cons_zero]
  go_wp2_with (go_at_call 149; (with_reducible refine (EN.out _ _ (hst.blk 1 rfl)).mono ?_); rintro e1 w1 ⟨rfl, rfl⟩)
  refine TextQ.mk ⟨fun _ => Only.refl _ _, ?_⟩ rfl
  refine Ord.cut 2 4 rfl rfl rfl rfl (by kernel_rfl) (by kernel_rfl) ?_; simp only [List.take_succ_cons, List.take_zero, List.drop_succ_cons, List.drop_zero, List.filterMap_cons, List.filterMap_nil, List.getElem?_cons_succ, List.getElem?_cons_zero]; go_wp2_with fail; refine TextQ.mk ⟨fun h => by simp at h, ?_⟩ rfl
  refine Ord.cut 1 5 rfl rfl rfl rfl (by kernel_rfl) (by kernel_rfl) ?_; simp only [List.take_succ_cons, List.take_zero, List.drop_succ_cons, List.drop_zero, List.filterMap_cons, List.filterMap_nil, List.getElem?_cons_succ, List.getElem?_cons_zero]
  go_wp2_with (first | ((with_reducible refine wpL_skipS rfl ?_ ?_); focus (go_simp; done)))
  refine TextQ.mk ⟨fun h => by simp at h, ?_⟩ rfl
  refine Ord.cut 1 6 rfl rfl rfl rfl (by kernel_rfl) (by kernel_rfl) ?_; simp only [List.take_succ_cons, List.take_zero, List.drop_succ_cons, List.drop_zero, List.filterMap_cons, List.filterMap_nil, List.getElem?_cons_succ, List.getElem?_cons_zero]
  go_wp2_with (first | ((with_reducible refine wpL_skipS rfl ?_ ?_); focus (go_simp; done)))
  refine TextQ.mk ⟨fun _ => Only.refl _ _, ?_⟩ rfl
  refine Ord.cut 1 7 rfl rfl rfl rfl (by kernel_rfl) (by kernel_rfl) ?_; simp only [List.take_succ_cons, List.take_zero, List.drop_succ_cons, List.drop_zero, List.filterMap_cons, List.filterMap_nil, List.getElem?_cons_succ, List.getElem?_cons_zero]
  go_wp2_with (first | ((with_reducible refine wpL_skipS rfl ?_ ?_); focus (go_simp; done)))
  refine TextQ.mk ⟨fun h => by simp at h, ?_⟩ rfl
  refine Ord.cut 1 8 rfl rfl rfl rfl (by kernel_rfl) (by kernel_rfl) ?_; simp only [List.take_succ_cons, List.take_zero, List.drop_succ_cons, List.drop_zero, List.filterMap_cons, List.filterMap_nil, List.getElem?_cons_succ, List.getElem?_cons_zero]; go_wp2_with fail; refine TextQ.mk ⟨fun h => by simp at h, ?_⟩ rfl
  refine Ord.cut 1 9 rfl rfl rfl rfl (by kernel_rfl) (by kernel_rfl) ?_; simp only [List.take_succ_cons, List.take_zero, List.drop_succ_cons, List.drop_zero, List.filterMap_cons, List.filterMap_nil, List.getElem?_cons_succ, List.getElem?_cons_zero]
  refine wpL_storeD hst rfl (ty := 84) rfl 2 rfl rfl rfl (by kernel_rfl) (by kernel_rfl) rfl rfl ?_
  clear hst
  intro w1 hst
  simp only [List.set] at hst
  refine TextQ.mk ⟨fun h => by simp at h, ?_⟩ rfl
  refine Ord.cut 1 10 rfl rfl rfl rfl (by kernel_rfl) (by kernel_rfl) ?_; simp only [List.take_succ_cons, List.take_zero, List.drop_succ_cons, List.drop_zero, List.filterMap_cons, List.filterMap_nil, List.getElem?_cons_succ, List.getElem?_cons_zero]; go_wp2_with fail; refine TextQ.mk ⟨fun h => by simp at h, ?_⟩ rfl
  refine Ord.done ?_
  go_wp2_with fail
  refine end_row_tmp2 (ty := 84) Try.results120 rfl (hst.blk 2 rfl) Try.underlying84 rfl layInfo rfl rfl rfl ⟨rfl, hst.only⟩

set_option maxRecDepth 100000 in
set_option maxHeartbeats 8000000 in
/-- Whether a text has a place in a record's copy. -/
theorem layIsText_any (R : Nat) (zv cv : Int) (s : ByteArray) (w : World) (hR : R ≤ 4096) :
    Calls Try.prog 115 #[.agg #[.int .i64 (R : Int), .int .i64 zv, .int .i64 cv], .string s] w fun e w' => e = .returned (.bool (fits (R / 2) s)) ∧ Only [] w w' := by
  have hst := Sd.start w []
  have hR' : (R : Int) ≤ 4096 := by omega
  by_cases c1 : s.size ≤ 1024
  · have c1' : (s.size : Int) ≤ 1024 := by omega
    obtain ⟨K, eK⟩ : ∃ K, K = secsOf s.size := ⟨_, rfl⟩
    have SZ : Hid (∀ w, Calls Try.prog 18 #[.string s] w fun e w' => e = .returned (.int .i64 (K : Int)) ∧ w = w') := fun w => by rw [eK]; exact sealSize_any s w (by omega)
    have ef : fits (R / 2) s = decide ((K : Int) ≤ (R : Int) / 2) := by
      unfold fits
      rw [decide_eq_true c1, Bool.true_and, eK]
      exact decide_eq_decide.2 (by omega)
    rw [ef]
    clear ef eK c1
    go_enter Try.func115, Try.ntmps115
    go_wp2_with (first | ((with_reducible refine wpL_isBoxD rfl ?_); refine wpL_boxD hst rfl 84 rfl rfl ?_; clear hst; intro w1 bl hbl hst))
    replace hst := hst.drew
    refine wp_region_ord [5] [0, 1, 2, 3, 4, 6, 7, 8, 5, 9, 10, 11] (by kernel_rfl) (by kernel_rfl) ?_
    generalize World.drew _ = W at *
    refine Ord.cut 4 3 rfl rfl rfl rfl (by kernel_rfl) (by kernel_rfl) ?_; simp only [List.take_succ_cons, List.take_zero, List.drop_succ_cons, List.drop_zero, List.filterMap_cons, List.filterMap_nil, List.getElem?_cons_succ, List.getElem?_cons_zero]; go_wp2_with fail; refine TextQ.mk ⟨fun h => by simp at h, ?_⟩ rfl
    refine Ord.cut 2 6 rfl rfl rfl rfl (by kernel_rfl) (by kernel_rfl) ?_; simp only [List.take_succ_cons, List.take_zero, List.drop_succ_cons, List.drop_zero, List.filterMap_cons, List.filterMap_nil, List.getElem?_cons_succ, List.getElem?_cons_zero]; go_wp2_with fail; refine TextQ.mk ⟨fun h => by simp at h, ?_⟩ rfl
    refine Ord.cut 1 7 rfl rfl rfl rfl (by kernel_rfl) (by kernel_rfl) ?_; simp only [List.take_succ_cons, List.take_zero, List.drop_succ_cons, List.drop_zero, List.filterMap_cons, List.filterMap_nil, List.getElem?_cons_succ, List.getElem?_cons_zero]; (try refine wpL_peel rfl rfl ?_); (first | (refine wpL_load1S hst.st rfl rfl 0 rfl rfl rfl (by kernel_rfl) ?_) | (refine wpL_load1S hst.st rfl rfl 1 rfl rfl rfl (by kernel_rfl) ?_) | (refine wpL_load1S hst.st rfl rfl 2 rfl rfl rfl (by kernel_rfl) ?_) | (refine wpL_load1S hst.st rfl rfl 3 rfl rfl rfl (by kernel_rfl) ?_)); refine TextQ.mk ⟨fun h => by simp at h, ?_⟩ rfl
    refine Ord.cut 1 8 rfl rfl rfl rfl (by kernel_rfl) (by kernel_rfl) ?_; simp only [List.take_succ_cons, List.take_zero, List.drop_succ_cons, List.drop_zero, List.filterMap_cons, List.filterMap_nil, List.getElem?_cons_succ, List.getElem?_cons_zero]; go_wp2_with fail; refine TextQ.mk ⟨fun h => by simp at h, ?_⟩ rfl
    refine Ord.cut 1 5 rfl rfl rfl rfl (by kernel_rfl) (by kernel_rfl) ?_; simp only [List.take_succ_cons, List.take_zero, List.drop_succ_cons, List.drop_zero, List.filterMap_cons, List.filterMap_nil, List.getElem?_cons_succ, List.getElem?_cons_zero]
    (try refine wpL_peel rfl rfl ?_)
    go_wp2_with (go_at_call 18; (with_reducible refine (SZ.out _).mono ?_); rintro e1 w1 ⟨rfl, rfl⟩)
    refine TextQ.mk ⟨fun _ => Only.refl _ _, ?_⟩ rfl
    refine Ord.cut 3 11 rfl rfl rfl rfl (by kernel_rfl) (by kernel_rfl) ?_; simp only [List.take_succ_cons, List.take_zero, List.drop_succ_cons, List.drop_zero, List.filterMap_cons, List.filterMap_nil, List.getElem?_cons_succ, List.getElem?_cons_zero]; go_wp2_with fail; refine TextQ.mk ⟨fun h => by simp at h, ?_⟩ rfl
    refine Ord.done ?_
    go_wp2_with fail
    go_ret
    refine ⟨?_, hst.only⟩
    simp
  · have c1' : (1024 : Int) < s.size := by omega
    have e : fits (R / 2) s = false := by unfold fits; simp [c1]
    rw [e]
    clear e c1
    go_enter Try.func115, Try.ntmps115
    go_wp2_with (first | ((with_reducible refine wpL_isBoxD rfl ?_); refine wpL_boxD hst rfl 84 rfl rfl ?_; clear hst; intro w1 bl hbl hst))
    replace hst := hst.drew
    refine wp_region_ord [5] [0, 1, 2, 3, 4, 6, 7, 8, 5, 9, 10, 11] (by kernel_rfl) (by kernel_rfl) ?_
    generalize World.drew _ = W at *
    refine Ord.cut 4 3 rfl rfl rfl rfl (by kernel_rfl) (by kernel_rfl) ?_; simp only [List.take_succ_cons, List.take_zero, List.drop_succ_cons, List.drop_zero, List.filterMap_cons, List.filterMap_nil, List.getElem?_cons_succ, List.getElem?_cons_zero]; go_wp2_with fail; refine TextQ.mk ⟨fun h => by simp at h, ?_⟩ rfl
    refine Ord.cut 1 4 rfl rfl rfl rfl (by kernel_rfl) (by kernel_rfl) ?_; simp only [List.take_succ_cons, List.take_zero, List.drop_succ_cons, List.drop_zero, List.filterMap_cons, List.filterMap_nil, List.getElem?_cons_succ, List.getElem?_cons_zero]
    go_wp2_with (first | ((with_reducible refine wpL_skipS rfl ?_ ?_); focus (go_simp; done)))
    first | refine TextQ.mk ⟨fun h => by simp at h, ?_⟩ rfl | (refine TextQ.mk ?_ rfl)
    refine Ord.cut 1 6 rfl rfl rfl rfl (by kernel_rfl) (by kernel_rfl) ?_; simp only [List.take_succ_cons, List.take_zero, List.drop_succ_cons, List.drop_zero, List.filterMap_cons, List.filterMap_nil, List.getElem?_cons_succ, List.getElem?_cons_zero]
    go_wp2_with (first | ((with_reducible refine wpL_skipS rfl ?_ ?_); focus (go_simp; done)))
    first | refine TextQ.mk ⟨fun h => by simp at h, ?_⟩ rfl | (refine TextQ.mk ?_ rfl)
    refine Ord.cut 1 7 rfl rfl rfl rfl (by kernel_rfl) (by kernel_rfl) ?_; simp only [List.take_succ_cons, List.take_zero, List.drop_succ_cons, List.drop_zero, List.filterMap_cons, List.filterMap_nil, List.getElem?_cons_succ, List.getElem?_cons_zero]
    go_wp2_with (first | ((with_reducible refine wpL_skipS rfl ?_ ?_); focus (go_simp; done)))
    first | refine TextQ.mk ⟨fun h => by simp at h, ?_⟩ rfl | (refine TextQ.mk ?_ rfl)
    refine Ord.cut 1 8 rfl rfl rfl rfl (by kernel_rfl) (by kernel_rfl) ?_; simp only [List.take_succ_cons, List.take_zero, List.drop_succ_cons, List.drop_zero, List.filterMap_cons, List.filterMap_nil, List.getElem?_cons_succ, List.getElem?_cons_zero]
    go_wp2_with (first | ((with_reducible refine wpL_skipS rfl ?_ ?_); focus (go_simp; done)))
    first | refine TextQ.mk ⟨fun h => by simp at h, ?_⟩ rfl | (refine TextQ.mk ?_ rfl)
    refine Ord.cut 1 5 rfl rfl rfl rfl (by kernel_rfl) (by kernel_rfl) ?_; simp only [List.take_succ_cons, List.take_zero, List.drop_succ_cons, List.drop_zero, List.filterMap_cons, List.filterMap_nil, List.getElem?_cons_succ, List.getElem?_cons_zero]
    go_wp2_with (first | ((with_reducible refine wpL_skipS rfl ?_ ?_); focus (go_simp; done)))
    first | refine TextQ.mk ⟨fun _ => Only.refl _ _, ?_⟩ rfl | (refine TextQ.mk ⟨Only.refl _ _, ?_⟩ rfl)
    refine Ord.cut 1 9 rfl rfl rfl rfl (by kernel_rfl) (by kernel_rfl) ?_; simp only [List.take_succ_cons, List.take_zero, List.drop_succ_cons, List.drop_zero, List.filterMap_cons, List.filterMap_nil, List.getElem?_cons_succ, List.getElem?_cons_zero]
    go_wp2_with (first | ((with_reducible refine wpL_skipS rfl ?_ ?_); focus (go_simp; done)))
    first | refine TextQ.mk ⟨fun h => by simp at h, ?_⟩ rfl | (refine TextQ.mk ?_ rfl)
    refine Ord.cut 2 11 rfl rfl rfl rfl (by kernel_rfl) (by kernel_rfl) ?_; simp only [List.take_succ_cons, List.take_zero, List.drop_succ_cons, List.drop_zero, List.filterMap_cons, List.filterMap_nil, List.getElem?_cons_succ, List.getElem?_cons_zero]; go_wp2_with fail; refine TextQ.mk ⟨fun h => by simp at h, ?_⟩ rfl
    refine Ord.done ?_
    go_wp2_with fail
    go_ret
    exact ⟨rfl, hst.only⟩
end Go.Proofs.Ytmogkiacakkmbaa

namespace Go.Proofs.Ytmogkiacakkmbaa
open Go.RowKit

/-- Blocks that a call made. -/
structure News (w w' : World) (N : List Ent) : Prop where
  only : Only [] w w'
  each : ∀ x ∈ N, Blk w' x.b x.cs x.ty ∧ w.heap.size ≤ x.b ∧ x.own = true
  apart : N.Pairwise (fun x y => x.b ≠ y.b)
section
variable {w0 w w' : World} {S : List Nat} {N L : List Ent} {R : List Rsc}
theorem News.of (h : Sd w [] w' (N ++ L) R) (ho : ∀ x ∈ N, x.own = true) : News w w' N :=
  ⟨h.only, fun x hx => ⟨(h.st.each x (List.mem_append_left _ hx)).1, ((h.st.each x (List.mem_append_left _ hx)).2 (ho x hx)).resolve_left (by simp), ho x hx⟩, (List.pairwise_append.1 h.st.apart).1⟩
theorem Sd.news (h : Sd w0 S w L R) (n : News w w' N) : Sd w0 S w' (N ++ L) R := by
  have k := h.keep n.only
  have hs := h.only.size
  refine ⟨⟨k.only, fun x hx => ?_, List.pairwise_append.2 ⟨n.apart, k.st.apart, fun x hx y hy => ?_⟩⟩, k.res, k.rapart, fun x hx r hr => ?_⟩
  · rcases List.mem_append.1 hx with hx | hx
    · exact ⟨(n.each x hx).1, fun _ => .inr (Nat.le_trans hs (n.each x hx).2.1)⟩
    · exact k.st.each x hx
  · have h1 := (n.each x hx).2.1
    have h2 := h.st.lt hy
    omega
  · rcases List.mem_append.1 hx with hx | hx
    · intro hm
      have h1 := (n.each x hx).2.1
      have h2 := r.lt (h.res r hr).1 _ hm
      omega
    · exact k.cross x hx r hr
theorem Sd.perm {M : List Ent} (h : Sd w0 S w L R) (p : M.Perm L) : Sd w0 S w M R :=
  ⟨⟨h.only, fun x hx => h.st.each x (p.mem_iff.1 hx), (p.pairwise_iff (fun {x y} hxy e => hxy e.symm)).2 h.st.apart⟩, h.res, h.rapart, fun x hx r hr => h.cross x (p.mem_iff.1 hx) r hr⟩
end
section
variable {P : Program} {w : World} {ops : Array Oper} {rest : List Oper} {o : Oper} {a : Act} {Q : Exit → Act → World → Prop}
theorem wpL_build2 (hg : o.guard = none) (t : TypeId) {i1 i2 : Nat} {x1 x2 : Operand} (ho : o.op = .build t #[(i1, x1), (i2, x2)]) {v1 v2 : Value} (h1 : a.eval x1 = v1) (h2 : a.eval x2 = v2) (C : List Value)
    (hf : P.built t [(i1, v1), (i2, v2)] = some C.toArray) (h : wpList P ops Q rest (a.put o.dst (.agg C.toArray)) w) : wpList P ops Q (o :: rest) a w :=
  wpL_build hg t _ ho C (by simpa [h1, h2] using hf) h
end

def lcells (R Z C : Nat) : List Value := [.int .i64 (R : Int), .int .i64 (Z : Int), .int .i64 (C : Int)]
def stcells (t R Z C : Nat) (p q : Value) : List Value := [.pointer (some ⟨t, 0, none⟩), .int .i64 (R : Int), .int .i64 (Z : Int), .int .i64 (C : Int), p, q]
theorem stoBuilt (t : Nat) (r s c : Int) : Try.prog.built 91 [(0, .pointer (some ⟨t, 0, none⟩)), (1, .agg #[.int .i64 r, .int .i64 s, .int .i64 c])] = some ([Value.pointer (some ⟨t, 0, none⟩), .int .i64 r, .int .i64 s, .int .i64 c, .pointer none, .pointer none]).toArray := by kernel_rfl
/-- What a store is made of, but for its twin. -/
def madeN (d t R Z C S s z0 a0 z1 a1 : Nat) : List Ent :=
  [⟨a1, slcells z1 Z, 80, true⟩, ⟨z1, zcells d (2 + R + S) S, 34, true⟩, ⟨a0, slcells z0 Z, 80, true⟩, ⟨z0, zcells d (2 + R) S, 34, true⟩, ⟨s, stcells t R Z C (.pointer (some ⟨a0, 0, none⟩)) (.pointer (some ⟨a1, 0, none⟩)), 91, true⟩]

set_option maxRecDepth 100000 in
set_option maxHeartbeats 16000000 in
theorem storeMade_yes (d t R Z C : Nat) (m : DM) (F : List Nat) (w : World) (hd : DiskAt w d m F) (hg : GoodL R Z C) (hl : needN R Z C ≤ m.len) (h4 : m.len ≤ 4096) :
    Calls Try.prog 118 #[.agg #[.int .i64 (R : Int), .int .i64 (Z : Int), .int .i64 (C : Int)], .pointer (some ⟨d, 0, none⟩), .pointer (some ⟨t, 0, none⟩)] w fun e w' => ∃ s z0 a0 z1 a1, e = .returned (.tuple #[.pointer (some ⟨s, 0, none⟩), .int .i64 0]) ∧ News w w' (madeN d t R Z C (C * secsOf Z) s z0 a0 z1 a1) := by
  have hst := Sd.withQ [] (diskQ d m F) hd rfl
  have h2 := secsOf_two Z
  have hK1 : secsOf Z ≤ C * secsOf Z := Nat.le_mul_of_pos_left _ hg.c1
  have hneed : needN R Z C = 2 + R + 2 * (C * secsOf Z) := rfl
  have hR := hg.r2
  obtain ⟨S, eS⟩ : ∃ S, S = C * secsOf Z := ⟨_, rfl⟩
  have SZ : Hid (∀ w, Calls Try.prog 114 #[.agg #[.int .i64 (R : Int), .int .i64 (Z : Int), .int .i64 (C : Int)]] w fun e w' => e = .returned (.int .i64 (S : Int)) ∧ Only [] w w') := fun w => by
    have := slotSize_any R Z C w (by omega) (by have := hg.c2; omega)
    rw [perM_nat Z hg.z1 hg.z2, ← Int.natCast_mul, ← eS] at this
    exact this
  rw [← eS] at hK1 hneed ⊢
  have Z0 : Hid (∀ w, DiskAt w d m F → Calls Try.prog 15 #[.pointer (some ⟨d, 0, none⟩), .int .i64 (2 + (R : Int)), .int .i64 (S : Int)] w fun e w' => ∃ z, e = .returned (.tuple #[.pointer (some ⟨z, 0, none⟩), .int .i64 0]) ∧ w.heap.size ≤ z ∧ Blk w' z (zcells d (2 + R) S) 34 ∧ Only [] w w') := fun w h => by
    have := zonNew_yes d (2 + R) S m F w h (by unfold partOk; simp; omega)
    rw [Int.natCast_add] at this
    exact this
  have Z1 : Hid (∀ w, DiskAt w d m F → Calls Try.prog 15 #[.pointer (some ⟨d, 0, none⟩), .int .i64 (2 + (R : Int) + (S : Int)), .int .i64 (S : Int)] w fun e w' => ∃ z, e = .returned (.tuple #[.pointer (some ⟨z, 0, none⟩), .int .i64 0]) ∧ w.heap.size ≤ z ∧ Blk w' z (zcells d (2 + R + S) S) 34 ∧ Only [] w w') := fun w h => by
    have := zonNew_yes d (2 + R + S) S m F w h (by unfold partOk; simp; omega)
    rw [Int.natCast_add, Int.natCast_add] at this
    exact this
  have N0 : Hid (∀ z f w, Blk w z (zcells d f S) 34 → Calls Try.prog 106 #[.pointer (some ⟨z, 0, none⟩), .int .i64 (Z : Int)] w fun e w' => ∃ a, e = .returned (.tuple #[.pointer (some ⟨a, 0, none⟩), .int .i64 0]) ∧ w.heap.size ≤ a ∧ Blk w' a (slcells z Z) 80 ∧ Only [] w w') := fun z f w h => slotNew_yes z d f S Z w h hg.z1 hg.z2 hK1
  have hS4 : (S : Int) ≤ 4096 := by omega
  have hR4 : (R : Int) ≤ 128 := by omega
  clear hd hg hl h4 h2 hK1 hneed hR eS
  go_enter Try.func118, Try.ntmps118
  go_wp2_with (first
    | ((with_reducible refine wpL_isBoxD rfl ?_); refine wpL_boxD hst rfl 84 rfl rfl ?_; clear hst; intro w1 bl hbl hst) | ((with_reducible refine wpL_peel rfl ?_ ?_); focus (go_simp; done)) | ((with_reducible refine wpL_peel rfl ?_ ?_); focus (go_simp; done)) | ((with_reducible refine wpL_isLoad rfl ?_); first | (refine wpL_loadAtS hst.st rfl (ty := 84) rfl 0 rfl rfl (by kernel_rfl) 3 (by kernel_rfl) [_, _, _] rfl rfl ?_) | (refine wpL_load1S hst.st rfl rfl 0 rfl rfl rfl (by kernel_rfl) ?_))
    | ((with_reducible refine wpL_isBuildD rfl ?_); refine wpL_build2 rfl 91 rfl rfl rfl _ (stoBuilt _ _ _ _) ?_)
    | ((with_reducible refine wpL_isBoxD rfl ?_); refine wpL_boxD hst rfl 91 rfl rfl ?_; clear hst; intro w1 s hs hst))
  go_loopw [16] (fun i wr =>
      (i = .int .i64 0 ∧ Sd w [] wr [⟨s, stcells t R Z C (.pointer none) (.pointer none), 91, true⟩, ⟨bl, lcells R Z C, 84, true⟩] [diskQ d m F]) ∨
      (i = .int .i64 1 ∧ ∃ z0 a0, Sd w [] wr [⟨s, stcells t R Z C (.pointer (some ⟨a0, 0, none⟩)) (.pointer none), 91, true⟩, ⟨bl, lcells R Z C, 84, true⟩, ⟨a0, slcells z0 Z, 80, true⟩, ⟨z0, zcells d (2 + R) S, 34, true⟩] [diskQ d m F]) ∨
      (i = .int .i64 2 ∧ ∃ z0 a0 z1 a1, Sd w [] wr (madeN d t R Z C S s z0 a0 z1 a1 ++ [⟨bl, lcells R Z C, 84, true⟩]) [diskQ d m F]))
    (fun i _ => (2 - intOf i).toNat)
  case atStart => exact .inl ⟨rfl, hst⟩
  case round =>
    clear hst
    rcases hrel with ⟨rfl, hst⟩ | ⟨rfl, z0, a0, hst⟩ | ⟨rfl, z0, a0, z1, a1, hst⟩
    · unfold stcells lcells at hst
      go_wp2_with fail
      replace hst := hst.drew
      refine wp_region_ord [6, 10, 11] [0, 1, 2, 3, 4, 5, 9, 6, 7, 8, 10, 11, 12, 13, 14, 15, 16] (by kernel_rfl) (by kernel_rfl) ?_
      generalize World.drew _ = W at *
      refine Ord.cut 2 1 rfl rfl rfl rfl (by kernel_rfl) (by kernel_rfl) ?_; simp only [List.take_succ_cons, List.take_zero, List.drop_succ_cons, List.drop_zero, List.filterMap_cons, List.filterMap_nil, List.getElem?_cons_succ, List.getElem?_cons_zero]; go_wp2_with fail; refine TextQ.mk ⟨fun h => by simp at h, ?_⟩ rfl
      refine Ord.cut 1 2 rfl rfl rfl rfl (by kernel_rfl) (by kernel_rfl) ?_; simp only [List.take_succ_cons, List.take_zero, List.drop_succ_cons, List.drop_zero, List.filterMap_cons, List.filterMap_nil, List.getElem?_cons_succ, List.getElem?_cons_zero]; (try refine wpL_peel rfl rfl ?_); (first | (refine wpL_load1S hst.st rfl rfl 0 rfl rfl rfl (by kernel_rfl) ?_) | (refine wpL_load1S hst.st rfl rfl 1 rfl rfl rfl (by kernel_rfl) ?_) | (refine wpL_load1S hst.st rfl rfl 2 rfl rfl rfl (by kernel_rfl) ?_) | (refine wpL_load1S hst.st rfl rfl 3 rfl rfl rfl (by kernel_rfl) ?_)); refine TextQ.mk ⟨fun h => by simp at h, ?_⟩ rfl
      refine Ord.cut 2 4 rfl rfl rfl rfl (by kernel_rfl) (by kernel_rfl) ?_; simp only [List.take_succ_cons, List.take_zero, List.drop_succ_cons, List.drop_zero, List.filterMap_cons, List.filterMap_nil, List.getElem?_cons_succ, List.getElem?_cons_zero]; go_wp2_with fail; refine TextQ.mk ⟨fun h => by simp at h, ?_⟩ rfl
      refine Ord.cut 1 5 rfl rfl rfl rfl (by kernel_rfl) (by kernel_rfl) ?_; simp only [List.take_succ_cons, List.take_zero, List.drop_succ_cons, List.drop_zero, List.filterMap_cons, List.filterMap_nil, List.getElem?_cons_succ, List.getElem?_cons_zero]; (try refine wpL_peel rfl rfl ?_); (first | (refine wpL_loadAtS hst.st rfl (ty := 84) rfl 0 rfl rfl (by kernel_rfl) 3 (by kernel_rfl) [_, _, _] rfl rfl ?_) | (refine wpL_loadAtS hst.st rfl (ty := 84) rfl 1 rfl rfl (by kernel_rfl) 3 (by kernel_rfl) [_, _, _] rfl rfl ?_) | (refine wpL_loadAtS hst.st rfl (ty := 84) rfl 2 rfl rfl (by kernel_rfl) 3 (by kernel_rfl) [_, _, _] rfl rfl ?_) | (refine wpL_loadAtS hst.st rfl (ty := 84) rfl 3 rfl rfl (by kernel_rfl) 3 (by kernel_rfl) [_, _, _] rfl rfl ?_) | (refine wpL_load1S hst.st rfl rfl 0 rfl rfl rfl (by kernel_rfl) ?_) | (refine wpL_load1S hst.st rfl rfl 1 rfl rfl rfl (by kernel_rfl) ?_) | (refine wpL_load1S hst.st rfl rfl 2 rfl rfl rfl (by kernel_rfl) ?_) | (refine wpL_load1S hst.st rfl rfl 3 rfl rfl rfl (by kernel_rfl) ?_)); refine TextQ.mk ⟨fun h => by simp at h, ?_⟩ rfl
      refine Ord.cut 1 9 rfl rfl rfl rfl (by kernel_rfl) (by kernel_rfl) ?_; simp only [List.take_succ_cons, List.take_zero, List.drop_succ_cons, List.drop_zero, List.filterMap_cons, List.filterMap_nil, List.getElem?_cons_succ, List.getElem?_cons_zero]; (try refine wpL_peel rfl rfl ?_); (first | (refine wpL_loadAtS hst.st rfl (ty := 84) rfl 0 rfl rfl (by kernel_rfl) 3 (by kernel_rfl) [_, _, _] rfl rfl ?_) | (refine wpL_loadAtS hst.st rfl (ty := 84) rfl 1 rfl rfl (by kernel_rfl) 3 (by kernel_rfl) [_, _, _] rfl rfl ?_) | (refine wpL_loadAtS hst.st rfl (ty := 84) rfl 2 rfl rfl (by kernel_rfl) 3 (by kernel_rfl) [_, _, _] rfl rfl ?_) | (refine wpL_loadAtS hst.st rfl (ty := 84) rfl 3 rfl rfl (by kernel_rfl) 3 (by kernel_rfl) [_, _, _] rfl rfl ?_) | (refine wpL_load1S hst.st rfl rfl 0 rfl rfl rfl (by kernel_rfl) ?_) | (refine wpL_load1S hst.st rfl rfl 1 rfl rfl rfl (by kernel_rfl) ?_) | (refine wpL_load1S hst.st rfl rfl 2 rfl rfl rfl (by kernel_rfl) ?_) | (refine wpL_load1S hst.st rfl rfl 3 rfl rfl rfl (by kernel_rfl) ?_)); refine TextQ.mk ⟨fun h => by simp at h, ?_⟩ rfl
      refine Ord.cut 1 6 rfl rfl rfl rfl (by kernel_rfl) (by kernel_rfl) ?_; simp only [List.take_succ_cons, List.take_zero, List.drop_succ_cons, List.drop_zero, List.filterMap_cons, List.filterMap_nil, List.getElem?_cons_succ, List.getElem?_cons_zero]
      go_wp2_with (go_at_call 114; (with_reducible refine (SZ.out _).mono ?_); rintro e1 w1 ⟨rfl, ho1⟩)
      refine TextQ.mk ⟨fun _ => ho1, ?_⟩ rfl
      replace hst := hst.keep ho1
      clear ho1
      refine Ord.cut 2 8 rfl rfl rfl rfl (by kernel_rfl) (by kernel_rfl) ?_; simp only [List.take_succ_cons, List.take_zero, List.drop_succ_cons, List.drop_zero, List.filterMap_cons, List.filterMap_nil, List.getElem?_cons_succ, List.getElem?_cons_zero]; go_wp2_with fail; refine TextQ.mk ⟨fun h => by simp at h, ?_⟩ rfl
      refine Ord.cut 1 10 rfl rfl rfl rfl (by kernel_rfl) (by kernel_rfl) ?_; simp only [List.take_succ_cons, List.take_zero, List.drop_succ_cons, List.drop_zero, List.filterMap_cons, List.filterMap_nil, List.getElem?_cons_succ, List.getElem?_cons_zero]
      go_wp2_with (go_at_call 114; (with_reducible refine (SZ.out _).mono ?_); rintro e1 w1 ⟨rfl, ho1⟩)
      refine TextQ.mk ⟨fun _ => ho1, ?_⟩ rfl
      replace hst := hst.keep ho1
      clear ho1
      refine Ord.cut 1 11 rfl rfl rfl rfl (by kernel_rfl) (by kernel_rfl) ?_; simp only [List.take_succ_cons, List.take_zero, List.drop_succ_cons, List.drop_zero, List.filterMap_cons, List.filterMap_nil, List.getElem?_cons_succ, List.getElem?_cons_zero]
      go_wp2_with (go_at_call 15; (with_reducible refine (Z0.out _ (hst.rs 0 rfl)).mono ?_); rintro e1 w1 ⟨z, rfl, hg1, hz1, ho1⟩)
      refine TextQ.mk ⟨fun _ => ho1, ?_⟩ rfl
      replace hst := hst.new ho1 hz1 hg1
      clear hg1 hz1 ho1
      refine Ord.cut 3 14 rfl rfl rfl rfl (by kernel_rfl) (by kernel_rfl) ?_; simp only [List.take_succ_cons, List.take_zero, List.drop_succ_cons, List.drop_zero, List.filterMap_cons, List.filterMap_nil, List.getElem?_cons_succ, List.getElem?_cons_zero]; go_wp2_with fail; refine TextQ.mk ⟨fun h => by simp at h, ?_⟩ rfl
      refine Ord.cut 2 16 rfl rfl rfl rfl (by kernel_rfl) (by kernel_rfl) ?_; simp only [List.take_succ_cons, List.take_zero, List.drop_succ_cons, List.drop_zero, List.filterMap_cons, List.filterMap_nil, List.getElem?_cons_succ, List.getElem?_cons_zero]; go_wp2_with fail; refine TextQ.mk ⟨fun h => by simp at h, ?_⟩ rfl
      refine Ord.done ?_
      go_wp2_with fail
      replace hst := hst.drew
      refine wp_region_ord [5] [0, 1, 2, 3, 4, 5, 6, 7, 8, 9, 10, 11, 12, 13] (by kernel_rfl) (by kernel_rfl) ?_
      generalize World.drew _ = W2 at *
      refine Ord.cut 4 3 rfl rfl rfl rfl (by kernel_rfl) (by kernel_rfl) ?_; simp only [List.take_succ_cons, List.take_zero, List.drop_succ_cons, List.drop_zero, List.filterMap_cons, List.filterMap_nil, List.getElem?_cons_succ, List.getElem?_cons_zero]; go_wp2_with fail; refine TextQ.mk ⟨fun h => by simp at h, ?_⟩ rfl
      refine Ord.cut 1 4 rfl rfl rfl rfl (by kernel_rfl) (by kernel_rfl) ?_; simp only [List.take_succ_cons, List.take_zero, List.drop_succ_cons, List.drop_zero, List.filterMap_cons, List.filterMap_nil, List.getElem?_cons_succ, List.getElem?_cons_zero]; (try refine wpL_peel rfl rfl ?_); (first | (refine wpL_load1S hst.st rfl rfl 0 rfl rfl rfl (by kernel_rfl) ?_) | (refine wpL_load1S hst.st rfl rfl 1 rfl rfl rfl (by kernel_rfl) ?_) | (refine wpL_load1S hst.st rfl rfl 2 rfl rfl rfl (by kernel_rfl) ?_) | (refine wpL_load1S hst.st rfl rfl 3 rfl rfl rfl (by kernel_rfl) ?_)); refine TextQ.mk ⟨fun h => by simp at h, ?_⟩ rfl
      refine Ord.cut 1 5 rfl rfl rfl rfl (by kernel_rfl) (by kernel_rfl) ?_; simp only [List.take_succ_cons, List.take_zero, List.drop_succ_cons, List.drop_zero, List.filterMap_cons, List.filterMap_nil, List.getElem?_cons_succ, List.getElem?_cons_zero]
      go_wp2_with (go_at_call 106; (with_reducible refine (N0.out _ _ _ (hst.blk 0 rfl)).mono ?_); rintro e1 w1 ⟨a, rfl, hg1, hz1, ho1⟩)
      refine TextQ.mk ⟨fun _ => ho1, ?_⟩ rfl
      replace hst := hst.new ho1 hz1 hg1
      clear hg1 hz1 ho1
      refine Ord.cut 3 8 rfl rfl rfl rfl (by kernel_rfl) (by kernel_rfl) ?_; simp only [List.take_succ_cons, List.take_zero, List.drop_succ_cons, List.drop_zero, List.filterMap_cons, List.filterMap_nil, List.getElem?_cons_succ, List.getElem?_cons_zero]; go_wp2_with fail; refine TextQ.mk ⟨fun h => by simp at h, ?_⟩ rfl
      refine Ord.cut 3 11 rfl rfl rfl rfl (by kernel_rfl) (by kernel_rfl) ?_; simp only [List.take_succ_cons, List.take_zero, List.drop_succ_cons, List.drop_zero, List.filterMap_cons, List.filterMap_nil, List.getElem?_cons_succ, List.getElem?_cons_zero]; go_wp2_with fail; refine TextQ.mk ⟨fun h => by simp at h, ?_⟩ rfl
      refine Ord.cut 1 12 rfl rfl rfl rfl (by kernel_rfl) (by kernel_rfl) ?_; simp only [List.take_succ_cons, List.take_zero, List.drop_succ_cons, List.drop_zero, List.filterMap_cons, List.filterMap_nil, List.getElem?_cons_succ, List.getElem?_cons_zero]
      refine wpL_store1D hst rfl rfl 2 rfl rfl rfl (v := .pointer (some ⟨a, 0, none⟩)) rfl rfl rfl ?_
      clear hst
      intro w3 hst
      simp only [List.set] at hst
      refine TextQ.mk ⟨fun h => by simp at h, ?_⟩ rfl
      refine Ord.cut 1 13 rfl rfl rfl rfl (by kernel_rfl) (by kernel_rfl) ?_; simp only [List.take_succ_cons, List.take_zero, List.drop_succ_cons, List.drop_zero, List.filterMap_cons, List.filterMap_nil, List.getElem?_cons_succ, List.getElem?_cons_zero]; go_wp2_with fail; refine TextQ.mk ⟨fun h => by simp at h, ?_⟩ rfl
      refine Ord.done ?_
      go_wp2_with fail
      go_roundw
      case rel => exact .inr (.inl ⟨rfl, z, a, hst.perm (List.perm_append_comm (l₁ := [_, _]) (l₂ := [_, _]))⟩)
      case measure => simp [intOf]
    · unfold stcells lcells at hst
      go_wp2_with fail
      replace hst := hst.drew
      refine wp_region_ord [6, 10, 11] [0, 1, 2, 3, 4, 5, 9, 6, 7, 8, 10, 11, 12, 13, 14, 15, 16] (by kernel_rfl) (by kernel_rfl) ?_
      generalize World.drew _ = W at *
      refine Ord.cut 2 1 rfl rfl rfl rfl (by kernel_rfl) (by kernel_rfl) ?_; simp only [List.take_succ_cons, List.take_zero, List.drop_succ_cons, List.drop_zero, List.filterMap_cons, List.filterMap_nil, List.getElem?_cons_succ, List.getElem?_cons_zero]; go_wp2_with fail; refine TextQ.mk ⟨fun h => by simp at h, ?_⟩ rfl
      refine Ord.cut 1 2 rfl rfl rfl rfl (by kernel_rfl) (by kernel_rfl) ?_; simp only [List.take_succ_cons, List.take_zero, List.drop_succ_cons, List.drop_zero, List.filterMap_cons, List.filterMap_nil, List.getElem?_cons_succ, List.getElem?_cons_zero]; (try refine wpL_peel rfl rfl ?_); (first | (refine wpL_load1S hst.st rfl rfl 0 rfl rfl rfl (by kernel_rfl) ?_) | (refine wpL_load1S hst.st rfl rfl 1 rfl rfl rfl (by kernel_rfl) ?_) | (refine wpL_load1S hst.st rfl rfl 2 rfl rfl rfl (by kernel_rfl) ?_) | (refine wpL_load1S hst.st rfl rfl 3 rfl rfl rfl (by kernel_rfl) ?_)); refine TextQ.mk ⟨fun h => by simp at h, ?_⟩ rfl
      refine Ord.cut 2 4 rfl rfl rfl rfl (by kernel_rfl) (by kernel_rfl) ?_; simp only [List.take_succ_cons, List.take_zero, List.drop_succ_cons, List.drop_zero, List.filterMap_cons, List.filterMap_nil, List.getElem?_cons_succ, List.getElem?_cons_zero]; go_wp2_with fail; refine TextQ.mk ⟨fun h => by simp at h, ?_⟩ rfl
      refine Ord.cut 1 5 rfl rfl rfl rfl (by kernel_rfl) (by kernel_rfl) ?_; simp only [List.take_succ_cons, List.take_zero, List.drop_succ_cons, List.drop_zero, List.filterMap_cons, List.filterMap_nil, List.getElem?_cons_succ, List.getElem?_cons_zero]; (try refine wpL_peel rfl rfl ?_); (first | (refine wpL_loadAtS hst.st rfl (ty := 84) rfl 0 rfl rfl (by kernel_rfl) 3 (by kernel_rfl) [_, _, _] rfl rfl ?_) | (refine wpL_loadAtS hst.st rfl (ty := 84) rfl 1 rfl rfl (by kernel_rfl) 3 (by kernel_rfl) [_, _, _] rfl rfl ?_) | (refine wpL_loadAtS hst.st rfl (ty := 84) rfl 2 rfl rfl (by kernel_rfl) 3 (by kernel_rfl) [_, _, _] rfl rfl ?_) | (refine wpL_loadAtS hst.st rfl (ty := 84) rfl 3 rfl rfl (by kernel_rfl) 3 (by kernel_rfl) [_, _, _] rfl rfl ?_) | (refine wpL_load1S hst.st rfl rfl 0 rfl rfl rfl (by kernel_rfl) ?_) | (refine wpL_load1S hst.st rfl rfl 1 rfl rfl rfl (by kernel_rfl) ?_) | (refine wpL_load1S hst.st rfl rfl 2 rfl rfl rfl (by kernel_rfl) ?_) | (refine wpL_load1S hst.st rfl rfl 3 rfl rfl rfl (by kernel_rfl) ?_)); refine TextQ.mk ⟨fun h => by simp at h, ?_⟩ rfl
      refine Ord.cut 1 9 rfl rfl rfl rfl (by kernel_rfl) (by kernel_rfl) ?_; simp only [List.take_succ_cons, List.take_zero, List.drop_succ_cons, List.drop_zero, List.filterMap_cons, List.filterMap_nil, List.getElem?_cons_succ, List.getElem?_cons_zero]; (try refine wpL_peel rfl rfl ?_); (first | (refine wpL_loadAtS hst.st rfl (ty := 84) rfl 0 rfl rfl (by kernel_rfl) 3 (by kernel_rfl) [_, _, _] rfl rfl ?_) | (refine wpL_loadAtS hst.st rfl (ty := 84) rfl 1 rfl rfl (by kernel_rfl) 3 (by kernel_rfl) [_, _, _] rfl rfl ?_) | (refine wpL_loadAtS hst.st rfl (ty := 84) rfl 2 rfl rfl (by kernel_rfl) 3 (by kernel_rfl) [_, _, _] rfl rfl ?_) | (refine wpL_loadAtS hst.st rfl (ty := 84) rfl 3 rfl rfl (by kernel_rfl) 3 (by kernel_rfl) [_, _, _] rfl rfl ?_) | (refine wpL_load1S hst.st rfl rfl 0 rfl rfl rfl (by kernel_rfl) ?_) | (refine wpL_load1S hst.st rfl rfl 1 rfl rfl rfl (by kernel_rfl) ?_) | (refine wpL_load1S hst.st rfl rfl 2 rfl rfl rfl (by kernel_rfl) ?_) | (refine wpL_load1S hst.st rfl rfl 3 rfl rfl rfl (by kernel_rfl) ?_)); refine TextQ.mk ⟨fun h => by simp at h, ?_⟩ rfl
      refine Ord.cut 1 6 rfl rfl rfl rfl (by kernel_rfl) (by kernel_rfl) ?_; simp only [List.take_succ_cons, List.take_zero, List.drop_succ_cons, List.drop_zero, List.filterMap_cons, List.filterMap_nil, List.getElem?_cons_succ, List.getElem?_cons_zero]
      go_wp2_with (go_at_call 114; (with_reducible refine (SZ.out _).mono ?_); rintro e1 w1 ⟨rfl, ho1⟩)
      refine TextQ.mk ⟨fun _ => ho1, ?_⟩ rfl
      replace hst := hst.keep ho1
      clear ho1
      refine Ord.cut 2 8 rfl rfl rfl rfl (by kernel_rfl) (by kernel_rfl) ?_; simp only [List.take_succ_cons, List.take_zero, List.drop_succ_cons, List.drop_zero, List.filterMap_cons, List.filterMap_nil, List.getElem?_cons_succ, List.getElem?_cons_zero]; go_wp2_with fail; refine TextQ.mk ⟨fun h => by simp at h, ?_⟩ rfl
      refine Ord.cut 1 10 rfl rfl rfl rfl (by kernel_rfl) (by kernel_rfl) ?_; simp only [List.take_succ_cons, List.take_zero, List.drop_succ_cons, List.drop_zero, List.filterMap_cons, List.filterMap_nil, List.getElem?_cons_succ, List.getElem?_cons_zero]
      go_wp2_with (go_at_call 114; (with_reducible refine (SZ.out _).mono ?_); rintro e1 w1 ⟨rfl, ho1⟩)
      refine TextQ.mk ⟨fun _ => ho1, ?_⟩ rfl
      replace hst := hst.keep ho1
      clear ho1
      refine Ord.cut 1 11 rfl rfl rfl rfl (by kernel_rfl) (by kernel_rfl) ?_; simp only [List.take_succ_cons, List.take_zero, List.drop_succ_cons, List.drop_zero, List.filterMap_cons, List.filterMap_nil, List.getElem?_cons_succ, List.getElem?_cons_zero]
      go_wp2_with (go_at_call 15; (with_reducible refine (Z1.out _ (hst.rs 0 rfl)).mono ?_); rintro e1 w1 ⟨z, rfl, hg1, hz1, ho1⟩)
      refine TextQ.mk ⟨fun _ => ho1, ?_⟩ rfl
      replace hst := hst.new ho1 hz1 hg1
      clear hg1 hz1 ho1
      refine Ord.cut 3 14 rfl rfl rfl rfl (by kernel_rfl) (by kernel_rfl) ?_; simp only [List.take_succ_cons, List.take_zero, List.drop_succ_cons, List.drop_zero, List.filterMap_cons, List.filterMap_nil, List.getElem?_cons_succ, List.getElem?_cons_zero]; go_wp2_with fail; refine TextQ.mk ⟨fun h => by simp at h, ?_⟩ rfl
      refine Ord.cut 2 16 rfl rfl rfl rfl (by kernel_rfl) (by kernel_rfl) ?_; simp only [List.take_succ_cons, List.take_zero, List.drop_succ_cons, List.drop_zero, List.filterMap_cons, List.filterMap_nil, List.getElem?_cons_succ, List.getElem?_cons_zero]; go_wp2_with fail; refine TextQ.mk ⟨fun h => by simp at h, ?_⟩ rfl
      refine Ord.done ?_
      go_wp2_with fail
      replace hst := hst.drew
      refine wp_region_ord [5] [0, 1, 2, 3, 4, 5, 6, 7, 8, 9, 10, 11, 12, 13] (by kernel_rfl) (by kernel_rfl) ?_
      generalize World.drew _ = W2 at *
      refine Ord.cut 4 3 rfl rfl rfl rfl (by kernel_rfl) (by kernel_rfl) ?_; simp only [List.take_succ_cons, List.take_zero, List.drop_succ_cons, List.drop_zero, List.filterMap_cons, List.filterMap_nil, List.getElem?_cons_succ, List.getElem?_cons_zero]; go_wp2_with fail; refine TextQ.mk ⟨fun h => by simp at h, ?_⟩ rfl
      refine Ord.cut 1 4 rfl rfl rfl rfl (by kernel_rfl) (by kernel_rfl) ?_; simp only [List.take_succ_cons, List.take_zero, List.drop_succ_cons, List.drop_zero, List.filterMap_cons, List.filterMap_nil, List.getElem?_cons_succ, List.getElem?_cons_zero]; (try refine wpL_peel rfl rfl ?_); (first | (refine wpL_load1S hst.st rfl rfl 0 rfl rfl rfl (by kernel_rfl) ?_) | (refine wpL_load1S hst.st rfl rfl 1 rfl rfl rfl (by kernel_rfl) ?_) | (refine wpL_load1S hst.st rfl rfl 2 rfl rfl rfl (by kernel_rfl) ?_) | (refine wpL_load1S hst.st rfl rfl 3 rfl rfl rfl (by kernel_rfl) ?_)); refine TextQ.mk ⟨fun h => by simp at h, ?_⟩ rfl
      refine Ord.cut 1 5 rfl rfl rfl rfl (by kernel_rfl) (by kernel_rfl) ?_; simp only [List.take_succ_cons, List.take_zero, List.drop_succ_cons, List.drop_zero, List.filterMap_cons, List.filterMap_nil, List.getElem?_cons_succ, List.getElem?_cons_zero]
      go_wp2_with (go_at_call 106; (with_reducible refine (N0.out _ _ _ (hst.blk 0 rfl)).mono ?_); rintro e1 w1 ⟨a, rfl, hg1, hz1, ho1⟩)
      refine TextQ.mk ⟨fun _ => ho1, ?_⟩ rfl
      replace hst := hst.new ho1 hz1 hg1
      clear hg1 hz1 ho1
      refine Ord.cut 3 8 rfl rfl rfl rfl (by kernel_rfl) (by kernel_rfl) ?_; simp only [List.take_succ_cons, List.take_zero, List.drop_succ_cons, List.drop_zero, List.filterMap_cons, List.filterMap_nil, List.getElem?_cons_succ, List.getElem?_cons_zero]; go_wp2_with fail; refine TextQ.mk ⟨fun h => by simp at h, ?_⟩ rfl
      refine Ord.cut 3 11 rfl rfl rfl rfl (by kernel_rfl) (by kernel_rfl) ?_; simp only [List.take_succ_cons, List.take_zero, List.drop_succ_cons, List.drop_zero, List.filterMap_cons, List.filterMap_nil, List.getElem?_cons_succ, List.getElem?_cons_zero]; go_wp2_with fail; refine TextQ.mk ⟨fun h => by simp at h, ?_⟩ rfl
      refine Ord.cut 1 12 rfl rfl rfl rfl (by kernel_rfl) (by kernel_rfl) ?_; simp only [List.take_succ_cons, List.take_zero, List.drop_succ_cons, List.drop_zero, List.filterMap_cons, List.filterMap_nil, List.getElem?_cons_succ, List.getElem?_cons_zero]
      refine wpL_store1D hst rfl rfl 2 rfl rfl rfl (v := .pointer (some ⟨a, 0, none⟩)) rfl rfl rfl ?_
      clear hst
      intro w3 hst
      simp only [List.set] at hst
      refine TextQ.mk ⟨fun h => by simp at h, ?_⟩ rfl
      refine Ord.cut 1 13 rfl rfl rfl rfl (by kernel_rfl) (by kernel_rfl) ?_; simp only [List.take_succ_cons, List.take_zero, List.drop_succ_cons, List.drop_zero, List.filterMap_cons, List.filterMap_nil, List.getElem?_cons_succ, List.getElem?_cons_zero]; go_wp2_with fail; refine TextQ.mk ⟨fun h => by simp at h, ?_⟩ rfl
      refine Ord.done ?_
      go_wp2_with fail
      go_roundw
      case rel => exact .inr (.inr ⟨rfl, z0, a0, z, a, hst.perm (List.Perm.append_left [_, _] (List.perm_append_comm (l₁ := [_, _]) (l₂ := [_, _])))⟩)
      case measure => simp [intOf]
    · go_wp2_with fail
      go_ret2
      exact ⟨s, z0, a0, z1, a1, rfl, News.of hst (by simp [madeN])⟩

set_option maxRecDepth 100000 in
set_option maxHeartbeats 4000000 in
theorem storeSlot0 (s t R Z C : Nat) (p q : Value) (w : World) (h : Blk w s (stcells t R Z C p q) 91) : Calls Try.prog 58 #[.pointer (some ⟨s, 0, none⟩), .int .i64 0] w fun e w' => e = .returned p ∧ w = w' := by
  have hst := Sd.of (St.with (S := []) h)
  unfold stcells at hst
  clear h
  go_enter Try.func58, Try.ntmps58
  go_wp2_with (first | ((with_reducible refine wpL_peel rfl ?_ ?_); focus (go_simp; done)) | ((with_reducible refine wpL_isLoad rfl ?_); refine wpL_load1S hst.st rfl rfl 0 rfl rfl rfl (by kernel_rfl) ?_))
  go_ret
  exact ⟨rfl, rfl⟩
set_option maxRecDepth 100000 in
set_option maxHeartbeats 4000000 in
theorem storeSlot1 (s t R Z C : Nat) (p q : Value) (w : World) (h : Blk w s (stcells t R Z C p q) 91) : Calls Try.prog 58 #[.pointer (some ⟨s, 0, none⟩), .int .i64 1] w fun e w' => e = .returned q ∧ w = w' := by
  have hst := Sd.of (St.with (S := []) h)
  unfold stcells at hst
  clear h
  go_enter Try.func58, Try.ntmps58
  go_wp2_with (first | ((with_reducible refine wpL_peel rfl ?_ ?_); focus (go_simp; done)) | ((with_reducible refine wpL_isLoad rfl ?_); refine wpL_load1S hst.st rfl rfl 0 rfl rfl rfl (by kernel_rfl) ?_))
  go_ret
  exact ⟨rfl, rfl⟩
set_option maxRecDepth 100000 in
set_option maxHeartbeats 4000000 in
theorem storeSlot2 (s t R Z C : Nat) (p q : Value) (w : World) (h : Blk w s (stcells t R Z C p q) 91) : Calls Try.prog 58 #[.pointer (some ⟨s, 0, none⟩), .int .i64 2] w fun e w' => e = .returned (.pointer none) ∧ w = w' := by
  have hst := Sd.of (St.with (S := []) h)
  clear h
  go_enter Try.func58, Try.ntmps58
  go_wp2_with (first | ((with_reducible refine wpL_peel rfl ?_ ?_); focus (go_simp; done)))
  go_ret
  exact ⟨rfl, rfl⟩
set_option maxRecDepth 100000 in
set_option maxHeartbeats 4000000 in
theorem storeLayout_any (s t R Z C : Nat) (p q : Value) (w : World) (h : Blk w s (stcells t R Z C p q) 91) : Calls Try.prog 57 #[.pointer (some ⟨s, 0, none⟩)] w fun e w' => e = .returned (.agg #[.int .i64 (R : Int), .int .i64 (Z : Int), .int .i64 (C : Int)]) ∧ Only [] w w' := by
  have hst := Sd.of (St.with (S := []) h)
  unfold stcells at hst
  clear h
  go_enter Try.func57, Try.ntmps57
  go_wp2_with (first | ((with_reducible refine wpL_peel rfl ?_ ?_); focus (go_simp; done)) | ((with_reducible refine wpL_isAlloc rfl ?_); refine wpL_allocD hst rfl 84 rfl (.agg #[.int .i64 0, .int .i64 0, .int .i64 0]) [.int .i64 0, .int .i64 0, .int .i64 0] (by kernel_rfl) rfl _ rfl ?_; clear hst; intro w1 b1 hb1 hst) | ((with_reducible refine wpL_peel rfl ?_ ?_); focus (go_simp; done)) | ((with_reducible refine wpL_isLoad rfl ?_); first | (refine wpL_loadAtS hst.st rfl (ty := 84) rfl 0 rfl rfl (by kernel_rfl) 3 (by kernel_rfl) [_, _, _] rfl rfl ?_) | (refine wpL_loadAtS hst.st rfl (ty := 84) rfl 1 rfl rfl (by kernel_rfl) 3 (by kernel_rfl) [_, _, _] rfl rfl ?_) | (refine wpL_load1S hst.st rfl rfl 0 rfl rfl rfl (by kernel_rfl) ?_) | (refine wpL_load1S hst.st rfl rfl 1 rfl rfl rfl (by kernel_rfl) ?_)) | ((with_reducible refine wpL_isStore rfl ?_); first | (refine wpL_storeD hst rfl (ty := 84) rfl 0 rfl rfl rfl (by kernel_rfl) (by kernel_rfl) rfl rfl ?_; clear hst; intro w1 hst; simp only [List.set] at hst) | (refine wpL_storeD hst rfl (ty := 84) rfl 1 rfl rfl rfl (by kernel_rfl) (by kernel_rfl) rfl rfl ?_; clear hst; intro w1 hst; simp only [List.set] at hst) | (refine wpL_store1D hst rfl rfl 0 rfl rfl rfl rfl (by kernel_rfl) rfl ?_; clear hst; intro w1 hst; simp only [List.set] at hst) | (refine wpL_store1D hst rfl rfl 1 rfl rfl rfl rfl (by kernel_rfl) rfl ?_; clear hst; intro w1 hst; simp only [List.set] at hst)))
  refine end_row Try.results57 rfl (hst.blk 0 rfl) Try.underlying84 rfl layInfo rfl rfl ⟨rfl, hst.only⟩
end Go.Proofs.Ytmogkiacakkmbaa
