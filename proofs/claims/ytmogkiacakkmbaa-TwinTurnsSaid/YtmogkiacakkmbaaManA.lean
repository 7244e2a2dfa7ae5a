/- Manifests: their numbers. -/
import Derived.Test.YtmogkiacakkmbaaSt
import Derived.Test.YtmogkiacakkmbaaShaE
namespace Go.Proofs.Ytmogkiacakkmbaa
open Go.RowKit

theorem isVer_yes (n : Int) (h1 : 1 ≤ n) (h2 : n ≤ 2147483647) (w : World) : Calls Try.prog 155 #[.int .i64 n] w fun e w' => e = .returned (.bool true) ∧ w = w' := by
  go_enter Try.func155, Try.ntmps155
  go_wp2
  go_ret
  exact ⟨by simp, rfl⟩
theorem isVer_no (n : Int) (h : n < 1 ∨ 2147483647 < n) (w : World) : Calls Try.prog 155 #[.int .i64 n] w fun e w' => e = .returned (.bool false) ∧ w = w' := by
  by_cases h1 : n < 1
  · clear h
    go_enter Try.func155, Try.ntmps155
    go_wp2
    go_ret
    exact ⟨by simp, rfl⟩
  · have h2 : 2147483647 < n := by omega
    have h3 : 1 ≤ n := by omega
    clear h h1
    go_enter Try.func155, Try.ntmps155
    go_wp2
    go_ret
    exact ⟨by simp; omega, rfl⟩

/-- The cells of a manifest. -/
def mfC (b v z k : Int) (V : Value) (R : List Value) : List Value := .int .i64 b :: .int .i64 v :: .int .i64 z :: .int .i64 k :: V :: R
theorem mfInfo : (Try.prog.info? 104).map (·.size) = some 37 := by kernel_rfl

/-- Whether a manifest's numbers can be. -/
def HeadOk (b v z k : Int) : Prop := 1 ≤ b ∧ b ≤ 2147483647 ∧ 1 ≤ v ∧ v ≤ 2147483647 ∧ b ≠ v ∧ 1 ≤ z ∧ z ≤ 4096 ∧ 1 ≤ k ∧ k ≤ 256 ∧ (z + k - 1) / k ≤ 64
/-- How many chunks, by the numbers; 0: they can't be. -/
def nch (b v z k : Int) : Int := if 1 ≤ b ∧ b ≤ 2147483647 ∧ 1 ≤ v ∧ v ≤ 2147483647 ∧ b ≠ v ∧ 1 ≤ z ∧ z ≤ 4096 ∧ 1 ≤ k ∧ k ≤ 256 ∧ (z + k - 1) / k ≤ 64 then (z + k - 1) / k else 0
theorem nch_yes {b v z k : Int} (h : HeadOk b v z k) : nch b v z k = (z + k - 1) / k := if_pos h
theorem nch_no {b v z k : Int} (h : ¬ HeadOk b v z k) : nch b v z k = 0 := if_neg h
theorem div_pos' (z k : Int) (hz : 1 ≤ z) (hk : 1 ≤ k) : 1 ≤ (z + k - 1) / k := by
  rw [Int.le_ediv_iff_mul_le (by omega)]
  omega
theorem div_le' (z k : Int) (hz : 1 ≤ z) (hk : 1 ≤ k) : (z + k - 1) / k ≤ z := by
  have h : (z + k - 1) / k < z + 1 := by
    rw [Int.ediv_lt_iff_lt_mul (by omega)]
    have h2 : 0 ≤ z * (k - 1) := Int.mul_nonneg (by omega) (by omega)
    have h3 : (z + 1) * k = z * (k - 1) + z + k := by rw [Int.add_mul, Int.mul_sub]; omega
    omega
  omega
theorem nch_bounds (b v z k : Int) : 0 ≤ nch b v z k ∧ nch b v z k ≤ 64 := by
  by_cases h : HeadOk b v z k
  · rw [nch_yes h]
    have := div_pos' z k h.2.2.2.2.2.1 h.2.2.2.2.2.2.2.1
    have := h.2.2.2.2.2.2.2.2.2
    omega
  · rw [nch_no h]; omega

set_option maxRecDepth 100000 in
set_option maxHeartbeats 8000000 in
theorem chunks_any (b v z k : Int) (V : Value) (R : List Value) (w : World) : Calls Try.prog 124 #[.agg (Value.int .i64 b :: .int .i64 v :: .int .i64 z :: .int .i64 k :: V :: R).toArray] w fun e w' => e = .returned (.int .i64 (nch b v z k)) ∧ Only [] w w' := by
  have hst := (St.start w []).box (.int .i64 b :: .int .i64 v :: .int .i64 z :: .int .i64 k :: V :: R) 104
  by_cases h1 : b < 1 ∨ 2147483647 < b
  · rw [nch_no (fun h => by unfold HeadOk at h; omega)]
    have C1 := Lib.hid (isVer_no b h1)
    clear h1
    go_enter Try.func124, Try.ntmps124
    go_wp2_with (first | ((with_reducible refine wpL_peel rfl ?_ ?_); focus (go_simp; done)) | ((with_reducible refine wpL_isLoad rfl ?_); first | (refine wpL_load1S hst rfl rfl 0 rfl rfl rfl (by kernel_rfl) ?_) | (refine wpL_load1S hst rfl rfl 1 rfl rfl rfl (by kernel_rfl) ?_) | (refine wpL_load1S hst rfl rfl 2 rfl rfl rfl (by kernel_rfl) ?_) | (refine wpL_load1S hst rfl rfl 3 rfl rfl rfl (by kernel_rfl) ?_)) | (go_at_call 155; (with_reducible refine (C1.out _).mono ?_); rintro e1 w1 ⟨rfl, rfl⟩))
    go_ret
    exact ⟨rfl, hst.only⟩
  have C1 := Lib.hid (isVer_yes b (by omega) (by omega))
  by_cases h2 : v < 1 ∨ 2147483647 < v
  · rw [nch_no (fun h => by unfold HeadOk at h; omega)]
    have C2 := Lib.hid (isVer_no v h2)
    clear h1 h2
    go_enter Try.func124, Try.ntmps124
    go_wp2_with (first | ((with_reducible refine wpL_peel rfl ?_ ?_); focus (go_simp; done)) | ((with_reducible refine wpL_isLoad rfl ?_); first | (refine wpL_load1S hst rfl rfl 0 rfl rfl rfl (by kernel_rfl) ?_) | (refine wpL_load1S hst rfl rfl 1 rfl rfl rfl (by kernel_rfl) ?_) | (refine wpL_load1S hst rfl rfl 2 rfl rfl rfl (by kernel_rfl) ?_) | (refine wpL_load1S hst rfl rfl 3 rfl rfl rfl (by kernel_rfl) ?_)) | (go_at_call 155; (with_reducible refine (C1.out _).mono ?_); rintro e1 w1 ⟨rfl, rfl⟩) | (go_at_call 155; (with_reducible refine (C2.out _).mono ?_); rintro e1 w1 ⟨rfl, rfl⟩))
    go_ret
    exact ⟨rfl, hst.only⟩
  have C2 := Lib.hid (isVer_yes v (by omega) (by omega))
  by_cases h3 : b = v
  · rw [nch_no (fun h => by unfold HeadOk at h; omega)]
    have e3 : (b == v) = true := by rw [beq_iff_eq]; exact h3
    clear h1 h2 h3
    go_enter Try.func124, Try.ntmps124
    go_wp2_with (first | ((with_reducible refine wpL_peel rfl ?_ ?_); focus (go_simp; done)) | ((with_reducible refine wpL_isLoad rfl ?_); first | (refine wpL_load1S hst rfl rfl 0 rfl rfl rfl (by kernel_rfl) ?_) | (refine wpL_load1S hst rfl rfl 1 rfl rfl rfl (by kernel_rfl) ?_) | (refine wpL_load1S hst rfl rfl 2 rfl rfl rfl (by kernel_rfl) ?_) | (refine wpL_load1S hst rfl rfl 3 rfl rfl rfl (by kernel_rfl) ?_)) | (go_at_call 155; (with_reducible refine (C1.out _).mono ?_); rintro e1 w1 ⟨rfl, rfl⟩) | (go_at_call 155; (with_reducible refine (C2.out _).mono ?_); rintro e1 w1 ⟨rfl, rfl⟩))
    go_ret
    exact ⟨rfl, hst.only⟩
  have e3 : (b == v) = false := by rw [beq_eq_false_iff_ne]; exact h3
  have H1 := Lib.hid (show 1 ≤ b ∧ b ≤ 2147483647 ∧ 1 ≤ v ∧ v ≤ 2147483647 ∧ b ≠ v by omega)
  clear h1 h2 h3
  by_cases h4 : z < 1
  · rw [nch_no (fun h => by unfold HeadOk at h; omega)]
    have d4 : decide (z < 1) = true := decide_eq_true h4
    go_enter Try.func124, Try.ntmps124
    go_wp2_with (first | ((with_reducible refine wpL_peel rfl ?_ ?_); focus (go_simp; done)) | ((with_reducible refine wpL_isLoad rfl ?_); first | (refine wpL_load1S hst rfl rfl 0 rfl rfl rfl (by kernel_rfl) ?_) | (refine wpL_load1S hst rfl rfl 1 rfl rfl rfl (by kernel_rfl) ?_) | (refine wpL_load1S hst rfl rfl 2 rfl rfl rfl (by kernel_rfl) ?_) | (refine wpL_load1S hst rfl rfl 3 rfl rfl rfl (by kernel_rfl) ?_)) | (go_at_call 155; (with_reducible refine (C1.out _).mono ?_); rintro e1 w1 ⟨rfl, rfl⟩) | (go_at_call 155; (with_reducible refine (C2.out _).mono ?_); rintro e1 w1 ⟨rfl, rfl⟩))
    go_ret
    exact ⟨rfl, hst.only⟩
  have d4 : decide (z < 1) = false := decide_eq_false h4
  by_cases h5 : 4096 < z
  · rw [nch_no (fun h => by unfold HeadOk at h; omega)]
    have d5 : decide (4096 < z) = true := decide_eq_true h5
    clear h4
    go_enter Try.func124, Try.ntmps124
    go_wp2_with (first | ((with_reducible refine wpL_peel rfl ?_ ?_); focus (go_simp; done)) | ((with_reducible refine wpL_isLoad rfl ?_); first | (refine wpL_load1S hst rfl rfl 0 rfl rfl rfl (by kernel_rfl) ?_) | (refine wpL_load1S hst rfl rfl 1 rfl rfl rfl (by kernel_rfl) ?_) | (refine wpL_load1S hst rfl rfl 2 rfl rfl rfl (by kernel_rfl) ?_) | (refine wpL_load1S hst rfl rfl 3 rfl rfl rfl (by kernel_rfl) ?_)) | (go_at_call 155; (with_reducible refine (C1.out _).mono ?_); rintro e1 w1 ⟨rfl, rfl⟩) | (go_at_call 155; (with_reducible refine (C2.out _).mono ?_); rintro e1 w1 ⟨rfl, rfl⟩))
    go_ret
    exact ⟨rfl, hst.only⟩
  have d5 : decide (4096 < z) = false := decide_eq_false h5
  by_cases h6 : k < 1
  · rw [nch_no (fun h => by unfold HeadOk at h; omega)]
    have d6 : decide (k < 1) = true := decide_eq_true h6
    clear h4 h5
    go_enter Try.func124, Try.ntmps124
    go_wp2_with (first | ((with_reducible refine wpL_peel rfl ?_ ?_); focus (go_simp; done)) | ((with_reducible refine wpL_isLoad rfl ?_); first | (refine wpL_load1S hst rfl rfl 0 rfl rfl rfl (by kernel_rfl) ?_) | (refine wpL_load1S hst rfl rfl 1 rfl rfl rfl (by kernel_rfl) ?_) | (refine wpL_load1S hst rfl rfl 2 rfl rfl rfl (by kernel_rfl) ?_) | (refine wpL_load1S hst rfl rfl 3 rfl rfl rfl (by kernel_rfl) ?_)) | (go_at_call 155; (with_reducible refine (C1.out _).mono ?_); rintro e1 w1 ⟨rfl, rfl⟩) | (go_at_call 155; (with_reducible refine (C2.out _).mono ?_); rintro e1 w1 ⟨rfl, rfl⟩))
    go_ret
    exact ⟨rfl, hst.only⟩
  have d6 : decide (k < 1) = false := decide_eq_false h6
  by_cases h7 : 256 < k
  · rw [nch_no (fun h => by unfold HeadOk at h; omega)]
    have d7 : decide (256 < k) = true := decide_eq_true h7
    clear h4 h5 h6
    go_enter Try.func124, Try.ntmps124
    go_wp2_with (first | ((with_reducible refine wpL_peel rfl ?_ ?_); focus (go_simp; done)) | ((with_reducible refine wpL_isLoad rfl ?_); first | (refine wpL_load1S hst rfl rfl 0 rfl rfl rfl (by kernel_rfl) ?_) | (refine wpL_load1S hst rfl rfl 1 rfl rfl rfl (by kernel_rfl) ?_) | (refine wpL_load1S hst rfl rfl 2 rfl rfl rfl (by kernel_rfl) ?_) | (refine wpL_load1S hst rfl rfl 3 rfl rfl rfl (by kernel_rfl) ?_)) | (go_at_call 155; (with_reducible refine (C1.out _).mono ?_); rintro e1 w1 ⟨rfl, rfl⟩) | (go_at_call 155; (with_reducible refine (C2.out _).mono ?_); rintro e1 w1 ⟨rfl, rfl⟩))
    go_ret
    exact ⟨rfl, hst.only⟩
  have d7 : decide (256 < k) = false := decide_eq_false h7
  have z1 : 1 ≤ z := by omega
  have z2 : z ≤ 4096 := by omega
  have k1 : 1 ≤ k := by omega
  have k2 : k ≤ 256 := by omega
  have q1 := div_pos' z k z1 k1
  have q2 := div_le' z k z1 k1
  clear h4 h5 h6 h7
  by_cases h8 : 64 < (z + k - 1) / k
  · rw [nch_no (fun h => by unfold HeadOk at h; omega)]
    have d8 : decide (64 < (z + k - 1) / k) = true := decide_eq_true h8
    go_enter Try.func124, Try.ntmps124
    go_wp2_with (first | ((with_reducible refine wpL_peel rfl ?_ ?_); focus (go_simp; done)) | ((with_reducible refine wpL_isLoad rfl ?_); first | (refine wpL_load1S hst rfl rfl 0 rfl rfl rfl (by kernel_rfl) ?_) | (refine wpL_load1S hst rfl rfl 1 rfl rfl rfl (by kernel_rfl) ?_) | (refine wpL_load1S hst rfl rfl 2 rfl rfl rfl (by kernel_rfl) ?_) | (refine wpL_load1S hst rfl rfl 3 rfl rfl rfl (by kernel_rfl) ?_)) | (go_at_call 155; (with_reducible refine (C1.out _).mono ?_); rintro e1 w1 ⟨rfl, rfl⟩) | (go_at_call 155; (with_reducible refine (C2.out _).mono ?_); rintro e1 w1 ⟨rfl, rfl⟩))
    go_ret
    exact ⟨rfl, hst.only⟩
  have HN : Hid (nch b v z k = (z + k - 1) / k) := nch_yes ⟨H1.out.1, H1.out.2.1, H1.out.2.2.1, H1.out.2.2.2.1, H1.out.2.2.2.2, z1, z2, k1, k2, by omega⟩
  have d8 : decide (64 < (z + k - 1) / k) = false := decide_eq_false h8
  rw [HN.out]
  clear h8
  go_enter Try.func124, Try.ntmps124
  go_wp2_with (first | ((with_reducible refine wpL_peel rfl ?_ ?_); focus (go_simp; done)) | ((with_reducible refine wpL_isLoad rfl ?_); first | (refine wpL_load1S hst rfl rfl 0 rfl rfl rfl (by kernel_rfl) ?_) | (refine wpL_load1S hst rfl rfl 1 rfl rfl rfl (by kernel_rfl) ?_) | (refine wpL_load1S hst rfl rfl 2 rfl rfl rfl (by kernel_rfl) ?_) | (refine wpL_load1S hst rfl rfl 3 rfl rfl rfl (by kernel_rfl) ?_)) | (go_at_call 155; (with_reducible refine (C1.out _).mono ?_); rintro e1 w1 ⟨rfl, rfl⟩) | (go_at_call 155; (with_reducible refine (C2.out _).mono ?_); rintro e1 w1 ⟨rfl, rfl⟩))
  go_ret
  exact ⟨rfl, hst.only⟩

end Go.Proofs.Ytmogkiacakkmbaa
