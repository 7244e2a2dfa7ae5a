/- Manifests: how many chunks, how long, which bytes. -/
import Derived.Test.YtmogkiacakkmbaaManB
namespace Go.Proofs.Ytmogkiacakkmbaa
open Go.RowKit

theorem ret_i64 {a b : Int} (h : a = b) : Ending.returned (.int .i64 a) = .returned (.int .i64 b) := by rw [h]
/-- How many bytes a chunk has; 0: there is none. -/
def lenM (b v z k : Int) (n : Nat) (a : Int) : Int := if 0 ≤ a ∧ a < cnt b v z k n then min k (z - a * k) else 0
/-- A chunk of a patch. -/
def partM (b v z k : Int) (n : Nat) (a : Int) (s : ByteArray) : ByteArray := if 0 < lenM b v z k n a ∧ (s.size : Int) = z then s.extract (a * k).toNat (a * k + lenM b v z k n a).toNat else ⟨#[]⟩
theorem lenM_at {b v z k a : Int} {n : Nat} (h0 : 0 ≤ a) (h1 : a < cnt b v z k n) : 0 ≤ a * k ∧ a * k ≤ z - 1 := by
  obtain ⟨hz, _, e1, e2⟩ := cnt_pos (by omega : 0 < cnt b v z k n)
  unfold HeadOk at hz
  have h2 : (a + 1) ≤ (z + k - 1) / k := by omega
  rw [Int.le_ediv_iff_mul_le (by omega), Int.add_mul] at h2
  have h3 := Int.mul_nonneg h0 (by omega : 0 ≤ k)
  omega
theorem lenM_pos {b v z k a : Int} {n : Nat} (h : ¬ lenM b v z k n a = 0) : 0 < lenM b v z k n a ∧ a * k + lenM b v z k n a ≤ z ∧ (0 ≤ a ∧ a ≤ 64 ∧ 1 ≤ k ∧ k ≤ 256) ∧ z ≤ 4096 ∧ 0 ≤ a * k := by
  unfold lenM at *
  split at h
  · rename_i hh
    rw [if_pos hh]
    have h1 := lenM_at hh.1 hh.2
    have hb := cnt_bounds' b v z k n
    have hz := (cnt_pos (by omega : 0 < cnt b v z k n)).1
    unfold HeadOk at hz
    refine ⟨by omega, by omega, by omega, by omega, by omega⟩
  · exact absurd rfl h

set_option maxRecDepth 100000 in
set_option maxHeartbeats 8000000 in
theorem manCount_any (b v z k : Int) (ad : Option Addr) (n cp : Nat) (R : List Value) (hR : R.length = 32) (w : World) : Calls Try.prog 63 #[.agg (Value.int .i64 b :: .int .i64 v :: .int .i64 z :: .int .i64 k :: .slice ad n cp :: R).toArray] w fun e w' => e = .returned (.int .i64 (cnt b v z k n)) ∧ Only [] w w' := by
  have hst := (St.start w []).box (.int .i64 b :: .int .i64 v :: .int .i64 z :: .int .i64 k :: .slice ad n cp :: R) 104
  have HT := Lib.hid (mfTake b v z k (.slice ad n cp) R hR)
  have HL := Lib.hid (mfLen b v z k (.slice ad n cp) R hR)
  have GD : Hid (∀ w, Calls Try.prog 62 #[.agg (Value.int .i64 b :: .int .i64 v :: .int .i64 z :: .int .i64 k :: .slice ad n cp :: R).toArray] w fun e w' => e = .returned (.bool (decide (0 < cnt b v z k n))) ∧ Only [] w w') := manGood_any b v z k ad n cp R hR
  have hb := cnt_bounds' b v z k n
  by_cases h0 : 0 < cnt b v z k n
  · have HV := Lib.hid (cnt_pos h0).2.2.1
    rw [decide_eq_true h0] at GD
    rw [HV.out]
    clear hb h0 HV
    go_enter Try.func63, Try.ntmps63
    go_wp2_with (first | ((with_reducible refine wpL_isLoad rfl ?_); first | (refine wpL_loadAtS hst rfl (ty := 104) rfl 0 rfl rfl (by kernel_rfl) 37 (by kernel_rfl) _ HT.out HL.out ?_) | (refine wpL_loadAtS hst rfl (ty := 104) rfl 1 rfl rfl (by kernel_rfl) 37 (by kernel_rfl) _ HT.out HL.out ?_) | (refine wpL_loadAtS hst rfl (ty := 104) rfl 2 rfl rfl (by kernel_rfl) 37 (by kernel_rfl) _ HT.out HL.out ?_)) | ((with_reducible refine wpL_peel rfl ?_ ?_); focus (go_simp; done)) | ((with_reducible refine wpL_isLoad rfl ?_); first | (refine wpL_load1S hst rfl rfl 0 rfl rfl rfl (by kernel_rfl) ?_) | (refine wpL_load1S hst rfl rfl 1 rfl rfl rfl (by kernel_rfl) ?_) | (refine wpL_load1S hst rfl rfl 2 rfl rfl rfl (by kernel_rfl) ?_) | (refine wpL_load1S hst rfl rfl 3 rfl rfl rfl (by kernel_rfl) ?_)) | (go_at_call 62; (with_reducible refine (GD.out _).mono ?_); rintro e1 w1 ⟨rfl, ho1⟩; replace hst := hst.keep ho1; clear ho1))
    go_ret
    exact ⟨rfl, hst.only⟩
  · have HV : Hid (cnt b v z k n = 0) := by show _ = _; omega
    rw [decide_eq_false h0] at GD
    rw [HV.out]
    clear hb h0 HV
    go_enter Try.func63, Try.ntmps63
    go_wp2_with (first | ((with_reducible refine wpL_isLoad rfl ?_); first | (refine wpL_loadAtS hst rfl (ty := 104) rfl 0 rfl rfl (by kernel_rfl) 37 (by kernel_rfl) _ HT.out HL.out ?_) | (refine wpL_loadAtS hst rfl (ty := 104) rfl 1 rfl rfl (by kernel_rfl) 37 (by kernel_rfl) _ HT.out HL.out ?_) | (refine wpL_loadAtS hst rfl (ty := 104) rfl 2 rfl rfl (by kernel_rfl) 37 (by kernel_rfl) _ HT.out HL.out ?_)) | ((with_reducible refine wpL_peel rfl ?_ ?_); focus (go_simp; done)) | ((with_reducible refine wpL_isLoad rfl ?_); first | (refine wpL_load1S hst rfl rfl 0 rfl rfl rfl (by kernel_rfl) ?_) | (refine wpL_load1S hst rfl rfl 1 rfl rfl rfl (by kernel_rfl) ?_) | (refine wpL_load1S hst rfl rfl 2 rfl rfl rfl (by kernel_rfl) ?_) | (refine wpL_load1S hst rfl rfl 3 rfl rfl rfl (by kernel_rfl) ?_)) | (go_at_call 62; (with_reducible refine (GD.out _).mono ?_); rintro e1 w1 ⟨rfl, ho1⟩; replace hst := hst.keep ho1; clear ho1))
    go_ret
    exact ⟨rfl, hst.only⟩

set_option maxRecDepth 100000 in
set_option maxHeartbeats 8000000 in
theorem manLength_any (b v z k : Int) (ad : Option Addr) (n cp : Nat) (R : List Value) (hR : R.length = 32) (a : Int) (w : World) : Calls Try.prog 64 #[.agg (Value.int .i64 b :: .int .i64 v :: .int .i64 z :: .int .i64 k :: .slice ad n cp :: R).toArray, .int .i64 a] w fun e w' => e = .returned (.int .i64 (lenM b v z k n a)) ∧ Only [] w w' := by
  have hst := (St.start w []).box (.int .i64 b :: .int .i64 v :: .int .i64 z :: .int .i64 k :: .slice ad n cp :: R) 104
  have HT := Lib.hid (mfTake b v z k (.slice ad n cp) R hR)
  have HL := Lib.hid (mfLen b v z k (.slice ad n cp) R hR)
  have CT : Hid (∀ w, Calls Try.prog 63 #[.agg (Value.int .i64 b :: .int .i64 v :: .int .i64 z :: .int .i64 k :: .slice ad n cp :: R).toArray] w fun e w' => e = .returned (.int .i64 (cnt b v z k n)) ∧ Only [] w w') := manCount_any b v z k ad n cp R hR
  have hcb := cnt_bounds' b v z k n
  by_cases h0 : 0 ≤ a ∧ a < cnt b v z k n
  · have HV : Hid (lenM b v z k n a = min k (z - a * k)) := if_pos h0
    have hp := lenM_at h0.1 h0.2
    have hz := (cnt_pos (by omega : 0 < cnt b v z k n)).1
    unfold HeadOk at hz
    have z2 : z ≤ 4096 := by omega
    have k2 : k ≤ 256 := by omega
    have k1 : 1 ≤ k := by omega
    have a0 := h0.1
    have a1 := h0.2
    have d0 : decide (a < 0) = false := decide_eq_false (by omega)
    have d1 : decide (cnt b v z k n ≤ a) = false := decide_eq_false (by omega)
    obtain ⟨p, ep⟩ : ∃ p, a * k = p := ⟨_, rfl⟩
    rw [ep] at hp HV
    have p0 := hp.1
    have p1 := hp.2
    rw [HV.out]
    generalize cnt b v z k n = c at *
    clear h0 hz hp HV
    go_enter Try.func64, Try.ntmps64
    go_wp2_with (first | ((with_reducible refine wpL_isLoad rfl ?_); first | (refine wpL_loadAtS hst rfl (ty := 104) rfl 0 rfl rfl (by kernel_rfl) 37 (by kernel_rfl) _ HT.out HL.out ?_) | (refine wpL_loadAtS hst rfl (ty := 104) rfl 1 rfl rfl (by kernel_rfl) 37 (by kernel_rfl) _ HT.out HL.out ?_) | (refine wpL_loadAtS hst rfl (ty := 104) rfl 2 rfl rfl (by kernel_rfl) 37 (by kernel_rfl) _ HT.out HL.out ?_)) | ((with_reducible refine wpL_peel rfl ?_ ?_); focus (go_simp; done)) | ((with_reducible refine wpL_isLoad rfl ?_); first | (refine wpL_load1S hst rfl rfl 0 rfl rfl rfl (by kernel_rfl) ?_) | (refine wpL_load1S hst rfl rfl 1 rfl rfl rfl (by kernel_rfl) ?_) | (refine wpL_load1S hst rfl rfl 2 rfl rfl rfl (by kernel_rfl) ?_) | (refine wpL_load1S hst rfl rfl 3 rfl rfl rfl (by kernel_rfl) ?_)) | (go_at_call 63; (with_reducible refine (CT.out _).mono ?_); rintro e1 w1 ⟨rfl, ho1⟩; replace hst := hst.keep ho1; clear ho1))
    all_goals
      go_ret
      exact ⟨ret_i64 (by omega), hst.only⟩
  · have HV : Hid (lenM b v z k n a = 0) := if_neg h0
    rw [HV.out]
    by_cases hn : a < 0
    · have d0 : decide (a < 0) = true := decide_eq_true hn
      clear h0 HV
      go_enter Try.func64, Try.ntmps64
      go_wp2_with (first | ((with_reducible refine wpL_isLoad rfl ?_); first | (refine wpL_loadAtS hst rfl (ty := 104) rfl 0 rfl rfl (by kernel_rfl) 37 (by kernel_rfl) _ HT.out HL.out ?_) | (refine wpL_loadAtS hst rfl (ty := 104) rfl 1 rfl rfl (by kernel_rfl) 37 (by kernel_rfl) _ HT.out HL.out ?_) | (refine wpL_loadAtS hst rfl (ty := 104) rfl 2 rfl rfl (by kernel_rfl) 37 (by kernel_rfl) _ HT.out HL.out ?_)) | ((with_reducible refine wpL_peel rfl ?_ ?_); focus (go_simp; done)) | ((with_reducible refine wpL_isLoad rfl ?_); first | (refine wpL_load1S hst rfl rfl 0 rfl rfl rfl (by kernel_rfl) ?_) | (refine wpL_load1S hst rfl rfl 1 rfl rfl rfl (by kernel_rfl) ?_) | (refine wpL_load1S hst rfl rfl 2 rfl rfl rfl (by kernel_rfl) ?_) | (refine wpL_load1S hst rfl rfl 3 rfl rfl rfl (by kernel_rfl) ?_)) | (go_at_call 63; (with_reducible refine (CT.out _).mono ?_); rintro e1 w1 ⟨rfl, ho1⟩; replace hst := hst.keep ho1; clear ho1))
      go_ret
      exact ⟨rfl, hst.only⟩
    · have d0 : decide (a < 0) = false := decide_eq_false hn
      have d1 : decide (cnt b v z k n ≤ a) = true := decide_eq_true (by omega)
      generalize cnt b v z k n = c at *
      clear h0 HV hn
      go_enter Try.func64, Try.ntmps64
      go_wp2_with (first | ((with_reducible refine wpL_isLoad rfl ?_); first | (refine wpL_loadAtS hst rfl (ty := 104) rfl 0 rfl rfl (by kernel_rfl) 37 (by kernel_rfl) _ HT.out HL.out ?_) | (refine wpL_loadAtS hst rfl (ty := 104) rfl 1 rfl rfl (by kernel_rfl) 37 (by kernel_rfl) _ HT.out HL.out ?_) | (refine wpL_loadAtS hst rfl (ty := 104) rfl 2 rfl rfl (by kernel_rfl) 37 (by kernel_rfl) _ HT.out HL.out ?_)) | ((with_reducible refine wpL_peel rfl ?_ ?_); focus (go_simp; done)) | ((with_reducible refine wpL_isLoad rfl ?_); first | (refine wpL_load1S hst rfl rfl 0 rfl rfl rfl (by kernel_rfl) ?_) | (refine wpL_load1S hst rfl rfl 1 rfl rfl rfl (by kernel_rfl) ?_) | (refine wpL_load1S hst rfl rfl 2 rfl rfl rfl (by kernel_rfl) ?_) | (refine wpL_load1S hst rfl rfl 3 rfl rfl rfl (by kernel_rfl) ?_)) | (go_at_call 63; (with_reducible refine (CT.out _).mono ?_); rintro e1 w1 ⟨rfl, ho1⟩; replace hst := hst.keep ho1; clear ho1))
      go_ret
      exact ⟨rfl, hst.only⟩

set_option maxRecDepth 100000 in
set_option maxHeartbeats 8000000 in
theorem manPart_any (b v z k : Int) (ad : Option Addr) (n cp : Nat) (R : List Value) (hR : R.length = 32) (a : Int) (s : ByteArray) (w : World) : Calls Try.prog 66 #[.agg (Value.int .i64 b :: .int .i64 v :: .int .i64 z :: .int .i64 k :: .slice ad n cp :: R).toArray, .int .i64 a, .string s] w fun e w' => e = .returned (.string (partM b v z k n a s)) ∧ Only [] w w' := by
  have hst := (St.start w []).box (.int .i64 b :: .int .i64 v :: .int .i64 z :: .int .i64 k :: .slice ad n cp :: R) 104
  have HT := Lib.hid (mfTake b v z k (.slice ad n cp) R hR)
  have HL := Lib.hid (mfLen b v z k (.slice ad n cp) R hR)
  have LN : Hid (∀ w, Calls Try.prog 64 #[.agg (Value.int .i64 b :: .int .i64 v :: .int .i64 z :: .int .i64 k :: .slice ad n cp :: R).toArray, .int .i64 a] w fun e w' => e = .returned (.int .i64 (lenM b v z k n a)) ∧ Only [] w w') := manLength_any b v z k ad n cp R hR a
  by_cases h0 : lenM b v z k n a = 0
  · have HV : Hid (partM b v z k n a s = ⟨#[]⟩) := if_neg (fun h => absurd h0 (by omega))
    rw [HV.out]
    rw [h0] at LN
    clear h0 HV
    go_enter Try.func66, Try.ntmps66
    go_wp2_with (first | ((with_reducible refine wpL_isLoad rfl ?_); first | (refine wpL_loadAtS hst rfl (ty := 104) rfl 0 rfl rfl (by kernel_rfl) 37 (by kernel_rfl) _ HT.out HL.out ?_) | (refine wpL_loadAtS hst rfl (ty := 104) rfl 1 rfl rfl (by kernel_rfl) 37 (by kernel_rfl) _ HT.out HL.out ?_) | (refine wpL_loadAtS hst rfl (ty := 104) rfl 2 rfl rfl (by kernel_rfl) 37 (by kernel_rfl) _ HT.out HL.out ?_)) | ((with_reducible refine wpL_peel rfl ?_ ?_); focus (go_simp; done)) | ((with_reducible refine wpL_isLoad rfl ?_); first | (refine wpL_load1S hst rfl rfl 0 rfl rfl rfl (by kernel_rfl) ?_) | (refine wpL_load1S hst rfl rfl 1 rfl rfl rfl (by kernel_rfl) ?_) | (refine wpL_load1S hst rfl rfl 2 rfl rfl rfl (by kernel_rfl) ?_) | (refine wpL_load1S hst rfl rfl 3 rfl rfl rfl (by kernel_rfl) ?_)) | (go_at_call 64; (with_reducible refine (LN.out _).mono ?_); rintro e1 w1 ⟨rfl, ho1⟩; replace hst := hst.keep ho1; clear ho1))
    go_ret
    exact ⟨rfl, hst.only⟩
  by_cases h1 : (s.size : Int) = z
  · have hl := lenM_pos h0
    have HV : Hid (partM b v z k n a s = s.extract (a * k).toNat (a * k + lenM b v z k n a).toNat) := if_pos ⟨hl.1, h1⟩
    rw [HV.out]
    have e0 : (lenM b v z k n a == 0) = false := beq_eq_false_iff_ne.2 h0
    have e1 : ((s.size : Int) != z) = false := by rw [h1]; simp
    obtain ⟨p, ep⟩ : ∃ p : Nat, a * k = (p : Int) := ⟨(a * k).toNat, by omega⟩
    obtain ⟨m, em⟩ : ∃ m : Nat, lenM b v z k n a = (m : Int) := ⟨(lenM b v z k n a).toNat, by omega⟩
    have hz : z ≤ 4096 := hl.2.2.2.1
    rw [ep, em] at hl ⊢
    rw [em] at LN e0
    have b1 : (p : Int) + m ≤ s.size := by omega
    have b2 : (s.size : Int) ≤ 4096 := by omega
    have a0 : 0 ≤ a := hl.2.2.1.1
    have a1 : a ≤ 64 := hl.2.2.1.2.1
    have k1 : 1 ≤ k := hl.2.2.1.2.2.1
    have k2 : k ≤ 256 := hl.2.2.1.2.2.2
    rw [show ((p : Int)).toNat = p by omega, show ((p : Int) + m).toNat = p + m by omega]
    clear h0 h1 hl HV em
    go_enter Try.func66, Try.ntmps66
    go_wp2_with (first | ((with_reducible refine wpL_isLoad rfl ?_); first | (refine wpL_loadAtS hst rfl (ty := 104) rfl 0 rfl rfl (by kernel_rfl) 37 (by kernel_rfl) _ HT.out HL.out ?_) | (refine wpL_loadAtS hst rfl (ty := 104) rfl 1 rfl rfl (by kernel_rfl) 37 (by kernel_rfl) _ HT.out HL.out ?_) | (refine wpL_loadAtS hst rfl (ty := 104) rfl 2 rfl rfl (by kernel_rfl) 37 (by kernel_rfl) _ HT.out HL.out ?_)) | ((with_reducible refine wpL_peel rfl ?_ ?_); focus (go_simp; done)) | ((with_reducible refine wpL_isLoad rfl ?_); first | (refine wpL_load1S hst rfl rfl 0 rfl rfl rfl (by kernel_rfl) ?_) | (refine wpL_load1S hst rfl rfl 1 rfl rfl rfl (by kernel_rfl) ?_) | (refine wpL_load1S hst rfl rfl 2 rfl rfl rfl (by kernel_rfl) ?_) | (refine wpL_load1S hst rfl rfl 3 rfl rfl rfl (by kernel_rfl) ?_)) | (go_at_call 64; (with_reducible refine (LN.out _).mono ?_); rintro e1 w1 ⟨rfl, ho1⟩; replace hst := hst.keep ho1; clear ho1))
    go_ret
    exact ⟨rfl, hst.only⟩
  · have HV : Hid (partM b v z k n a s = ⟨#[]⟩) := if_neg (fun h => h1 h.2)
    rw [HV.out]
    have e0 : (lenM b v z k n a == 0) = false := beq_eq_false_iff_ne.2 h0
    have e1 : ((s.size : Int) != z) = true := by rw [bne_iff_ne]; exact h1
    generalize lenM b v z k n a = m at *
    clear h0 h1 HV
    go_enter Try.func66, Try.ntmps66
    go_wp2_with (first | ((with_reducible refine wpL_isLoad rfl ?_); first | (refine wpL_loadAtS hst rfl (ty := 104) rfl 0 rfl rfl (by kernel_rfl) 37 (by kernel_rfl) _ HT.out HL.out ?_) | (refine wpL_loadAtS hst rfl (ty := 104) rfl 1 rfl rfl (by kernel_rfl) 37 (by kernel_rfl) _ HT.out HL.out ?_) | (refine wpL_loadAtS hst rfl (ty := 104) rfl 2 rfl rfl (by kernel_rfl) 37 (by kernel_rfl) _ HT.out HL.out ?_)) | ((with_reducible refine wpL_peel rfl ?_ ?_); focus (go_simp; done)) | ((with_reducible refine wpL_isLoad rfl ?_); first | (refine wpL_load1S hst rfl rfl 0 rfl rfl rfl (by kernel_rfl) ?_) | (refine wpL_load1S hst rfl rfl 1 rfl rfl rfl (by kernel_rfl) ?_) | (refine wpL_load1S hst rfl rfl 2 rfl rfl rfl (by kernel_rfl) ?_) | (refine wpL_load1S hst rfl rfl 3 rfl rfl rfl (by kernel_rfl) ?_)) | (go_at_call 64; (with_reducible refine (LN.out _).mono ?_); rintro e1 w1 ⟨rfl, ho1⟩; replace hst := hst.keep ho1; clear ho1))
    go_ret
    exact ⟨rfl, hst.only⟩

end Go.Proofs.Ytmogkiacakkmbaa
