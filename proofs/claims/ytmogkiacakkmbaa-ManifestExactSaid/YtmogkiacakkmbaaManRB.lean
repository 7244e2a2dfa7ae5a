/- Manifests in the reference: whether the numbers can be, how many chunks. -/
import Derived.Test.YtmogkiacakkmbaaManO
import Derived.Test.YtmogkiacakkmbaaManB
namespace Go.Proofs.Ytmogkiacakkmbaa
open Go.RowKit

theorem bl_join (s t : ByteArray) : bl (s ++ t) = bl s ++ bl t := by
  unfold bl
  rw [ByteArray.data_append, Array.toList_append]
theorem ext_join (s : ByteArray) (a b : Nat) (h : a ≤ b) : s.extract 0 a ++ s.extract a b = s.extract 0 b := by
  refine bl_ext ?_
  rw [bl_join, bl_extract, bl_extract, bl_extract, List.drop_zero, List.drop_zero]
  conv => lhs; lhs; rw [← Nat.min_eq_left h, ← List.take_take]
  exact List.take_append_drop _ _
/-- The first j chunks joined. -/
def joinP (k : Nat) (s : ByteArray) (j : Nat) : ByteArray := s.extract 0 (min (j * k) s.size)
theorem joinP_0 (k : Nat) (s : ByteArray) : joinP k s 0 = ⟨#[]⟩ := by
  refine bl_ext ?_
  unfold joinP
  rw [bl_extract]
  simp [bl]
theorem joinP_step (b v : Int) (k n j : Nat) (s : ByteArray) (hcnt : 0 < cnt b v (s.size : Int) (k : Int) n) (hj : j < n) : joinP k s j ++ partM b v (s.size : Int) (k : Int) n (j : Int) s = joinP k s (j + 1) := by
  obtain ⟨hh, _, e1, e2⟩ := cnt_pos hcnt
  have hl := lenM_at (b := b) (v := v) (z := (s.size : Int)) (k := (k : Int)) (a := (j : Int)) (n := n) (by omega) (by omega)
  have el : lenM b v (s.size : Int) (k : Int) n (j : Int) = min (k : Int) ((s.size : Int) - (j : Int) * k) := by
    unfold lenM
    rw [if_pos ⟨by omega, by omega⟩]
  have hk1 : (1 : Int) ≤ k := by unfold HeadOk at hh; omega
  have hjk : ((j : Int) * (k : Int)) = ((j * k : Nat) : Int) := by simp
  rw [hjk] at hl el
  unfold partM joinP
  rw [if_pos ⟨by rw [el]; omega, rfl⟩, el, hjk]
  have hs : (j + 1) * k = j * k + k := by rw [Nat.add_mul, Nat.one_mul]
  have e3 : (((j * k : Nat) : Int)).toNat = min (j * k) s.size := by omega
  have e4 : (((j * k : Nat) : Int) + min (k : Int) ((s.size : Int) - ((j * k : Nat) : Int))).toNat = min ((j + 1) * k) s.size := by omega
  rw [e3, e4]
  exact ext_join _ _ _ (by omega)

end Go.Proofs.Ytmogkiacakkmbaa

namespace Go.Proofs.Ytmogkiacakkmbaa
open Go.RowKit

/-- Whether a manifest's numbers can be. -/
def headB (b v z k : Int) : Bool := decide (1 ≤ b ∧ b ≤ 2147483647 ∧ 1 ≤ v ∧ v ≤ 2147483647 ∧ b ≠ v ∧ 1 ≤ z ∧ z ≤ 4096 ∧ 1 ≤ k ∧ k ≤ 256 ∧ (z + k - 1) / k ≤ 64)
theorem headB_yes {b v z k : Int} (h : HeadOk b v z k) : headB b v z k = true := decide_eq_true h
theorem headB_no {b v z k : Int} (h : ¬ HeadOk b v z k) : headB b v z k = false := decide_eq_false h
theorem headB_iff {b v z k : Int} : headB b v z k = true ↔ HeadOk b v z k := by unfold headB HeadOk; exact decide_eq_true_iff

section
variable {P : Program} {w : World} {ops : Array Oper} {rest : List Oper} {o : Oper} {a : Act} {Q : Exit → Act → World → Prop}
/-- A guarded operation whose guard is not met. -/
theorem wpL_skip {g : Nat × Bool} (_hs : o.guard = some g) (hg : Region.wanted o (yielded ops a.tmps) = false) (h : wpList P ops Q rest (a.put o.dst undef) w) : wpList P ops Q (o :: rest) a w := by
  rw [wpList, if_neg (by rw [hg]; decide)]
  exact h
end

set_option maxRecDepth 100000 in
set_option maxHeartbeats 4000000 in
theorem rmanHead_0 (b v z k : Int) (V : Value) (R : List Value) (w : World) (d0 : Hid (decide (b < 1) = true)) : Calls Try.prog 123 #[.agg (Value.int .i64 b :: .int .i64 v :: .int .i64 z :: .int .i64 k :: V :: R).toArray] w fun e w' => e = .returned (.bool false) ∧ Only [] w w' := by
  have hst := (St.start w []).box (Value.int .i64 b :: .int .i64 v :: .int .i64 z :: .int .i64 k :: V :: R) 107
  go_enter Try.func123, Try.ntmps123; go_wp2_with (first | ((with_reducible refine wpL_skip rfl ?_ ?_); focus (go_simp; done)) | ((with_reducible refine wpL_peel rfl ?_ ?_); focus (go_simp; done)) | ((with_reducible refine wpL_isLoad rfl ?_); (first | (refine wpL_load1S hst rfl rfl 0 rfl rfl rfl (by kernel_rfl) ?_) | (refine wpL_load1S hst rfl rfl 1 rfl rfl rfl (by kernel_rfl) ?_) | (refine wpL_load1S hst rfl rfl 2 rfl rfl rfl (by kernel_rfl) ?_) | (refine wpL_load1S hst rfl rfl 3 rfl rfl rfl (by kernel_rfl) ?_))) | ((with_reducible refine wpL_isBin rfl ?_); first | (refine wpL_lssB rfl rfl rfl rfl true ?_ ?_; with_reducible exact d0.out))); go_ret; exact ⟨rfl, hst.only⟩

set_option maxRecDepth 100000 in
set_option maxHeartbeats 4000000 in
theorem rmanHead_1 (b v z k : Int) (V : Value) (R : List Value) (w : World) (d0 : Hid (decide (b < 1) = false)) (d1 : Hid (decide (2147483647 < b) = true)) : Calls Try.prog 123 #[.agg (Value.int .i64 b :: .int .i64 v :: .int .i64 z :: .int .i64 k :: V :: R).toArray] w fun e w' => e = .returned (.bool false) ∧ Only [] w w' := by
  have hst := (St.start w []).box (Value.int .i64 b :: .int .i64 v :: .int .i64 z :: .int .i64 k :: V :: R) 107
  go_enter Try.func123, Try.ntmps123; go_wp2_with (first | ((with_reducible refine wpL_skip rfl ?_ ?_); focus (go_simp; done)) | ((with_reducible refine wpL_peel rfl ?_ ?_); focus (go_simp; done)) | ((with_reducible refine wpL_isLoad rfl ?_); (first | (refine wpL_load1S hst rfl rfl 0 rfl rfl rfl (by kernel_rfl) ?_) | (refine wpL_load1S hst rfl rfl 1 rfl rfl rfl (by kernel_rfl) ?_) | (refine wpL_load1S hst rfl rfl 2 rfl rfl rfl (by kernel_rfl) ?_) | (refine wpL_load1S hst rfl rfl 3 rfl rfl rfl (by kernel_rfl) ?_))) | ((with_reducible refine wpL_isBin rfl ?_); first | (refine wpL_lssB rfl rfl rfl rfl false ?_ ?_; with_reducible exact d0.out) | (refine wpL_gtrB rfl rfl rfl rfl true ?_ ?_; with_reducible exact d1.out))); go_ret; exact ⟨rfl, hst.only⟩

set_option maxRecDepth 100000 in
set_option maxHeartbeats 4000000 in
theorem rmanHead_2 (b v z k : Int) (V : Value) (R : List Value) (w : World) (d0 : Hid (decide (b < 1) = false)) (d1 : Hid (decide (2147483647 < b) = false)) (d2 : Hid (decide (v < 1) = true)) : Calls Try.prog 123 #[.agg (Value.int .i64 b :: .int .i64 v :: .int .i64 z :: .int .i64 k :: V :: R).toArray] w fun e w' => e = .returned (.bool false) ∧ Only [] w w' := by
  have hst := (St.start w []).box (Value.int .i64 b :: .int .i64 v :: .int .i64 z :: .int .i64 k :: V :: R) 107
  go_enter Try.func123, Try.ntmps123; go_wp2_with (first | ((with_reducible refine wpL_skip rfl ?_ ?_); focus (go_simp; done)) | ((with_reducible refine wpL_peel rfl ?_ ?_); focus (go_simp; done)) | ((with_reducible refine wpL_isLoad rfl ?_); (first | (refine wpL_load1S hst rfl rfl 0 rfl rfl rfl (by kernel_rfl) ?_) | (refine wpL_load1S hst rfl rfl 1 rfl rfl rfl (by kernel_rfl) ?_) | (refine wpL_load1S hst rfl rfl 2 rfl rfl rfl (by kernel_rfl) ?_) | (refine wpL_load1S hst rfl rfl 3 rfl rfl rfl (by kernel_rfl) ?_))) | ((with_reducible refine wpL_isBin rfl ?_); first | (refine wpL_lssB rfl rfl rfl rfl false ?_ ?_; with_reducible exact d0.out) | (refine wpL_gtrB rfl rfl rfl rfl false ?_ ?_; with_reducible exact d1.out) | (refine wpL_lssB rfl rfl rfl rfl true ?_ ?_; with_reducible exact d2.out))); go_ret; exact ⟨rfl, hst.only⟩

set_option maxRecDepth 100000 in
set_option maxHeartbeats 4000000 in
theorem rmanHead_3 (b v z k : Int) (V : Value) (R : List Value) (w : World) (d0 : Hid (decide (b < 1) = false)) (d1 : Hid (decide (2147483647 < b) = false)) (d2 : Hid (decide (v < 1) = false)) (d3 : Hid (decide (2147483647 < v) = true)) : Calls Try.prog 123 #[.agg (Value.int .i64 b :: .int .i64 v :: .int .i64 z :: .int .i64 k :: V :: R).toArray] w fun e w' => e = .returned (.bool false) ∧ Only [] w w' := by
  have hst := (St.start w []).box (Value.int .i64 b :: .int .i64 v :: .int .i64 z :: .int .i64 k :: V :: R) 107
  go_enter Try.func123, Try.ntmps123; go_wp2_with (first | ((with_reducible refine wpL_skip rfl ?_ ?_); focus (go_simp; done)) | ((with_reducible refine wpL_peel rfl ?_ ?_); focus (go_simp; done)) | ((with_reducible refine wpL_isLoad rfl ?_); (first | (refine wpL_load1S hst rfl rfl 0 rfl rfl rfl (by kernel_rfl) ?_) | (refine wpL_load1S hst rfl rfl 1 rfl rfl rfl (by kernel_rfl) ?_) | (refine wpL_load1S hst rfl rfl 2 rfl rfl rfl (by kernel_rfl) ?_) | (refine wpL_load1S hst rfl rfl 3 rfl rfl rfl (by kernel_rfl) ?_))) | ((with_reducible refine wpL_isBin rfl ?_); first | (refine wpL_lssB rfl rfl rfl rfl false ?_ ?_; with_reducible exact d0.out) | (refine wpL_gtrB rfl rfl rfl rfl false ?_ ?_; with_reducible exact d1.out) | (refine wpL_lssB rfl rfl rfl rfl false ?_ ?_; with_reducible exact d2.out) | (refine wpL_gtrB rfl rfl rfl rfl true ?_ ?_; with_reducible exact d3.out))); go_ret; exact ⟨rfl, hst.only⟩

set_option maxRecDepth 100000 in
set_option maxHeartbeats 4000000 in
theorem rmanHead_4 (b v z k : Int) (V : Value) (R : List Value) (w : World) (d0 : Hid (decide (b < 1) = false)) (d1 : Hid (decide (2147483647 < b) = false)) (d2 : Hid (decide (v < 1) = false)) (d3 : Hid (decide (2147483647 < v) = false)) (d4 : (b == v) = true) : Calls Try.prog 123 #[.agg (Value.int .i64 b :: .int .i64 v :: .int .i64 z :: .int .i64 k :: V :: R).toArray] w fun e w' => e = .returned (.bool false) ∧ Only [] w w' := by
  have hst := (St.start w []).box (Value.int .i64 b :: .int .i64 v :: .int .i64 z :: .int .i64 k :: V :: R) 107
  go_enter Try.func123, Try.ntmps123; go_wp2_with (first | ((with_reducible refine wpL_skip rfl ?_ ?_); focus (go_simp; done)) | ((with_reducible refine wpL_peel rfl ?_ ?_); focus (go_simp; done)) | ((with_reducible refine wpL_isLoad rfl ?_); (first | (refine wpL_load1S hst rfl rfl 0 rfl rfl rfl (by kernel_rfl) ?_) | (refine wpL_load1S hst rfl rfl 1 rfl rfl rfl (by kernel_rfl) ?_) | (refine wpL_load1S hst rfl rfl 2 rfl rfl rfl (by kernel_rfl) ?_) | (refine wpL_load1S hst rfl rfl 3 rfl rfl rfl (by kernel_rfl) ?_))) | ((with_reducible refine wpL_isBin rfl ?_); first | (refine wpL_lssB rfl rfl rfl rfl false ?_ ?_; with_reducible exact d0.out) | (refine wpL_gtrB rfl rfl rfl rfl false ?_ ?_; with_reducible exact d1.out) | (refine wpL_lssB rfl rfl rfl rfl false ?_ ?_; with_reducible exact d2.out) | (refine wpL_gtrB rfl rfl rfl rfl false ?_ ?_; with_reducible exact d3.out))); go_ret; exact ⟨rfl, hst.only⟩

set_option maxRecDepth 100000 in
set_option maxHeartbeats 4000000 in
theorem rmanHead_5 (b v z k : Int) (V : Value) (R : List Value) (w : World) (d0 : Hid (decide (b < 1) = false)) (d1 : Hid (decide (2147483647 < b) = false)) (d2 : Hid (decide (v < 1) = false)) (d3 : Hid (decide (2147483647 < v) = false)) (d4 : (b == v) = false) (d5 : Hid (decide (1 ≤ z) = false)) : Calls Try.prog 123 #[.agg (Value.int .i64 b :: .int .i64 v :: .int .i64 z :: .int .i64 k :: V :: R).toArray] w fun e w' => e = .returned (.bool false) ∧ Only [] w w' := by
  have hst := (St.start w []).box (Value.int .i64 b :: .int .i64 v :: .int .i64 z :: .int .i64 k :: V :: R) 107
  go_enter Try.func123, Try.ntmps123; go_wp2_with (first | ((with_reducible refine wpL_skip rfl ?_ ?_); focus (go_simp; done)) | ((with_reducible refine wpL_peel rfl ?_ ?_); focus (go_simp; done)) | ((with_reducible refine wpL_isLoad rfl ?_); (first | (refine wpL_load1S hst rfl rfl 0 rfl rfl rfl (by kernel_rfl) ?_) | (refine wpL_load1S hst rfl rfl 1 rfl rfl rfl (by kernel_rfl) ?_) | (refine wpL_load1S hst rfl rfl 2 rfl rfl rfl (by kernel_rfl) ?_) | (refine wpL_load1S hst rfl rfl 3 rfl rfl rfl (by kernel_rfl) ?_))) | ((with_reducible refine wpL_isBin rfl ?_); first | (refine wpL_lssB rfl rfl rfl rfl false ?_ ?_; with_reducible exact d0.out) | (refine wpL_gtrB rfl rfl rfl rfl false ?_ ?_; with_reducible exact d1.out) | (refine wpL_lssB rfl rfl rfl rfl false ?_ ?_; with_reducible exact d2.out) | (refine wpL_gtrB rfl rfl rfl rfl false ?_ ?_; with_reducible exact d3.out) | (refine wpL_geqB rfl rfl rfl rfl false ?_ ?_; with_reducible exact d5.out))); go_ret; exact ⟨rfl, hst.only⟩

set_option maxRecDepth 100000 in
set_option maxHeartbeats 4000000 in
theorem rmanHead_6 (b v z k : Int) (V : Value) (R : List Value) (w : World) (d0 : Hid (decide (b < 1) = false)) (d1 : Hid (decide (2147483647 < b) = false)) (d2 : Hid (decide (v < 1) = false)) (d3 : Hid (decide (2147483647 < v) = false)) (d4 : (b == v) = false) (d5 : Hid (decide (1 ≤ z) = true)) (d6 : Hid (decide (z ≤ 4096) = false)) : Calls Try.prog 123 #[.agg (Value.int .i64 b :: .int .i64 v :: .int .i64 z :: .int .i64 k :: V :: R).toArray] w fun e w' => e = .returned (.bool false) ∧ Only [] w w' := by
  have hst := (St.start w []).box (Value.int .i64 b :: .int .i64 v :: .int .i64 z :: .int .i64 k :: V :: R) 107
  go_enter Try.func123, Try.ntmps123; go_wp2_with (first | ((with_reducible refine wpL_skip rfl ?_ ?_); focus (go_simp; done)) | ((with_reducible refine wpL_peel rfl ?_ ?_); focus (go_simp; done)) | ((with_reducible refine wpL_isLoad rfl ?_); (first | (refine wpL_load1S hst rfl rfl 0 rfl rfl rfl (by kernel_rfl) ?_) | (refine wpL_load1S hst rfl rfl 1 rfl rfl rfl (by kernel_rfl) ?_) | (refine wpL_load1S hst rfl rfl 2 rfl rfl rfl (by kernel_rfl) ?_) | (refine wpL_load1S hst rfl rfl 3 rfl rfl rfl (by kernel_rfl) ?_))) | ((with_reducible refine wpL_isBin rfl ?_); first | (refine wpL_lssB rfl rfl rfl rfl false ?_ ?_; with_reducible exact d0.out) | (refine wpL_gtrB rfl rfl rfl rfl false ?_ ?_; with_reducible exact d1.out) | (refine wpL_lssB rfl rfl rfl rfl false ?_ ?_; with_reducible exact d2.out) | (refine wpL_gtrB rfl rfl rfl rfl false ?_ ?_; with_reducible exact d3.out) | (refine wpL_geqB rfl rfl rfl rfl true ?_ ?_; with_reducible exact d5.out) | (refine wpL_leqB rfl rfl rfl rfl false ?_ ?_; with_reducible exact d6.out))); go_ret; exact ⟨rfl, hst.only⟩

set_option maxRecDepth 100000 in
set_option maxHeartbeats 4000000 in
theorem rmanHead_7 (b v z k : Int) (V : Value) (R : List Value) (w : World) (d0 : Hid (decide (b < 1) = false)) (d1 : Hid (decide (2147483647 < b) = false)) (d2 : Hid (decide (v < 1) = false)) (d3 : Hid (decide (2147483647 < v) = false)) (d4 : (b == v) = false) (d5 : Hid (decide (1 ≤ z) = true)) (d6 : Hid (decide (z ≤ 4096) = true)) (d7 : Hid (decide (1 ≤ k) = false)) : Calls Try.prog 123 #[.agg (Value.int .i64 b :: .int .i64 v :: .int .i64 z :: .int .i64 k :: V :: R).toArray] w fun e w' => e = .returned (.bool false) ∧ Only [] w w' := by
  have hst := (St.start w []).box (Value.int .i64 b :: .int .i64 v :: .int .i64 z :: .int .i64 k :: V :: R) 107
  go_enter Try.func123, Try.ntmps123; go_wp2_with (first | ((with_reducible refine wpL_skip rfl ?_ ?_); focus (go_simp; done)) | ((with_reducible refine wpL_peel rfl ?_ ?_); focus (go_simp; done)) | ((with_reducible refine wpL_isLoad rfl ?_); (first | (refine wpL_load1S hst rfl rfl 0 rfl rfl rfl (by kernel_rfl) ?_) | (refine wpL_load1S hst rfl rfl 1 rfl rfl rfl (by kernel_rfl) ?_) | (refine wpL_load1S hst rfl rfl 2 rfl rfl rfl (by kernel_rfl) ?_) | (refine wpL_load1S hst rfl rfl 3 rfl rfl rfl (by kernel_rfl) ?_))) | ((with_reducible refine wpL_isBin rfl ?_); first | (refine wpL_lssB rfl rfl rfl rfl false ?_ ?_; with_reducible exact d0.out) | (refine wpL_gtrB rfl rfl rfl rfl false ?_ ?_; with_reducible exact d1.out) | (refine wpL_lssB rfl rfl rfl rfl false ?_ ?_; with_reducible exact d2.out) | (refine wpL_gtrB rfl rfl rfl rfl false ?_ ?_; with_reducible exact d3.out) | (refine wpL_geqB rfl rfl rfl rfl true ?_ ?_; with_reducible exact d5.out) | (refine wpL_leqB rfl rfl rfl rfl true ?_ ?_; with_reducible exact d6.out) | (refine wpL_geqB rfl rfl rfl rfl false ?_ ?_; with_reducible exact d7.out))); go_ret; exact ⟨rfl, hst.only⟩

set_option maxRecDepth 100000 in
set_option maxHeartbeats 4000000 in
theorem rmanHead_8 (b v z k : Int) (V : Value) (R : List Value) (w : World) (d0 : Hid (decide (b < 1) = false)) (d1 : Hid (decide (2147483647 < b) = false)) (d2 : Hid (decide (v < 1) = false)) (d3 : Hid (decide (2147483647 < v) = false)) (d4 : (b == v) = false) (d5 : Hid (decide (1 ≤ z) = true)) (d6 : Hid (decide (z ≤ 4096) = true)) (d7 : Hid (decide (1 ≤ k) = true)) (d8 : Hid (decide (k ≤ 256) = false)) : Calls Try.prog 123 #[.agg (Value.int .i64 b :: .int .i64 v :: .int .i64 z :: .int .i64 k :: V :: R).toArray] w fun e w' => e = .returned (.bool false) ∧ Only [] w w' := by
  have hst := (St.start w []).box (Value.int .i64 b :: .int .i64 v :: .int .i64 z :: .int .i64 k :: V :: R) 107
  go_enter Try.func123, Try.ntmps123; go_wp2_with (first | ((with_reducible refine wpL_skip rfl ?_ ?_); focus (go_simp; done)) | ((with_reducible refine wpL_peel rfl ?_ ?_); focus (go_simp; done)) | ((with_reducible refine wpL_isLoad rfl ?_); (first | (refine wpL_load1S hst rfl rfl 0 rfl rfl rfl (by kernel_rfl) ?_) | (refine wpL_load1S hst rfl rfl 1 rfl rfl rfl (by kernel_rfl) ?_) | (refine wpL_load1S hst rfl rfl 2 rfl rfl rfl (by kernel_rfl) ?_) | (refine wpL_load1S hst rfl rfl 3 rfl rfl rfl (by kernel_rfl) ?_))) | ((with_reducible refine wpL_isBin rfl ?_); first | (refine wpL_lssB rfl rfl rfl rfl false ?_ ?_; with_reducible exact d0.out) | (refine wpL_gtrB rfl rfl rfl rfl false ?_ ?_; with_reducible exact d1.out) | (refine wpL_lssB rfl rfl rfl rfl false ?_ ?_; with_reducible exact d2.out) | (refine wpL_gtrB rfl rfl rfl rfl false ?_ ?_; with_reducible exact d3.out) | (refine wpL_geqB rfl rfl rfl rfl true ?_ ?_; with_reducible exact d5.out) | (refine wpL_leqB rfl rfl rfl rfl true ?_ ?_; with_reducible exact d6.out) | (refine wpL_geqB rfl rfl rfl rfl true ?_ ?_; with_reducible exact d7.out) | (refine wpL_leqB rfl rfl rfl rfl false ?_ ?_; with_reducible exact d8.out))); go_ret; exact ⟨rfl, hst.only⟩

set_option maxRecDepth 100000 in
set_option maxHeartbeats 4000000 in
theorem rmanHead_9 (b v z k : Int) (V : Value) (R : List Value) (w : World) (d0 : Hid (decide (b < 1) = false)) (d1 : Hid (decide (2147483647 < b) = false)) (d2 : Hid (decide (v < 1) = false)) (d3 : Hid (decide (2147483647 < v) = false)) (d4 : (b == v) = false) (d5 : Hid (decide (1 ≤ z) = true)) (d6 : Hid (decide (z ≤ 4096) = true)) (d7 : Hid (decide (1 ≤ k) = true)) (d8 : Hid (decide (k ≤ 256) = true)) (d9 : Hid (decide ((z + k - 1) / k ≤ 64) = false)) (z1 : 1 ≤ z) (z2 : z ≤ 4096) (k1 : 1 ≤ k) (k2 : k ≤ 256) (q1 : 1 ≤ (z + k - 1) / k) (q2 : (z + k - 1) / k ≤ z) : Calls Try.prog 123 #[.agg (Value.int .i64 b :: .int .i64 v :: .int .i64 z :: .int .i64 k :: V :: R).toArray] w fun e w' => e = .returned (.bool false) ∧ Only [] w w' := by
  have hst := (St.start w []).box (Value.int .i64 b :: .int .i64 v :: .int .i64 z :: .int .i64 k :: V :: R) 107
  go_enter Try.func123, Try.ntmps123; go_wp2_with (first | ((with_reducible refine wpL_skip rfl ?_ ?_); focus (go_simp; done)) | ((with_reducible refine wpL_peel rfl ?_ ?_); focus (go_simp; done)) | ((with_reducible refine wpL_isLoad rfl ?_); (first | (refine wpL_load1S hst rfl rfl 0 rfl rfl rfl (by kernel_rfl) ?_) | (refine wpL_load1S hst rfl rfl 1 rfl rfl rfl (by kernel_rfl) ?_) | (refine wpL_load1S hst rfl rfl 2 rfl rfl rfl (by kernel_rfl) ?_) | (refine wpL_load1S hst rfl rfl 3 rfl rfl rfl (by kernel_rfl) ?_))) | ((with_reducible refine wpL_isBin rfl ?_); first | (refine wpL_lssB rfl rfl rfl rfl false ?_ ?_; with_reducible exact d0.out) | (refine wpL_gtrB rfl rfl rfl rfl false ?_ ?_; with_reducible exact d1.out) | (refine wpL_lssB rfl rfl rfl rfl false ?_ ?_; with_reducible exact d2.out) | (refine wpL_gtrB rfl rfl rfl rfl false ?_ ?_; with_reducible exact d3.out) | (refine wpL_geqB rfl rfl rfl rfl true ?_ ?_; with_reducible exact d5.out) | (refine wpL_leqB rfl rfl rfl rfl true ?_ ?_; with_reducible exact d6.out) | (refine wpL_geqB rfl rfl rfl rfl true ?_ ?_; with_reducible exact d7.out) | (refine wpL_leqB rfl rfl rfl rfl true ?_ ?_; with_reducible exact d8.out) | (refine wpL_leqB rfl rfl rfl rfl false ?_ ?_; with_reducible exact d9.out))); go_ret; exact ⟨rfl, hst.only⟩

set_option maxRecDepth 100000 in
set_option maxHeartbeats 4000000 in
theorem rmanHead_10 (b v z k : Int) (V : Value) (R : List Value) (w : World) (d0 : Hid (decide (b < 1) = false)) (d1 : Hid (decide (2147483647 < b) = false)) (d2 : Hid (decide (v < 1) = false)) (d3 : Hid (decide (2147483647 < v) = false)) (d4 : (b == v) = false) (d5 : Hid (decide (1 ≤ z) = true)) (d6 : Hid (decide (z ≤ 4096) = true)) (d7 : Hid (decide (1 ≤ k) = true)) (d8 : Hid (decide (k ≤ 256) = true)) (d9 : Hid (decide ((z + k - 1) / k ≤ 64) = true)) (z1 : 1 ≤ z) (z2 : z ≤ 4096) (k1 : 1 ≤ k) (k2 : k ≤ 256) (q1 : 1 ≤ (z + k - 1) / k) (q2 : (z + k - 1) / k ≤ z) : Calls Try.prog 123 #[.agg (Value.int .i64 b :: .int .i64 v :: .int .i64 z :: .int .i64 k :: V :: R).toArray] w fun e w' => e = .returned (.bool true) ∧ Only [] w w' := by
  have hst := (St.start w []).box (Value.int .i64 b :: .int .i64 v :: .int .i64 z :: .int .i64 k :: V :: R) 107
  go_enter Try.func123, Try.ntmps123; go_wp2_with (first | ((with_reducible refine wpL_skip rfl ?_ ?_); focus (go_simp; done)) | ((with_reducible refine wpL_peel rfl ?_ ?_); focus (go_simp; done)) | ((with_reducible refine wpL_isLoad rfl ?_); (first | (refine wpL_load1S hst rfl rfl 0 rfl rfl rfl (by kernel_rfl) ?_) | (refine wpL_load1S hst rfl rfl 1 rfl rfl rfl (by kernel_rfl) ?_) | (refine wpL_load1S hst rfl rfl 2 rfl rfl rfl (by kernel_rfl) ?_) | (refine wpL_load1S hst rfl rfl 3 rfl rfl rfl (by kernel_rfl) ?_))) | ((with_reducible refine wpL_isBin rfl ?_); first | (refine wpL_lssB rfl rfl rfl rfl false ?_ ?_; with_reducible exact d0.out) | (refine wpL_gtrB rfl rfl rfl rfl false ?_ ?_; with_reducible exact d1.out) | (refine wpL_lssB rfl rfl rfl rfl false ?_ ?_; with_reducible exact d2.out) | (refine wpL_gtrB rfl rfl rfl rfl false ?_ ?_; with_reducible exact d3.out) | (refine wpL_geqB rfl rfl rfl rfl true ?_ ?_; with_reducible exact d5.out) | (refine wpL_leqB rfl rfl rfl rfl true ?_ ?_; with_reducible exact d6.out) | (refine wpL_geqB rfl rfl rfl rfl true ?_ ?_; with_reducible exact d7.out) | (refine wpL_leqB rfl rfl rfl rfl true ?_ ?_; with_reducible exact d8.out) | (refine wpL_leqB rfl rfl rfl rfl true ?_ ?_; with_reducible exact d9.out))); go_ret; exact ⟨rfl, hst.only⟩

set_option maxRecDepth 100000 in
set_option maxHeartbeats 4000000 in
theorem rmanHead_any (b v z k : Int) (V : Value) (R : List Value) (w : World) : Calls Try.prog 123 #[.agg (Value.int .i64 b :: .int .i64 v :: .int .i64 z :: .int .i64 k :: V :: R).toArray] w fun e w' => e = .returned (.bool (headB b v z k)) ∧ Only [] w w' := by
  by_cases h0 : b < 1
  · rw [headB_no (fun h => by unfold HeadOk at h; omega)]; exact rmanHead_0 b v z k V R w  (decide_eq_true h0)
  have d0 : Hid (decide (b < 1) = false) := decide_eq_false h0
  by_cases h1 : 2147483647 < b
  · rw [headB_no (fun h => by unfold HeadOk at h; omega)]; exact rmanHead_1 b v z k V R w d0 (decide_eq_true h1)
  have d1 : Hid (decide (2147483647 < b) = false) := decide_eq_false h1
  by_cases h2 : v < 1
  · rw [headB_no (fun h => by unfold HeadOk at h; omega)]; exact rmanHead_2 b v z k V R w d0 d1 (decide_eq_true h2)
  have d2 : Hid (decide (v < 1) = false) := decide_eq_false h2
  by_cases h3 : 2147483647 < v
  · rw [headB_no (fun h => by unfold HeadOk at h; omega)]; exact rmanHead_3 b v z k V R w d0 d1 d2 (decide_eq_true h3)
  have d3 : Hid (decide (2147483647 < v) = false) := decide_eq_false h3
  by_cases h4 : b = v
  · rw [headB_no (fun h => by unfold HeadOk at h; omega)]; exact rmanHead_4 b v z k V R w d0 d1 d2 d3 (beq_iff_eq.2 h4)
  have d4 : (b == v) = false := beq_eq_false_iff_ne.2 h4
  by_cases h5 : ¬ (1 ≤ z)
  · rw [headB_no (fun h => by unfold HeadOk at h; omega)]; exact rmanHead_5 b v z k V R w d0 d1 d2 d3 d4 (decide_eq_false h5)
  have d5 : Hid (decide (1 ≤ z) = true) := decide_eq_true (Decidable.not_not.1 h5)
  by_cases h6 : ¬ (z ≤ 4096)
  · rw [headB_no (fun h => by unfold HeadOk at h; omega)]; exact rmanHead_6 b v z k V R w d0 d1 d2 d3 d4 d5 (decide_eq_false h6)
  have d6 : Hid (decide (z ≤ 4096) = true) := decide_eq_true (Decidable.not_not.1 h6)
  by_cases h7 : ¬ (1 ≤ k)
  · rw [headB_no (fun h => by unfold HeadOk at h; omega)]; exact rmanHead_7 b v z k V R w d0 d1 d2 d3 d4 d5 d6 (decide_eq_false h7)
  have d7 : Hid (decide (1 ≤ k) = true) := decide_eq_true (Decidable.not_not.1 h7)
  by_cases h8 : ¬ (k ≤ 256)
  · rw [headB_no (fun h => by unfold HeadOk at h; omega)]; exact rmanHead_8 b v z k V R w d0 d1 d2 d3 d4 d5 d6 d7 (decide_eq_false h8)
  have d8 : Hid (decide (k ≤ 256) = true) := decide_eq_true (Decidable.not_not.1 h8)
  have z1 : 1 ≤ z := by omega
  have z2 : z ≤ 4096 := by omega
  have k1 : 1 ≤ k := by omega
  have k2 : k ≤ 256 := by omega
  have q1 := div_pos' z k z1 k1
  have q2 := div_le' z k z1 k1
  by_cases h9 : ¬ ((z + k - 1) / k ≤ 64)
  · rw [headB_no (fun h => by unfold HeadOk at h; omega)]; exact rmanHead_9 b v z k V R w d0 d1 d2 d3 d4 d5 d6 d7 d8 (decide_eq_false h9) z1 z2 k1 k2 q1 q2
  have d9 : Hid (decide ((z + k - 1) / k ≤ 64) = true) := decide_eq_true (Decidable.not_not.1 h9)
  rw [headB_yes (by unfold HeadOk; omega)]
  exact rmanHead_10 b v z k V R w d0 d1 d2 d3 d4 d5 d6 d7 d8 d9 z1 z2 k1 k2 q1 q2

set_option maxRecDepth 100000 in
set_option maxHeartbeats 8000000 in
theorem rmanCount_any (b v z k : Int) (ad : Option Addr) (n cp : Nat) (R : List Value) (hR : R.length = 32) (w : World) : Calls Try.prog 61 #[.agg (Value.int .i64 b :: .int .i64 v :: .int .i64 z :: .int .i64 k :: .slice ad n cp :: R).toArray] w fun e w' => e = .returned (.int .i64 (cnt b v z k n)) ∧ Only [] w w' := by
  have hst := ((St.start w []).box (Value.int .i64 b :: .int .i64 v :: .int .i64 z :: .int .i64 k :: .slice ad n cp :: R) 107).drew
  have HT := Lib.hid (mfTake b v z k (.slice ad n cp) R hR)
  have HL := Lib.hid (mfLen b v z k (.slice ad n cp) R hR)
  have HD : Hid (∀ w, Calls Try.prog 123 #[.agg (Value.int .i64 b :: .int .i64 v :: .int .i64 z :: .int .i64 k :: .slice ad n cp :: R).toArray] w fun e w' => e = .returned (.bool (headB b v z k)) ∧ Only [] w w') := rmanHead_any b v z k _ R
  by_cases h0 : HeadOk b v z k
  · rw [headB_yes h0] at HD
    have hn := nch_yes h0
    have h0' := h0
    unfold HeadOk at h0'
    have z1 : 1 ≤ z := by omega
    have z2 : z ≤ 4096 := by omega
    have k1 : 1 ≤ k := by omega
    have k2 : k ≤ 256 := by omega
    have q1 := div_pos' z k z1 k1
    have q2 := div_le' z k z1 k1
    obtain ⟨β, hβ⟩ : ∃ β, ((n : Int) != (z + k - 1) / k) = β := ⟨_, rfl⟩
    have HC : Hid (cnt b v z k n = if β then 0 else (n : Int)) := by
      show _ = _
      unfold cnt
      rw [hn, ← hβ]
      by_cases e : (z + k - 1) / k = (n : Int)
      · rw [if_pos e, ← e]; simp
      · rw [if_neg e, if_pos (by rw [bne_iff_ne]; exact fun h => e h.symm)]
    rw [HC.out]
    clear h0 h0' hn HC
    go_enter Try.func61, Try.ntmps61
    go_wp2_with fail
    refine wp_region_ord [1] [0, 1, 2, 3, 4, 5, 6, 7, 8, 9, 10, 11, 12, 13, 14, 15, 16, 17] (by kernel_rfl) (by kernel_rfl) ?_
    generalize World.drew _ = W at *
    refine Ord.cut 1 0 rfl rfl rfl rfl (by kernel_rfl) (by kernel_rfl) ?_; simp only [List.take_succ_cons, List.take_zero, List.drop_succ_cons, List.drop_zero, List.filterMap_cons, List.filterMap_nil, List.getElem?_cons_succ, List.getElem?_cons_zero]
    (first | (refine wpL_loadAtS hst rfl (ty := 107) rfl 0 rfl rfl (by kernel_rfl) 37 (by kernel_rfl) _ HT.out HL.out ?_) | (refine wpL_loadAtS hst rfl (ty := 107) rfl 1 rfl rfl (by kernel_rfl) 37 (by kernel_rfl) _ HT.out HL.out ?_) | (refine wpL_loadAtS hst rfl (ty := 107) rfl 2 rfl rfl (by kernel_rfl) 37 (by kernel_rfl) _ HT.out HL.out ?_))
    refine TextQ.mk ⟨fun h => by simp at h, ?_⟩ rfl
    refine Ord.cut 1 1 rfl rfl rfl rfl (by kernel_rfl) (by kernel_rfl) ?_; simp only [List.take_succ_cons, List.take_zero, List.drop_succ_cons, List.drop_zero, List.filterMap_cons, List.filterMap_nil, List.getElem?_cons_succ, List.getElem?_cons_zero]
    go_wp2_with (go_at_call 123; refine (HD.out _).mono ?_; rintro e1 w1 ⟨rfl, ho1⟩)
    refine TextQ.mk ⟨fun _ => ho1, ?_⟩ rfl
    replace hst := hst.keep ho1
    refine Ord.cut 3 4 rfl rfl rfl rfl (by kernel_rfl) (by kernel_rfl) ?_; simp only [List.take_succ_cons, List.take_zero, List.drop_succ_cons, List.drop_zero, List.filterMap_cons, List.filterMap_nil, List.getElem?_cons_succ, List.getElem?_cons_zero]; go_wp2_with fail; refine TextQ.mk ⟨fun h => by simp at h, ?_⟩ rfl
    refine Ord.cut 1 5 rfl rfl rfl rfl (by kernel_rfl) (by kernel_rfl) ?_; simp only [List.take_succ_cons, List.take_zero, List.drop_succ_cons, List.drop_zero, List.filterMap_cons, List.filterMap_nil, List.getElem?_cons_succ, List.getElem?_cons_zero]; (try refine wpL_peel rfl rfl ?_); (first | (refine wpL_load1S hst rfl rfl 0 rfl rfl rfl (by kernel_rfl) ?_) | (refine wpL_load1S hst rfl rfl 1 rfl rfl rfl (by kernel_rfl) ?_) | (refine wpL_load1S hst rfl rfl 2 rfl rfl rfl (by kernel_rfl) ?_) | (refine wpL_load1S hst rfl rfl 3 rfl rfl rfl (by kernel_rfl) ?_)); refine TextQ.mk ⟨fun h => by simp at h, ?_⟩ rfl
    refine Ord.cut 2 7 rfl rfl rfl rfl (by kernel_rfl) (by kernel_rfl) ?_; simp only [List.take_succ_cons, List.take_zero, List.drop_succ_cons, List.drop_zero, List.filterMap_cons, List.filterMap_nil, List.getElem?_cons_succ, List.getElem?_cons_zero]; go_wp2_with fail; refine TextQ.mk ⟨fun h => by simp at h, ?_⟩ rfl
    refine Ord.cut 1 8 rfl rfl rfl rfl (by kernel_rfl) (by kernel_rfl) ?_; simp only [List.take_succ_cons, List.take_zero, List.drop_succ_cons, List.drop_zero, List.filterMap_cons, List.filterMap_nil, List.getElem?_cons_succ, List.getElem?_cons_zero]; (try refine wpL_peel rfl rfl ?_); (first | (refine wpL_load1S hst rfl rfl 0 rfl rfl rfl (by kernel_rfl) ?_) | (refine wpL_load1S hst rfl rfl 1 rfl rfl rfl (by kernel_rfl) ?_) | (refine wpL_load1S hst rfl rfl 2 rfl rfl rfl (by kernel_rfl) ?_) | (refine wpL_load1S hst rfl rfl 3 rfl rfl rfl (by kernel_rfl) ?_)); refine TextQ.mk ⟨fun h => by simp at h, ?_⟩ rfl
    refine Ord.cut 1 9 rfl rfl rfl rfl (by kernel_rfl) (by kernel_rfl) ?_; simp only [List.take_succ_cons, List.take_zero, List.drop_succ_cons, List.drop_zero, List.filterMap_cons, List.filterMap_nil, List.getElem?_cons_succ, List.getElem?_cons_zero]; go_wp2_with fail; refine TextQ.mk ⟨fun h => by simp at h, ?_⟩ rfl
    refine Ord.cut 1 10 rfl rfl rfl rfl (by kernel_rfl) (by kernel_rfl) ?_; simp only [List.take_succ_cons, List.take_zero, List.drop_succ_cons, List.drop_zero, List.filterMap_cons, List.filterMap_nil, List.getElem?_cons_succ, List.getElem?_cons_zero]; (try refine wpL_peel rfl rfl ?_); (first | (refine wpL_load1S hst rfl rfl 0 rfl rfl rfl (by kernel_rfl) ?_) | (refine wpL_load1S hst rfl rfl 1 rfl rfl rfl (by kernel_rfl) ?_) | (refine wpL_load1S hst rfl rfl 2 rfl rfl rfl (by kernel_rfl) ?_) | (refine wpL_load1S hst rfl rfl 3 rfl rfl rfl (by kernel_rfl) ?_)); refine TextQ.mk ⟨fun h => by simp at h, ?_⟩ rfl
    refine Ord.cut 3 13 rfl rfl rfl rfl (by kernel_rfl) (by kernel_rfl) ?_; simp only [List.take_succ_cons, List.take_zero, List.drop_succ_cons, List.drop_zero, List.filterMap_cons, List.filterMap_nil, List.getElem?_cons_succ, List.getElem?_cons_zero]; go_wp2_with fail; refine TextQ.mk ⟨fun h => by simp at h, ?_⟩ rfl
    refine Ord.cut 1 14 rfl rfl rfl rfl (by kernel_rfl) (by kernel_rfl) ?_; simp only [List.take_succ_cons, List.take_zero, List.drop_succ_cons, List.drop_zero, List.filterMap_cons, List.filterMap_nil, List.getElem?_cons_succ, List.getElem?_cons_zero]; (try refine wpL_peel rfl rfl ?_); (first | (refine wpL_load1S hst rfl rfl 0 rfl rfl rfl (by kernel_rfl) ?_) | (refine wpL_load1S hst rfl rfl 1 rfl rfl rfl (by kernel_rfl) ?_) | (refine wpL_load1S hst rfl rfl 2 rfl rfl rfl (by kernel_rfl) ?_) | (refine wpL_load1S hst rfl rfl 3 rfl rfl rfl (by kernel_rfl) ?_)); refine TextQ.mk ⟨fun h => by simp at h, ?_⟩ rfl
    refine Ord.cut 3 17 rfl rfl rfl rfl (by kernel_rfl) (by kernel_rfl) ?_; simp only [List.take_succ_cons, List.take_zero, List.drop_succ_cons, List.drop_zero, List.filterMap_cons, List.filterMap_nil, List.getElem?_cons_succ, List.getElem?_cons_zero]; go_wp2_with fail; refine TextQ.mk ⟨fun h => by simp at h, ?_⟩ rfl
    refine Ord.done ?_
    cases β
    · go_wp2_with (first | ((with_reducible refine wpL_peel rfl ?_ ?_); focus (go_simp; done)) | ((with_reducible refine wpL_isLoad rfl ?_); first | (refine wpL_load1S hst rfl rfl 0 rfl rfl rfl (by kernel_rfl) ?_) | (refine wpL_load1S hst rfl rfl 1 rfl rfl rfl (by kernel_rfl) ?_) | (refine wpL_load1S hst rfl rfl 2 rfl rfl rfl (by kernel_rfl) ?_) | (refine wpL_load1S hst rfl rfl 3 rfl rfl rfl (by kernel_rfl) ?_)))
      go_ret
      exact ⟨rfl, hst.only⟩
    · go_wp2_with fail
      go_ret
      exact ⟨rfl, hst.only⟩
  · rw [headB_no h0] at HD
    have HC : Hid (cnt b v z k n = 0) := by show _ = _; unfold cnt; rw [nch_no h0]; split <;> omega
    rw [HC.out]
    clear h0 HC
    go_enter Try.func61, Try.ntmps61
    go_wp2_with fail
    refine wp_region_ord [1] [0, 1, 2, 3, 4, 5, 6, 7, 8, 9, 10, 11, 12, 13, 14, 15, 16, 17] (by kernel_rfl) (by kernel_rfl) ?_
    generalize World.drew _ = W at *
    refine Ord.cut 1 0 rfl rfl rfl rfl (by kernel_rfl) (by kernel_rfl) ?_; simp only [List.take_succ_cons, List.take_zero, List.drop_succ_cons, List.drop_zero, List.filterMap_cons, List.filterMap_nil, List.getElem?_cons_succ, List.getElem?_cons_zero]
    (first | (refine wpL_loadAtS hst rfl (ty := 107) rfl 0 rfl rfl (by kernel_rfl) 37 (by kernel_rfl) _ HT.out HL.out ?_) | (refine wpL_loadAtS hst rfl (ty := 107) rfl 1 rfl rfl (by kernel_rfl) 37 (by kernel_rfl) _ HT.out HL.out ?_) | (refine wpL_loadAtS hst rfl (ty := 107) rfl 2 rfl rfl (by kernel_rfl) 37 (by kernel_rfl) _ HT.out HL.out ?_))
    refine TextQ.mk ⟨fun h => by simp at h, ?_⟩ rfl
    refine Ord.cut 1 1 rfl rfl rfl rfl (by kernel_rfl) (by kernel_rfl) ?_; simp only [List.take_succ_cons, List.take_zero, List.drop_succ_cons, List.drop_zero, List.filterMap_cons, List.filterMap_nil, List.getElem?_cons_succ, List.getElem?_cons_zero]
    go_wp2_with (go_at_call 123; refine (HD.out _).mono ?_; rintro e1 w1 ⟨rfl, ho1⟩)
    refine TextQ.mk ⟨fun _ => ho1, ?_⟩ rfl
    replace hst := hst.keep ho1
    refine Ord.cut 4 5 rfl rfl rfl rfl (by kernel_rfl) (by kernel_rfl) ?_; simp only [List.take_succ_cons, List.take_zero, List.drop_succ_cons, List.drop_zero, List.filterMap_cons, List.filterMap_nil, List.getElem?_cons_succ, List.getElem?_cons_zero]; go_wp2_with fail; refine TextQ.mk ⟨fun h => by simp at h, ?_⟩ rfl
    refine Ord.cut 4 9 rfl rfl rfl rfl (by kernel_rfl) (by kernel_rfl) ?_; simp only [List.take_succ_cons, List.take_zero, List.drop_succ_cons, List.drop_zero, List.filterMap_cons, List.filterMap_nil, List.getElem?_cons_succ, List.getElem?_cons_zero]; go_wp2_with fail; refine TextQ.mk ⟨fun h => by simp at h, ?_⟩ rfl
    refine Ord.cut 4 13 rfl rfl rfl rfl (by kernel_rfl) (by kernel_rfl) ?_; simp only [List.take_succ_cons, List.take_zero, List.drop_succ_cons, List.drop_zero, List.filterMap_cons, List.filterMap_nil, List.getElem?_cons_succ, List.getElem?_cons_zero]; go_wp2_with fail; refine TextQ.mk ⟨fun h => by simp at h, ?_⟩ rfl
    refine Ord.cut 4 17 rfl rfl rfl rfl (by kernel_rfl) (by kernel_rfl) ?_; simp only [List.take_succ_cons, List.take_zero, List.drop_succ_cons, List.drop_zero, List.filterMap_cons, List.filterMap_nil, List.getElem?_cons_succ, List.getElem?_cons_zero]; go_wp2_with fail; refine TextQ.mk ⟨fun h => by simp at h, ?_⟩ rfl
    refine Ord.done ?_
    go_wp2_with fail
    go_ret
    exact ⟨rfl, hst.only⟩

end Go.Proofs.Ytmogkiacakkmbaa
