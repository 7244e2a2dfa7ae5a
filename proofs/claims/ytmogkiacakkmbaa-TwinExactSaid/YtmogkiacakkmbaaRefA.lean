/- Walks: the reference's words: cut, turn, the table. -/
import Derived.Test.YtmogkiacakkmbaaShaA
import Derived.Test.YtmogkiacakkmbaaHeld
namespace Go.Proofs.Ytmogkiacakkmbaa
open Go.RowKit

theorem cut_tells (m : Nat) (hm : m < 18446744073709551616) : Go.bits .and .u64 (m : Int) 4294967295 = ((m % 4294967296 : Nat) : Int) := by
  have := Go.u64_and_nat m 4294967295 hm (by decide)
  rw [show ((4294967295 : Nat) : Int) = 4294967295 from rfl] at this
  rw [this, show (4294967295 : Nat) = 2 ^ 32 - 1 from rfl, Nat.and_two_pow_sub_one_eq_mod]
theorem turn_tells (x n : Nat) (hx : x < 4294967296) (h1 : 1 ≤ n) (h2 : n ≤ 31) :
    Go.bits .and .u64 (Go.bits .or .u64 ((x : Int) / 2 ^ n) (IntKind.u64.wrap ((x : Int) * 2 ^ (32 - n)))) 4294967295 = ((Sha.rotr x n : Nat) : Int) := by
  have hp : 2 ^ (32 - n) ≤ 2 ^ 31 := Nat.pow_le_pow_right (by decide) (by omega)
  have hm : x * 2 ^ (32 - n) < 18446744073709551616 := by
    calc x * 2 ^ (32 - n) ≤ 4294967295 * 2 ^ 31 := Nat.mul_le_mul (by omega) hp
      _ < 18446744073709551616 := by decide
  have e1 : IntKind.u64.wrap ((x : Int) * 2 ^ (32 - n)) = ((x <<< (32 - n) : Nat) : Int) := by
    rw [Nat.shiftLeft_eq, show ((x : Int) * 2 ^ (32 - n)) = ((x * 2 ^ (32 - n) : Nat) : Int) by rw [Int.natCast_mul, Int.natCast_pow]; rfl]
    rw [show ∀ z : Int, IntKind.u64.wrap z = z % 18446744073709551616 from fun _ => rfl]
    rw [← Nat.shiftLeft_eq] at hm ⊢
    generalize x <<< (32 - n) = y at hm ⊢
    omega
  have e2 : ((x : Int) / 2 ^ n) = ((x >>> n : Nat) : Int) := by rw [Nat.shiftRight_eq_div_pow]; simp
  have hle : x >>> n < 4294967296 := Sha.shr_lt _ _ hx
  have hsl : x <<< (32 - n) < 18446744073709551616 := by rw [Nat.shiftLeft_eq]; exact hm
  rw [e1, e2, Go.u64_or_nat _ _ (by omega) hsl, cut_tells _ (Nat.or_lt_two_pow (n := 64) (by omega) hsl)]
  rfl

set_option maxHeartbeats 400000 in
theorem cut_any (y r : Int) (w : World) (hr : Go.bits .and .u64 y 4294967295 = r) :
    Calls Try.prog 165 #[.int .u64 y] w fun e w' => e = .returned (.int .u64 r) ∧ w = w' := by
  have HR := Lib.hid hr
  clear hr
  go_enter Try.func165, Try.ntmps165
  go_wp2
  go_ret
  exact ⟨ret_int HR.out, rfl⟩

set_option maxHeartbeats 400000 in
theorem turn_any (x n : Nat) (w : World) (hx : x < 4294967296) (h1 : 1 ≤ n) (h2 : n ≤ 31) :
    Calls Try.prog 164 #[.int .u64 x, .int .i64 n] w fun e w' => e = .returned (.int .u64 (Sha.rotr x n : Nat)) ∧ w.drew = w' := by
  have HT := Lib.hid (turn_tells x n hx h1 h2)
  go_enter Try.func164, Try.ntmps164
  go_wp2
  refine wp_region_text (by kernel_rfl) (by kernel_rfl) ?_
  go_wp2_with (go_at_call 165; refine (cut_any _ _ _ HT.out).mono ?_; rintro e w2 ⟨rfl, rfl⟩)
  refine TextQ.mk ?_ rfl
  go_wp2_with fail
  go_ret
  exact ⟨rfl, rfl⟩

/-- A row of words of 64 bits. -/
def u64s (l : List Nat) : List Value := l.map fun (n : Nat) => Value.int .u64 (n : Int)
theorem u64s_length (l : List Nat) : (u64s l).length = l.length := by simp [u64s]
theorem u64s_get (l : List Nat) (i : Nat) (h : i < l.length) : (u64s l)[i]? = some (.int .u64 ((l.getD i 0 : Nat) : Int)) := by
  simp [u64s, List.getElem?_map, List.getElem?_eq_getElem h, List.getD_eq_getElem?_getD]
theorem u64s_set (l : List Nat) (i : Nat) (n : Nat) : (u64s l).set i (.int .u64 (n : Int)) = u64s (l.set i n) := by
  simp [u64s, List.map_set]
theorem Blk.set64 {w : World} {b : Nat} {l : List Nat} {ty : TypeId} (h : Blk w b (u64s l) ty) (i n : Nat) {z : Int} (hz : z = (n : Int)) : Blk (w.setCell ⟨b, i, none⟩ (.int .u64 z)) b (u64s (l.set i n)) ty := by
  subst hz
  rw [← u64s_set]
  exact h.set i _
theorem u64s_one (l : List Nat) : (u64s l).toArray.all (·.oneCell') = true := by
  rw [Array.all_eq_true_iff_forall_mem]
  simp [u64s, Value.oneCell']
def zeros64w : List Value := List.replicate 64 (.int .u64 0)
def zeros8w : List Value := List.replicate 8 (.int .u64 0)

set_option maxRecDepth 100000 in
set_option maxHeartbeats 400000 in
theorem table_any (w : World) : Calls Try.prog 163 #[] w fun e w' => e = .returned (.agg (u64s Sha.K).toArray) ∧ Only [] w w' := by
  go_enter Try.func163, Try.ntmps163
  go_wp2_with (first
    | (refine wpL_alloc rfl 0 rfl _ rfl (.agg zeros64w.toArray) zeros64w (by kernel_rfl) rfl ?_; intro w1 ho1 hs1 hb1)
    | (refine wpL_build rfl _ _ rfl (u64s Sha.K) (by kernel_rfl) ?_)
    | (refine wpL_store rfl _ _ _ rfl w.heap.size (u64s Sha.K).toArray rfl rfl _ _ hb1 (by kernel_rfl : (Try.prog.info? 221).map (·.size) = some 64) rfl rfl (u64s_one _) ?_; intro w2 ho2 hs2 hb2))
  refine end_row (ty := 221) Try.results163 rfl hb2 Try.underlying221 rfl (by kernel_rfl : (Try.prog.info? _).map (·.size) = some _) rfl rfl ⟨rfl, ?_⟩
  exact ho1.step ho2 (by simp)

end Go.Proofs.Ytmogkiacakkmbaa
