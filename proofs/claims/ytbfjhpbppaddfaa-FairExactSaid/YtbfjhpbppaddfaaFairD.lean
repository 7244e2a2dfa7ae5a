/- How many picks requests take: Clamp, Bound, Places; what the laws of picks hold fast. -/
import Derived.Test.YtbfjhpbppaddfaaFairC
namespace Go.Proofs.Ytbfjhpbppaddfaa
open Go.RowKit

/-- A number kept within 0 and 2 to the 40th. -/
def clM (x : Int) : Int := if x < 0 then 0 else if 1099511627776 < x then 1099511627776 else x
theorem clM_bounds (x : Int) : 0 ≤ clM x ∧ clM x ≤ 1099511627776 := by unfold clM; split; omega; split <;> omega
set_option maxRecDepth 100000 in
set_option maxHeartbeats 1000000 in
theorem clamp_any (x : Int) (w : World) : Calls Try.prog 47 #[.int .i64 x, .int .i64 0, .int .i64 1099511627776] w fun e w' => e = .returned (.int .i64 (clM x)) ∧ w = w' := by
  by_cases h1 : x < 0
  · have e : Hid (clM x = 0) := by show _ = _; unfold clM; rw [if_pos h1]
    rw [e.out]
    go_enter Try.func47, Try.ntmps47
    go_wp2
    go_ret
    exact ⟨rfl, rfl⟩
  · by_cases h2 : 1099511627776 < x
    · have e : Hid (clM x = 1099511627776) := by show _ = _; unfold clM; rw [if_neg h1, if_pos h2]
      rw [e.out]
      go_enter Try.func47, Try.ntmps47
      go_wp2
      go_ret
      exact ⟨rfl, rfl⟩
    · have e : Hid (clM x = x) := by show _ = _; unfold clM; rw [if_neg h1, if_neg h2]
      rw [e.out]
      go_enter Try.func47, Try.ntmps47
      go_wp2
      go_ret
      exact ⟨rfl, rfl⟩

/-- Places, put together. -/
def sumM (xs : List Int) : Int := xs.foldl (fun s n => min (s + clM n) 1099511627776) 0
theorem sumM_snoc (xs : List Int) (x : Int) : sumM (xs ++ [x]) = min (sumM xs + clM x) 1099511627776 := by simp [sumM]
theorem sumM_bounds (xs : List Int) : 0 ≤ sumM xs ∧ sumM xs ≤ 1099511627776 := by
  have : ∀ (xs : List Int) (s : Int), 0 ≤ s ∧ s ≤ 1099511627776 → 0 ≤ xs.foldl (fun s n => min (s + clM n) 1099511627776) s ∧ xs.foldl (fun s n => min (s + clM n) 1099511627776) s ≤ 1099511627776 := by
    intro xs
    induction xs with
    | nil => intro s h; exact h
    | cons x xs ih =>
      intro s h
      have := clM_bounds x
      refine ih _ ?_
      show 0 ≤ min (s + clM x) 1099511627776 ∧ min (s + clM x) 1099511627776 ≤ 1099511627776
      omega
  exact this xs 0 (by omega)
def boundOf (k : Int) (xs : List Int) : Int := if 0 < sumM xs ∧ Int.tdiv 1099511627776 (sumM xs) < clM k then 1099511627776 else clM k * sumM xs
theorem tdiv_le (s m : Int) (hs : 0 < s) (h : ¬ Int.tdiv 1099511627776 s < m) : m * s ≤ 1099511627776 := by
  rw [Int.tdiv_eq_ediv_of_nonneg (by omega)] at h
  have h1 : m ≤ 1099511627776 / s := by omega
  have h2 := Int.ediv_mul_le 1099511627776 (b := s) (by omega)
  exact Int.le_trans (Int.mul_le_mul_of_nonneg_right h1 (by omega)) h2

set_option maxRecDepth 100000 in
set_option maxHeartbeats 4000000 in
theorem bound_any (k : Int) (xs : List Int) (vs : Value) (w : World) (hv : Ints w vs xs) (hl : xs.length ≤ 1000) : Calls Try.prog 28 #[.int .i64 k, vs] w fun e w' => e = .returned (.int .i64 (boundOf k xs)) ∧ w = w' := by
  have HI := Lib.hid hv
  obtain ⟨ad, cap, rfl⟩ : ∃ ad cap, vs = .slice ad xs.length cap := by
    rcases hv with ⟨⟨a, c, rfl⟩, rfl⟩ | ⟨bk, o, c, rfl, _⟩
    · exact ⟨a, c, rfl⟩
    · exact ⟨_, _, rfl⟩
  have CL : Hid (∀ x w, Calls Try.prog 47 #[.int .i64 x, .int .i64 0, .int .i64 1099511627776] w fun e w' => e = .returned (.int .i64 (clM x)) ∧ w = w') := clamp_any
  clear hv
  go_enter Try.func28, Try.ntmps28
  go_wp2_with fail
  go_loopw [5, 10] (fun s i wr => ∃ (k : Nat), k ≤ xs.length ∧ i = .int .i64 (k : Int) ∧ s = .int .i64 (sumM (xs.take k)) ∧ wr = w) (fun _ i _ => xs.length - (intOf i).toNat)
  case atStart => exact ⟨0, by omega, rfl, rfl, rfl⟩
  case round =>
    obtain ⟨j, hj, rfl, rfl, rfl⟩ := hrel
    by_cases hlt : j < xs.length
    · obtain ⟨bk, o, c, hc⟩ : ∃ bk o c, ad = some ⟨bk, o, none⟩ ∧ cap = c ∧ wr.cell? ⟨bk, o + j, none⟩ = some (.int .i64 xs[j]) := by
        rcases HI.out with ⟨_, h0⟩ | ⟨bk, o, c, hv, h1, h2, h3⟩
        · subst h0; simp at hlt
        · injection hv with e1 e2 e3
          exact ⟨bk, o, c, e1, e3, h1 j _ (List.getElem?_eq_getElem hlt)⟩
      obtain ⟨rfl, rfl, hc⟩ := hc
      have k64 : (j : Int) < xs.length := by omega
      have hS : Hid (sumM (xs.take (j + 1)) = min (sumM (xs.take j) + clM xs[j]) 1099511627776) := by show _ = _; rw [List.take_succ_eq_append_getElem hlt, sumM_snoc]
      obtain ⟨s0, s1⟩ := sumM_bounds (xs.take j)
      obtain ⟨c0, c1⟩ := clM_bounds xs[j]
      have HC := Lib.hid (CL.out xs[j])
      obtain ⟨s, es⟩ : ∃ s, s = sumM (xs.take j) := ⟨_, rfl⟩
      obtain ⟨z, ez⟩ : ∃ z, z = clM xs[j] := ⟨_, rfl⟩
      rw [← es, ← ez] at hS
      rw [← es] at s0 s1 ⊢
      rw [← ez] at c0 c1 HC
      obtain ⟨x, ex⟩ : ∃ x, x = xs[j] := ⟨_, rfl⟩
      rw [← ex] at hc HC
      clear ex es ez
      by_cases hm : s + z ≤ 1099511627776
      · have hS' : Hid (sumM (xs.take (j + 1)) = s + z) := by show _ = _; rw [hS.out]; omega
        clear hS
        go_wp2_with (go_at_call 47; refine (HC.out _).mono ?_; rintro e w1 ⟨rfl, rfl⟩)
        go_roundw
        case rel => exact ⟨j + 1, by omega, by go_num, by rw [hS'.out], trivial⟩
        case measure => simp [intOf]; omega
      · have hS' : Hid (sumM (xs.take (j + 1)) = 1099511627776) := by show _ = _; rw [hS.out]; omega
        clear hS
        go_wp2_with (go_at_call 47; refine (HC.out _).mono ?_; rintro e w1 ⟨rfl, rfl⟩)
        go_roundw
        case rel => exact ⟨j + 1, by omega, by go_num, by rw [hS'.out], trivial⟩
        case measure => simp [intOf]; omega
    · obtain rfl : j = xs.length := by omega
      have HT : Hid (xs.take xs.length = xs) := List.take_length
      have HB : Hid (boundOf k xs = if 0 < sumM xs ∧ Int.tdiv 1099511627776 (sumM xs) < clM k then 1099511627776 else clM k * sumM xs) := rfl
      rw [HT.out]
      obtain ⟨s0, s1⟩ := sumM_bounds xs
      obtain ⟨c0, c1⟩ := clM_bounds k
      have HC := Lib.hid (CL.out k)
      obtain ⟨s, es⟩ : ∃ s, s = sumM xs := ⟨_, rfl⟩
      obtain ⟨m, em⟩ : ∃ m, m = clM k := ⟨_, rfl⟩
      rw [← es] at HB s0 s1 ⊢
      rw [← em] at HB c0 c1 HC
      clear es em
      by_cases hs : 0 < s
      · have hne : ¬ s = 0 := by omega
        have q0 : 0 ≤ Int.tdiv 1099511627776 s := Int.tdiv_nonneg (by omega) (by omega)
        have q1 : Int.tdiv 1099511627776 s ≤ 1099511627776 := by rw [Int.tdiv_eq_ediv_of_nonneg (by omega)]; exact Int.ediv_le_self _ (by omega)
        by_cases hq : Int.tdiv 1099511627776 s < m
        · have HB' : Hid (boundOf k xs = 1099511627776) := by show _ = _; rw [HB.out, if_pos ⟨hs, hq⟩]
          clear HB
          go_wp2_with (go_at_call 47; refine (HC.out _).mono ?_; rintro e w1 ⟨rfl, rfl⟩)
          go_ret
          exact ⟨by rw [HB'.out]; exact rfl, rfl⟩
        · have HB' : Hid (boundOf k xs = m * s) := by show _ = _; rw [HB.out, if_neg (fun h => hq h.2)]
          have p0 : 0 ≤ m * s := Int.mul_nonneg c0 s0
          have p1 := tdiv_le s m hs hq
          clear HB
          go_wp2_with (go_at_call 47; refine (HC.out _).mono ?_; rintro e w1 ⟨rfl, rfl⟩)
          go_ret
          exact ⟨by rw [HB'.out]; exact rfl, rfl⟩
      · have HB' : Hid (boundOf k xs = 0) := by show _ = _; rw [HB.out, if_neg (fun h => hs h.1)]; rw [show s = 0 by omega, Int.mul_zero]
        obtain rfl : s = 0 := by omega
        clear HB
        go_wp2_with (go_at_call 47; refine (HC.out _).mono ?_; rintro e w1 ⟨rfl, rfl⟩)
        go_ret
        exact ⟨by rw [HB'.out]; exact rfl, rfl⟩

end Go.Proofs.Ytbfjhpbppaddfaa
