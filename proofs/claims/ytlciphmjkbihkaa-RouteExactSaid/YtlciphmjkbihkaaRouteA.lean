/- Walks: the law RouteExact. -/
import Derived.Test.YtlciphmjkbihkaaRoute
namespace Go.Proofs.Ytlciphmjkbihkaa
open Go.RowKit

theorem count_all (xs : List Int) : countOf 100 xs = xs.length := by
  unfold countOf
  rw [List.filter_eq_self.2]
  intro n _
  have := bucket_lt n
  simp
  omega
theorem count_none (xs : List Int) : countOf 0 xs = 0 := by
  unfold countOf
  rw [List.filter_eq_nil_iff.2]
  · rfl
  · intro n _
    simp
theorem version_hundred (n c k : Int) (h : k ≠ 0) : versionOf n 100 c k = k := by
  have := bucket_lt n
  unfold versionOf
  rw [if_pos ⟨h, by omega⟩]
theorem version_zero (n s c : Int) : versionOf n s c 0 = c := by
  unfold versionOf
  rw [if_neg (fun h => h.1 rfl)]
theorem picks_hundred (n : Int) (w : World) : Calls Try.prog 47 #[.int .i64 n, .int .i64 100] w fun e w' => e = .returned (.bool true) ∧ Only [] w w' := by
  have := picks_any n 100 w
  have h := bucket_lt n
  rwa [show decide ((bucket n : Int) < 100) = true by simp; omega] at this
theorem picks_zero (n : Int) (w : World) : Calls Try.prog 47 #[.int .i64 n, .int .i64 0] w fun e w' => e = .returned (.bool false) ∧ Only [] w w' := by
  have := picks_any n 0 w
  rwa [show decide ((bucket n : Int) < 0) = false by simp] at this

set_option maxRecDepth 100000 in
set_option maxHeartbeats 1000000 in
theorem routeAwake_any (w : World) : Calls Try.prog 44 #[] w fun e w' => e = .returned (.bool true) ∧ Only [] w w' := by
  have V1 : Hid (∀ w, Calls Try.prog 48 #[.int .i64 7, .int .i64 100, .int .i64 3, .int .i64 4] w fun e w' => e = .returned (.int .i64 4) ∧ Only [] w w') := fun w => by
    have := version_any 7 100 3 4 w
    rwa [version_hundred _ _ _ (by decide)] at this
  have V2 : Hid (∀ w, Calls Try.prog 48 #[.int .i64 7, .int .i64 100, .int .i64 3, .int .i64 0] w fun e w' => e = .returned (.int .i64 3) ∧ Only [] w w') := fun w => by
    have := version_any 7 100 3 0 w
    rwa [version_zero] at this
  have C1 : Hid (∀ w : World, Calls Try.prog 50 #[.int .i64 100, .slice (some ⟨w.heap.size, 0, none⟩) 2 2] (w.alloc (.cells #[.int .i64 1, .int .i64 2] 3)) fun e w' => e = .returned (.int .i64 2) ∧ Only [] (w.alloc (.cells #[.int .i64 1, .int .i64 2] 3)) w') := fun w => by
    have := count_any 100 _ [1, 2] _ (Ints.made w [1, 2] 3) (by decide)
    rwa [count_all] at this
  go_enter Try.func44, Try.ntmps44
  go_wp2_with (go_at_call 47; refine (picks_hundred 7 _).mono ?_)
  rintro e w1 ⟨rfl, ho1⟩
  go_wp2_with (go_at_call 47; refine (picks_zero 7 _).mono ?_)
  rintro e w2 ⟨rfl, ho2⟩
  go_wp2_with (go_at_call 48; refine (V1.out _).mono ?_)
  rintro e w3 ⟨rfl, ho3⟩
  go_wp2_with (go_at_call 48; refine (V2.out _).mono ?_)
  rintro e w4 ⟨rfl, ho4⟩
  go_wp2_with (first
    | (go_at_call 46; refine (bucket_any 1 _).mono ?_; rintro e w5 ⟨rfl, ho5⟩)
    | (go_at_call 45; refine (refBucket_any 1 _).mono ?_; rintro e w6 ⟨rfl, ho6⟩)
    | (go_at_call 50; refine (C1.out _).mono ?_; rintro e w7 ⟨rfl, ho7⟩))
  go_ret
  exact ⟨rfl, ((((((ho1.trans ho2).trans ho3).trans ho4).trans ho5).trans ho6).alloc _).trans ho7⟩

set_option maxRecDepth 100000 in
set_option maxHeartbeats 1000000 in
theorem routeExact_any (n s c k : Int) (w : World) : Calls Try.prog 11 #[.int .i64 n, .int .i64 s, .int .i64 c, .int .i64 k] w fun e w' => e = .returned (.bool true) ∧ Only [] w w' := by
  go_enter Try.func11, Try.ntmps11
  go_wp2_with (first
    | (go_at_call 44; refine (routeAwake_any _).mono ?_; rintro e w1 ⟨rfl, ho1⟩)
    | (go_at_call 45; refine (refBucket_any n _).mono ?_; rintro e w2 ⟨rfl, ho2⟩)
    | (go_at_call 46; refine (bucket_any n _).mono ?_; rintro e w3 ⟨rfl, ho3⟩)
    | (go_at_call 47; refine (picks_any n s _).mono ?_; rintro e w4 ⟨rfl, ho4⟩)
    | (go_at_call 48; refine (version_any n s c k _).mono ?_; rintro e w5 ⟨rfl, ho5⟩)
    | (go_at_call 49; refine (refVersion_any n s c k _).mono ?_; rintro e w6 ⟨rfl, ho6⟩))
  go_ret
  exact ⟨rfl, ((((ho1.trans ho2).trans ho3).trans ho4).trans ho5).trans ho6⟩

end Go.Proofs.Ytlciphmjkbihkaa
