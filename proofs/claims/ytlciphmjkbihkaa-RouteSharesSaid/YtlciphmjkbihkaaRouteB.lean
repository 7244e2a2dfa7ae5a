/- Walks: the law RouteShares. -/
import Derived.Test.YtlciphmjkbihkaaRouteA
namespace Go.Proofs.Ytlciphmjkbihkaa
open Go.RowKit

theorem count_mono (lo hi : Int) (h : lo ≤ hi) (xs : List Int) : countOf lo xs ≤ countOf hi xs := by
  unfold countOf
  induction xs with
  | nil => simp
  | cons x xs ih =>
    simp only [List.filter_cons]
    by_cases h1 : (bucket x : Int) < lo
    · have h2 : (bucket x : Int) < hi := by omega
      simp [h1, h2, ih]
    · by_cases h2 : (bucket x : Int) < hi
      · simp [h1, h2]; omega
      · simp [h1, h2, ih]
theorem count_take (s : Int) (xs : List Int) (k : Nat) (hlt : k < xs.length) : countOf s (xs.take (k + 1)) = countOf s (xs.take k) + if (bucket xs[k] : Int) < s then 1 else 0 := by
  unfold countOf
  rw [List.take_succ_eq_append_getElem hlt, List.filter_append, List.length_append]
  split <;> simp_all
theorem count_le (s : Int) (xs : List Int) : countOf s xs ≤ xs.length := List.length_filter_le _ _

theorem picks_yes (n s : Int) (h : (bucket n : Int) < s) (w : World) : Calls Try.prog 47 #[.int .i64 n, .int .i64 s] w fun e w' => e = .returned (.bool true) ∧ Only [] w w' := by
  have := picks_any n s w
  rwa [show decide ((bucket n : Int) < s) = true by simpa using h] at this
theorem picks_no (n s : Int) (h : s ≤ (bucket n : Int)) (w : World) : Calls Try.prog 47 #[.int .i64 n, .int .i64 s] w fun e w' => e = .returned (.bool false) ∧ Only [] w w' := by
  have := picks_any n s w
  rwa [show decide ((bucket n : Int) < s) = false by simp; omega] at this

theorem cell_keep {w w' : World} {bk i : Nat} {v : Value} (h : w.cell? ⟨bk, i, none⟩ = some v) (ho : Only [] w w') : w'.cell? ⟨bk, i, none⟩ = some v := by
  have hlt : bk < w.heap.size := by
    rcases Nat.lt_or_ge bk w.heap.size with hl | hl
    · exact hl
    · simp [World.cell?, Array.getElem?_eq_none hl] at h
  rw [ho.cellAt bk i hlt (by simp)]
  exact h

set_option maxRecDepth 100000 in
set_option maxHeartbeats 4000000 in
theorem shares_any (v : Value) (xs : List Int) (a b : Int) (w : World) (h : Ints w v xs) (hm : xs.length ≤ maxLen) :
    Calls Try.prog 12 #[v, .int .i64 a, .int .i64 b] w fun e w' => e = .returned (.bool true) ∧ Only [] w w' := by
  have HI := Lib.hid h
  obtain ⟨ad, cap, rfl⟩ : ∃ ad cap, v = .slice ad xs.length cap := by
    rcases h with ⟨⟨a, c, rfl⟩, rfl⟩ | ⟨bk, o, c, rfl, _⟩
    · exact ⟨a, c, rfl⟩
    · exact ⟨_, _, rfl⟩
  clear h
  unfold maxLen at hm
  by_cases hn : 100 < xs.length
  · have hn' : (100 : Int) < xs.length := by omega
    go_enter Try.func12, Try.ntmps12
    go_wp2_with (go_at_call 44; refine (routeAwake_any _).mono ?_; rintro e w1 ⟨rfl, ho1⟩)
    go_ret
    exact ⟨rfl, ho1⟩
  · have hn' : ¬ (100 : Int) < xs.length := by omega
    go_enter Try.func12, Try.ntmps12
    go_wp2_with (go_at_call 44; refine (routeAwake_any _).mono ?_; rintro e w1 ⟨rfl, ho1⟩)
    have HS := Lib.hid (HI.out.keep ho1)
    have hlh : min a b ≤ max a b := by omega
    clear HI
    generalize min a b = lo at *
    generalize max a b = hi at *
    go_loopw [9, 10] (fun c i wr => ∃ (k : Nat), k ≤ xs.length ∧ i = .int .i64 k ∧ c = .int .i64 (countOf lo (xs.take k) : Int) ∧ Hid (countOf lo (xs.take k) ≤ k) ∧ Only [] w1 wr) (fun _ i _ => xs.length - (intOf i).toNat)
    case atStart => exact ⟨0, by omega, rfl, rfl, Nat.zero_le _, Only.refl _ _⟩
    case round =>
      obtain ⟨k, hk, rfl, rfl, hck, hor⟩ := hrel
      by_cases hlt : k < xs.length
      · rcases HS.out with ⟨_, rfl⟩ | ⟨bk, o, c, hv, h1, h2, h3⟩
        · simp at hlt
        · injection hv with e1 e2 e3
          subst e1 e3
          have hc := h1 k xs[k] (List.getElem?_eq_getElem hlt)
          rw [← hor.cellAt bk (o + k) h2 (by simp)] at hc
          have ht := count_take lo xs k hlt
          obtain ⟨z, ez⟩ : ∃ z, z = xs[k] := ⟨_, rfl⟩
          rw [← ez] at hc ht
          have i1 : (k : Int) < xs.length := by omega
          obtain ⟨q, eq⟩ : ∃ q, q = bucket z := ⟨_, rfl⟩
          have BQ : Hid (∀ w, Calls Try.prog 46 #[.int .i64 z] w fun e w' => e = .returned (.int .i64 (q : Int)) ∧ Only [] w w') := fun w => by rw [eq]; exact bucket_any z w
          have hq : q < 100 := by rw [eq]; exact bucket_lt z
          have q0 : ¬ (q : Int) < 0 := by omega
          have q1 : ¬ (99 : Int) < q := by omega
          have hckk := hck.out
          obtain ⟨n, en⟩ : ∃ n, n = countOf lo (xs.take k) := ⟨_, rfl⟩
          rw [← en] at ht hckk
          rw [← en]
          clear ez h1 hck HS
          by_cases hp : (bucket z : Int) < lo
          · have hp2 : (bucket z : Int) < hi := by omega
            rw [if_pos hp] at ht
            have HT := Lib.hid ht
            clear ht eq
            go_wp2_with (go_at_call 46; refine (BQ.out _).mono ?_)
            intro e w2 hx
            first | (subst hx; intro ho2) | (obtain ⟨rfl, ho2⟩ := hx)
            have hc2 := cell_keep hc ho2
            go_wp2_with (go_at_call 46; refine (BQ.out _).mono ?_)
            intro e w3 hx
            first | (subst hx; intro ho3) | (obtain ⟨rfl, ho3⟩ := hx)
            have hc3 := cell_keep hc2 ho3
            go_wp2_with (go_at_call 47; refine (picks_yes z lo hp _).mono ?_)
            intro e w4 hx
            first | (subst hx; intro ho4) | (obtain ⟨rfl, ho4⟩ := hx)
            have hc4 := cell_keep hc3 ho4
            go_wp2_with (go_at_call 47; refine (picks_yes z hi hp2 _).mono ?_)
            intro e w5 hx
            first | (subst hx; intro ho5) | (obtain ⟨rfl, ho5⟩ := hx)
            have hc5 := cell_keep hc4 ho5
            go_wp2_with (go_at_call 47; refine (picks_zero z _).mono ?_)
            intro e w6 hx
            first | (subst hx; intro ho6) | (obtain ⟨rfl, ho6⟩ := hx)
            have hc6 := cell_keep hc5 ho6
            go_wp2_with (go_at_call 47; refine (picks_hundred z _).mono ?_)
            intro e w7 hx
            first | (subst hx; intro ho7) | (obtain ⟨rfl, ho7⟩ := hx)
            have hc7 := cell_keep hc6 ho7
            go_wp2_with (go_at_call 47; refine (picks_yes z lo hp _).mono ?_)
            intro e w8 hx
            first | (subst hx; intro ho8) | (obtain ⟨rfl, ho8⟩ := hx)
            have hc8 := cell_keep hc7 ho8
            go_wp2_with fail
            go_roundw
            case rel => exact ⟨k + 1, by omega, by go_num, by rw [HT.out]; go_num, by show _ ≤ _; rw [HT.out]; omega, (((((((hor.trans ho2).trans ho3).trans ho4).trans ho5).trans ho6).trans ho7).trans ho8)⟩
            case measure => simp [intOf]; omega
          · rw [if_neg hp] at ht
            have HP : Hid (lo ≤ (bucket z : Int)) := by show _ ≤ _; omega
            clear hp
            have HT := Lib.hid ht
            clear ht eq
            go_wp2_with (go_at_call 46; refine (BQ.out _).mono ?_)
            intro e w2 hx
            first | (subst hx; intro ho2) | (obtain ⟨rfl, ho2⟩ := hx)
            have hc2 := cell_keep hc ho2
            go_wp2_with (go_at_call 46; refine (BQ.out _).mono ?_)
            intro e w3 hx
            first | (subst hx; intro ho3) | (obtain ⟨rfl, ho3⟩ := hx)
            have hc3 := cell_keep hc2 ho3
            go_wp2_with (go_at_call 47; refine (picks_no z lo HP.out _).mono ?_)
            intro e w4 hx
            first | (subst hx; intro ho4) | (obtain ⟨rfl, ho4⟩ := hx)
            have hc4 := cell_keep hc3 ho4
            go_wp2_with (go_at_call 47; refine (picks_zero z _).mono ?_)
            intro e w5 hx
            first | (subst hx; intro ho5) | (obtain ⟨rfl, ho5⟩ := hx)
            have hc5 := cell_keep hc4 ho5
            go_wp2_with (go_at_call 47; refine (picks_hundred z _).mono ?_)
            intro e w6 hx
            first | (subst hx; intro ho6) | (obtain ⟨rfl, ho6⟩ := hx)
            have hc6 := cell_keep hc5 ho6
            go_wp2_with (go_at_call 47; refine (picks_no z lo HP.out _).mono ?_)
            intro e w7 hx
            first | (subst hx; intro ho7) | (obtain ⟨rfl, ho7⟩ := hx)
            have hc7 := cell_keep hc6 ho7
            go_wp2_with fail
            go_roundw
            case rel => exact ⟨k + 1, by omega, by go_num, by rw [HT.out, en]; rfl, by show _ ≤ _; rw [HT.out]; omega, ((((((hor.trans ho2).trans ho3).trans ho4).trans ho5).trans ho6).trans ho7)⟩
            case measure => simp [intOf]; omega
      · have i1 : ¬ (k : Int) < xs.length := by omega
        have ek : xs.take k = xs := List.take_of_length_le (by omega)
        rw [ek]
        have hmono := count_mono lo hi hlh xs
        have hle := count_le hi xs
        have HK : Hid (∀ w', Only [] wr w' → Ints w' (.slice ad xs.length cap) xs) := fun w' ho => HS.out.keep (hor.trans ho)
        clear hck ek HS
        go_wp2_with (go_at_call 50; refine (count_any lo _ xs _ (HK.out _ (Only.refl _ _)) (by omega)).mono ?_)
        intro e w2 hx
        first | (subst hx; intro ho2) | (obtain ⟨rfl, ho2⟩ := hx)
        go_wp2_with (go_at_call 50; refine (count_any hi _ xs _ (HK.out _ ho2) (by omega)).mono ?_)
        intro e w3 hx
        first | (subst hx; intro ho3) | (obtain ⟨rfl, ho3⟩ := hx)
        go_wp2_with (go_at_call 50; refine (count_any 0 _ xs _ (HK.out _ (ho2.trans ho3)) (by omega)).mono ?_)
        intro e w4 hx
        first | (subst hx; intro ho4) | (obtain ⟨rfl, ho4⟩ := hx)
        rw [count_none]
        go_wp2_with (go_at_call 50; refine (count_any 100 _ xs _ (HK.out _ ((ho2.trans ho3).trans ho4)) (by omega)).mono ?_)
        intro e w5 hx
        first | (subst hx; intro ho5) | (obtain ⟨rfl, ho5⟩ := hx)
        rw [count_all]
        go_wp2_with fail
        go_ret
        exact ⟨rfl, ((((ho1.trans hor).trans ho2).trans ho3).trans ho4).trans ho5⟩

end Go.Proofs.Ytlciphmjkbihkaa
