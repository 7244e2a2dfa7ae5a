/- Walks: the law RouteApart. -/
import Derived.Test.YtlciphmjkbihkaaRouteB
namespace Go.Proofs.Ytlciphmjkbihkaa
open Go.RowKit

def cntA (k s : Int) (xs : List Int) : Nat := if k = 0 then 0 else countOf s xs
theorem cntA_le (k s : Int) (xs : List Int) : cntA k s xs ≤ xs.length := by
  unfold cntA
  split
  · omega
  · exact count_le _ _
theorem bucket_bad (z : Int) (h : z < 0 ∨ 4294967295 < z) : bucket z = bucket 0 := by
  have e : num4 z = num4 0 := by
    unfold num4
    rw [show told z = false by simp [told]; omega, show told 0 = true by decide, if_neg (by decide), if_pos rfl]
    rfl
  unfold bucket
  rw [e]
theorem version_yes (n s c k : Int) (hk : k ≠ 0) (h : (bucket n : Int) < s) (w : World) : Calls Try.prog 48 #[.int .i64 n, .int .i64 s, .int .i64 c, .int .i64 k] w fun e w' => e = .returned (.int .i64 k) ∧ Only [] w w' := by
  have := version_any n s c k w
  rwa [show versionOf n s c k = k by unfold versionOf; rw [if_pos ⟨hk, h⟩]] at this
theorem version_no (n s c k : Int) (h : s ≤ (bucket n : Int)) (w : World) : Calls Try.prog 48 #[.int .i64 n, .int .i64 s, .int .i64 c, .int .i64 k] w fun e w' => e = .returned (.int .i64 c) ∧ Only [] w w' := by
  have := version_any n s c k w
  rwa [show versionOf n s c k = c by unfold versionOf; rw [if_neg (fun h' => by have := h'.2; omega)]] at this
theorem version_none (n s c : Int) (w : World) : Calls Try.prog 48 #[.int .i64 n, .int .i64 s, .int .i64 c, .int .i64 0] w fun e w' => e = .returned (.int .i64 c) ∧ Only [] w w' := by
  have := version_any n s c 0 w
  rwa [version_zero] at this
theorem bucket_zero_any (w : World) : Calls Try.prog 46 #[.int .i64 0] w fun e w' => e = .returned (.int .i64 (bucket 0 : Int)) ∧ Only [] w w' := bucket_any 0 w
theorem bucket_bad_any (z : Int) (h : z < 0 ∨ 4294967295 < z) (w : World) : Calls Try.prog 46 #[.int .i64 z] w fun e w' => e = .returned (.int .i64 (bucket 0 : Int)) ∧ Only [] w w' := by
  have := bucket_any z w
  rwa [bucket_bad z h] at this

set_option maxRecDepth 100000 in
set_option maxHeartbeats 8000000 in
theorem apart_any (v : Value) (xs : List Int) (s cm cd : Int) (w : World) (h : Ints w v xs) (hm : xs.length ≤ maxLen) :
    Calls Try.prog 13 #[v, .int .i64 s, .int .i64 cm, .int .i64 cd] w fun e w' => e = .returned (.bool true) ∧ Only [] w w' := by
  have HI := Lib.hid h
  obtain ⟨ad, cap, rfl⟩ : ∃ ad cap, v = .slice ad xs.length cap := by
    rcases h with ⟨⟨a, c, rfl⟩, rfl⟩ | ⟨bk, o, c, rfl, _⟩
    · exact ⟨a, c, rfl⟩
    · exact ⟨_, _, rfl⟩
  clear h
  unfold maxLen at hm
  by_cases hn : 100 < xs.length
  · have hn' : (100 : Int) < xs.length := by omega
    go_enter Try.func13, Try.ntmps13
    go_wp2_with (go_at_call 44; refine (routeAwake_any _).mono ?_; rintro e w1 ⟨rfl, ho1⟩)
    go_ret
    exact ⟨rfl, ho1⟩
  · have hn' : ¬ (100 : Int) < xs.length := by omega
    go_enter Try.func13, Try.ntmps13
    go_wp2_with (go_at_call 44; refine (routeAwake_any _).mono ?_; rintro e w1 ⟨rfl, ho1⟩)
    have HS := Lib.hid (HI.out.keep ho1)
    clear HI
    go_loopw [9, 10] (fun c i wr => ∃ (k n : Nat), k ≤ xs.length ∧ i = .int .i64 k ∧ c = .int .i64 (n : Int) ∧ Hid (n = cntA cd s (xs.take k)) ∧ n ≤ k ∧ Only [] w1 wr) (fun _ i _ => xs.length - (intOf i).toNat)
    case atStart => exact ⟨0, 0, by omega, rfl, rfl, by show _ = _; simp [cntA, countOf], Nat.le_refl _, Only.refl _ _⟩
    case round =>
      obtain ⟨k, n, hk, rfl, rfl, hcn, hnk, hor⟩ := hrel
      by_cases hlt : k < xs.length
      · rcases HS.out with ⟨_, rfl⟩ | ⟨bk, o, c, hv, h1, h2, h3⟩
        · simp at hlt
        · injection hv with e1 e2 e3
          subst e1 e3
          have hc := h1 k xs[k] (List.getElem?_eq_getElem hlt)
          rw [← hor.cellAt bk (o + k) h2 (by simp)] at hc
          have ht := count_take s xs k hlt
          obtain ⟨z, ez⟩ : ∃ z, z = xs[k] := ⟨_, rfl⟩
          rw [← ez] at hc ht
          have i1 : (k : Int) < xs.length := by omega
          clear ez h1 HS
          by_cases hd : cd = 0
          · subst hd
            have HT : Hid (n = cntA 0 s (xs.take (k + 1))) := by show n = _; rw [hcn.out]; simp [cntA]
            clear ht
            by_cases hz : z < 0
            · have HZ : Hid (z < 0 ∨ 4294967295 < z) := .inl hz
              go_wp2_with (go_at_call 48; refine (version_none z s cm _).mono ?_)
              intro e w2 hx
              first | (subst hx; intro ho2) | (obtain ⟨rfl, ho2⟩ := hx)
              have hc2 := cell_keep hc ho2
              go_wp2_with (go_at_call 48; refine (version_none z s cm _).mono ?_)
              intro e w3 hx
              first | (subst hx; intro ho3) | (obtain ⟨rfl, ho3⟩ := hx)
              have hc3 := cell_keep hc2 ho3
              go_wp2_with (go_at_call 46; refine (bucket_bad_any z HZ.out _).mono ?_)
              intro e w4 hx
              first | (subst hx; intro ho4) | (obtain ⟨rfl, ho4⟩ := hx)
              have hc4 := cell_keep hc3 ho4
              go_wp2_with (go_at_call 46; refine (bucket_zero_any _).mono ?_)
              intro e w5 hx
              first | (subst hx; intro ho5) | (obtain ⟨rfl, ho5⟩ := hx)
              have hc5 := cell_keep hc4 ho5
              go_wp2_with fail
              go_roundw
              case rel => exact ⟨k + 1, n, by omega, by go_num, by rfl, HT.out, by omega, ((((hor.trans ho2).trans ho3).trans ho4).trans ho5)⟩
              case measure => simp [intOf]; omega
            · by_cases hz2 : 4294967295 < z
              · have HZ : Hid (z < 0 ∨ 4294967295 < z) := .inr hz2
                go_wp2_with (go_at_call 48; refine (version_none z s cm _).mono ?_)
                intro e w2 hx
                first | (subst hx; intro ho2) | (obtain ⟨rfl, ho2⟩ := hx)
                have hc2 := cell_keep hc ho2
                go_wp2_with (go_at_call 48; refine (version_none z s cm _).mono ?_)
                intro e w3 hx
                first | (subst hx; intro ho3) | (obtain ⟨rfl, ho3⟩ := hx)
                have hc3 := cell_keep hc2 ho3
                go_wp2_with (go_at_call 46; refine (bucket_bad_any z HZ.out _).mono ?_)
                intro e w4 hx
                first | (subst hx; intro ho4) | (obtain ⟨rfl, ho4⟩ := hx)
                have hc4 := cell_keep hc3 ho4
                go_wp2_with (go_at_call 46; refine (bucket_zero_any _).mono ?_)
                intro e w5 hx
                first | (subst hx; intro ho5) | (obtain ⟨rfl, ho5⟩ := hx)
                have hc5 := cell_keep hc4 ho5
                go_wp2_with fail
                go_roundw
                case rel => exact ⟨k + 1, n, by omega, by go_num, by rfl, HT.out, by omega, ((((hor.trans ho2).trans ho3).trans ho4).trans ho5)⟩
                case measure => simp [intOf]; omega
              · have hz3 : ¬ (4294967295 : Int) < z := hz2
                go_wp2_with (go_at_call 48; refine (version_none z s cm _).mono ?_)
                intro e w2 hx
                first | (subst hx; intro ho2) | (obtain ⟨rfl, ho2⟩ := hx)
                have hc2 := cell_keep hc ho2
                go_wp2_with (go_at_call 48; refine (version_none z s cm _).mono ?_)
                intro e w3 hx
                first | (subst hx; intro ho3) | (obtain ⟨rfl, ho3⟩ := hx)
                have hc3 := cell_keep hc2 ho3
                go_wp2_with fail
                go_roundw
                case rel => exact ⟨k + 1, n, by omega, by go_num, by rfl, HT.out, by omega, ((hor.trans ho2).trans ho3)⟩
                case measure => simp [intOf]; omega
          · by_cases hp : (bucket z : Int) < s
            · rw [if_pos hp] at ht
              have HT : Hid (n + 1 = cntA cd s (xs.take (k + 1))) := by show n + 1 = _; rw [hcn.out]; simp only [cntA, if_neg hd]; omega
              have HP := Lib.hid hp
              have HD := Lib.hid hd
              have hdb : ¬ cd = 0 := hd
              clear ht hp hd
              by_cases hz : z < 0
              · have HZ : Hid (z < 0 ∨ 4294967295 < z) := .inl hz
                go_wp2_with (go_at_call 48; refine (version_yes z s cm cd HD.out HP.out _).mono ?_)
                intro e w2 hx
                first | (subst hx; intro ho2) | (obtain ⟨rfl, ho2⟩ := hx)
                have hc2 := cell_keep hc ho2
                go_wp2_with (go_at_call 47; refine (picks_yes z s HP.out _).mono ?_)
                intro e w3 hx
                first | (subst hx; intro ho3) | (obtain ⟨rfl, ho3⟩ := hx)
                have hc3 := cell_keep hc2 ho3
                go_wp2_with (go_at_call 48; refine (version_none z s cm _).mono ?_)
                intro e w4 hx
                first | (subst hx; intro ho4) | (obtain ⟨rfl, ho4⟩ := hx)
                have hc4 := cell_keep hc3 ho4
                go_wp2_with (go_at_call 46; refine (bucket_bad_any z HZ.out _).mono ?_)
                intro e w5 hx
                first | (subst hx; intro ho5) | (obtain ⟨rfl, ho5⟩ := hx)
                have hc5 := cell_keep hc4 ho5
                go_wp2_with (go_at_call 46; refine (bucket_zero_any _).mono ?_)
                intro e w6 hx
                first | (subst hx; intro ho6) | (obtain ⟨rfl, ho6⟩ := hx)
                have hc6 := cell_keep hc5 ho6
                go_wp2_with fail
                go_roundw
                case rel => exact ⟨k + 1, n + 1, by omega, by go_num, by go_num, HT.out, by omega, (((((hor.trans ho2).trans ho3).trans ho4).trans ho5).trans ho6)⟩
                case measure => simp [intOf]; omega
              · by_cases hz2 : 4294967295 < z
                · have HZ : Hid (z < 0 ∨ 4294967295 < z) := .inr hz2
                  go_wp2_with (go_at_call 48; refine (version_yes z s cm cd HD.out HP.out _).mono ?_)
                  intro e w2 hx
                  first | (subst hx; intro ho2) | (obtain ⟨rfl, ho2⟩ := hx)
                  have hc2 := cell_keep hc ho2
                  go_wp2_with (go_at_call 47; refine (picks_yes z s HP.out _).mono ?_)
                  intro e w3 hx
                  first | (subst hx; intro ho3) | (obtain ⟨rfl, ho3⟩ := hx)
                  have hc3 := cell_keep hc2 ho3
                  go_wp2_with (go_at_call 48; refine (version_none z s cm _).mono ?_)
                  intro e w4 hx
                  first | (subst hx; intro ho4) | (obtain ⟨rfl, ho4⟩ := hx)
                  have hc4 := cell_keep hc3 ho4
                  go_wp2_with (go_at_call 46; refine (bucket_bad_any z HZ.out _).mono ?_)
                  intro e w5 hx
                  first | (subst hx; intro ho5) | (obtain ⟨rfl, ho5⟩ := hx)
                  have hc5 := cell_keep hc4 ho5
                  go_wp2_with (go_at_call 46; refine (bucket_zero_any _).mono ?_)
                  intro e w6 hx
                  first | (subst hx; intro ho6) | (obtain ⟨rfl, ho6⟩ := hx)
                  have hc6 := cell_keep hc5 ho6
                  go_wp2_with fail
                  go_roundw
                  case rel => exact ⟨k + 1, n + 1, by omega, by go_num, by go_num, HT.out, by omega, (((((hor.trans ho2).trans ho3).trans ho4).trans ho5).trans ho6)⟩
                  case measure => simp [intOf]; omega
                · have hz3 : ¬ (4294967295 : Int) < z := hz2
                  go_wp2_with (go_at_call 48; refine (version_yes z s cm cd HD.out HP.out _).mono ?_)
                  intro e w2 hx
                  first | (subst hx; intro ho2) | (obtain ⟨rfl, ho2⟩ := hx)
                  have hc2 := cell_keep hc ho2
                  go_wp2_with (go_at_call 47; refine (picks_yes z s HP.out _).mono ?_)
                  intro e w3 hx
                  first | (subst hx; intro ho3) | (obtain ⟨rfl, ho3⟩ := hx)
                  have hc3 := cell_keep hc2 ho3
                  go_wp2_with (go_at_call 48; refine (version_none z s cm _).mono ?_)
                  intro e w4 hx
                  first | (subst hx; intro ho4) | (obtain ⟨rfl, ho4⟩ := hx)
                  have hc4 := cell_keep hc3 ho4
                  go_wp2_with fail
                  go_roundw
                  case rel => exact ⟨k + 1, n + 1, by omega, by go_num, by go_num, HT.out, by omega, (((hor.trans ho2).trans ho3).trans ho4)⟩
                  case measure => simp [intOf]; omega
            · rw [if_neg hp] at ht
              have HT : Hid (n = cntA cd s (xs.take (k + 1))) := by show n = _; rw [hcn.out]; simp only [cntA, if_neg hd]; omega
              have HP : Hid (s ≤ (bucket z : Int)) := by show _ ≤ _; omega
              have hdb : ¬ cd = 0 := hd
              clear ht hp hd
              by_cases hz : z < 0
              · have HZ : Hid (z < 0 ∨ 4294967295 < z) := .inl hz
                go_wp2_with (go_at_call 48; refine (version_no z s cm cd HP.out _).mono ?_)
                intro e w2 hx
                first | (subst hx; intro ho2) | (obtain ⟨rfl, ho2⟩ := hx)
                have hc2 := cell_keep hc ho2
                go_wp2_with (go_at_call 47; refine (picks_no z s HP.out _).mono ?_)
                intro e w3 hx
                first | (subst hx; intro ho3) | (obtain ⟨rfl, ho3⟩ := hx)
                have hc3 := cell_keep hc2 ho3
                go_wp2_with (go_at_call 48; refine (version_none z s cm _).mono ?_)
                intro e w4 hx
                first | (subst hx; intro ho4) | (obtain ⟨rfl, ho4⟩ := hx)
                have hc4 := cell_keep hc3 ho4
                go_wp2_with (go_at_call 46; refine (bucket_bad_any z HZ.out _).mono ?_)
                intro e w5 hx
                first | (subst hx; intro ho5) | (obtain ⟨rfl, ho5⟩ := hx)
                have hc5 := cell_keep hc4 ho5
                go_wp2_with (go_at_call 46; refine (bucket_zero_any _).mono ?_)
                intro e w6 hx
                first | (subst hx; intro ho6) | (obtain ⟨rfl, ho6⟩ := hx)
                have hc6 := cell_keep hc5 ho6
                go_wp2_with fail
                go_roundw
                case rel => exact ⟨k + 1, n, by omega, by go_num, by rfl, HT.out, by omega, (((((hor.trans ho2).trans ho3).trans ho4).trans ho5).trans ho6)⟩
                case measure => simp [intOf]; omega
              · by_cases hz2 : 4294967295 < z
                · have HZ : Hid (z < 0 ∨ 4294967295 < z) := .inr hz2
                  go_wp2_with (go_at_call 48; refine (version_no z s cm cd HP.out _).mono ?_)
                  intro e w2 hx
                  first | (subst hx; intro ho2) | (obtain ⟨rfl, ho2⟩ := hx)
                  have hc2 := cell_keep hc ho2
                  go_wp2_with (go_at_call 47; refine (picks_no z s HP.out _).mono ?_)
                  intro e w3 hx
                  first | (subst hx; intro ho3) | (obtain ⟨rfl, ho3⟩ := hx)
                  have hc3 := cell_keep hc2 ho3
                  go_wp2_with (go_at_call 48; refine (version_none z s cm _).mono ?_)
                  intro e w4 hx
                  first | (subst hx; intro ho4) | (obtain ⟨rfl, ho4⟩ := hx)
                  have hc4 := cell_keep hc3 ho4
                  go_wp2_with (go_at_call 46; refine (bucket_bad_any z HZ.out _).mono ?_)
                  intro e w5 hx
                  first | (subst hx; intro ho5) | (obtain ⟨rfl, ho5⟩ := hx)
                  have hc5 := cell_keep hc4 ho5
                  go_wp2_with (go_at_call 46; refine (bucket_zero_any _).mono ?_)
                  intro e w6 hx
                  first | (subst hx; intro ho6) | (obtain ⟨rfl, ho6⟩ := hx)
                  have hc6 := cell_keep hc5 ho6
                  go_wp2_with fail
                  go_roundw
                  case rel => exact ⟨k + 1, n, by omega, by go_num, by rfl, HT.out, by omega, (((((hor.trans ho2).trans ho3).trans ho4).trans ho5).trans ho6)⟩
                  case measure => simp [intOf]; omega
                · have hz3 : ¬ (4294967295 : Int) < z := hz2
                  go_wp2_with (go_at_call 48; refine (version_no z s cm cd HP.out _).mono ?_)
                  intro e w2 hx
                  first | (subst hx; intro ho2) | (obtain ⟨rfl, ho2⟩ := hx)
                  have hc2 := cell_keep hc ho2
                  go_wp2_with (go_at_call 47; refine (picks_no z s HP.out _).mono ?_)
                  intro e w3 hx
                  first | (subst hx; intro ho3) | (obtain ⟨rfl, ho3⟩ := hx)
                  have hc3 := cell_keep hc2 ho3
                  go_wp2_with (go_at_call 48; refine (version_none z s cm _).mono ?_)
                  intro e w4 hx
                  first | (subst hx; intro ho4) | (obtain ⟨rfl, ho4⟩ := hx)
                  have hc4 := cell_keep hc3 ho4
                  go_wp2_with fail
                  go_roundw
                  case rel => exact ⟨k + 1, n, by omega, by go_num, by rfl, HT.out, by omega, (((hor.trans ho2).trans ho3).trans ho4)⟩
                  case measure => simp [intOf]; omega
      · have i1 : ¬ (k : Int) < xs.length := by omega
        have ek : xs.take k = xs := List.take_of_length_le (by omega)
        rw [ek] at hcn
        have HK := HS.out.keep hor
        by_cases hd : cd = 0
        · subst hd
          clear HS
          go_wp2_with fail
          go_ret
          exact ⟨rfl, ho1.trans hor⟩
        · have hcc : n = countOf s xs := by rw [hcn.out]; simp [cntA, hd]
          subst hcc
          clear hcn HS
          go_wp2_with (go_at_call 50; refine (count_any s _ xs _ HK (by omega)).mono ?_; rintro e w2 ⟨rfl, ho2⟩)
          go_ret
          exact ⟨rfl, (ho1.trans hor).trans ho2⟩

end Go.Proofs.Ytlciphmjkbihkaa
