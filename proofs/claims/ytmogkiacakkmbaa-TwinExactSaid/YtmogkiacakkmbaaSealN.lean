/- Seals, plain: what the law SealExact asks at its end. -/
import Derived.Test.YtmogkiacakkmbaaRseB
import Derived.Test.YtmogkiacakkmbaaJoinP
namespace Go.Proofs.Ytmogkiacakkmbaa
open Go.RowKit

theorem leNat_inj : ∀ (l k : List UInt8), l.length = k.length → leNat l = leNat k → l = k
  | [], [], _, _ => rfl
  | x :: l, y :: k, hl, h => by
    unfold leNat at h
    have hx := x.toNat_lt
    have hy := y.toNat_lt
    have h1 : x.toNat = y.toNat := by omega
    rw [leNat_inj l k (by simpa using hl) (by omega), UInt8.toNat_inj.1 h1]
theorem eyeNum_first (most : Int) (s t : ByteArray) (hs : 4 ≤ s.size) (ht : 4 ≤ t.size) (h : s.extract 0 4 = t.extract 0 4) : (eyeNum most s false).1 = (eyeNum most t false).1 ∧ (eyeNum most s false).2.2 = (eyeNum most t false).2.2 := by
  by_cases hm : most < (leNat (bl (s.extract 0 4)) : Int)
  · rw [eyeNum_over most s hs hm, eyeNum_over most t ht (by rw [← h]; exact hm)]
    exact ⟨rfl, rfl⟩
  · rw [eyeNum_ok most s hs hm, eyeNum_ok most t ht (by rw [← h]; exact hm), h]
    exact ⟨rfl, rfl⟩
/-- A number of a sector and its four bytes. -/
theorem num_good (s : ByteArray) (hs : s.size = 4) : ((eyeNum 2147483647 s false).2.2 = true ∨ (eyeNum 2147483647 s false).1 < 1) ↔ isNum (eyeNum 2147483647 s false).1 = false := by
  have hr := eyeNum_range 2147483647 (by decide) s false
  by_cases hm : (2147483647 : Int) < (leNat (bl (s.extract 0 4)) : Int)
  · rw [eyeNum_over _ s (by omega) hm]
    simp [isNum]
  · have he := eyeNum_ok _ s (by omega) hm
    rw [he] at hr ⊢
    unfold isNum
    simp only [Bool.false_eq_true, false_or, Bool.and_eq_false_iff, decide_eq_false_iff_not]
    simp only at hr
    omega
theorem num_inj (s t : ByteArray) (hs : s.size = 4) (ht : t.size = 4) (hg : isNum (eyeNum 2147483647 s false).1 = true) (h : (eyeNum 2147483647 t false).1 = (eyeNum 2147483647 s false).1) : t = s := by
  have e : ∀ u : ByteArray, u.size = 4 → bl (u.extract 0 4) = bl u := fun u hu => by
    rw [bl_extract, List.drop_zero]
    exact List.take_of_length_le (by rw [bl_length]; omega)
  by_cases hm : (2147483647 : Int) < (leNat (bl (s.extract 0 4)) : Int)
  · rw [eyeNum_over _ s (by omega) hm] at hg
    cases hg
  · by_cases hm2 : (2147483647 : Int) < (leNat (bl (t.extract 0 4)) : Int)
    · rw [eyeNum_over _ t (by omega) hm2] at h
      simp only at h
      rw [← h] at hg
      cases hg
    · rw [eyeNum_ok _ s (by omega) hm, eyeNum_ok _ t (by omega) hm2, e s hs, e t ht] at h
      simp only at h
      exact bl_ext (leNat_inj _ _ (by rw [bl_length, bl_length]; omega) (by omega))
theorem num4_of (s : ByteArray) (hs : s.size = 4) (hg : isNum (eyeNum 2147483647 s false).1 = true) : bl s = num4 (eyeNum 2147483647 s false).1 := by
  by_cases hm : (2147483647 : Int) < (leNat (bl (s.extract 0 4)) : Int)
  · rw [eyeNum_over _ s (by omega) hm] at hg
    cases hg
  · rw [eyeNum_ok _ s (by omega) hm] at hg ⊢
    have e : bl (s.extract 0 4) = bl s := by
      rw [bl_extract, List.drop_zero]
      exact List.take_of_length_le (by rw [bl_length]; omega)
    rw [e] at hm hg ⊢
    simp only at hg ⊢
    rw [num4_told (isNum_told hg), Int.toNat_natCast]
    refine leNat_inj _ _ (by rw [bl_length, hs]; rfl) ?_
    rw [leNat_le4 _ (by omega)]
theorem secNum_ext (s : ByteArray) (h : s.size = 32) : secNum s = (eyeNum 2147483647 (s.extract 28 32) false).1 := by unfold secNum; rw [h]
theorem sub_tail (all : ByteArray) (i : Nat) (h : 32 * i + 32 ≤ all.size) : (all.extract (32 * i) (32 * i + 32)).extract 28 32 = all.extract (32 * i + 28) (32 * i + 32) := by
  refine bl_ext ?_
  rw [bl_extract, bl_extract, bl_extract, List.take_of_length_le (by simp only [List.length_drop, List.length_take, bl_length]; omega), List.drop_drop]
theorem sub_head (all : ByteArray) (i : Nat) : (all.extract (32 * i) (32 * i + 32)).extract 0 28 = all.extract (32 * i) (32 * i + 28) := by
  refine bl_ext ?_
  rw [bl_extract, bl_extract, bl_extract, List.drop_zero, List.take_drop, List.take_take, Nat.min_eq_left (by omega)]

theorem eye36 (all : ByteArray) (h : 64 ≤ all.size) : ((bodyG all 2).extract 32 56).extract 0 4 = (all.extract 36 40).extract 0 4 := by
  have hb : bl (bodyG all 2) = bl (all.extract 0 28) ++ bl (all.extract 32 60) := by
    rw [← bodyG_succ, bl_plus, ← bodyG_succ, bl_plus]
    rfl
  have hA : (bl (all.extract 0 28)).length = 28 := by rw [bl_length, ext_len _ _ _ (by omega) (by omega)]
  have hB : (bl (all.extract 32 60)).length = 28 := by rw [bl_length, ext_len _ _ _ (by omega) (by omega)]
  refine bl_ext ?_
  rw [bl_extract, bl_extract, hb, List.take_of_length_le (i := 56) (by rw [List.length_append, hA, hB]; decide), List.drop_append, List.drop_of_length_le (l := bl (all.extract 0 28)) (by rw [hA]; decide), hA, List.nil_append, bl_extract, bl_extract, bl_extract, List.drop_drop, List.drop_zero, List.drop_zero, List.take_drop, List.take_take, List.take_drop, List.take_take]
  rfl
theorem catS_iff (all s : ByteArray) (N : Int) (h4 : bl (all.extract 28 32) = num4 N) (K : Nat) (hK : K = secsOf s.size) (hz : 32 * K ≤ all.size) (h : ∀ i, i < K → all.extract (32 * i + 28) (32 * i + 32) = all.extract 28 32) :
    catS N s K = all.extract 0 (32 * K) ↔ sealB s = bl (bodyG all K) := by
  have hl := sealB_length s
  have step : ∀ j, j ≤ K → (cat (layS N s j) = bl (all.extract 0 (32 * j)) ↔ (sealB s).take (28 * j) = bl (bodyG all j)) := by
    intro j
    induction j with
    | zero => intro _; simp [layS, cat, bodyG, bl_extract, bl_mk]; rfl
    | succ j ih =>
      intro hj
      have ih := ih (by omega)
      have e1 : cat (layS N s (j + 1)) = cat (layS N s j) ++ (((sealB s).drop (28 * j)).take 28 ++ num4 N) := by
        rw [layS_succ]
        unfold cat
        rw [List.map_append, List.flatten_append]
        simp only [List.map_cons, List.map_nil, List.flatten_cons, List.flatten_nil, List.append_nil]
        unfold laySec
        rw [bl_mk]
      have e2 : bl (all.extract 0 (32 * (j + 1))) = bl (all.extract 0 (32 * j)) ++ (bl (all.extract (32 * j) (32 * j + 28)) ++ num4 N) := by
        rw [← h4, ← h j (by omega)]
        simp only [bl_extract, List.drop_zero]
        have t1 : (bl all).take (32 * j + 32) = (bl all).take (32 * j) ++ ((bl all).drop (32 * j)).take 28 ++ ((bl all).drop (32 * j + 28)).take 4 := by
          rw [show 32 * j + 32 = 32 * j + 28 + 4 by omega, List.take_add, List.take_add]
        rw [show 32 * (j + 1) = 32 * j + 32 by omega, List.drop_take, List.drop_take, show 32 * j + 28 - 32 * j = 28 by omega, show 32 * j + 32 - (32 * j + 28) = 4 by omega, t1, List.append_assoc]
      have e3 : (sealB s).take (28 * (j + 1)) = (sealB s).take (28 * j) ++ ((sealB s).drop (28 * j)).take 28 := by rw [show 28 * (j + 1) = 28 * j + 28 by omega, List.take_add]
      have e4 : bl (bodyG all (j + 1)) = bl (bodyG all j) ++ bl (all.extract (32 * j) (32 * j + 28)) := by rw [← bodyG_succ, bl_plus]
      have l1 : (cat (layS N s j)).length = (bl (all.extract 0 (32 * j))).length := by
        have := catS_size N s j (by omega)
        rw [← bl_length] at this
        unfold catS at this
        rw [bl_mk] at this
        rw [this, bl_length, ext_len _ _ _ (by omega) (by omega)]
        rfl
      have l2 : ((sealB s).take (28 * j)).length = (bl (bodyG all j)).length := by
        rw [bl_length, bodyG_size all j (by omega), List.length_take]
        omega
      have l3 : (((sealB s).drop (28 * j)).take 28).length = (bl (all.extract (32 * j) (32 * j + 28))).length := by
        rw [bl_length, ext_len _ _ _ (by omega) (by omega), List.length_take, List.length_drop]
        omega
      rw [e1, e2, e3, e4]
      constructor
      · intro hh
        obtain ⟨a1, a2⟩ := List.append_inj hh l1
        obtain ⟨a3, _⟩ := List.append_inj a2 l3
        rw [ih.1 a1, a3]
      · intro hh
        obtain ⟨a1, a2⟩ := List.append_inj hh l2
        rw [ih.2 a1, a2]
  have hst := step K (Nat.le_refl K)
  rw [List.take_of_length_le (by omega)] at hst
  rw [← hst]
  constructor
  · intro hh
    rw [← hh]
    rfl
  · intro hh
    exact bl_ext hh
section
variable (m : DM) (f n a : Nat) (all : ByteArray) (h0 : ∀ i, a + i < n → zreadE m f n ((a : Int) + (i : Int)) = 0 ∧ all.extract (32 * i) (32 * i + 32) = zread m f n ((a : Int) + (i : Int))) (h1 : ∀ i, n ≤ a + i → zreadE m f n ((a : Int) + (i : Int)) = 3) (hs : all.size = 32 * (n - a)) (ha : a < n)
/-- The number of the sector i. -/
def nuG (i : Nat) : Int := (eyeNum 2147483647 (all.extract (32 * i + 28) (32 * i + 32)) false).1
include h0 hs in
theorem nuG_sec (i : Nat) (hi : a + i < n) : secNum (zread m f n ((a : Int) + (i : Int))) = nuG all i ∧ bl ((zread m f n ((a : Int) + (i : Int))).extract 0 28) = bl (all.extract (32 * i) (32 * i + 28)) := by
  rw [← (h0 i hi).2, secNum_ext _ (by rw [ext_len _ _ _ (by omega) (by omega)]; omega), sub_tail _ _ (by omega), sub_head]
  exact ⟨rfl, rfl⟩
include h0 hs ha in
theorem rowJ_one (hN : isNum (nuG all 0) = false) : rowJ m f n (a : Int) 1 = ([], 0, 5) := by
  have hz := (h0 0 (by omega)).1
  have hn := (nuG_sec m f n a all h0 hs 0 (by omega)).1
  rw [show (a : Int) + ((0 : Nat) : Int) = (a : Int) by omega] at hz hn
  unfold rowJ
  rw [show (a : Int) + ((0 : Nat) : Int) = (a : Int) by omega, if_neg (by simp [rowJ]), hz, if_neg (by decide), if_neg (by simp), hn, hN, if_pos (.inl rfl)]
include h0 h1 hs ha in
theorem rowJ_gen (hN : isNum (nuG all 0) = true) : ∀ j, rowJ m f n (a : Int) (j + 1) = if a + j < n ∧ ∀ i, i < j + 1 → nuG all i = nuG all 0 then (bl (bodyG all (j + 1)), nuG all 0, 0) else ([], 0, 5)
  | 0 => by
    have hz := (h0 0 (by omega)).1
    have hn := nuG_sec m f n a all h0 hs 0 (by omega)
    rw [show (a : Int) + ((0 : Nat) : Int) = (a : Int) by omega] at hz hn
    rw [if_pos ⟨by omega, fun i hi => by rw [show i = 0 by omega]⟩]
    unfold rowJ
    rw [show (a : Int) + ((0 : Nat) : Int) = (a : Int) by omega, if_neg (by simp [rowJ]), hz, if_neg (by decide), if_neg (by simp), hn.1, hN, if_neg (by simp), hn.2, ← bodyG_succ, bl_plus]
    rfl
  | j + 1 => by
    have ih := rowJ_gen hN j
    unfold rowJ
    by_cases hc : a + j < n ∧ ∀ i, i < j + 1 → nuG all i = nuG all 0
    · rw [if_pos hc] at ih
      rw [ih, if_neg (by simp)]
      by_cases hj : a + (j + 1) < n
      · obtain ⟨hz, _⟩ := h0 (j + 1) hj
        obtain ⟨hn, hb⟩ := nuG_sec m f n a all h0 hs (j + 1) hj
        rw [hz, if_neg (by decide), if_neg (by simp), hn]
        by_cases hN2 : nuG all (j + 1) = nuG all 0
        · rw [if_neg (by rw [hN2, hN]; simp), if_pos ⟨hj, fun i hi => by by_cases hij : i = j + 1; (rw [hij, hN2]); exact hc.2 i (by omega)⟩, hN2, hb, ← bodyG_succ all (j + 1), bl_plus]
        · rw [if_pos (.inr ⟨by omega, hN2⟩), if_neg (fun h => hN2 (h.2 (j + 1) (by omega)))]
      · rw [h1 (j + 1) (by omega), if_pos rfl, if_neg (fun h => hj h.1)]
    · rw [if_neg hc] at ih
      rw [ih, if_pos (by simp), if_neg (fun h => hc ⟨by omega, fun i hi => h.2 i (by omega)⟩)]
include h0 h1 hs ha in
set_option maxHeartbeats 400000 in
theorem refG_getR : refG all = getR m f n (a : Int) := by
  have hz : zreadE m f n (a : Int) = 0 := by simpa using (h0 0 (by omega)).1
  have e0 : (eyeNum 2147483647 (all.extract 28 32) false).1 = nuG all 0 := rfl
  have hsz : (all.extract 28 32).size = 4 := ext_len _ _ _ (by omega) (by omega)
  have hg := num_good (all.extract 28 32) hsz
  rw [e0] at hg
  have hz' : ¬ (zreadE m f n (a : Int) ≠ 0) := fun h => h hz
  cases hN : isNum (nuG all 0)
  · have r1 := rowJ_one m f n a all h0 hs ha hN
    have r2 : rowJ m f n (a : Int) 2 = ([], 0, 5) := by rw [rowJ_stuck m f n (a : Int) 1 2 (by rw [r1]; decide) (by decide), r1]
    have hR : getR m f n (a : Int) = (⟨#[]⟩, 0, 5) := by unfold getR; rw [if_neg hz', r2, if_pos (by decide)]
    rw [hR]
    unfold refG
    by_cases h64 : all.size < 64
    · rw [if_pos h64]
    · rw [if_neg h64, e0, if_pos (hg.2 hN)]
  · have rg := rowJ_gen m f n a all h0 h1 hs ha hN
    have r2 := rg 1
    rw [show 1 + 1 = 2 from rfl] at r2
    by_cases h64 : all.size < 64
    · rw [if_neg (fun h => by omega)] at r2
      have hR : getR m f n (a : Int) = (⟨#[]⟩, 0, 5) := by unfold getR; rw [if_neg hz', r2, if_pos (by decide)]
      rw [hR]
      unfold refG
      rw [if_pos h64]
    · have hng : ¬ ((eyeNum 2147483647 (all.extract 28 32) false).2.2 = true ∨ nuG all 0 < 1) := fun h => by
        have := hg.1 h
        rw [hN] at this
        cases this
      have hk0 := eyeNum_range 1024 (by decide) (all.extract 36 40) false
      obtain ⟨k, ek⟩ : ∃ k : Nat, (eyeNum 1024 (all.extract 36 40) false).1 = (k : Int) := ⟨(eyeNum 1024 (all.extract 36 40) false).1.toNat, by omega⟩
      have hK2 := secsOf_two k
      have hall : ∀ K, a + K ≤ n → ((∀ i, i < K → all.extract (32 * i + 28) (32 * i + 32) = all.extract 28 32) ↔ ∀ i, i < K → nuG all i = nuG all 0) := fun K hK => by
        constructor
        · intro h i hi
          unfold nuG
          rw [h i hi]
        · intro h i hi
          exact num_inj (all.extract 28 32) _ hsz (by rw [ext_len _ _ _ (by omega) (by omega)]; omega) hN (h i hi)
      obtain ⟨be, ebe⟩ : ∃ be, be = (eyeNum 1024 (all.extract 36 40) false).2.2 := ⟨_, rfl⟩
      have hG : refG all = if be = true ∨ all.size < 32 * secsOf k then (⟨#[]⟩, 0, 5)
          else if ∀ i, i < secsOf k → all.extract (32 * i + 28) (32 * i + 32) = all.extract 28 32 then
            if catS (nuG all 0) ((bodyG all (secsOf k)).extract 36 (36 + k)) (secsOf k) = all.extract 0 (32 * secsOf k) then ((bodyG all (secsOf k)).extract 36 (36 + k), nuG all 0, 0)
            else (⟨#[]⟩, 0, 6)
          else (⟨#[]⟩, 0, 5) := by
        unfold refG
        rw [if_neg h64, e0, if_neg hng, ek, Int.toNat_natCast, ebe]
      rw [hG]
      clear hG
      by_cases hn1 : nuG all 1 = nuG all 0
      · rw [if_pos ⟨by omega, fun i hi => by by_cases hi0 : i = 0; (rw [hi0]); (rw [show i = 1 by omega, hn1])⟩] at r2
        have hbe : lenOf (bl (bodyG all 2)) = (k : Int) ∧ lenBad (bl (bodyG all 2)) = be := by
          have hb2 := bodyG_size all 2 (by omega)
          have e9 : (⟨(bl (bodyG all 2)).toArray⟩ : ByteArray) = bodyG all 2 := bl_ext (bl_mk _)
          have e8 := eyeNum_first 1024 ((bodyG all 2).extract 32 56) (all.extract 36 40) (by rw [ext_len _ _ _ (by omega) (by omega)]; decide) (by rw [ext_len _ _ _ (by omega) (by omega)]; decide) (eye36 all (by omega))
          unfold lenOf lenBad
          rw [e9, e8.1, e8.2, ek, ebe]
          exact ⟨rfl, rfl⟩
        have hR : getR m f n (a : Int) = if be = true then (⟨#[]⟩, 0, 5)
            else if (rowJ m f n (a : Int) (secsOf k)).2.2 ≠ 0 then (⟨#[]⟩, 0, (rowJ m f n (a : Int) (secsOf k)).2.2)
            else if sealB (txtOf (rowJ m f n (a : Int) (secsOf k)).1 k) ≠ (rowJ m f n (a : Int) (secsOf k)).1 then (⟨#[]⟩, 0, 6)
            else (txtOf (rowJ m f n (a : Int) (secsOf k)).1 k, (rowJ m f n (a : Int) (secsOf k)).2.1, 0) := by
          unfold getR
          rw [if_neg hz', r2, if_neg (by simp)]
          simp only
          rw [hbe.1, hbe.2, Int.toNat_natCast]
        rw [hR]
        clear hR
        cases be
        · simp only [Bool.false_eq_true, false_or, if_false]
          obtain ⟨K, eK⟩ : ∃ K, K + 1 = secsOf k := ⟨secsOf k - 1, by omega⟩
          have rK := rg K
          rw [← eK]
          by_cases hsK : all.size < 32 * (K + 1)
          · rw [if_neg (fun h => by omega)] at rK
            rw [if_pos hsK, rK]
            rfl
          · rw [if_neg hsK]
            by_cases hA : ∀ i, i < K + 1 → nuG all i = nuG all 0
            · rw [if_pos ⟨by omega, hA⟩] at rK
              rw [if_pos ((hall (K + 1) (by omega)).2 hA), rK]
              simp only [ne_eq, not_true_eq_false, if_false]
              have ht : txtOf (bl (bodyG all (K + 1))) k = (bodyG all (K + 1)).extract 36 (36 + k) := by
                have e9 : (⟨(bl (bodyG all (K + 1))).toArray⟩ : ByteArray) = bodyG all (K + 1) := bl_ext (bl_mk _)
                unfold txtOf
                rw [e9]
              rw [ht]
              have hiff : catS (nuG all 0) ((bodyG all (K + 1)).extract 36 (36 + k)) (K + 1) = all.extract 0 (32 * (K + 1)) ↔ sealB ((bodyG all (K + 1)).extract 36 (36 + k)) = bl (bodyG all (K + 1)) := by
                have hge := secsOf_ge k
                have hbz := bodyG_size all (K + 1) (by omega)
                have hks : ((bodyG all (K + 1)).extract 36 (36 + k)).size = k := by rw [ext_len _ _ _ (by omega) (by omega)]; omega
                refine catS_iff all _ (nuG all 0) ?_ (K + 1) (by rw [hks, eK]) (by omega) ((hall (K + 1) (by omega)).2 hA)
                exact num4_of (all.extract 28 32) hsz hN
              by_cases hc : sealB ((bodyG all (K + 1)).extract 36 (36 + k)) = bl (bodyG all (K + 1))
              · rw [if_pos (hiff.2 hc), if_neg (fun h => h hc)]
              · rw [if_neg (fun h => hc (hiff.1 h)), if_pos hc]
            · rw [if_neg (fun h => hA h.2)] at rK
              rw [if_neg (fun h => hA ((hall (K + 1) (by omega)).1 h)), rK]
              rfl
        · rw [if_pos (.inl rfl), if_pos rfl]
      · rw [if_neg (fun h => hn1 (h.2 1 (by omega)))] at r2
        have hR : getR m f n (a : Int) = (⟨#[]⟩, 0, 5) := by unfold getR; rw [if_neg hz', r2, if_pos (by decide)]
        rw [hR]
        by_cases hc : be = true ∨ all.size < 32 * secsOf k
        · rw [if_pos hc]
        · rw [if_neg hc, if_neg (fun h => hn1 ((hall (secsOf k) (by omega)).1 h 1 (by omega)))]
end
end Go.Proofs.Ytmogkiacakkmbaa

namespace Go.Proofs.Ytmogkiacakkmbaa
open Go.RowKit

theorem sealGet_nil (a : Int) (w : World) : Calls Try.prog 21 #[.pointer none, .int .i64 a] w fun e w' => e = .returned (.tuple #[.string ⟨#[]⟩, .int .i64 0, .int .i64 2]) ∧ Only [] w w' := by
  have hst := Sd.start w []
  go_enter Try.func21, Try.ntmps21
  go_wp2_with fail
  go_ret3
  exact ⟨rfl, hst.only⟩
theorem sealPut_nil (a n : Int) (s : ByteArray) (w : World) : Calls Try.prog 16 #[.pointer none, .int .i64 a, .int .i64 n, .string s] w fun e w' => e = .returned (.int .i64 2) ∧ Only [] w w' := by
  have hst := Sd.start w []
  go_enter Try.func16, Try.ntmps16
  go_wp2_with fail
  go_ret
  exact ⟨rfl, hst.only⟩
/-- A row that is read alone. -/
def rowQ (v : Value) (e : TypeId) (size n : Nat) (xs : List Value) : Rsc := { rowR v e size n xs with own := false }
theorem joinB_take (l : List ByteArray) (j : Nat) (h : j < l.length) : joinB (l.take j) ++ l.getD j ⟨#[]⟩ = joinB (l.take (j + 1)) := by
  refine bl_ext ?_
  unfold joinB cat
  rw [bl_plus, bl_mk, bl_mk, List.take_succ_eq_append_getElem h, List.map_append, List.flatten_append]
  rw [List.getD_eq_getElem?_getD, List.getElem?_eq_getElem h]
  simp only [Option.getD_some, List.map_cons, List.map_nil, List.flatten_cons, List.flatten_nil, List.append_nil, bl_mk]
  rfl
theorem joinB_few (l : List ByteArray) (hl : ∀ s ∈ l, s.size ≤ 32) : (joinB l).size ≤ 32 * l.length := by
  rw [← bl_length]
  unfold joinB
  rw [bl_mk]
  induction l with
  | nil => simp [cat]
  | cons x l ih =>
    have h1 := hl x (by simp)
    have h2 := ih (fun s hs => hl s (by simp [hs]))
    unfold cat at h2 ⊢
    simp only [List.map_cons, List.flatten_cons, List.length_append, List.length_cons, bl_length] at h2 ⊢
    omega

set_option maxRecDepth 100000 in
set_option maxHeartbeats 4000000 in
theorem joinedRow_any (l : List ByteArray) (ad : Option Addr) (cp : Nat) (w : World) (h : w.ownsRow 0 9 1 (.slice ad l.length cp) l.length (scells l)) (hl : ∀ s ∈ l, s.size ≤ 32) (hn : l.length ≤ 1000) :
    Calls Try.prog 24 #[.slice ad l.length cp] w fun e w' => e = .returned (.string (joinB l)) ∧ Only [] w w' := by
  have hst := Sd.withQ [] (rowQ (.slice ad l.length cp) 9 1 l.length (scells l)) h rfl
  have SM : Hid (∀ j, (joinB (l.take j)).size ≤ 32 * 1000) := fun j => by
    have := joinB_few (l.take j) (fun s hs => hl s (List.mem_of_mem_take hs))
    rw [List.length_take] at this
    omega
  have SX : Hid (∀ j, (l.getD j ⟨#[]⟩).size ≤ 32) := fun j => by
    rw [List.getD_eq_getElem?_getD]
    cases hj : l[j]? with
    | none => simp; decide
    | some x => exact hl x (List.mem_of_getElem? hj)
  have ST : Hid (∀ j, j < l.length → joinB (l.take j) ++ l.getD j ⟨#[]⟩ = joinB (l.take (j + 1))) := joinB_take l
  clear hl h
  go_enter Try.func24, Try.ntmps24
  go_wp2_with fail
  go_loopw [3, 4] (fun v i wr => ∃ (j : Nat), j ≤ l.length ∧ v = .string (joinB (l.take j)) ∧ i = .int .i64 (j : Int) ∧ Sd w [] wr [] [rowQ (.slice ad l.length cp) 9 1 l.length (scells l)])
    (fun _ i _ => (l.length - intOf i).toNat)
  case atStart => exact ⟨0, by omega, rfl, rfl, hst⟩
  case round =>
    obtain ⟨j, hj, rfl, rfl, hst⟩ := hrel
    by_cases hlt : j < l.length
    · have j1 : (j : Int) < l.length := by omega
      have HJ : Hid (j + 1 ≤ l.length) := hlt
      have hown : wr.ownsRow 0 9 1 (.slice ad l.length cp) l.length (scells l) := hst.rs 0 rfl
      obtain ⟨g, rfl⟩ : ∃ g, ad = some ⟨g, 0, none⟩ := by
        rcases hown.2 with ⟨_, h⟩ | ⟨g, cap, cur, e, _⟩
        · omega
        · simp only [Value.slice.injEq] at e
          exact ⟨g, e.1⟩
      have hcell := Lib.hid (rowCell hown rfl j hlt)
      have HS := Lib.hid (ST.out j hlt)
      have HC : Hid ((joinB (l.take j)).size + (l.getD j ⟨#[]⟩).size ≤ 9223372036854775807) := by
        have h1 := SM.out j
        have h2 := SX.out j
        show _ ≤ _
        omega
      clear hown
      go_wp2_with (first
        | ((with_reducible refine wpL_isLoad rfl ?_); refine wpL_load1C rfl rfl rfl hcell.out (by kernel_rfl) ?_)
        | ((with_reducible refine wpL_isBin rfl ?_); refine wpL_catS rfl rfl _ _ _ rfl rfl HS.out HC.out ?_))
      go_roundw
      case rel => exact ⟨j + 1, HJ.out, rfl, by go_num, hst⟩
      case measure => simp [intOf]; omega
    · obtain rfl : j = l.length := by omega
      have j1 : ¬ (l.length : Int) < l.length := by omega
      go_wp2_with fail
      go_ret
      exact ⟨rfl, hst.only⟩
end Go.Proofs.Ytmogkiacakkmbaa

namespace Go.Proofs.Ytmogkiacakkmbaa
open Go.RowKit

/-- What is got of a disk whose writes are all safe is the document's answer of its bytes. -/
theorem getR_image (m : DM) (hok : m.Ok) (haw : m.away = false) (hlo : m.loose = []) (a : Nat) (ha : a < m.len) : refG ((joinB m.safe).extract (32 * a) (joinB m.safe).size) = getR m 0 m.len (a : Int) := by
  have hs := joinB_size m.safe hok.full
  have hn : m.now = m.safe := by unfold DM.now; rw [hlo]; rfl
  have hl : m.len = m.safe.length := rfl
  refine refG_getR m 0 m.len a _ (fun i hi => ?_) (fun i hi => ?_) ?_ ha
  · obtain ⟨z1, z2⟩ := zread_free m 0 m.len (a + i) haw (by omega) hi
    rw [show ((a + i : Nat) : Int) = (a : Int) + (i : Int) by omega] at z1 z2
    refine ⟨z1, ?_⟩
    rw [z2, hn, joinB_sec m.safe hok.full a i (by omega), Nat.zero_add]
  · unfold zreadE
    rw [if_neg (by intro h; have := zIn_iff.1 h; omega)]
  · rw [ext_len _ _ _ (Nat.le_refl _) (by omega), hs, hl]
    omega
end Go.Proofs.Ytmogkiacakkmbaa

namespace Go.Proofs.Ytmogkiacakkmbaa
open Go.RowKit

theorem getR_err (m : DM) (f n : Nat) (a : Int) (h : zreadE m f n a ≠ 0) : getR m f n a = (⟨#[]⟩, 0, zreadE m f n a) := by
  unfold getR
  rw [if_pos h]
theorem zreadE_out (m : DM) (f n : Nat) (a : Int) (h : a < 0 ∨ (n : Int) ≤ a) : zreadE m f n a = 3 := by
  unfold zreadE
  rw [if_neg (fun hi => by have := zIn_iff.1 hi; omega)]
theorem zreadE_away (m : DM) (f n : Nat) (a : Int) (haw : m.away = true) (hfn : f + n ≤ m.len) (h : 0 ≤ a ∧ a < (n : Int)) : zreadE m f n a = 4 := by
  unfold zreadE
  rw [if_pos (zIn_iff.2 h)]
  unfold DM.check
  rw [if_neg (by omega), if_pos haw]
theorem putR_away (m : DM) (f n : Nat) (a num : Int) (s : ByteArray) (haw : m.away = true) (hfn : f + n ≤ m.len) (hc : canLay num s = true) (hp : putIn n a (secsOf s.size) = true) : (putR m f n a num s).2 = 4 := by
  have h2 := secsOf_two s.size
  have ha : 0 ≤ a ∧ a < (n : Int) := by
    unfold putIn at hp
    simp at hp
    omega
  have hs : ((layS num s (secsOf s.size)).getD 0 ⟨#[]⟩).size = 32 := by
    rw [layS_at _ _ _ _ (by omega)]
    exact laySec_size num s 0 (by omega)
  have h1 : (putJ m f n a (layS num s (secsOf s.size)) 1).2 = 4 := by
    unfold putJ
    rw [if_neg (by simp [putJ])]
    simp only [putJ]
    unfold zwriteE
    rw [if_neg (fun h' => h' hs), if_pos (zIn_iff.2 (by omega))]
    unfold DM.writeE
    rw [if_neg (fun h' => h' hs)]
    have hck : m.check ((f : Int) + (a + ((0 : Nat) : Int))) = 4 := by
      unfold DM.check
      rw [if_neg (by omega), if_pos haw]
    rw [hck, if_pos (by decide)]
  unfold putR
  rw [if_neg (by simp [hc]), if_neg (by simp [hp]), putJ_stuck m f n a _ 1 (secsOf s.size) (by rw [h1]; decide) (by omega), h1]
/-- A text's sectors, as they stand in the bytes of a disk. -/
theorem joinB_put (l : List ByteArray) (h : ∀ s ∈ l, s.size = 32) (p : Nat) (num : Int) (s : ByteArray) (hp : p + secsOf s.size ≤ l.length) (hs : ∀ i, i < secsOf s.size → l.getD (p + i) ⟨#[]⟩ = laySec num s i) :
    (joinB l).extract (32 * p) (32 * p + 32 * secsOf s.size) = catS num s (secsOf s.size) := by
  have e : (l.drop p).take (secsOf s.size) = layS num s (secsOf s.size) := by
    refine List.ext_getElem (by rw [List.length_take, List.length_drop, layS_length]; omega) fun i h1 h2 => ?_
    rw [layS_length] at h2
    have := hs i h2
    rw [List.getD_eq_getElem?_getD, List.getElem?_eq_getElem (by omega)] at this
    rw [List.getElem_take, List.getElem_drop]
    simp only [layS, List.getElem_map, List.getElem_range]
    exact this
  refine bl_ext ?_
  unfold joinB catS
  rw [bl_extract, bl_mk, bl_mk, List.drop_take, show 32 * p + 32 * secsOf s.size - 32 * p = 32 * secsOf s.size by omega, cat_drop l h p, cat_take _ (fun t ht => h t (List.mem_of_mem_drop ht)), e]
end Go.Proofs.Ytmogkiacakkmbaa
