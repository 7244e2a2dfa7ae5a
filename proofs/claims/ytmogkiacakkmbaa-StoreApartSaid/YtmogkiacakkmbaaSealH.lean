/- Seals, plain: a text over another, some of whose sectors are laid. -/
import Derived.Test.YtmogkiacakkmbaaSealF
import Derived.Test.YtmogkiacakkmbaaDskH
namespace Go.Proofs.Ytmogkiacakkmbaa
open Go.RowKit

theorem eyeNum_lim (most n : Int) (h : told n = true) (hm : n ≤ most) (s : ByteArray) (r : List UInt8) (hs : bl s = num4 n ++ r) : (eyeNum most s false).1 = n ∧ (eyeNum most s false).2.2 = false := by
  have hn : 0 ≤ n ∧ n < 4294967296 := by simpa [told] using h
  have hsz : s.size = 4 + r.length := by rw [← bl_length, hs, List.length_append, num4_length]
  have e1 : bl (s.extract 0 4) = num4 n := by
    rw [bl_extract, hs, List.drop_zero, List.take_append_of_le_length (by rw [num4_length]; exact Nat.le_refl _), List.take_of_length_le (by rw [num4_length]; exact Nat.le_refl _)]
  have e3 : (leNat (bl (s.extract 0 4)) : Int) = n := by
    rw [e1, num4_told h, leNat_le4 _ (by omega)]
    omega
  rw [eyeNum_ok most _ (by omega) (by rw [e3]; omega), e3]
  exact ⟨rfl, rfl⟩
theorem secNum_lay (n : Int) (s : ByteArray) (i : Nat) (hn : isNum n = true) (h : i < secsOf s.size) : secNum (laySec n s i) = n := by
  have hsz := laySec_size n s i h
  have hl := sealB_length s
  unfold isNum at hn
  simp only [Bool.and_eq_true, decide_eq_true_eq] at hn
  unfold secNum
  rw [hsz]
  refine (eyeNum_lim _ n (isNum_told (by unfold isNum; simp [hn])) hn.2 _ [] ?_).1
  rw [bl_extract]
  unfold laySec
  rw [bl_mk, List.append_nil, List.take_of_length_le (by simp [num4_length]; omega)]
  exact List.drop_left' (by simp; omega)
theorem laySec_body (n : Int) (s : ByteArray) (i : Nat) (h : i < secsOf s.size) : bl ((laySec n s i).extract 0 28) = ((sealB s).drop (28 * i)).take 28 := by
  have hl := sealB_length s
  rw [bl_extract]
  unfold laySec
  rw [bl_mk, List.drop_zero]
  exact List.take_left' (by simp; omega)
theorem lenOf_take (s : ByteArray) (h : s.size ≤ 1024) : lenOf ((sealB s).take 56) = (s.size : Int) ∧ lenBad ((sealB s).take 56) = false := by
  unfold lenOf lenBad
  refine eyeNum_lim 1024 (s.size : Int) (by simp [told]; omega) (by omega) _ ((bl s ++ List.replicate (secsOf s.size * 28 - 36 - s.size) 0).take 20) ?_
  rw [bl_extract, bl_mk, List.take_take]
  unfold sealB bodyB
  rw [show min 56 56 = 32 + 24 from rfl, List.take_append, Sha.sum_length, List.take_of_length_le (by rw [Sha.sum_length]; omega), List.drop_left' (Sha.sum_length _), List.append_assoc, List.take_append, num4_length, List.take_of_length_le (by rw [num4_length]; omega)]
theorem txtOf_seal (s : ByteArray) : txtOf (sealB s) s.size = s := by
  refine bl_ext ?_
  unfold txtOf sealB bodyB
  rw [bl_extract, bl_mk, List.drop_take, List.append_assoc, ← List.append_assoc, List.drop_left' (by rw [List.length_append, Sha.sum_length, num4_length]), show 36 + s.size - 36 = s.size by omega]
  exact List.take_left' (bl_length s)
/-- A row of a text's sectors. -/
theorem rowJ_lay (m : DM) (f n : Nat) (a N : Int) (s : ByteArray) (hN : isNum N = true) : ∀ j, j ≤ secsOf s.size → (∀ i, i < j → zreadE m f n (a + (i : Int)) = 0 ∧ zread m f n (a + (i : Int)) = laySec N s i) →
    rowJ m f n a j = ((sealB s).take (28 * j), if j = 0 then 0 else N, 0)
  | 0, _, _ => by simp [rowJ]
  | j + 1, hj, h => by
    have ih := rowJ_lay m f n a N s hN j (by omega) (fun i hi => h i (by omega))
    obtain ⟨h1, h2⟩ := h j (by omega)
    have hl := sealB_length s
    unfold rowJ
    rw [ih, if_neg (by simp), h1, if_neg (by decide), if_neg (by simp), h2, secNum_lay N s j hN (by omega), hN, if_neg (by rintro (h | ⟨h, h'⟩); (cases h); (rw [if_neg h] at h'; exact h' rfl)), laySec_body N s j (by omega)]
    rw [if_neg (Nat.succ_ne_zero j)]
    refine Prod.ext ?_ rfl
    show (sealB s).take (28 * j) ++ ((sealB s).drop (28 * j)).take 28 = _
    rw [show 28 * (j + 1) = 28 * j + 28 by omega, List.take_add]
/-- A row with a sector of another number. -/
theorem rowJ_mix (m : DM) (f n : Nat) (a N : Int) (s : ByteArray) (hN : isNum N = true) : ∀ j, j ≤ secsOf s.size → (∀ i, i < j → zreadE m f n (a + (i : Int)) = 0) → zread m f n a = laySec N s 0 →
    (∀ i, i < j → secNum (zread m f n (a + (i : Int))) = N → zread m f n (a + (i : Int)) = laySec N s i) → (¬ ∀ i, i < j → zread m f n (a + (i : Int)) = laySec N s i) → rowJ m f n a j = ([], 0, 5)
  | 0, _, _, _, _, h => absurd (fun i hi => absurd hi (Nat.not_lt_zero i)) h
  | j + 1, hj, hz, h0, hs, h => by
    by_cases hall : ∀ i, i < j → zread m f n (a + (i : Int)) = laySec N s i
    · have ih := rowJ_lay m f n a N s hN j (by omega) (fun i hi => ⟨hz i (by omega), hall i hi⟩)
      have hb : zread m f n (a + (j : Int)) ≠ laySec N s j := fun he => h fun i hi => by
        by_cases hij : i = j
        · rw [hij]; exact he
        · exact hall i (by omega)
      have hj0 : j ≠ 0 := fun he => hb (by rw [he]; simpa using h0)
      have hb2 : secNum (zread m f n (a + (j : Int))) ≠ N := fun he => hb (hs j (by omega) he)
      unfold rowJ
      rw [ih, if_neg (by simp), hz j (by omega), if_neg (by decide), if_neg (by simp), if_pos (.inr ⟨hj0, by rw [if_neg hj0]; exact hb2⟩)]
    · have ih := rowJ_mix m f n a N s hN j (by omega) (fun i hi => hz i (by omega)) h0 (fun i hi => hs i (by omega)) hall
      unfold rowJ
      rw [ih, if_pos (by decide)]
/-- What is got where the first sector is a text's, and the others are its or of another number. -/
theorem getR_mix (m : DM) (f n : Nat) (a N : Int) (s : ByteArray) (hN : isNum N = true) (hs : s.size ≤ 1024) (hz : ∀ i, i < secsOf s.size → zreadE m f n (a + (i : Int)) = 0) (h0 : zread m f n a = laySec N s 0)
    (hm : ∀ i, i < secsOf s.size → secNum (zread m f n (a + (i : Int))) = N → zread m f n (a + (i : Int)) = laySec N s i) :
    ((∀ i, i < secsOf s.size → zread m f n (a + (i : Int)) = laySec N s i) → getR m f n a = (s, N, 0)) ∧ ((¬ ∀ i, i < secsOf s.size → zread m f n (a + (i : Int)) = laySec N s i) → getR m f n a = (⟨#[]⟩, 0, 5)) := by
  have h2 := secsOf_two s.size
  have hz0 : zreadE m f n a = 0 := by simpa using hz 0 (by omega)
  have hlen := sealB_length s
  by_cases hr : ∀ i : Nat, i < 2 → zread m f n (a + (i : Int)) = laySec N s i
  · have r2 := rowJ_lay m f n a N s hN 2 h2 (fun i hi => ⟨hz i (by omega), hr i hi⟩)
    rw [if_neg (by decide)] at r2
    obtain ⟨l1, l2⟩ := lenOf_take s hs
    constructor
    · intro hall
      have rK := rowJ_lay m f n a N s hN (secsOf s.size) (Nat.le_refl _) (fun i hi => ⟨hz i hi, hall i hi⟩)
      rw [if_neg (by omega), List.take_of_length_le (by omega)] at rK
      unfold getR
      rw [hz0, if_neg (by simp), r2, if_neg (by simp)]
      simp only
      rw [show 28 * 2 = 56 from rfl, l2, if_neg (by simp), l1, Int.toNat_natCast, rK, if_neg (by simp)]
      simp only
      rw [txtOf_seal, if_neg (by simp)]
    · intro hall
      have rK := rowJ_mix m f n a N s hN (secsOf s.size) (Nat.le_refl _) hz h0 hm hall
      unfold getR
      rw [hz0, if_neg (by simp), r2, if_neg (by simp)]
      simp only
      rw [show 28 * 2 = 56 from rfl, l2, if_neg (by simp), l1, Int.toNat_natCast, rK, if_pos (by decide)]
  · have r2 := rowJ_mix m f n a N s hN 2 h2 (fun i hi => hz i (by omega)) h0 (fun i hi => hm i (by omega)) hr
    constructor
    · intro hall
      exact absurd (fun i hi => hall i (by omega)) hr
    · intro _
      unfold getR
      rw [hz0, if_neg (by simp), r2, if_pos (by decide)]

/-- Writes of so many sectors from a place on. -/
def wsOf (b : Nat) (l : List ByteArray) (j : Nat) : List (Nat × ByteArray) := (List.range j).map fun i => (b + i, l.getD i ⟨#[]⟩)
theorem wsOf_length (b : Nat) (l : List ByteArray) (j : Nat) : (wsOf b l j).length = j := by simp [wsOf]
theorem wsOf_succ (b : Nat) (l : List ByteArray) (j : Nat) : wsOf b l (j + 1) = wsOf b l j ++ [(b + j, l.getD j ⟨#[]⟩)] := by
  unfold wsOf
  rw [List.range_succ, List.map_append]
  rfl
theorem wsOf_take (b : Nat) (l : List ByteArray) (j k : Nat) (h : j ≤ k) : (wsOf b l k).take j = wsOf b l j := by
  unfold wsOf
  rw [← List.map_take, List.take_range, Nat.min_eq_left h]
theorem wsOf_at (b : Nat) (l : List ByteArray) (j k : Nat) (h : j < k) : (wsOf b l k).getD j (0, ⟨#[]⟩) = (b + j, l.getD j ⟨#[]⟩) := by
  simp [wsOf, List.getD_eq_getElem?_getD, h]
theorem kept_ws (keep : List Bool) (b : Nat) (l : List ByteArray) (K : Nat) : ∀ j, j ≤ K → keptL keep (wsOf b l j) = ((wsOf b l K).take j |> keptL keep) := fun j h => by rw [wsOf_take b l j K h]
theorem kept_succ (keep : List Bool) (b : Nat) (l : List ByteArray) (j : Nat) : keptL keep (wsOf b l (j + 1)) = keptL keep (wsOf b l j) ++ (if keep.getD j false = true then [(b + j, l.getD j ⟨#[]⟩)] else []) := by
  have := keptL_take keep (wsOf b l (j + 1)) j (by rw [wsOf_length]; omega)
  rw [List.take_of_length_le (by rw [wsOf_length]; omega), wsOf_take _ _ _ _ (by omega), wsOf_at _ _ _ _ (by omega)] at this
  exact this
theorem getD_set (l : List ByteArray) (i p : Nat) (v z : ByteArray) (h : i < l.length) : (l.set i v).getD p z = if p = i then v else l.getD p z := by
  simp only [List.getD_eq_getElem?_getD, List.getElem?_set]
  by_cases hp : p = i
  · subst hp; simp [h]
  · rw [if_neg (fun he => hp he.symm), if_neg hp]
/-- Where some of the writes are carried out. -/
theorem laid_kept (S : List ByteArray) (keep : List Bool) (b : Nat) (l : List ByteArray) (p : Nat) (z : ByteArray) : ∀ K, b + K ≤ S.length →
    (laid S (keptL keep (wsOf b l K))).getD p z = if b ≤ p ∧ p < b + K ∧ keep.getD (p - b) false = true then l.getD (p - b) ⟨#[]⟩ else S.getD p z
  | 0, _ => by
    rw [if_neg (by omega)]
    simp [wsOf, keptL, laid]
  | K + 1, h => by
    have ih := laid_kept S keep b l p z K (by omega)
    rw [kept_succ]
    by_cases hk : keep.getD K false = true
    · rw [if_pos hk, laid_snoc, getD_set _ _ _ _ _ (by rw [laid_length]; show b + K < _; omega), ih]
      by_cases hp : p = b + K
      · subst hp
        rw [if_pos rfl, if_pos ⟨by omega, by omega, by rw [show b + K - b = K by omega]; exact hk⟩, show b + K - b = K by omega]
      · rw [if_neg hp]
        by_cases hc : b ≤ p ∧ p < b + K ∧ keep.getD (p - b) false = true
        · rw [if_pos hc, if_pos ⟨hc.1, by omega, hc.2.2⟩]
        · rw [if_neg hc, if_neg (fun h' => hc ⟨h'.1, by omega, h'.2.2⟩)]
    · rw [if_neg hk, List.append_nil, ih]
      by_cases hc : b ≤ p ∧ p < b + K ∧ keep.getD (p - b) false = true
      · rw [if_pos hc, if_pos ⟨hc.1, by omega, hc.2.2⟩]
      · rw [if_neg hc, if_neg (fun h' => hc ⟨h'.1, ?_, h'.2.2⟩)]
        by_cases hp : p = b + K
        · subst hp
          rw [show b + K - b = K by omega] at h'
          exact absurd h'.2.2 hk
        · omega
/-- Where all are. -/
theorem laid_ws (S : List ByteArray) (b : Nat) (l : List ByteArray) (p : Nat) (z : ByteArray) : ∀ K, b + K ≤ S.length →
    (laid S (wsOf b l K)).getD p z = if b ≤ p ∧ p < b + K then l.getD (p - b) ⟨#[]⟩ else S.getD p z
  | 0, _ => by
    rw [if_neg (by omega)]
    simp [wsOf, laid]
  | K + 1, h => by
    have ih := laid_ws S b l p z K (by omega)
    rw [wsOf_succ, laid_snoc, getD_set _ _ _ _ _ (by rw [laid_length]; show b + K < _; omega), ih]
    by_cases hp : p = b + K
    · subst hp
      rw [if_pos rfl, if_pos (by omega), show b + K - b = K by omega]
    · rw [if_neg hp]
      by_cases hc : b ≤ p ∧ p < b + K
      · rw [if_pos hc, if_pos (by omega)]
      · rw [if_neg hc, if_neg (by omega)]
/-- A text, put on a disk whose power is there and has no fuse. -/
theorem putJ_free (m : DM) (f n a : Nat) (l : List ByteArray) (haw : m.away = false) (hfu : m.fuse = -1) (hfn : f + n ≤ m.len) (hl : ∀ i, i < l.length → (l.getD i ⟨#[]⟩).size = 32) : ∀ j, j ≤ l.length → a + j ≤ n →
    ∃ dn, putJ m f n (a : Int) l j = ({ m with loose := m.loose ++ wsOf (f + a) l j, done := dn }, 0)
  | 0, _, _ => ⟨m.done, by simp [putJ, wsOf]⟩
  | j + 1, h, ha => by
    obtain ⟨dn, ih⟩ := putJ_free m f n a l haw hfu hfn hl j (by omega) (by omega)
    refine ⟨wrap64 (dn + 1), ?_⟩
    have hz : zIn n ((a : Int) + (j : Int)) = true := zIn_iff.2 (by omega)
    have hs := hl j (by omega)
    unfold putJ
    rw [ih, if_neg (by simp)]
    simp only
    unfold zwrite zwriteE
    rw [if_neg (fun h' => h' hs), if_pos hz, if_neg (fun h' => h' hs), if_pos hz]
    have hc : DM.check { m with loose := m.loose ++ wsOf (f + a) l j, done := dn } ((f : Int) + ((a : Int) + (j : Int))) = 0 := by
      unfold DM.check DM.len
      rw [if_neg (by simp only; unfold DM.len at hfn; omega), if_neg (by simp [haw])]
    unfold DM.write DM.writeE
    rw [if_neg (fun h' => h' hs), hc, if_neg (by simp), if_neg (by simp [hfu]), if_neg (fun h' => h' hs), if_neg (by simp)]
    unfold DM.useE DM.used
    rw [if_neg (by simp [hfu])]
    simp only [hfu]
    rw [wsOf_succ, ← List.append_assoc, show ((f : Int) + ((a : Int) + (j : Int))).toNat = f + a + j by omega]
    rfl
end Go.Proofs.Ytmogkiacakkmbaa

namespace Go.Proofs.Ytmogkiacakkmbaa
open Go.RowKit

theorem secNum_zero : secNum (zeroS 32) = 0 :=
  (eyeNum_lim 2147483647 0 (by decide) (by decide) _ [] (by rw [bl_extract, bl_zeroS, zeroS_size]; rfl)).1
theorem canLay_iff {n : Int} {s : ByteArray} : canLay n s = true ↔ isNum n = true ∧ s.size ≤ 1024 := by unfold canLay; simp
/-- A text, put where there is room, on a disk whose power is there and has no fuse. -/
theorem putR_free (m : DM) (f n a : Nat) (num : Int) (s : ByteArray) (haw : m.away = false) (hfu : m.fuse = -1) (hfn : f + n ≤ m.len) (hc : canLay num s = true) (ha : a + secsOf s.size ≤ n) :
    ∃ dn, putR m f n (a : Int) num s = ({ m with loose := m.loose ++ wsOf (f + a) (layS num s (secsOf s.size)) (secsOf s.size), done := dn }, 0) := by
  have h2 := secsOf_two s.size
  unfold putR
  rw [if_neg (by simp [hc]), if_neg (by unfold putIn; simp; omega)]
  refine putJ_free m f n a _ haw hfu hfn (fun i hi => ?_) _ (by rw [layS_length]; exact Nat.le_refl _) ha
  rw [layS_length] at hi
  rw [layS_at _ _ _ _ hi]
  exact laySec_size num s i hi
/-- The disk of the law SealWhole: an old text, safe; a new one, of whose sectors some are kept. -/
def wholeM (i k : Int) (a b : ByteArray) (keep : List Bool) : DM :=
  (((putR (putR (DM.fresh 12) 0 12 2 i a).1.sync 0 12 2 k b).1.cut keep).come)
section
variable (i k : Int) (a b : ByteArray) (keep : List Bool) (ha : a.size ≤ 200) (hb : b.size ≤ 200) (hi : isNum i = true) (hk : isNum k = true)
include ha hi in
theorem whole_one : (putR (DM.fresh 12) 0 12 2 i a).2 = 0 ∧ (putR (DM.fresh 12) 0 12 2 i a).1.syncE = 0 ∧ (putR (DM.fresh 12) 0 12 2 i a).1.loose.length ≤ 100 ∧ (putR (DM.fresh 12) 0 12 2 i a).1.len = 12 ∧
    ∃ dn, (putR (DM.fresh 12) 0 12 2 i a).1.sync = { DM.fresh 12 with safe := laid (List.replicate 12 (zeroS 32)) (wsOf 2 (layS i a (secsOf a.size)) (secsOf a.size)), done := dn } := by
  have hK : secsOf a.size ≤ 9 := by unfold secsOf; omega
  obtain ⟨dn, h⟩ := putR_free (DM.fresh 12) 0 12 2 i a rfl rfl (Nat.le_refl _) (canLay_iff.2 ⟨hi, by omega⟩) (by omega)
  rw [show ((2 : Nat) : Int) = 2 from rfl] at h
  rw [h]
  refine ⟨rfl, rfl, ?_, rfl, wrap64 (dn + 1), ?_⟩
  · simp only [List.length_append, wsOf_length, DM.fresh, List.length_nil]
    omega
  · rfl
include ha hi hb hk in
theorem whole_two : (putR (putR (DM.fresh 12) 0 12 2 i a).1.sync 0 12 2 k b).2 = 0 ∧ (putR (putR (DM.fresh 12) 0 12 2 i a).1.sync 0 12 2 k b).1.loose.length ≤ 100 ∧ (putR (putR (DM.fresh 12) 0 12 2 i a).1.sync 0 12 2 k b).1.len = 12 ∧
    ∃ dn, wholeM i k a b keep = { DM.fresh 12 with safe := laid (laid (List.replicate 12 (zeroS 32)) (wsOf 2 (layS i a (secsOf a.size)) (secsOf a.size))) (keptL keep (wsOf 2 (layS k b (secsOf b.size)) (secsOf b.size))), done := dn } := by
  have hK : secsOf b.size ≤ 9 := by unfold secsOf; omega
  obtain ⟨_, _, _, _, dn, h⟩ := whole_one i a ha hi
  unfold wholeM
  rw [h]
  have hl : ({ DM.fresh 12 with safe := laid (List.replicate 12 (zeroS 32)) (wsOf 2 (layS i a (secsOf a.size)) (secsOf a.size)), done := dn } : DM).len = 12 := by
    unfold DM.len
    simp only [laid_length, List.length_replicate]
  obtain ⟨dm, h2⟩ := putR_free { DM.fresh 12 with safe := laid (List.replicate 12 (zeroS 32)) (wsOf 2 (layS i a (secsOf a.size)) (secsOf a.size)), done := dn } 0 12 2 k b rfl rfl (by rw [hl]; decide) (canLay_iff.2 ⟨hk, by omega⟩) (by omega)
  rw [show ((2 : Nat) : Int) = 2 from rfl] at h2
  rw [h2]
  refine ⟨rfl, ?_, hl, dm, ?_⟩
  · simp only [List.length_append, wsOf_length, DM.fresh, List.length_nil]
    omega
  · rfl
/-- What stands in a sector then. -/
def wholeC (j : Nat) : ByteArray := if j < secsOf b.size ∧ keep.getD j false = true then laySec k b j else if j < secsOf a.size then laySec i a j else zeroS 32
include ha hi hb hk in
theorem whole_read (j : Nat) (hj : j < 10) : zreadE (wholeM i k a b keep) 0 12 (2 + (j : Int)) = 0 ∧ zread (wholeM i k a b keep) 0 12 (2 + (j : Int)) = wholeC i k a b keep j := by
  have hKa : secsOf a.size ≤ 9 := by unfold secsOf; omega
  have hKb : secsOf b.size ≤ 9 := by unfold secsOf; omega
  obtain ⟨_, _, _, dn, h⟩ := whole_two i k a b keep ha hb hi hk
  have hz : zIn 12 (2 + (j : Int)) = true := zIn_iff.2 (by omega)
  have hc : (wholeM i k a b keep).check (((0 : Nat) : Int) + (2 + (j : Int))) = 0 := by
    rw [h]
    unfold DM.check DM.len
    rw [if_neg (by simp only [laid_length, List.length_replicate]; omega), if_neg (by simp [DM.fresh])]
  unfold zreadE zread
  rw [if_pos hz, if_pos hz]
  refine ⟨hc, ?_⟩
  unfold DM.read
  rw [if_pos hc, h]
  unfold DM.now
  simp only [DM.fresh, laid_nil]
  rw [laid_kept _ _ _ _ _ _ _ (by rw [laid_length, List.length_replicate]; omega), laid_ws _ _ _ _ _ _ (by rw [List.length_replicate]; omega), show (((0 : Nat) : Int) + (2 + (j : Int))).toNat = 2 + j by omega, show 2 + j - 2 = j by omega]
  unfold wholeC
  by_cases h1 : j < secsOf b.size ∧ keep.getD j false = true
  · rw [if_pos ⟨by omega, by omega, h1.2⟩, if_pos h1, layS_at _ _ _ _ h1.1]
  · rw [if_neg (fun h' => h1 ⟨by omega, h'.2.2⟩), if_neg h1]
    by_cases h2 : j < secsOf a.size
    · rw [if_pos ⟨by omega, by omega⟩, if_pos h2, layS_at _ _ _ _ h2]
    · rw [if_neg (by omega), if_neg h2]
      rw [List.getD_eq_getElem?_getD, List.getElem?_replicate, if_pos (by omega)]
      rfl
include ha hi hb hk in
/-- Nothing is got but one of both. -/
theorem whole_law (hne : i ≠ k) :
    (getR (wholeM i k a b keep) 0 12 2 = (b, k, 0)) ∨ (getR (wholeM i k a b keep) 0 12 2 = (a, i, 0) ∧ ¬ ∀ j, j < secsOf b.size → keep.getD j false = true) ∨
    (getR (wholeM i k a b keep) 0 12 2 = (⟨#[]⟩, 0, 5) ∧ (¬ ∀ j, j < secsOf b.size → keep.getD j false = true) ∧ ¬ ∀ j, j < secsOf b.size → keep.getD j false = false) := by
  have hKa : secsOf a.size ≤ 9 := by unfold secsOf; omega
  have hKb : secsOf b.size ≤ 9 := by unfold secsOf; omega
  have h2a := secsOf_two a.size
  have h2b := secsOf_two b.size
  have hR := fun j hj => whole_read i k a b keep ha hb hi hk j hj
  have hk0 : (0 : Int) ≠ k := fun h => by rw [← h] at hk; cases hk
  have n1 : ∀ j, j < secsOf b.size → secNum (laySec k b j) = k := fun j hj => secNum_lay k b j hk hj
  have n2 : ∀ j, j < secsOf a.size → secNum (laySec i a j) = i := fun j hj => secNum_lay i a j hi hj
  have h0 := (hR 0 (by omega)).2
  rw [show (2 : Int) + ((0 : Nat) : Int) = 2 from rfl] at h0
  by_cases c0 : keep.getD 0 false = true
  · have hC0 : wholeC i k a b keep 0 = laySec k b 0 := by unfold wholeC; rw [if_pos ⟨by omega, c0⟩]
    have hno : ∀ j, j < secsOf b.size → ¬ keep.getD j false = true → secNum (wholeC i k a b keep j) ≠ k := fun j hj hc => by
      unfold wholeC
      rw [if_neg (fun h' => hc h'.2)]
      split
      · rename_i h; rw [n2 j h]; exact hne
      · rw [secNum_zero]; exact hk0
    obtain ⟨g1, g2⟩ := getR_mix (wholeM i k a b keep) 0 12 2 k b hk (by omega) (fun j hj => (hR j (by omega)).1) (h0.trans hC0) (fun j hj => by
      rw [(hR j (by omega)).2]
      intro hs
      by_cases hc : keep.getD j false = true
      · unfold wholeC; rw [if_pos ⟨hj, hc⟩]
      · exact absurd hs (hno j hj hc))
    by_cases hall : ∀ j, j < secsOf b.size → keep.getD j false = true
    · refine .inl (g1 fun j hj => ?_)
      rw [(hR j (by omega)).2]
      unfold wholeC
      rw [if_pos ⟨hj, hall j hj⟩]
    · refine .inr (.inr ⟨g2 fun h => hall fun j hj => ?_, hall, fun h => ?_⟩)
      · by_cases hc : keep.getD j false = true
        · exact hc
        · have := h j hj
          rw [(hR j (by omega)).2] at this
          exact absurd (by rw [this]; exact n1 j hj) (hno j hj hc)
      · have := h 0 (by omega)
        rw [c0] at this
        cases this
  · have hC0 : wholeC i k a b keep 0 = laySec i a 0 := by unfold wholeC; rw [if_neg (fun h' => c0 h'.2), if_pos (by omega)]
    have hnall : ¬ ∀ j, j < secsOf b.size → keep.getD j false = true := fun h => c0 (h 0 (by omega))
    have hyes : ∀ j, j < secsOf a.size → ¬ (j < secsOf b.size ∧ keep.getD j false = true) → wholeC i k a b keep j = laySec i a j := fun j hj hc => by
      unfold wholeC
      rw [if_neg hc, if_pos hj]
    obtain ⟨g1, g2⟩ := getR_mix (wholeM i k a b keep) 0 12 2 i a hi (by omega) (fun j hj => (hR j (by omega)).1) (h0.trans hC0) (fun j hj => by
      rw [(hR j (by omega)).2]
      intro hs
      by_cases hc : j < secsOf b.size ∧ keep.getD j false = true
      · unfold wholeC at hs
        rw [if_pos hc, n1 j hc.1] at hs
        exact absurd hs.symm hne
      · exact hyes j hj hc)
    by_cases hall : ∀ j, j < secsOf a.size → ¬ (j < secsOf b.size ∧ keep.getD j false = true)
    · refine .inr (.inl ⟨g1 fun j hj => ?_, hnall⟩)
      rw [(hR j (by omega)).2]
      exact hyes j hj (hall j hj)
    · refine .inr (.inr ⟨g2 fun h => hall fun j hj hc => ?_, hnall, fun h => hall fun j hj hc => ?_⟩)
      · have := h j hj
        rw [(hR j (by omega)).2] at this
        unfold wholeC at this
        rw [if_pos hc] at this
        have := congrArg secNum this
        rw [n1 j hc.1, n2 j hj] at this
        exact hne this.symm
      · have := h j hc.1
        rw [hc.2] at this
        cases this
end
end Go.Proofs.Ytmogkiacakkmbaa
