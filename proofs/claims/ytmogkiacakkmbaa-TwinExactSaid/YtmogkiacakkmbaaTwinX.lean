/- Twins, plain: what is opened, and saved, is the document's answer of all bytes. -/
import Derived.Test.YtmogkiacakkmbaaSealN
import Derived.Test.YtmogkiacakkmbaaTwinH
namespace Go.Proofs.Ytmogkiacakkmbaa
open Go.RowKit

/-- The last text of a zone's bytes, by the document. -/
def lastStep (h : Nat) (st : ByteArray × Int × Int) (i : Int) (G : ByteArray × Int × Int) : ByteArray × Int × Int := if G.2.2 = 0 ∧ secsOf G.1.size ≤ h ∧ st.2.1 < G.2.1 then (G.1, G.2.1, i) else st
def lastJ (m : DM) (H : Nat) : Nat → ByteArray × Int × Int
  | 0 => (⟨#[]⟩, 0, -1)
  | j + 1 => lastStep H (lastJ m H j) (j : Int) (getR m 0 (2 * H) ((j * H : Nat) : Int))
theorem getR_text (m : DM) (f n : Nat) (a : Int) : (getR m f n a).1.size ≤ 1024 := by
  have hl : ∀ l, (txtOf l (lenOf l).toNat).size ≤ 1024 := fun l => by
    have := (eyeNum_range 1024 (by decide) ((⟨l.toArray⟩ : ByteArray).extract 32 56) false).2
    unfold txtOf
    rw [← bl_length, bl_extract]
    simp only [List.length_drop, List.length_take]
    unfold lenOf
    omega
  have hl2 : ∀ l l', (txtOf l (lenOf l').toNat).size ≤ 1024 := fun l l' => by
    have := (eyeNum_range 1024 (by decide) ((⟨l'.toArray⟩ : ByteArray).extract 32 56) false).2
    unfold txtOf
    rw [← bl_length, bl_extract]
    simp only [List.length_drop, List.length_take]
    unfold lenOf
    omega
  unfold getR
  split
  · exact Nat.zero_le _
  · split
    · exact Nat.zero_le _
    · split
      · exact Nat.zero_le _
      · split
        · exact Nat.zero_le _
        · split
          · exact Nat.zero_le _
          · exact hl2 _ _
theorem fits_small (h : Nat) (hh : h ≤ 12) (s : ByteArray) : fits h s = true ↔ secsOf s.size ≤ h := by
  rw [fits_iff]
  constructor
  · exact fun h => h.2
  · intro h1
    refine ⟨?_, h1⟩
    have := secsOf_ge s.size
    omega
theorem lastJ_open (m : DM) (H : Nat) (hH : H ≤ 12) : lastJ m H 2 = if (openR m 0 (2 * H)).2.1 = 0 then (⟨#[]⟩, 0, -1) else openR m 0 (2 * H) := by
  rw [openR_eq, show 2 * H / 2 = H by omega]
  rw [show lastJ m H 2 = lastStep H (lastStep H (⟨#[]⟩, 0, -1) ((0 : Nat) : Int) (getR m 0 (2 * H) ((0 * H : Nat) : Int))) ((1 : Nat) : Int) (getR m 0 (2 * H) ((1 * H : Nat) : Int)) from rfl]
  rw [Nat.zero_mul, Nat.one_mul, show ((0 : Nat) : Int) = 0 from rfl, show ((1 : Nat) : Int) = 1 from rfl]
  generalize getR m 0 (2 * H) 0 = A
  generalize getR m 0 (2 * H) (H : Int) = B
  unfold lastStep openStep
  have fA := fits_small H hH A.1
  have fB := fits_small H hH B.1
  by_cases c0 : A.2.2 = 0 ∧ secsOf A.1.size ≤ H ∧ 0 < A.2.1
  · rw [if_pos c0, if_pos (show A.2.2 = 0 ∧ fits H A.1 = true ∧ 0 < A.2.1 from ⟨c0.1, fA.2 c0.2.1, c0.2.2⟩)]
    by_cases c1 : B.2.2 = 0 ∧ secsOf B.1.size ≤ H ∧ A.2.1 < B.2.1
    · rw [if_pos c1, if_pos (show B.2.2 = 0 ∧ fits H B.1 = true ∧ A.2.1 < B.2.1 from ⟨c1.1, fB.2 c1.2.1, c1.2.2⟩), if_neg (by simp only; omega)]
    · rw [if_neg c1, if_neg (show ¬ (B.2.2 = 0 ∧ fits H B.1 = true ∧ A.2.1 < B.2.1) from fun h => c1 ⟨h.1, fB.1 h.2.1, h.2.2⟩), if_neg (by simp only; omega)]
  · rw [if_neg c0, if_neg (show ¬ (A.2.2 = 0 ∧ fits H A.1 = true ∧ 0 < A.2.1) from fun h => c0 ⟨h.1, fA.1 h.2.1, h.2.2⟩)]
    by_cases c1 : B.2.2 = 0 ∧ secsOf B.1.size ≤ H ∧ 0 < B.2.1
    · rw [if_pos c1, if_pos (show B.2.2 = 0 ∧ fits H B.1 = true ∧ 0 < B.2.1 from ⟨c1.1, fB.2 c1.2.1, c1.2.2⟩), if_neg (by simp only; omega)]
    · rw [if_neg c1, if_neg (show ¬ (B.2.2 = 0 ∧ fits H B.1 = true ∧ 0 < B.2.1) from fun h => c1 ⟨h.1, fB.1 h.2.1, h.2.2⟩), if_pos rfl]

theorem joinB_append (a b : List ByteArray) : joinB (a ++ b) = joinB a ++ joinB b := by
  refine bl_ext ?_
  unfold joinB cat
  rw [bl_plus, bl_mk, bl_mk, bl_mk, List.map_append, List.flatten_append]
theorem joinB_zero (k : Nat) : joinB (List.replicate k (zeroS 32)) = zeroS (32 * k) := by
  refine bl_ext ?_
  unfold joinB cat
  rw [bl_mk, bl_zeroS, List.map_replicate, bl_zeroS]
  induction k with
  | zero => rfl
  | succ k ih => rw [List.replicate_succ, List.flatten_cons, ih, List.replicate_append_replicate, show 32 + 32 * k = 32 * (k + 1) by omega]
theorem joinB_upto (l : List ByteArray) (h : ∀ s ∈ l, s.size = 32) (p : Nat) : joinB (l.take p) = (joinB l).extract 0 (32 * p) := by
  refine bl_ext ?_
  unfold joinB
  rw [bl_extract, bl_mk, bl_mk, List.drop_zero, cat_take l h]
theorem joinB_from (l : List ByteArray) (h : ∀ s ∈ l, s.size = 32) (p : Nat) : joinB (l.drop p) = (joinB l).extract (32 * p) (joinB l).size := by
  refine bl_ext ?_
  rw [bl_extract, List.take_of_length_le (by rw [bl_length]; exact Nat.le_refl _)]
  unfold joinB
  rw [bl_mk, bl_mk, cat_drop l h]
/-- All bytes behind a text that was laid. -/
theorem joinB_lay (l S : List ByteArray) (hl : ∀ s ∈ l, s.size = 32) (p h : Nat) (num : Int) (s : ByteArray) (hS : S.length = l.length) (hph : p + h ≤ l.length) (hs : secsOf s.size ≤ h) (hq : ∀ q, S.getD q ⟨#[]⟩ = layL l p h num s q) :
    joinB S = (joinB l).extract 0 (32 * p) ++ catS num s (secsOf s.size) ++ zeroS (32 * (h - secsOf s.size)) ++ (joinB l).extract (32 * (p + h)) (joinB l).size := by
  have e : S = l.take p ++ layS num s (secsOf s.size) ++ List.replicate (h - secsOf s.size) (zeroS 32) ++ l.drop (p + h) := by
    refine getD_ext _ _ ?_ (fun q => ?_)
    · simp only [List.length_append, List.length_take, List.length_replicate, List.length_drop, layS_length]
      omega
    · rw [hq q]
      unfold layL
      have hlay := layS_length num s (secsOf s.size)
      simp only [List.getD_eq_getElem?_getD, List.getElem?_append, List.length_append, List.length_take, List.length_replicate, hlay]
      by_cases c1 : q < p
      · rw [if_neg (by omega), if_pos (by omega), if_pos (by omega), if_pos (by omega), List.getElem?_take, if_pos c1]
      · by_cases c2 : q < p + secsOf s.size
        · rw [if_pos (by omega), if_pos c2, if_pos (by omega), if_pos (by omega), if_neg (by omega), show min p l.length = p by omega]
          have := layS_at num s (secsOf s.size) (q - p) (by omega)
          rw [List.getD_eq_getElem?_getD] at this
          rw [this]
        · by_cases c3 : q < p + h
          · rw [if_pos (by omega), if_neg c2, if_pos (by omega), if_neg (by omega), List.getElem?_replicate, if_pos (by omega)]
            rfl
          · rw [if_neg (by omega), if_neg (by omega), List.getElem?_drop]
            congr 2
            omega
  rw [e, joinB_append, joinB_append, joinB_append, joinB_upto l hl, joinB_from l hl, joinB_zero]
  rfl
end Go.Proofs.Ytmogkiacakkmbaa
