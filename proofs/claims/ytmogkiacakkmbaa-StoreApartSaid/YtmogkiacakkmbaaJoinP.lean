/- Disks, plain: all bytes, and the sectors they are made of. -/
import Derived.Test.YtmogkiacakkmbaaDskH
namespace Go.Proofs.Ytmogkiacakkmbaa
open Go.RowKit

theorem cat_drop : ∀ (l : List ByteArray), (∀ s ∈ l, s.size = 32) → ∀ p, (cat l).drop (32 * p) = cat (l.drop p)
  | l, _, 0 => by simp
  | [], _, p + 1 => by simp [cat]
  | x :: l, h, p + 1 => by
    have hx : (bl x).length = 32 := by rw [bl_length]; exact h x (by simp)
    have ih := cat_drop l (fun s hs => h s (by simp [hs])) p
    have e : cat (x :: l) = bl x ++ cat l := by simp [cat]
    rw [e, List.drop_succ_cons, ← ih, show 32 * (p + 1) = (bl x).length + 32 * p by omega, ← List.drop_drop, List.drop_left]
theorem cat_sec (l : List ByteArray) (h : ∀ s ∈ l, s.size = 32) (p : Nat) (hp : p < l.length) : ((cat l).drop (32 * p)).take 32 = bl (l.getD p ⟨#[]⟩) := by
  rw [cat_drop l h p, List.drop_eq_getElem_cons hp]
  have hx : (bl l[p]).length = 32 := by rw [bl_length]; exact h _ (List.getElem_mem hp)
  have e : cat (l[p] :: l.drop (p + 1)) = bl l[p] ++ cat (l.drop (p + 1)) := by unfold cat; rw [List.map_cons, List.flatten_cons]
  rw [e, List.take_left' hx, List.getD_eq_getElem?_getD, List.getElem?_eq_getElem hp]
  rfl
theorem joinB_size (l : List ByteArray) (h : ∀ s ∈ l, s.size = 32) : (joinB l).size = 32 * l.length := by
  rw [← bl_length]
  unfold joinB
  rw [bl_mk, cat_length l h]
/-- A sector of what stands from another on. -/
theorem joinB_sec (l : List ByteArray) (h : ∀ s ∈ l, s.size = 32) (a i : Nat) (hi : a + i < l.length) : ((joinB l).extract (32 * a) (joinB l).size).extract (32 * i) (32 * i + 32) = l.getD (a + i) ⟨#[]⟩ := by
  refine bl_ext ?_
  have hs := joinB_size l h
  rw [bl_extract, bl_extract, List.take_of_length_le (i := (joinB l).size) (by rw [bl_length]; exact Nat.le_refl _), List.drop_take, List.drop_drop, show 32 * i + 32 - 32 * i = 32 by omega, show 32 * a + 32 * i = 32 * (a + i) by omega]
  exact cat_sec l h (a + i) hi
theorem cat_take : ∀ (l : List ByteArray), (∀ s ∈ l, s.size = 32) → ∀ p, (cat l).take (32 * p) = cat (l.take p)
  | l, _, 0 => by simp [cat]
  | [], _, p + 1 => by simp [cat]
  | x :: l, h, p + 1 => by
    have hx : (bl x).length = 32 := by rw [bl_length]; exact h x (by simp)
    have ih := cat_take l (fun s hs => h s (by simp [hs])) p
    have e : ∀ k, cat (x :: k) = bl x ++ cat k := fun k => by unfold cat; rw [List.map_cons, List.flatten_cons]
    rw [List.take_succ_cons, e, e, ← ih, show 32 * (p + 1) = (bl x).length + 32 * p by omega, List.take_length_add_append]
/-- A disk made of its bytes. -/
theorem DM.of_join (l : List ByteArray) (h : ∀ s ∈ l, s.size = 32) (hl : l.length ≤ 4096) : DM.of (joinB l) = ⟨false, -1, [], l, [], 0⟩ := by
  unfold DM.of
  have hs := joinB_size l h
  have hn : secsN (joinB l) = l.length := by unfold secsN; rw [hs]; omega
  rw [hn]
  congr 1
  apply List.ext_getElem?
  intro i
  by_cases hi : i < l.length
  · have e1 : (secsD (joinB l) l.length)[i]? = some (secD (joinB l) i) := by simp [secsD, hi]
    have e2 := joinB_sec l h i 0 (by omega)
    rw [Nat.mul_zero, Nat.add_zero i, List.getD_eq_getElem?_getD, List.getElem?_eq_getElem hi] at e2
    rw [e1, List.getElem?_eq_getElem hi]
    unfold secD restD
    rw [e2]
    rfl
  · rw [List.getElem?_eq_none (by rw [secsD_length]; omega), List.getElem?_eq_none (by omega)]
end Go.Proofs.Ytmogkiacakkmbaa
