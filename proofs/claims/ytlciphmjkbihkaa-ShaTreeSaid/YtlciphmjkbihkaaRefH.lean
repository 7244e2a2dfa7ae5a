/- Walks: digits read back: plain laws and sha.Parse. -/
import Derived.Test.YtlciphmjkbihkaaRefE
namespace Go.Proofs.Ytlciphmjkbihkaa
open Go.RowKit

/-- A digit's number. -/
def isDig (c : UInt8) : Bool := (decide (48 ≤ c.toNat) && decide (c.toNat ≤ 57)) || (decide (97 ≤ c.toNat) && decide (c.toNat ≤ 102))
def digVal (c : UInt8) : Nat := if c.toNat ≤ 57 then c.toNat - 48 else c.toNat - 87
theorem digVal_lt (c : UInt8) (h : isDig c = true) : digVal c < 16 := by
  simp only [isDig, Bool.or_eq_true, Bool.and_eq_true, decide_eq_true_eq] at h
  unfold digVal
  split <;> omega
theorem index_dig (c : UInt8) : Lib.indexByte Sha.dig c = if isDig c then (digVal c : Int) else -1 := by
  have : ∀ n : Fin 256, Lib.indexByte Sha.dig (UInt8.ofNat n.val) = if isDig (UInt8.ofNat n.val) then (digVal (UInt8.ofNat n.val) : Int) else -1 := by decide +kernel
  have h := this ⟨c.toNat, c.toNat_lt⟩
  simpa using h
/-- The bytes that digits tell, as far as they are read. -/
def parTo (l : List UInt8) : Nat → List Nat
  | 0 => List.replicate 32 0
  | k + 1 => (parTo l k).set (k / 2) ((parTo l k).getD (k / 2) 0 * 16 % 256 + digVal (l.getD k 0))
theorem parTo_length (l : List UInt8) (k : Nat) : (parTo l k).length = 32 := by
  induction k with
  | zero => rfl
  | succ k ih => simp [parTo, ih]
/-- A whole byte. -/
def parAt (l : List UInt8) (i : Nat) : Nat := digVal (l.getD (2 * i) 0) * 16 % 256 + digVal (l.getD (2 * i + 1) 0)
theorem parTo_even (l : List UInt8) (j : Nat) (hj : j ≤ 32) : parTo l (2 * j) = (List.range j).map (parAt l) ++ List.replicate (32 - j) 0 := by
  induction j with
  | zero => rfl
  | succ j ih =>
    have hl : ((List.range j).map (parAt l)).length = j := by simp
    have ih' := ih (by omega)
    rw [show 2 * (j + 1) = 2 * j + 1 + 1 by omega, parTo, parTo, ih', show (2 * j + 1) / 2 = j by omega, show 2 * j / 2 = j by omega]
    rw [show 32 - j = (32 - (j + 1)) + 1 by omega, List.replicate_succ]
    have g0 : ((List.range j).map (parAt l) ++ 0 :: List.replicate (32 - (j + 1)) 0).getD j 0 = 0 := by
      rw [List.getD_eq_getElem?_getD, List.getElem?_append_right (by omega), hl, Nat.sub_self]
      rfl
    rw [g0, List.set_append_right _ _ (by omega), hl, Nat.sub_self]
    have g1 : ((List.range j).map (parAt l) ++ (0 :: List.replicate (32 - (j + 1)) 0).set 0 (0 * 16 % 256 + digVal (l.getD (2 * j) 0))).getD j 0 = digVal (l.getD (2 * j) 0) := by
      rw [List.getD_eq_getElem?_getD, List.getElem?_append_right (by omega), hl, Nat.sub_self]
      simp
    rw [g1, List.set_append_right _ _ (by omega), hl, Nat.sub_self, List.range_succ, List.map_append, List.append_assoc]
    rfl
/-- The sum that digits tell. -/
def parse (l : List UInt8) : List UInt8 := ((List.range 32).map (parAt l)).map UInt8.ofNat
theorem parse_length (l : List UInt8) : (parse l).length = 32 := by simp [parse]
theorem parTo_all (l : List UInt8) : parTo l 64 = (List.range 32).map (parAt l) := by
  have := parTo_even l 32 (by omega)
  simpa using this
theorem parAt_lt (l : List UInt8) (i : Nat) (h : ∀ c ∈ l, isDig c = true) (hl : 2 * i + 1 < l.length) : parAt l i < 256 := by
  have h1 := digVal_lt _ (h l[2 * i] (List.getElem_mem _))
  have h2 := digVal_lt _ (h l[2 * i + 1] (List.getElem_mem _))
  unfold parAt
  rw [List.getD_eq_getElem?_getD, List.getD_eq_getElem?_getD, List.getElem?_eq_getElem (by omega), List.getElem?_eq_getElem (by omega)]
  simp only [Option.getD_some]
  omega
theorem parse_cells (l : List UInt8) (h : ∀ c ∈ l, isDig c = true) (hl : l.length = 64) : u8s (parTo l 64) = Lib.byteCells (parse l) := by
  rw [parTo_all]
  unfold u8s Lib.byteCells parse
  rw [List.map_map, List.map_map, List.map_map]
  refine List.map_congr_left fun i hi => ?_
  have := parAt_lt l i h (by have := List.mem_range.1 hi; omega)
  simp
  omega
/-- A digit's byte there and back. -/
theorem dig_there (n : Nat) (h : n < 16) : isDig (Sha.dig.getD n 0) = true ∧ digVal (Sha.dig.getD n 0) = n := by
  have : ∀ n : Fin 16, isDig (Sha.dig.getD n.val 0) = true ∧ digVal (Sha.dig.getD n.val 0) = n.val := by decide +kernel
  exact this ⟨n, h⟩
theorem dig_back (c : UInt8) (h : isDig c = true) : Sha.dig.getD (digVal c) 0 = c := by
  have : ∀ n : Fin 256, isDig (UInt8.ofNat n.val) = true → Sha.dig.getD (digVal (UInt8.ofNat n.val)) 0 = UInt8.ofNat n.val := by decide +kernel
  have h1 := this ⟨c.toNat, c.toNat_lt⟩
  simp only [UInt8.ofNat_toNat] at h1
  exact h1 h
theorem text_digs (d : List UInt8) : ∀ c ∈ Sha.text d, isDig c = true := by
  intro c hc
  simp only [Sha.text, List.mem_flatten, List.mem_map] at hc
  obtain ⟨l, ⟨x, _, rfl⟩, hc⟩ := hc
  have hx := x.toNat_lt
  simp only [List.mem_cons, List.not_mem_nil, or_false] at hc
  rcases hc with rfl | rfl
  · exact (dig_there _ (by omega)).1
  · exact (dig_there _ (by omega)).1
theorem text_get (d : List UInt8) (i : Nat) (h : i < d.length) : (Sha.text d).getD (2 * i) 0 = Sha.dig.getD ((d.getD i 0).toNat / 16) 0 ∧ (Sha.text d).getD (2 * i + 1) 0 = Sha.dig.getD ((d.getD i 0).toNat % 16) 0 := by
  have e : Sha.text d = Sha.text (d.take (i + 1)) ++ Sha.text (d.drop (i + 1)) := by
    conv => lhs; rw [← List.take_append_drop (i + 1) d]
    simp only [Sha.text, List.map_append, List.flatten_append]
  have hl : (Sha.text (d.take i)).length = 2 * i := by rw [text_length, List.length_take]; omega
  rw [e, text_take d i h]
  constructor
  · rw [List.getD_eq_getElem?_getD, List.append_assoc, List.append_assoc, List.getElem?_append_right (by omega), hl, Nat.sub_self]
    rfl
  · rw [List.getD_eq_getElem?_getD, List.append_assoc, List.append_assoc, List.getElem?_append_right (by omega), hl, show 2 * i + 1 - 2 * i = 1 by omega]
    rfl
theorem parse_text (d : List UInt8) (h : d.length = 32) : parse (Sha.text d) = d := by
  unfold parse
  rw [List.map_map]
  refine List.ext_getElem? fun i => ?_
  rw [List.getElem?_map]
  rcases Nat.lt_or_ge i 32 with hi | hi
  · rw [List.getElem?_range hi]
    have hx : i < d.length := by omega
    obtain ⟨h1, h2⟩ := text_get d i hx
    have h3 := (d.getD i 0).toNat_lt
    have e : parAt (Sha.text d) i = (d.getD i 0).toNat := by
      unfold parAt
      rw [h1, h2, (dig_there _ (by omega)).2, (dig_there _ (by omega)).2]
      omega
    simp only [Option.map_some, Function.comp, e, UInt8.ofNat_toNat]
    rw [List.getD_eq_getElem?_getD, List.getElem?_eq_getElem hx]
    rfl
  · rw [List.getElem?_eq_none (by simpa using hi), List.getElem?_eq_none (by omega)]
    rfl
theorem text_parse (l : List UInt8) (h : ∀ c ∈ l, isDig c = true) (hl : l.length = 64) : Sha.text (parse l) = l := by
  refine List.ext_getElem (by rw [text_length, parse_length, hl]) fun i h1 h2 => ?_
  have hp := parse_length l
  have hi : i / 2 < (parse l).length := by omega
  obtain ⟨g1, g2⟩ := text_get (parse l) (i / 2) hi
  have hb : ((parse l).getD (i / 2) 0).toNat = parAt l (i / 2) := by
    have hlt := parAt_lt l (i / 2) h (by omega)
    unfold parse
    rw [List.map_map, List.getD_eq_getElem?_getD, List.getElem?_map, List.getElem?_range (by omega)]
    simp
    omega
  have gd : ∀ k, k < 64 → isDig (l.getD k 0) = true := fun k hk => by
    rw [List.getD_eq_getElem?_getD, List.getElem?_eq_getElem (by omega)]
    exact h _ (List.getElem_mem _)
  have d1 := digVal_lt _ (gd (2 * (i / 2)) (by omega))
  have d2 := digVal_lt _ (gd (2 * (i / 2) + 1) (by omega))
  have e1 : parAt l (i / 2) = digVal (l.getD (2 * (i / 2)) 0) * 16 + digVal (l.getD (2 * (i / 2) + 1) 0) := by
    unfold parAt
    omega
  rw [hb, e1] at g1 g2
  have e : (Sha.text (parse l))[i] = (Sha.text (parse l)).getD i 0 := by rw [List.getD_eq_getElem?_getD, List.getElem?_eq_getElem h1]; rfl
  have e' : l[i] = l.getD i 0 := by rw [List.getD_eq_getElem?_getD, List.getElem?_eq_getElem h2]; rfl
  rw [e, e']
  rcases Nat.mod_two_eq_zero_or_one i with h0 | h0
  · have ei : 2 * (i / 2) = i := by omega
    rw [show (digVal (l.getD (2 * (i / 2)) 0) * 16 + digVal (l.getD (2 * (i / 2) + 1) 0)) / 16 = digVal (l.getD (2 * (i / 2)) 0) by omega, ei, dig_back _ (gd i (by omega))] at g1
    exact g1
  · have ei : 2 * (i / 2) + 1 = i := by omega
    rw [show (digVal (l.getD (2 * (i / 2)) 0) * 16 + digVal (l.getD (2 * (i / 2) + 1) 0)) % 16 = digVal (l.getD (2 * (i / 2) + 1) 0) by omega, ei, dig_back _ (gd i (by omega))] at g2
    exact g2

end Go.Proofs.Ytlciphmjkbihkaa
