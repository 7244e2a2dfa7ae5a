/- The sum of 256 bits, over natural numbers: no program in sight. -/
import Derived.Lib.Hide
import Derived.Laws.Entries
namespace Go.Proofs.Ytmogkiacakkmbaa
namespace Sha
/-- Turned to the right. -/
def rotr (x n : Nat) : Nat := (x >>> n ||| x <<< (32 - n)) % 4294967296
def s0 (x : Nat) : Nat := rotr x 7 ^^^ rotr x 18 ^^^ x >>> 3
def s1 (x : Nat) : Nat := rotr x 17 ^^^ rotr x 19 ^^^ x >>> 10
def big0 (x : Nat) : Nat := rotr x 2 ^^^ rotr x 13 ^^^ rotr x 22
def big1 (x : Nat) : Nat := rotr x 6 ^^^ rotr x 11 ^^^ rotr x 25
def ch (e f g : Nat) : Nat := (e &&& f) ^^^ ((4294967295 ^^^ e) &&& g)
def maj (a b c : Nat) : Nat := (a &&& b) ^^^ (a &&& c) ^^^ (b &&& c)
def K : List Nat := [
  0x428a2f98, 0x71374491, 0xb5c0fbcf, 0xe9b5dba5, 0x3956c25b, 0x59f111f1, 0x923f82a4, 0xab1c5ed5,
  0xd807aa98, 0x12835b01, 0x243185be, 0x550c7dc3, 0x72be5d74, 0x80deb1fe, 0x9bdc06a7, 0xc19bf174,
  0xe49b69c1, 0xefbe4786, 0x0fc19dc6, 0x240ca1cc, 0x2de92c6f, 0x4a7484aa, 0x5cb0a9dc, 0x76f988da,
  0x983e5152, 0xa831c66d, 0xb00327c8, 0xbf597fc7, 0xc6e00bf3, 0xd5a79147, 0x06ca6351, 0x14292967,
  0x27b70a85, 0x2e1b2138, 0x4d2c6dfc, 0x53380d13, 0x650a7354, 0x766a0abb, 0x81c2c92e, 0x92722c85,
  0xa2bfe8a1, 0xa81a664b, 0xc24b8b70, 0xc76c51a3, 0xd192e819, 0xd6990624, 0xf40e3585, 0x106aa070,
  0x19a4c116, 0x1e376c08, 0x2748774c, 0x34b0bcb5, 0x391c0cb3, 0x4ed8aa4a, 0x5b9cca4f, 0x682e6ff3,
  0x748f82ee, 0x78a5636f, 0x84c87814, 0x8cc70208, 0x90befffa, 0xa4506ceb, 0xbef9a3f7, 0xc67178f2]
def H0 : List Nat := [0x6a09e667, 0xbb67ae85, 0x3c6ef372, 0xa54ff53a, 0x510e527f, 0x9b05688c, 0x1f83d9ab, 0x5be0cd19]
theorem K_length : K.length = 64 := rfl
theorem H0_length : H0.length = 8 := rfl

/-- The number of so many bytes from place i on. -/
def part (b : List UInt8) (i : Nat) : Nat → Nat
  | 0 => 0
  | j + 1 => part b i j * 256 + (b.getD (i + j) 0).toNat
/-- A word of four bytes from place i on. -/
def word (b : List UInt8) (i : Nat) : Nat := part b i 4
theorem part_lt (b : List UInt8) (i j : Nat) : part b i j < 256 ^ j := by
  induction j with
  | zero => simp [part]
  | succ j ih =>
    have := (b.getD (i + j) 0).toNat_lt
    simp only [part, Nat.pow_succ]
    omega
theorem word_lt (b : List UInt8) (i : Nat) : word b i < 4294967296 := part_lt b i 4
/-- The first words of a block, as far as they are told. -/
def first (b : List UInt8) : Nat → List Nat
  | 0 => List.replicate 64 0
  | k + 1 => (first b k).set k (word b (4 * k))
/-- A word more. -/
def next (l : List Nat) (i : Nat) : Nat := (l.getD (i - 16) 0 + s0 (l.getD (i - 15) 0) + l.getD (i - 7) 0 + s1 (l.getD (i - 2) 0)) % 4294967296
/-- All words of a block, as far as they are told. -/
def sched (b : List UInt8) : Nat → List Nat
  | 0 => first b 16
  | k + 1 => (sched b k).set (16 + k) (next (sched b k) (16 + k))
/-- The eight words behind so many rounds. -/
structure St where
  a : Nat
  b : Nat
  c : Nat
  d : Nat
  e : Nat
  f : Nat
  g : Nat
  h : Nat
def t1 (s : St) (k w : Nat) : Nat := (s.h + big1 s.e + ch s.e s.f s.g + k + w) % 4294967296
def t2 (s : St) : Nat := (big0 s.a + maj s.a s.b s.c) % 4294967296
def round (s : St) (k w : Nat) : St := ⟨(t1 s k w + t2 s) % 4294967296, s.a, s.b, s.c, (s.d + t1 s k w) % 4294967296, s.e, s.f, s.g⟩
def rounds (w : List Nat) (s : St) : Nat → St
  | 0 => s
  | k + 1 => round (rounds w s k) (K.getD k 0) (w.getD k 0)
def stOf (h : List Nat) : St := ⟨h.getD 0 0, h.getD 1 0, h.getD 2 0, h.getD 3 0, h.getD 4 0, h.getD 5 0, h.getD 6 0, h.getD 7 0⟩
def stList (s : St) : List Nat := [s.a, s.b, s.c, s.d, s.e, s.f, s.g, s.h]
/-- Eight words and eight words, one by one. -/
def addw (h v : List Nat) : List Nat := List.zipWith (fun x y => (x + y) % 4294967296) h v
/-- The first words of a row with those of another added. -/
def addTo (h v : List Nat) : Nat → List Nat
  | 0 => h
  | j + 1 => (addTo h v j).set j ((h.getD j 0 + v.getD j 0) % 4294967296)
/-- A block more. -/
def block (h : List Nat) (b : List UInt8) : List Nat := addw h (stList (rounds (sched b 48) (stOf h) 64))
/-- So many blocks. -/
def blocksN : Nat → List Nat → List UInt8 → List Nat
  | 0, h, _ => h
  | n + 1, h, b => blocksN n (block h (b.take 64)) (b.drop 64)
/-- All blocks. -/
def blocks (h : List Nat) (b : List UInt8) : List Nat := blocksN (b.length / 64) h b
/-- How many zeros stand behind the mark. -/
def zeros (n : Nat) : Nat := (119 - n % 64) % 64
/-- The length in bits, eight bytes. -/
def len8 (n : Nat) : List UInt8 := [7, 6, 5, 4, 3, 2, 1, 0].map fun i => UInt8.ofNat (n * 8 / 2 ^ (8 * i) % 256)
def padded (b : List UInt8) : List UInt8 := b ++ [128] ++ List.replicate (zeros b.length) 0 ++ len8 b.length
/-- A byte of eight words. -/
def byteAt (h : List Nat) (i : Nat) : Nat := h.getD (i / 4) 0 / 2 ^ (24 - 8 * (i % 4)) % 256
def bytesOf (h : List Nat) : List Nat := (List.range 32).map (byteAt h)
/-- The first bytes, as far as they are told. -/
def outTo (h : List Nat) : Nat → List Nat
  | 0 => List.replicate 32 0
  | j + 1 => (outTo h j).set j (byteAt h j)
theorem outTo_eq (h : List Nat) (j : Nat) (hj : j ≤ 32) : outTo h j = (List.range j).map (byteAt h) ++ List.replicate (32 - j) 0 := by
  induction j with
  | zero => rfl
  | succ j ih =>
    rw [outTo, ih (by omega), show 32 - j = (32 - (j + 1)) + 1 by omega, List.replicate_succ, List.range_succ, List.map_append]
    rw [List.set_append_right _ _ (by simp)]
    simp
theorem outTo_all (h : List Nat) : outTo h 32 = bytesOf h := by
  rw [outTo_eq h 32 (Nat.le_refl _)]
  simp [bytesOf]
theorem outTo_length (h : List Nat) (j : Nat) : (outTo h j).length = 32 := by
  induction j with
  | zero => rfl
  | succ j ih => simp [outTo, ih]
/-- The sum. -/
def of (b : List UInt8) : List Nat := bytesOf (blocks H0 (padded b))
theorem rotr_lt (x n : Nat) : rotr x n < 4294967296 := Nat.mod_lt _ (by decide)
theorem shr_lt (x n : Nat) (h : x < 4294967296) : x >>> n < 4294967296 := by rw [Nat.shiftRight_eq_div_pow]; exact Nat.lt_of_le_of_lt (Nat.div_le_self _ _) h
theorem xor_lt {a b : Nat} (ha : a < 4294967296) (hb : b < 4294967296) : a ^^^ b < 4294967296 := Nat.xor_lt_two_pow (n := 32) ha hb
theorem and_lt {a b : Nat} (hb : b < 4294967296) : a &&& b < 4294967296 := Nat.and_lt_two_pow (n := 32) _ hb
theorem s0_lt (x : Nat) (h : x < 4294967296) : s0 x < 4294967296 := xor_lt (xor_lt (rotr_lt _ _) (rotr_lt _ _)) (shr_lt _ _ h)
theorem s1_lt (x : Nat) (h : x < 4294967296) : s1 x < 4294967296 := xor_lt (xor_lt (rotr_lt _ _) (rotr_lt _ _)) (shr_lt _ _ h)
theorem big0_lt (x : Nat) : big0 x < 4294967296 := xor_lt (xor_lt (rotr_lt _ _) (rotr_lt _ _)) (rotr_lt _ _)
theorem big1_lt (x : Nat) : big1 x < 4294967296 := xor_lt (xor_lt (rotr_lt _ _) (rotr_lt _ _)) (rotr_lt _ _)
theorem ch_lt (e f g : Nat) (hf : f < 4294967296) (hg : g < 4294967296) : ch e f g < 4294967296 := xor_lt (and_lt hf) (and_lt hg)
theorem maj_lt (a b c : Nat) (hb : b < 4294967296) (hc : c < 4294967296) : maj a b c < 4294967296 := xor_lt (xor_lt (and_lt hb) (and_lt hc)) (and_lt hc)
structure Small (s : St) : Prop where
  a : s.a < 4294967296
  b : s.b < 4294967296
  c : s.c < 4294967296
  d : s.d < 4294967296
  e : s.e < 4294967296
  f : s.f < 4294967296
  g : s.g < 4294967296
  h : s.h < 4294967296
theorem Small.round {s : St} (h : Small s) (k w : Nat) : Small (round s k w) :=
  ⟨Nat.mod_lt _ (by decide), h.a, h.b, h.c, Nat.mod_lt _ (by decide), h.e, h.f, h.g⟩
theorem Small.rounds {s : St} (h : Small s) (w : List Nat) (k : Nat) : Small (rounds w s k) := by
  induction k with
  | zero => exact h
  | succ k ih => exact ih.round _ _
theorem eight {l : List Nat} (h : l.length = 8) : ∃ a b c d e f g i, l = [a, b, c, d, e, f, g, i] := by
  match l, h with
  | [a, b, c, d, e, f, g, i], _ => exact ⟨a, b, c, d, e, f, g, i, rfl⟩
theorem addTo_length (h v : List Nat) (j : Nat) : (addTo h v j).length = h.length := by
  induction j with
  | zero => rfl
  | succ j ih => simp [addTo, ih]
theorem addTo_rest (h v : List Nat) (j i : Nat) (hi : j ≤ i) : (addTo h v j).getD i 0 = h.getD i 0 := by
  induction j with
  | zero => rfl
  | succ j ih =>
    have := ih (by omega)
    rw [List.getD_eq_getElem?_getD] at this ⊢
    rw [addTo, List.getElem?_set_ne (by omega)]
    exact this
theorem addTo_all (h v : List Nat) (hh : h.length = 8) (hv : v.length = 8) : addTo h v 8 = addw h v := by
  obtain ⟨a, b, c, d, e, f, g, i, rfl⟩ := eight hh
  obtain ⟨a', b', c', d', e', f', g', i', rfl⟩ := eight hv
  rfl
theorem block_eq (h : List Nat) (b : List UInt8) (hh : h.length = 8) {v : List Nat} (hv : v = stList (rounds (sched b 48) (stOf h) 64)) : addTo h v 8 = block h b := by
  rw [addTo_all h v hh (by rw [hv]; rfl), hv]
  rfl
theorem K_lt (j : Nat) : K.getD j 0 < 4294967296 := by
  by_cases h : j < 64
  · have : ∀ i : Fin 64, K.getD i.val 0 < 4294967296 := by decide +kernel
    exact this ⟨j, h⟩
  · rw [List.getD_eq_getElem?_getD, List.getElem?_eq_none (by rw [K_length]; omega)]
    decide
theorem len8_take (n j : Nat) (h : j < 8) : (len8 n).take (j + 1) = (len8 n).take j ++ [UInt8.ofNat (n * 8 / 2 ^ (8 * (7 - j)) % 256)] := by
  match j, h with
  | 0, _ => rfl
  | 1, _ => rfl
  | 2, _ => rfl
  | 3, _ => rfl
  | 4, _ => rfl
  | 5, _ => rfl
  | 6, _ => rfl
  | 7, _ => rfl
theorem len8_all (n : Nat) : (len8 n).take 8 = len8 n := rfl
theorem zeros_lt (n : Nat) : zeros n < 64 := Nat.mod_lt _ (by decide)
theorem padded_length (b : List UInt8) : (padded b).length = b.length + 1 + zeros b.length + 8 := by simp [padded, len8]; omega
theorem padded_mod (b : List UInt8) : (padded b).length % 64 = 0 := by
  rw [padded_length]
  unfold zeros
  omega
theorem addw_lt (h v : List Nat) (j : Nat) : (addw h v).getD j 0 < 4294967296 := by
  rw [List.getD_eq_getElem?_getD]
  by_cases hj : j < (addw h v).length
  · rw [List.getElem?_eq_getElem hj]
    simp only [addw, List.getElem_zipWith, Option.getD_some]
    exact Nat.mod_lt _ (by decide)
  · rw [List.getElem?_eq_none (by omega)]
    decide
theorem block_length (h : List Nat) (b : List UInt8) (hh : h.length = 8) : (block h b).length = 8 := by
  unfold block addw
  rw [List.length_zipWith, hh]
  rfl
theorem block_lt (h : List Nat) (b : List UInt8) (j : Nat) : (block h b).getD j 0 < 4294967296 := addw_lt _ _ _
theorem blocks_step (h : List Nat) (b : List UInt8) (hb : 64 ≤ b.length) : blocks (block h (b.take 64)) (b.drop 64) = blocks h b := by
  have e : b.length / 64 = (b.drop 64).length / 64 + 1 := by rw [List.length_drop]; omega
  unfold blocks
  rw [e, blocksN]
theorem blocks_end (h : List Nat) (b : List UInt8) (hb : b.length < 64) : blocks h b = h := by
  unfold blocks
  rw [Nat.div_eq_of_lt hb, blocksN]
theorem H0_lt (j : Nat) : H0.getD j 0 < 4294967296 := by
  by_cases h : j < 8
  · have : ∀ i : Fin 8, H0.getD i.val 0 < 4294967296 := by decide +kernel
    exact this ⟨j, h⟩
  · rw [List.getD_eq_getElem?_getD, List.getElem?_eq_none (by rw [H0_length]; omega)]
    decide
theorem first_length (b : List UInt8) (k : Nat) : (first b k).length = 64 := by
  induction k with
  | zero => rfl
  | succ k ih => simp [first, ih]
theorem sched_length (b : List UInt8) (k : Nat) : (sched b k).length = 64 := by
  induction k with
  | zero => exact first_length b 16
  | succ k ih => simp [sched, ih]
theorem set_lt {l : List Nat} {i n B : Nat} (h : ∀ j, l.getD j 0 < B) (hn : n < B) (j : Nat) : (l.set i n).getD j 0 < B := by
  have hj := h j
  rw [List.getD_eq_getElem?_getD] at hj ⊢
  rw [List.getElem?_set]
  split
  · split
    · exact hn
    · exact Nat.lt_of_le_of_lt (Nat.zero_le _) hj
  · exact hj
theorem first_lt (b : List UInt8) (k : Nat) : ∀ j, (first b k).getD j 0 < 4294967296 := by
  induction k with
  | zero =>
    intro j
    simp only [first, List.getD_eq_getElem?_getD, List.getElem?_replicate]
    split <;> decide
  | succ k ih => exact set_lt ih (word_lt _ _)
theorem sched_lt (b : List UInt8) (k : Nat) : ∀ j, (sched b k).getD j 0 < 4294967296 := by
  induction k with
  | zero => exact first_lt b 16
  | succ k ih => exact set_lt ih (Nat.mod_lt _ (by decide))
/-- The sum's bytes. -/
def sum (b : List UInt8) : List UInt8 := (of b).map UInt8.ofNat
theorem of_length (b : List UInt8) : (of b).length = 32 := by simp [of, bytesOf]
theorem sum_length (b : List UInt8) : (sum b).length = 32 := by simp [sum, of_length]
theorem of_lt (b : List UInt8) : ∀ n ∈ of b, n < 256 := by
  intro n hn
  simp only [of, bytesOf, List.mem_map] at hn
  obtain ⟨i, _, rfl⟩ := hn
  exact Nat.mod_lt _ (by decide)
/-- The sum of two sums. -/
def pair (a b : List UInt8) : List UInt8 := sum ([1] ++ a ++ b)
/-- Two by two. -/
def level : List (List UInt8) → List (List UInt8)
  | [] => []
  | [a] => [a]
  | a :: b :: r => pair a b :: level r
theorem level_length : ∀ l : List (List UInt8), (level l).length = (l.length + 1) / 2
  | [] => by simp [level]
  | [a] => by simp [level]
  | a :: b :: r => by
    rw [level, List.length_cons, level_length r, List.length_cons, List.length_cons]
    omega
/-- The first pairs of a row. -/
def pairs (l : List (List UInt8)) : Nat → List (List UInt8)
  | 0 => []
  | k + 1 => pairs l k ++ [pair (l.getD (2 * k) []) (l.getD (2 * k + 1) [])]
theorem pairs_length (l : List (List UInt8)) (k : Nat) : (pairs l k).length = k := by
  induction k with
  | zero => rfl
  | succ k ih => simp [pairs, ih]
theorem pairs_cons (a b : List UInt8) (r : List (List UInt8)) (k : Nat) : pairs (a :: b :: r) (k + 1) = pair a b :: pairs r k := by
  induction k with
  | zero => rfl
  | succ k ih =>
    rw [pairs, ih]
    simp [pairs, show 2 * (k + 1) = 2 * k + 1 + 1 by omega]
theorem level_pairs : ∀ l : List (List UInt8), level l = pairs l (l.length / 2) ++ l.drop (2 * (l.length / 2))
  | [] => by simp [level, pairs]
  | [a] => by simp [level, pairs]
  | a :: b :: r => by
    have e : (a :: b :: r).length / 2 = r.length / 2 + 1 := by simp only [List.length_cons]; omega
    rw [e, pairs_cons, level, level_pairs r]
    simp [show 2 * (r.length / 2 + 1) = 2 * (r.length / 2) + 1 + 1 by omega]
/-- The sum of many sums, in so many levels at most. -/
def treeN : Nat → List (List UInt8) → List UInt8
  | _, [] => sum []
  | _, [a] => a
  | 0, _ => []
  | n + 1, l => treeN n (level l)
def tree (l : List (List UInt8)) : List UInt8 := treeN l.length l
theorem treeN_more (n : Nat) : ∀ (m : Nat) (l : List (List UInt8)), l.length ≤ n → l.length ≤ m → treeN n l = treeN m l := by
  induction n with
  | zero =>
    intro m l hn hm
    obtain rfl : l = [] := List.eq_nil_of_length_eq_zero (by omega)
    cases m <;> rfl
  | succ n ih =>
    intro m l hn hm
    match l with
    | [] => cases m <;> rfl
    | [a] => cases m <;> rfl
    | a :: b :: r =>
      cases m with
      | zero => simp at hm
      | succ m =>
        have hl := level_length (a :: b :: r)
        simp only [List.length_cons] at hl hn hm
        show treeN n (level (a :: b :: r)) = treeN m (level (a :: b :: r))
        exact ih m _ (by omega) (by omega)
theorem tree_level (l : List (List UInt8)) (h : 2 ≤ l.length) : tree l = tree (level l) := by
  match l, h with
  | a :: b :: r, _ =>
    have hl := level_length (a :: b :: r)
    simp only [List.length_cons] at hl
    show treeN (r.length + 1) (level (a :: b :: r)) = treeN (level (a :: b :: r)).length (level (a :: b :: r))
    exact treeN_more _ _ _ (by omega) (Nat.le_refl _)
theorem tree_one (a : List UInt8) : tree [a] = a := rfl
theorem tree_none : tree [] = sum [] := rfl
/-- The digits. -/
def dig : List UInt8 := [48, 49, 50, 51, 52, 53, 54, 55, 56, 57, 97, 98, 99, 100, 101, 102]
def text (d : List UInt8) : List UInt8 := (d.map fun c => [dig.getD (c.toNat / 16) 0, dig.getD (c.toNat % 16) 0]).flatten
end Sha
end Go.Proofs.Ytmogkiacakkmbaa
