/- Models: the parts of the weights, one behind the other; with no program in sight. -/
import Derived.Test.YtgdifegbpbnekaaVecsA
import Derived.Test.YtgdifegbpbnekaaCoverP
namespace Go.Proofs.Ytgdifegbpbnekaa
open Go.RowKit

/-- Whether a model has a part. -/
def inR (c : Cfg) (p k : Int) : Bool := decide (0 ≤ p ∧ p ≤ 11 ∧ 0 ≤ k ∧ k < c.B) && has p k
theorem told_in {c : Cfg} (h : Fit c) {p k : Int} (hi : inR c p k = true) : c.told p k = .tuple #[.int .i64 (c.place p k), .int .i64 (c.sz p), .bool true] := by
  unfold inR at hi
  simp only [Bool.and_eq_true, decide_eq_true_eq] at hi
  exact told_has h p k hi.1.1 hi.1.2.1 hi.1.2.2.1 hi.1.2.2.2 hi.2
theorem told_out {c : Cfg} (h : Fit c) {p k : Int} (hi : inR c p k = false) : c.told p k = .tuple #[.int .i64 0, .int .i64 0, .bool false] := by
  have hb := h.b0
  by_cases h1 : 0 ≤ p ∧ p ≤ 11 ∧ 0 ≤ k ∧ k < c.B
  · have h2 : has p k = false := by
      unfold inR at hi
      rw [decide_eq_true h1, Bool.true_and] at hi
      exact hi
    exact (told_hasnt h p k h1.1 h1.2.1 h1.2.2.1 h2).2.2
  · refine told_none h p k ?_
    omega
theorem inR_place {c : Cfg} (h : Fit c) {p k : Int} (hi : inR c p k = true) : 0 ≤ c.place p k ∧ c.place p k + c.sz p ≤ c.all ∧ 0 ≤ c.sz p ∧ c.sz p ≤ 1024 := by
  unfold inR at hi
  simp only [Bool.and_eq_true, decide_eq_true_eq] at hi
  have := place_bounds h p k hi.1.1 hi.1.2.1 hi.1.2.2.1 hi.1.2.2.2
  have := sz_bounds h p
  omega
theorem inR_side {c : Cfg} (h : Fit c) {p k : Int} (hi : inR c p k = true) : 1 ≤ (c.side p).1 ∧ (c.side p).1 ≤ 32 ∧ 1 ≤ (c.side p).2 ∧ (c.side p).2 ≤ 32 := by
  unfold inR at hi
  simp only [Bool.and_eq_true, decide_eq_true_eq] at hi
  have hb := side_bounds h p
  have v0 := h.v0; have d0 := h.d0; have f0 := h.f0; have c0 := h.c0
  have hp : p = 0 ∨ p = 1 ∨ p = 2 ∨ p = 3 ∨ p = 4 ∨ p = 5 ∨ p = 6 ∨ p = 7 ∨ p = 8 ∨ p = 9 ∨ p = 10 ∨ p = 11 := by omega
  refine ⟨?_, hb.2.1, ?_, hb.2.2.2⟩
  · rcases hp with rfl | rfl | rfl | rfl | rfl | rfl | rfl | rfl | rfl | rfl | rfl | rfl <;> simp [Cfg.side] <;> omega
  · rcases hp with rfl | rfl | rfl | rfl | rfl | rfl | rfl | rfl | rfl | rfl | rfl | rfl <;> simp [Cfg.side] <;> omega

/-- A part's bytes. -/
def tabS (c : Cfg) (s : ByteArray) (p k : Int) : ByteArray := s.extract (c.place p k).toNat (c.place p k + c.sz p).toNat
theorem ext_size (s : ByteArray) (a b : Nat) (h : a ≤ b) (hb : b ≤ s.size) : (s.extract a b).size = b - a := by
  rw [← bl_length, bl_extract, List.length_drop, List.length_take, bl_length]
  omega
theorem tabS_size {c : Cfg} (h : Fit c) {s : ByteArray} (hs : (s.size : Int) = c.all) {p k : Int} (hi : inR c p k = true) : ((tabS c s p k).size : Int) = (c.side p).1 * (c.side p).2 := by
  have hp := inR_place h hi
  unfold tabS
  rw [ext_size _ _ _ (by omega) (by omega)]
  have : c.sz p = (c.side p).1 * (c.side p).2 := rfl
  omega
theorem ext_glue (s : ByteArray) (a b : Nat) (h : a ≤ b) : s.extract 0 a ++ s.extract a b = s.extract 0 b := by
  refine bl_ext ?_
  have hap : ∀ x y : ByteArray, bl (x ++ y) = bl x ++ bl y := fun x y => by unfold bl; rw [ByteArray.data_append, Array.toList_append]
  rw [hap, bl_extract, bl_extract, bl_extract, List.drop_zero, List.drop_zero]
  have e : (bl s).take a = ((bl s).take b).take a := by rw [List.take_take, Nat.min_eq_left h]
  rw [e, List.take_append_drop]
theorem ext_all (s : ByteArray) : s.extract 0 s.size = s := by
  refine bl_ext ?_
  rw [bl_extract, List.drop_zero, List.take_of_length_le (by rw [bl_length]; exact Nat.le_refl _)]
/-- The first so many bytes of the weights. -/
def upW (s : ByteArray) (n : Int) : ByteArray := s.extract 0 n.toNat
theorem upW_glue (c : Cfg) (s : ByteArray) (p k : Int) (_h0 : 0 ≤ c.place p k) (h1 : 0 ≤ c.sz p) : upW s (c.place p k) ++ tabS c s p k = upW s (c.place p k + c.sz p) := ext_glue s _ _ (by omega)
theorem upW_zero (s : ByteArray) : upW s 0 = ⟨#[]⟩ := by
  refine bl_ext ?_
  unfold upW
  rw [bl_extract]
  rfl
/-- Where the first parts, not of blocks, end. -/
theorem place_lead (c : Cfg) (p : Nat) (hp : p < 2) : c.place p 0 = c.span 0 p ∧ c.span 0 (p + 1) = c.place p 0 + c.sz p := by
  rcases Nat.lt_or_ge p 1 with h | h
  · obtain rfl : p = 0 := by omega
    refine ⟨rfl, ?_⟩
    have e : c.place 0 0 = 0 := rfl
    show c.span 0 0 + c.sz (0 + 0) = c.place 0 0 + c.sz 0
    rw [e]
    rfl
  · obtain rfl : p = 1 := by omega
    have e : c.place 1 0 = c.sz 0 := by unfold Cfg.place; rw [if_neg (by omega), if_pos rfl]
    refine ⟨?_, ?_⟩
    · show c.place 1 0 = _
      rw [e, span1]
    · show c.span 0 1 + c.sz (0 + 1) = c.place 1 0 + c.sz 1
      rw [e, span1]
      rfl
theorem head_step (c : Cfg) (h : Fit c) (s : ByteArray) (p : Nat) (hp : p < 2) : upW s (c.span 0 p) ++ tabS c s p 0 = upW s (c.span 0 (p + 1)) := by
  obtain ⟨e1, e2⟩ := place_lead c p hp
  rw [← e1, e2]
  exact upW_glue c s _ _ (by rw [e1]; exact (span_bounds h 0 p).1) (sz_bounds h _).1
theorem mids_step (c : Cfg) (h : Fit c) (s : ByteArray) (n : Nat) (hn : n ≤ 8) (k : Int) (hk0 : 0 ≤ k) (hk : k < c.B) : upW s (c.base k + c.span 2 n) ++ tabS c s ((n : Int) + 2) k = upW s (c.base k + c.span 2 (n + 1)) := by
  have e := place_mid c n hn k
  have h0 := (place_bounds h ((n : Int) + 2) k (by omega) (by omega) hk0 hk).1
  rw [← e, upW_glue c s _ _ h0 (sz_bounds h _).1, span_succ, e, show (2 : Int) + n = (n : Int) + 2 by omega]
  congr 1
  omega
theorem tail_step (c : Cfg) (h : Fit c) (s : ByteArray) (hs : (s.size : Int) = c.all) : upW s (c.base c.B) ++ tabS c s 11 0 = s := by
  have hb := h.b0
  have e : c.place 11 0 = c.all - c.sz 11 := by unfold Cfg.place; rw [if_neg (by omega), if_neg (by omega), if_pos rfl]
  have ha := base_all h
  have h0 := (place_bounds h 11 0 (by omega) (by omega) (by omega) (by omega)).1
  rw [show c.base c.B = c.place 11 0 by omega, upW_glue c s _ _ h0 (sz_bounds h _).1, show c.place 11 0 + c.sz 11 = c.all by omega, ← hs]
  unfold upW
  rw [Int.toNat_natCast]
  exact ext_all s
theorem base_zero (c : Cfg) : c.base 0 = c.span 0 2 := by unfold Cfg.base; omega
theorem base_next (c : Cfg) (k : Nat) : c.base k + c.span 2 9 = c.base ((k + 1 : Nat) : Int) := by rw [show ((k + 1 : Nat) : Int) = (k : Int) + 1 by omega, base_succ]

/-- A byte, changed by another one. -/
theorem xor_u8 (a b : Nat) (ha : a < 256) (hb : b < 256) : Go.bits .xor .u8 (a : Int) (b : Int) = ((a ^^^ b : Nat) : Int) := by
  have hx : a ^^^ b < 2 ^ 8 := Nat.xor_lt_two_pow (by omega) (by omega)
  show IntKind.u8.wrap ((BitVec.ofInt 8 (a : Int) ^^^ BitVec.ofInt 8 (b : Int)).toNat : Int) = _
  have e : ∀ n : Nat, n < 256 → (BitVec.ofInt 8 (n : Int)).toNat = n := fun n hn => by
    rw [BitVec.ofInt_natCast, BitVec.toNat_ofNat]
    omega
  rw [BitVec.toNat_xor, e a ha, e b hb]
  unfold IntKind.wrap
  simp [IntKind.signed, IntKind.bits]
  omega
theorem xor_lt (a b : Nat) (ha : a < 256) (hb : b < 256) : a ^^^ b < 256 := Nat.xor_lt_two_pow (n := 8) (by omega) (by omega)
theorem xor_self_iff (a b : Nat) : a ^^^ b = a ↔ b = 0 := by
  constructor
  · intro h
    have : a ^^^ (a ^^^ b) = a ^^^ a := by rw [h]
    rw [← Nat.xor_assoc, Nat.xor_self, Nat.zero_xor] at this
    exact this
  · rintro rfl
    exact Nat.xor_zero a
/-- The weights, one byte of them changed. -/
def turnB (s : ByteArray) (i by' : Nat) : ByteArray := ⟨((bl s).set i (UInt8.ofNat (((bl s).getD i 0).toNat ^^^ by'))).toArray⟩
theorem turnB_size (s : ByteArray) (i x : Nat) : (turnB s i x).size = s.size := by
  rw [← bl_length, ← bl_length s]
  unfold turnB
  rw [bl_mk, List.length_set]
theorem turnB_eq (s : ByteArray) (i x : Nat) (hi : i < s.size) (hx : x < 256) : (s = turnB s i x) ↔ x = 0 := by
  have hl : i < (bl s).length := by rw [bl_length]; exact hi
  have hlt := ((bl s).getD i 0).toNat_lt
  constructor
  · intro h
    have h1 : bl s = (bl s).set i (UInt8.ofNat (((bl s).getD i 0).toNat ^^^ x)) := by
      have := congrArg bl h
      exact this
    have h2 : (bl s)[i]? = ((bl s).set i (UInt8.ofNat (((bl s).getD i 0).toNat ^^^ x)))[i]? := congrArg (fun l => l[i]?) h1
    rw [List.getElem?_set_self hl, List.getElem?_eq_getElem hl] at h2
    have h3 := congrArg UInt8.toNat (Option.some.inj h2)
    rw [UInt8.toNat_ofNat'] at h3
    have hx2 := xor_lt ((bl s).getD i 0).toNat x (by omega) hx
    rw [Nat.mod_eq_of_lt (by omega)] at h3
    have h4 : (bl s)[i] = (bl s).getD i 0 := by rw [List.getD_eq_getElem?_getD, List.getElem?_eq_getElem hl]; rfl
    rw [h4] at h3
    exact (xor_self_iff _ _).1 h3.symm
  · rintro rfl
    refine bl_ext ?_
    show bl s = (bl s).set i (UInt8.ofNat (((bl s).getD i 0).toNat ^^^ 0))
    rw [Nat.xor_zero, UInt8.ofNat_toNat]
    refine List.ext_getElem? fun j => ?_
    rw [List.getElem?_set]
    by_cases e : i = j
    · subst e; rw [if_pos rfl, if_pos hl, List.getD_eq_getElem?_getD, List.getElem?_eq_getElem hl]; rfl
    · rw [if_neg e]
theorem app_left_inj (a x y : ByteArray) : a ++ x = a ++ y ↔ x = y := by
  have hap : ∀ x y : ByteArray, bl (x ++ y) = bl x ++ bl y := fun x y => by unfold bl; rw [ByteArray.data_append, Array.toList_append]
  constructor
  · intro h
    have := congrArg bl h
    rw [hap, hap] at this
    exact bl_ext (List.append_cancel_left this)
  · rintro rfl; rfl

end Go.Proofs.Ytgdifegbpbnekaa
