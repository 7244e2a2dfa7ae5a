/- Bytes read: the program's eye and the document's, operation by operation. -/
import Derived.Test.YtmogkiacakkmbaaRows
import Derived.Test.YtmogkiacakkmbaaOrd
namespace Go.Proofs.Ytmogkiacakkmbaa
open Go.RowKit

/-- The number that bytes tell, the least first. -/
def leNat : List UInt8 → Nat
  | [] => 0
  | x :: xs => x.toNat + 256 * leNat xs
theorem leNat_lt : ∀ l : List UInt8, leNat l < 256 ^ l.length
  | [] => by simp [leNat]
  | x :: xs => by
    have := leNat_lt xs
    have h := x.toNat_lt
    simp only [leNat, List.length_cons, Nat.pow_succ]
    omega
theorem leNat_snoc (x : UInt8) : ∀ l : List UInt8, leNat (l ++ [x]) = leNat l + 256 ^ l.length * x.toNat
  | [] => by simp [leNat]
  | y :: l => by
    rw [List.cons_append, leNat, leNat_snoc x l, leNat, List.length_cons, Nat.pow_succ, Nat.mul_add, ← Nat.mul_assoc, Nat.add_assoc, Nat.mul_comm (256 ^ l.length) 256]
theorem i64_or_nat (a b : Nat) (ha : a < 9223372036854775808) (hb : b < 9223372036854775808) : Go.bits .or .i64 (a : Int) (b : Int) = ((a ||| b : Nat) : Int) := by
  have hx : a ||| b < 2 ^ 63 := Nat.or_lt_two_pow (by omega) (by omega)
  show IntKind.i64.wrap ((BitVec.ofInt 64 (a : Int) ||| BitVec.ofInt 64 (b : Int)).toNat : Int) = _
  have e : ∀ n : Nat, n < 9223372036854775808 → (BitVec.ofInt 64 (n : Int)).toNat = n := fun n hn => by
    rw [BitVec.ofInt_natCast, BitVec.toNat_ofNat]
    omega
  rw [BitVec.toNat_or, e a ha, e b hb, IntKind.wrap_i64]
  omega
theorem or_shl (a x k : Nat) (ha : a < 2 ^ k) (hk : k ≤ 24) (hx : x < 256) : Go.bits .or .i64 (a : Int) ((x * 2 ^ k : Nat) : Int) = ((a + 2 ^ k * x : Nat) : Int) := by
  have h1 : 2 ^ k ≤ 2 ^ 24 := Nat.pow_le_pow_right (by decide) hk
  have h2 : x * 2 ^ k ≤ 255 * 2 ^ 24 := Nat.mul_le_mul (by omega) h1
  rw [i64_or_nat _ _ (by omega) (by omega)]
  have := Nat.shiftLeft_add_eq_or_of_lt (b := a) (i := k) ha x
  rw [Nat.shiftLeft_eq] at this
  rw [Nat.or_comm, ← this, Nat.mul_comm, Nat.add_comm]

theorem eyeInfo : (Try.prog.info? 190).map (·.size) = some 2 := by kernel_rfl

set_option maxRecDepth 100000 in
set_option maxHeartbeats 2000000 in
theorem penFail_any (b : Nat) (s : ByteArray) (bad : Bool) (w : World) (h : Blk w b [.string s, .bool bad] 190) : Calls Try.prog 135 #[.pointer (some ⟨b, 0, none⟩)] w fun e w' => e = .returned (.tuple #[]) ∧ Blk w' b [.string ⟨#[]⟩, .bool true] 190 ∧ Only [b] w w' := by
  have c0 := h.cell (i := 0) rfl
  have c1 := h.cell (i := 1) rfl
  have f0 := h.free 0
  have f1 := h.free 1
  go_enter Try.func135, Try.ntmps135
  go_wp2
  go_end0
  exact ⟨rfl, (h.set 0 _).set 1 _, ((Only.refl _ w).set (by simp) _).set (by simp) _⟩

set_option maxRecDepth 100000 in
set_option maxHeartbeats 2000000 in
theorem penTake_yes (b : Nat) (s : ByteArray) (n : Nat) (w : World) (h : Blk w b [.string s, .bool false] 190) (hn : n ≤ s.size) : Calls Try.prog 134 #[.pointer (some ⟨b, 0, none⟩), .int .i64 n] w fun e w' => e = .returned (.tuple #[.string (s.extract 0 n), .bool true]) ∧ Blk w' b [.string (s.extract n s.size), .bool false] 190 ∧ Only [b] w w' := by
  have c0 := h.cell (i := 0) rfl
  have c1 := h.cell (i := 1) rfl
  have f0 := h.free 0
  have g1 : ¬ (s.size : Int) < n := by omega
  go_enter Try.func134, Try.ntmps134
  go_wp2
  go_ret2
  exact ⟨rfl, h.set 0 _, (Only.refl _ w).set (by simp) _⟩

set_option maxRecDepth 100000 in
set_option maxHeartbeats 2000000 in
theorem penTake_no (b : Nat) (s : ByteArray) (bad : Bool) (n : Int) (w : World) (h : Blk w b [.string s, .bool bad] 190) (hn : bad = true ∨ (s.size : Int) < n) : Calls Try.prog 134 #[.pointer (some ⟨b, 0, none⟩), .int .i64 n] w fun e w' => e = .returned (.tuple #[.string ⟨#[]⟩, .bool false]) ∧ Blk w' b [.string ⟨#[]⟩, .bool true] 190 ∧ Only [b] w w' := by
  have c0 := h.cell (i := 0) rfl
  have c1 := h.cell (i := 1) rfl
  have FL := Lib.hid (penFail_any b s bad w h)
  cases bad with
  | true =>
    go_enter Try.func134, Try.ntmps134
    go_wp2_with (go_at_call 135; refine FL.out.mono ?_; rintro e w1 ⟨rfl, hb1, ho1⟩)
    go_ret2
    exact ⟨rfl, hb1, ho1⟩
  | false =>
    have g1 : (s.size : Int) < n := by simpa using hn
    clear hn
    go_enter Try.func134, Try.ntmps134
    go_wp2_with (go_at_call 135; refine FL.out.mono ?_; rintro e w1 ⟨rfl, hb1, ho1⟩)
    go_ret2
    exact ⟨rfl, hb1, ho1⟩

/-- An eye's next number: the number, what is left, whether something was wrong. -/
def eyeNum (most : Int) (s : ByteArray) (bad : Bool) : Int × ByteArray × Bool :=
  if bad || decide (s.size < 4) then (0, ⟨#[]⟩, true)
  else if most < (leNat (bl (s.extract 0 4)) : Int) then (0, ⟨#[]⟩, true)
  else ((leNat (bl (s.extract 0 4)) : Int), s.extract 4 s.size, false)
theorem eyeNum_bad (most : Int) (s : ByteArray) (bad : Bool) (h : bad = true ∨ (s.size : Int) < 4) : eyeNum most s bad = (0, ⟨#[]⟩, true) := by
  unfold eyeNum
  rw [if_pos (by simp; rcases h with h | h; exact .inl h; exact .inr (by omega))]
theorem eyeNum_over (most : Int) (s : ByteArray) (h4 : 4 ≤ s.size) (h : most < (leNat (bl (s.extract 0 4)) : Int)) : eyeNum most s false = (0, ⟨#[]⟩, true) := by
  unfold eyeNum
  rw [if_neg (by simp; omega), if_pos h]
theorem eyeNum_ok (most : Int) (s : ByteArray) (h4 : 4 ≤ s.size) (h : ¬ most < (leNat (bl (s.extract 0 4)) : Int)) : eyeNum most s false = ((leNat (bl (s.extract 0 4)) : Int), s.extract 4 s.size, false) := by
  unfold eyeNum
  rw [if_neg (by simp; omega), if_neg h]

set_option maxRecDepth 100000 in
set_option maxHeartbeats 4000000 in
theorem penEyeNum_no (b : Nat) (s : ByteArray) (bad : Bool) (most : Int) (w : World) (h : Blk w b [.string s, .bool bad] 190) (hn : bad = true ∨ (s.size : Int) < 4) :
    Calls Try.prog 86 #[.pointer (some ⟨b, 0, none⟩), .int .i64 most] w fun e w' => e = .returned (.int .i64 (eyeNum most s bad).1) ∧ Blk w' b [.string (eyeNum most s bad).2.1, .bool (eyeNum most s bad).2.2] 190 ∧ Only [b] w w' := by
  rw [eyeNum_bad most s bad hn]
  have TK := Lib.hid (penTake_no b s bad 4 w h hn)
  clear hn
  go_enter Try.func86, Try.ntmps86
  go_wp2_with (go_at_call 134; refine TK.out.mono ?_; rintro e w1 ⟨rfl, hb1, ho1⟩)
  go_ret
  exact ⟨rfl, hb1, ho1⟩

section
variable {P : Program} {w : World} {ops : Array Oper} {rest : List Oper} {o : Oper} {a : Act} {Q : Exit → Act → World → Prop}
theorem wpL_index_byte (hgd : o.guard = none) (t : TypeId) (x i : Operand) (ho : o.op = .index t x i) (s : ByteArray) (hx : a.eval x = .string s) {k : IntKind} {n : Int} (hi : a.eval i = .int k n)
    (ht : P.underlying t = some .string) (h0 : 0 ≤ n) (h1 : n < s.size) (c : Nat) (hc : Hid (c = ((bl s).getD n.toNat 0).toNat)) (h : wpList P ops Q rest (a.put o.dst (.int .u8 (c : Int))) w) : wpList P ops Q (o :: rest) a w :=
  wpL_index_string hgd t x i ho s hx hi ht h0 h1 fun c' hc' _ => by
    rw [hc'.out, ← hc.out]
    exact h
end

theorem bl_extract4 (s : ByteArray) (h4 : 4 ≤ s.size) : (s.extract 0 4).size = 4 := by
  rw [← bl_length, bl_extract]
  simp [bl_length]
  omega

set_option maxRecDepth 100000 in
set_option maxHeartbeats 8000000 in
theorem penEyeNum_yes (b : Nat) (s : ByteArray) (most : Int) (w : World) (h : Blk w b [.string s, .bool false] 190) (h4 : 4 ≤ s.size) :
    Calls Try.prog 86 #[.pointer (some ⟨b, 0, none⟩), .int .i64 most] w fun e w' => e = .returned (.int .i64 (eyeNum most s false).1) ∧ Blk w' b [.string (eyeNum most s false).2.1, .bool (eyeNum most s false).2.2] 190 ∧ Only [b] w w' := by
  have TK := Lib.hid (penTake_yes b s 4 w h h4)
  have E1 := Lib.hid (eyeNum_over most s h4)
  have E2 := Lib.hid (eyeNum_ok most s h4)
  have hT4 := bl_extract4 s h4
  have hblt := h.lt
  obtain ⟨T, eT⟩ : ∃ T, T = s.extract 0 4 := ⟨_, rfl⟩
  rw [← eT] at TK E1 E2 hT4
  obtain ⟨R, eR⟩ : ∃ R, R = s.extract 4 s.size := ⟨_, rfl⟩
  rw [← eR] at TK E2
  have HTL : Hid ((bl T).length = 4) := by show _ = _; rw [bl_length, hT4]
  clear eT eR h4 h
  go_enter Try.func86, Try.ntmps86
  go_wp2_with (first
    | (go_at_call 134; refine TK.out.mono ?_; rintro e w1 ⟨rfl, hb1, ho1⟩)
    | (refine wpL_bytes rfl _ _ 5 _ rfl T rfl Try.underlying9 Try.underlying56 Try.underlying5 ?_; intro cap w2 hcap hs2 ho2 hcell))
  have hb2 := hb1.keep ho2
  have ho12 : Only [b] w w2 := ho1.trans (ho2.mono (by simp))
  have hg : w1.heap.size < w2.heap.size := by have := hs2.out; omega
  have HC := Lib.hid hcell
  clear hcell hs2 ho2 ho1 hb1
  generalize w1.heap.size = g at *
  go_loopw [7, 20] (fun n i wr => ∃ (k : Nat), k ≤ 4 ∧ i = .int .i64 (k : Int) ∧ n = .int .i64 ((leNat ((bl T).take k) : Nat) : Int) ∧ wr = w2) (fun _ i _ => 4 - (intOf i).toNat)
  case atStart => exact ⟨0, by omega, rfl, rfl, rfl⟩
  case round =>
    obtain ⟨k, hk, rfl, rfl, rfl⟩ := hrel
    by_cases hlt : k < 4
    · have g1 : (k : Int) < 4 := by omega
      have hcl := HC.out k (by omega)
      obtain ⟨x, ex⟩ : ∃ x, x = (bl T).getD k 0 := ⟨_, rfl⟩
      have htk : Hid (leNat ((bl T).take (k + 1)) = leNat ((bl T).take k) + 2 ^ (8 * k) * x.toNat) := by
        show _ = _
        have hk' : k < (bl T).length := by rw [HTL.out]; exact hlt
        rw [List.take_succ_eq_append_getElem hk', leNat_snoc, ex, List.getD_eq_getElem?_getD, List.getElem?_eq_getElem hk', List.length_take, Nat.min_eq_left (by omega), Nat.pow_mul]
        rfl
      have hlt2 : leNat ((bl T).take k) < 2 ^ (8 * k) := by
        have := leNat_lt ((bl T).take k)
        rw [List.length_take, Nat.min_eq_left (by rw [HTL.out]; omega)] at this
        rwa [Nat.pow_mul]
      have hxl := x.toNat_lt
      rw [← ex] at hcl
      obtain ⟨q, eq⟩ : ∃ q, q = x.toNat := ⟨_, rfl⟩
      rw [← eq] at hcl htk hxl
      obtain ⟨m, em⟩ : ∃ m, m = leNat ((bl T).take k) := ⟨_, rfl⟩
      rw [← em] at htk hlt2 ⊢
      have OR := Lib.hid (or_shl m q (8 * k) hlt2 (by omega) (by omega))
      have EM := Lib.hid em
      clear ex eq em HC
      go_wp2_with fail
      have hbd : q * 2 ^ (8 * k) ≤ 255 * 2 ^ 24 := Nat.mul_le_mul (by omega) (Nat.pow_le_pow_right (by decide) (by omega))
      have e1 : (q : Int) * 2 ^ (8 * k) = ((q * 2 ^ (8 * k) : Nat) : Int) := by rw [Int.natCast_mul, Int.natCast_pow]; rfl
      have e2 : wrap64 ((q * 2 ^ (8 * k) : Nat) : Int) = ((q * 2 ^ (8 * k) : Nat) : Int) := by
        generalize q * 2 ^ (8 * k) = z at hbd
        unfold wrap64
        omega
      go_roundw
      case rel => exact ⟨k + 1, by omega, by go_num, by rw [e1, e2, OR.out, htk.out], trivial⟩
      case measure => simp [intOf]; omega
    · have ek : k = 4 := by omega
      subst ek
      rw [List.take_of_length_le (by rw [HTL.out]; decide)]
      have FL := Lib.hid (penFail_any b R false wr hb2)
      by_cases hov : most < (leNat (bl T) : Int)
      · have E := Lib.hid (E1.out hov)
        clear E1 E2
        go_wp2_with (go_at_call 135; refine FL.out.mono ?_; rintro e w3 ⟨rfl, hb3, ho3⟩)
        go_ret
        rw [E.out]
        exact ⟨rfl, hb3, ho12.trans ho3⟩
      · have E := Lib.hid (E2.out (by omega))
        clear E1 E2
        go_wp2_with fail
        go_ret
        rw [E.out]
        exact ⟨rfl, hb2, ho12⟩

theorem penEyeNum_any (b : Nat) (s : ByteArray) (bad : Bool) (most : Int) (w : World) (h : Blk w b [.string s, .bool bad] 190) :
    Calls Try.prog 86 #[.pointer (some ⟨b, 0, none⟩), .int .i64 most] w fun e w' => e = .returned (.int .i64 (eyeNum most s bad).1) ∧ Blk w' b [.string (eyeNum most s bad).2.1, .bool (eyeNum most s bad).2.2] 190 ∧ Only [b] w w' := by
  by_cases hn : bad = true ∨ (s.size : Int) < 4
  · exact penEyeNum_no b s bad most w h hn
  · have hb : bad = false := by cases bad <;> simp_all
    subst hb
    exact penEyeNum_yes b s most w h (by omega)

set_option maxRecDepth 100000 in
set_option maxHeartbeats 2000000 in
theorem penErr_any (b : Nat) (s : ByteArray) (bad : Bool) (w : World) (h : Blk w b [.string s, .bool bad] 190) : Calls Try.prog 87 #[.pointer (some ⟨b, 0, none⟩)] w fun e w' => e = .returned (.int .i64 (if bad then 5 else 0)) ∧ w = w' := by
  have c1 := h.cell (i := 1) rfl
  cases bad with
  | true =>
    go_enter Try.func87, Try.ntmps87
    go_wp2
    go_ret
    exact ⟨rfl, rfl⟩
  | false =>
    go_enter Try.func87, Try.ntmps87
    go_wp2
    go_ret
    exact ⟨rfl, rfl⟩
set_option maxRecDepth 100000 in
set_option maxHeartbeats 2000000 in
theorem penLeft_any (b : Nat) (s : ByteArray) (bad : Bool) (w : World) (h : Blk w b [.string s, .bool bad] 190) : Calls Try.prog 153 #[.pointer (some ⟨b, 0, none⟩)] w fun e w' => e = .returned (.int .i64 (s.size : Int)) ∧ w = w' := by
  have c0 := h.cell (i := 0) rfl
  go_enter Try.func153, Try.ntmps153
  go_wp2
  go_ret
  exact ⟨rfl, rfl⟩
/-- Whether an eye is through, and nothing was wrong. -/
def eyeDone (s : ByteArray) (bad : Bool) : Bool := !bad && decide (s.size = 0)
set_option maxRecDepth 100000 in
set_option maxHeartbeats 4000000 in
theorem penEnd_any (b : Nat) (s : ByteArray) (bad : Bool) (w : World) (h : Blk w b [.string s, .bool bad] 190) : Calls Try.prog 149 #[.pointer (some ⟨b, 0, none⟩)] w fun e w' => e = .returned (.int .i64 (if eyeDone s bad then 0 else 5)) ∧ w = w' := by
  have ER := Lib.hid (penErr_any b s bad w h)
  have LF := Lib.hid (penLeft_any b s bad w h)
  cases bad with
  | true =>
    go_enter Try.func149, Try.ntmps149
    go_wp2_with (go_at_call 87; refine ER.out.mono ?_; rintro e w1 ⟨rfl, rfl⟩)
    go_ret
    exact ⟨rfl, rfl⟩
  | false =>
    by_cases h0 : s.size = 0
    · have hd : Hid (eyeDone s false = true) := by show _ = _; simp [eyeDone, h0]
      have g1 : ((s.size : Int) == 0) = true := by rw [beq_iff_eq]; omega
      clear h0
      rw [hd.out]
      go_enter Try.func149, Try.ntmps149
      go_wp2_with (first
        | (go_at_call 87; refine ER.out.mono ?_; rintro e w1 ⟨rfl, rfl⟩)
        | (go_at_call 153; refine LF.out.mono ?_; rintro e w1 ⟨rfl, rfl⟩))
      go_ret
      exact ⟨rfl, rfl⟩
    · have hd : Hid (eyeDone s false = false) := by show _ = _; simp [eyeDone, h0]
      have g1 : ((s.size : Int) == 0) = false := by rw [beq_eq_false_iff_ne]; omega
      clear h0
      rw [hd.out]
      go_enter Try.func149, Try.ntmps149
      go_wp2_with (first
        | (go_at_call 87; refine ER.out.mono ?_; rintro e w1 ⟨rfl, rfl⟩)
        | (go_at_call 153; refine LF.out.mono ?_; rintro e w1 ⟨rfl, rfl⟩))
      go_ret
      exact ⟨rfl, rfl⟩

end Go.Proofs.Ytmogkiacakkmbaa
