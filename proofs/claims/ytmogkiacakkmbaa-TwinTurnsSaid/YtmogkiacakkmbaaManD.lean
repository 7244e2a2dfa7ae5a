/- Manifests: made of a patch. -/
import Derived.Test.YtmogkiacakkmbaaManS
namespace Go.Proofs.Ytmogkiacakkmbaa
open Go.RowKit

/-- The sums of a patch's first chunks. -/
def dsOf (b v z k : Int) (n : Nat) (s : ByteArray) (j : Nat) : List (List UInt8) := (List.range j).map fun (i : Nat) => Sha.sum (bl (partM b v z k n (i : Int) s))
theorem dsOf_length (b v z k : Int) (n : Nat) (s : ByteArray) (j : Nat) : (dsOf b v z k n s j).length = j := by simp [dsOf]
theorem dsOf_wide (b v z k : Int) (n : Nat) (s : ByteArray) (j : Nat) : Wide (dsOf b v z k n s j) := by
  intro d hd
  simp only [dsOf, List.mem_map] at hd
  obtain ⟨i, _, rfl⟩ := hd
  exact Sha.sum_length _
theorem dsOf_succ (b v z k : Int) (n : Nat) (s : ByteArray) (j : Nat) : dsOf b v z k n s (j + 1) = dsOf b v z k n s j ++ [Sha.sum (bl (partM b v z k n (j : Int) s))] := by
  unfold dsOf
  rw [List.range_succ, List.map_append]
  rfl
/-- A row of sums, the first so many of them written. -/
def rowD (ds : List (List UInt8)) (n : Nat) : List Value := digCells ds ++ List.replicate ((n - ds.length) * 32) (.int .u8 0)
theorem digCells_one1 (d : List UInt8) : digCells [d] = Lib.byteCells d := by simp [digCells]
theorem rowD_put (ds : List (List UInt8)) (n : Nat) (d : List UInt8) (hw : Wide ds) (hd : d.length = 32) (h : ds.length < n) : putAt (rowD ds n) (Lib.byteCells d) (ds.length * 32) = rowD (ds ++ [d]) n := by
  have hl := digCells_length ds hw
  have hd' : (Lib.byteCells d).length = 32 := by simp [Lib.byteCells, hd]
  unfold putAt rowD
  rw [List.take_append_of_le_length (by omega), List.take_of_length_le (by omega), hd', digCells_append, digCells_one1]
  have e : ds.length * 32 + 32 = (digCells ds).length + 32 := by omega
  rw [e, List.drop_append, List.drop_eq_nil_of_le (by omega), List.nil_append, show (digCells ds).length + 32 - (digCells ds).length = 32 by omega, List.drop_replicate, List.length_append]
  congr 2
  simp
  omega
theorem rowD_full (ds : List (List UInt8)) : rowD ds ds.length = digCells ds := by simp [rowD]
theorem rowD_nil (n : Nat) : rowD [] n = List.replicate (n * 32) (.int .u8 0) := by simp [rowD, digCells]
theorem rowD_length (ds : List (List UInt8)) (n : Nat) (hw : Wide ds) (h : ds.length ≤ n) : (rowD ds n).length = n * 32 := by
  unfold rowD
  rw [List.length_append, List.length_replicate, digCells_length ds hw]
  omega
theorem part_size (b v z k : Int) (n : Nat) (i : Int) (s : ByteArray) (hs : s.size ≤ 1000000) : (partM b v z k n i s).size ≤ 1000000 := by
  unfold partM
  split
  · rw [← bl_length, bl_extract, List.length_drop, List.length_take, bl_length]; omega
  · exact Nat.zero_le _

theorem list32 {R : List Value} (h : R.length = 32) : ∃ a0 a1 a2 a3 a4 a5 a6 a7 a8 a9 a10 a11 a12 a13 a14 a15 a16 a17 a18 a19 a20 a21 a22 a23 a24 a25 a26 a27 a28 a29 a30 a31, R = [a0, a1, a2, a3, a4, a5, a6, a7, a8, a9, a10, a11, a12, a13, a14, a15, a16, a17, a18, a19, a20, a21, a22, a23, a24, a25, a26, a27, a28, a29, a30, a31] := by
  match R, h with
  | [a0, a1, a2, a3, a4, a5, a6, a7, a8, a9, a10, a11, a12, a13, a14, a15, a16, a17, a18, a19, a20, a21, a22, a23, a24, a25, a26, a27, a28, a29, a30, a31], _ => exact ⟨a0, a1, a2, a3, a4, a5, a6, a7, a8, a9, a10, a11, a12, a13, a14, a15, a16, a17, a18, a19, a20, a21, a22, a23, a24, a25, a26, a27, a28, a29, a30, a31, rfl⟩
theorem built_mf (b v z k : Int) (R : List Value) (hR : R.length = 32) : Try.prog.built 104 [(0, .int .i64 b), (1, .int .i64 v), (2, .int .i64 z), (3, .int .i64 k), (5, .agg R.toArray)] = some (Value.int .i64 b :: .int .i64 v :: .int .i64 z :: .int .i64 k :: .slice none 0 0 :: R).toArray := by
  obtain ⟨a0, a1, a2, a3, a4, a5, a6, a7, a8, a9, a10, a11, a12, a13, a14, a15, a16, a17, a18, a19, a20, a21, a22, a23, a24, a25, a26, a27, a28, a29, a30, a31, rfl⟩ := list32 hR
  kernel_rfl

section
variable {P : Program} {w : World} {ops : Array Oper} {rest : List Oper} {o : Oper} {a : Act} {Q : Exit → Act → World → Prop}
theorem wpL_isBuild {t : TypeId} {ps : Array (Nat × Operand)} (_h : o.op = .build t ps) (h : wpList P ops Q (o :: rest) a w) : wpList P ops Q (o :: rest) a w := h
theorem wpL_isMake {t : TypeId} {x y : Operand} (_h : o.op = .makeSlice t x y) (h : wpList P ops Q (o :: rest) a w) : wpList P ops Q (o :: rest) a w := h
theorem wpL_isSlice {t : TypeId} {n : Nat} {ps : Array (Nat × Operand)} (_h : o.op = .buildSlice t n ps) (h : wpList P ops Q (o :: rest) a w) : wpList P ops Q (o :: rest) a w := h
/-- A row made of five parts. -/
theorem wpL_build5 (hg : o.guard = none) (t : TypeId) {i1 i2 i3 i4 i5 : Nat} {x1 x2 x3 x4 x5 : Operand} (ho : o.op = .build t #[(i1, x1), (i2, x2), (i3, x3), (i4, x4), (i5, x5)]) {v1 v2 v3 v4 v5 : Value} (h1 : a.eval x1 = v1) (h2 : a.eval x2 = v2) (h3 : a.eval x3 = v3) (h4 : a.eval x4 = v4) (h5 : a.eval x5 = v5) (C : List Value)
    (hf : P.built t [(i1, v1), (i2, v2), (i3, v3), (i4, v4), (i5, v5)] = some C.toArray) (h : wpList P ops Q rest (a.put o.dst (.agg C.toArray)) w) : wpList P ops Q (o :: rest) a w :=
  wpL_build hg t _ ho C (by simpa [h1, h2, h3, h4, h5] using hf) h
end

/-- The cells of a manifest that is none. -/
def mfZ : List Value := .int .i64 0 :: .int .i64 0 :: .int .i64 0 :: .int .i64 0 :: .slice none 0 0 :: zeros32

end Go.Proofs.Ytmogkiacakkmbaa
