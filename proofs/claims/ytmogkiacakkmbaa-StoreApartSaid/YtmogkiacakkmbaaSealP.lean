/- Seals, plain: what layer 6 computes. -/
import Derived.Test.YtmogkiacakkmbaaShaP
import Derived.Test.YtmogkiacakkmbaaPen
import Derived.Test.YtmogkiacakkmbaaDskP
namespace Go.Proofs.Ytmogkiacakkmbaa
open Go.RowKit

/-- How many sectors a text of so many bytes has. -/
def secsOf (n : Nat) : Nat := (n + 63) / 28
/-- What lies behind the sum. -/
def bodyB (s : ByteArray) : List UInt8 := num4 (s.size : Int) ++ bl s ++ List.replicate (secsOf s.size * 28 - 36 - s.size) 0
/-- A sealed text's bytes. -/
def sealB (s : ByteArray) : List UInt8 := Sha.sum (bodyB s) ++ bodyB s
/-- The sector i of a text with its number. -/
def laySec (n : Int) (s : ByteArray) (i : Nat) : ByteArray := ⟨(((sealB s).drop (28 * i)).take 28 ++ num4 n).toArray⟩
def layS (n : Int) (s : ByteArray) (j : Nat) : List ByteArray := (List.range j).map (laySec n s)
theorem secsOf_ge (n : Nat) : 36 + n ≤ secsOf n * 28 := by unfold secsOf; omega
theorem secsOf_le (n : Nat) : secsOf n * 28 ≤ n + 63 := by unfold secsOf; omega
theorem secsOf_two (n : Nat) : 2 ≤ secsOf n := by unfold secsOf; omega
theorem bodyB_length (s : ByteArray) : (bodyB s).length = secsOf s.size * 28 - 32 := by
  unfold bodyB
  have := secsOf_ge s.size
  simp [num4_length, bl_length]
  omega
theorem sealB_length (s : ByteArray) : (sealB s).length = secsOf s.size * 28 := by
  unfold sealB
  have := secsOf_ge s.size
  rw [List.length_append, Sha.sum_length, bodyB_length]
  omega
theorem layS_length (n : Int) (s : ByteArray) (j : Nat) : (layS n s j).length = j := by simp [layS]
theorem layS_succ (n : Int) (s : ByteArray) (j : Nat) : layS n s (j + 1) = layS n s j ++ [laySec n s j] := by
  unfold layS
  rw [List.range_succ, List.map_append]
  rfl
theorem layS_at (n : Int) (s : ByteArray) (j i : Nat) (h : i < j) : (layS n s j).getD i ⟨#[]⟩ = laySec n s i := by
  simp [layS, List.getD_eq_getElem?_getD, h]
theorem laySec_size (n : Int) (s : ByteArray) (i : Nat) (h : i < secsOf s.size) : (laySec n s i).size = 32 := by
  rw [← bl_length]
  unfold laySec
  rw [bl_mk]
  have := sealB_length s
  simp [num4_length]
  omega
end Go.Proofs.Ytmogkiacakkmbaa
