/- Manifests: read from bytes: the numbers, with no program in sight. -/
import Derived.Test.YtgdifegbpbnekaaManK
import Derived.Test.YtgdifegbpbnekaaPenR
namespace Go.Proofs.Ytgdifegbpbnekaa
open Go.RowKit

/-- A manifest's fields, the first so many numbers read. -/
def parM (v : Nat → Int) (k : Nat) : List Value := ((List.range 4).map fun j => Value.int .i64 (if j < k then v j else 0)) ++ (.slice none 0 0 :: zeros32)
theorem parM_0 (v : Nat → Int) : parM v 0 = mfZ := rfl
theorem parM_4 (v : Nat → Int) : parM v 4 = .int .i64 (v 0) :: .int .i64 (v 1) :: .int .i64 (v 2) :: .int .i64 (v 3) :: .slice none 0 0 :: zeros32 := rfl
theorem parM_at (v : Nat → Int) (k : Nat) (h : k < 4) : (parM v k)[k]? = some (.int .i64 0) := by
  have : k = 0 ∨ k = 1 ∨ k = 2 ∨ k = 3 := by omega
  rcases this with rfl | rfl | rfl | rfl <;> rfl
theorem parM_set (v : Nat → Int) (k : Nat) (h : k < 4) : (parM v k).set k (.int .i64 (v k)) = parM v (k + 1) := by
  have : k = 0 ∨ k = 1 ∨ k = 2 ∨ k = 3 := by omega
  rcases this with rfl | rfl | rfl | rfl <;> rfl
theorem parM_length (v : Nat → Int) (k : Nat) : (parM v k).length = 37 := by simp [parM, zeros32]

theorem eyeNum_most (most n : Int) (h : told n = true) (hm : n ≤ most) (r : List UInt8) : eyeNum most ⟨(num4 n ++ r).toArray⟩ false = (n, ⟨r.toArray⟩, false) := by
  have hn : 0 ≤ n ∧ n < 4294967296 := by simpa [told] using h
  have hsz : (⟨(num4 n ++ r).toArray⟩ : ByteArray).size = 4 + r.length := by rw [← bl_length, bl_mk, List.length_append, num4_length]
  have h4 : 4 ≤ (⟨(num4 n ++ r).toArray⟩ : ByteArray).size := by omega
  have e1 : bl ((⟨(num4 n ++ r).toArray⟩ : ByteArray).extract 0 4) = num4 n := by
    rw [bl_extract, bl_mk, List.drop_zero, List.take_append_of_le_length (by rw [num4_length]; exact Nat.le_refl _), List.take_of_length_le (by rw [num4_length]; exact Nat.le_refl _)]
  have e2 : (⟨(num4 n ++ r).toArray⟩ : ByteArray).extract 4 (⟨(num4 n ++ r).toArray⟩ : ByteArray).size = ⟨r.toArray⟩ := by
    refine bl_ext ?_
    rw [bl_extract, bl_mk, bl_mk, hsz, List.take_of_length_le (by rw [List.length_append, num4_length]; exact Nat.le_refl _)]
    exact List.drop_left' (num4_length n)
  have e3 : (leNat (bl ((⟨(num4 n ++ r).toArray⟩ : ByteArray).extract 0 4)) : Int) = n := by
    rw [e1, num4_told h, leNat_le4 _ (by omega)]
    omega
  rw [eyeNum_ok most _ h4 (by rw [e3]; omega), e2, e3]
theorem eyeSt_most (most : Int) (ns : List Int) (t : List UInt8) (h : ∀ n ∈ ns, told n = true ∧ n ≤ most) : ∀ k, k ≤ ns.length → eyeSt most ⟨((ns.map num4).flatten ++ t).toArray⟩ k = (⟨(((ns.drop k).map num4).flatten ++ t).toArray⟩, false)
  | 0, _ => rfl
  | k + 1, hk => by
    have ih := eyeSt_most most ns t h k (by omega)
    show (eyeNum most (eyeSt most _ k).1 (eyeSt most _ k).2).2 = _
    have hm := h _ (List.getElem_mem (by omega : k < ns.length))
    rw [ih, List.drop_eq_getElem_cons (by omega : k < ns.length), List.map_cons, List.flatten_cons, List.append_assoc, eyeNum_most most _ hm.1 hm.2]
theorem eyeVal_most (most : Int) (ns : List Int) (t : List UInt8) (h : ∀ n ∈ ns, told n = true ∧ n ≤ most) (k : Nat) (hk : k < ns.length) : eyeVal most ⟨((ns.map num4).flatten ++ t).toArray⟩ k = ns[k] := by
  show (eyeNum most (eyeSt most _ k).1 (eyeSt most _ k).2).1 = _
  have hm := h _ (List.getElem_mem hk)
  rw [eyeSt_most most ns t h k (by omega), List.drop_eq_getElem_cons hk, List.map_cons, List.flatten_cons, List.append_assoc, eyeNum_most most _ hm.1 hm.2]

/-- An eye before its j-th sum, and that sum. -/
theorem digs_take (d : List UInt8) (t : List UInt8) (hd : d.length = 32) : (⟨(d ++ t).toArray⟩ : ByteArray).extract 0 32 = ⟨d.toArray⟩ ∧ (⟨(d ++ t).toArray⟩ : ByteArray).extract 32 (⟨(d ++ t).toArray⟩ : ByteArray).size = ⟨t.toArray⟩ ∧ 32 ≤ (⟨(d ++ t).toArray⟩ : ByteArray).size := by
  have hsz : (⟨(d ++ t).toArray⟩ : ByteArray).size = 32 + t.length := by rw [← bl_length, bl_mk, List.length_append, hd]
  refine ⟨bl_ext ?_, bl_ext ?_, by omega⟩
  · rw [bl_extract, bl_mk, bl_mk, List.drop_zero, List.take_left' hd]
  · rw [bl_extract, bl_mk, bl_mk, hsz, List.take_of_length_le (by rw [List.length_append, hd]; exact Nat.le_refl _)]
    exact List.drop_left' hd

end Go.Proofs.Ytgdifegbpbnekaa
