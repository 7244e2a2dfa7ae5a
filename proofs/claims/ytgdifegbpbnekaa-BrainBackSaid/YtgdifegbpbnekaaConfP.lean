/- Shapes: what was written is read again. -/
import Derived.Test.YtgdifegbpbnekaaConfO
namespace Go.Proofs.Ytgdifegbpbnekaa
open Go.RowKit

theorem leNat_le4 (m : Nat) (hm : m < 4294967296) : leNat (le4 m) = m := by
  simp only [le4, List.map_cons, List.map_nil, leNat, UInt8.toNat_ofNat']
  omega
theorem num4_told {n : Int} (h : told n = true) : num4 n = le4 n.toNat := by simp [num4, h]
theorem eyeNum_num4 (n : Int) (h : told n = true) (r : List UInt8) : eyeNum beyond ⟨(num4 n ++ r).toArray⟩ false = (n, ⟨r.toArray⟩, false) := by
  have hn : 0 ≤ n ∧ n < 4294967296 := by simpa [told] using h
  have hsz : (⟨(num4 n ++ r).toArray⟩ : ByteArray).size = 4 + r.length := by rw [← bl_length, bl_mk, List.length_append, num4_length]
  have h4 : 4 ≤ (⟨(num4 n ++ r).toArray⟩ : ByteArray).size := by omega
  have e1 : bl ((⟨(num4 n ++ r).toArray⟩ : ByteArray).extract 0 4) = num4 n := by
    rw [bl_extract, bl_mk, List.drop_zero, List.take_append_of_le_length (by rw [num4_length]; exact Nat.le_refl _), List.take_of_length_le (by rw [num4_length]; exact Nat.le_refl _)]
  have e2 : (⟨(num4 n ++ r).toArray⟩ : ByteArray).extract 4 (⟨(num4 n ++ r).toArray⟩ : ByteArray).size = ⟨r.toArray⟩ := by
    refine bl_ext ?_
    rw [bl_extract, bl_mk, bl_mk, hsz, List.take_of_length_le (by rw [List.length_append, num4_length]; exact Nat.le_refl _)]
    exact List.drop_left' (num4_length n)
  have e3 : (leNat (bl ((⟨(num4 n ++ r).toArray⟩ : ByteArray).extract 0 4)) : Int) = n := by
    rw [e1, num4_told h, leNat_le4 _ (by omega)]
    omega
  rw [eyeNum_ok beyond _ h4 (by rw [e3]; unfold beyond; omega), e2, e3]

theorem eyeSt_nums (ns : List Int) (h : ∀ n ∈ ns, told n = true) : ∀ k, k ≤ ns.length → eyeSt beyond ⟨((ns.map num4).flatten).toArray⟩ k = (⟨(((ns.drop k).map num4).flatten).toArray⟩, false)
  | 0, _ => rfl
  | k + 1, hk => by
    have ih := eyeSt_nums ns h k (by omega)
    show (eyeNum beyond (eyeSt beyond _ k).1 (eyeSt beyond _ k).2).2 = _
    rw [ih, List.drop_eq_getElem_cons (by omega : k < ns.length), List.map_cons, List.flatten_cons, eyeNum_num4 _ (h _ (List.getElem_mem _))]
theorem eyeVal_nums (ns : List Int) (h : ∀ n ∈ ns, told n = true) (k : Nat) (hk : k < ns.length) : eyeVal beyond ⟨((ns.map num4).flatten).toArray⟩ k = ns[k] := by
  show (eyeNum beyond (eyeSt beyond _ k).1 (eyeSt beyond _ k).2).1 = _
  rw [eyeSt_nums ns h k (by omega), List.drop_eq_getElem_cons hk, List.map_cons, List.flatten_cons, eyeNum_num4 _ (h _ (List.getElem_mem _))]

theorem nums_told {c : Cfg} (h : Fit c) : ∀ n ∈ c.nums, told n = true := by
  have v0 := h.v0; have v1 := h.v1; have d0 := h.d0; have d1 := h.d1; have h0 := h.h0; have h1 := h.h1
  have b0 := h.b0; have b1 := h.b1; have f0 := h.f0; have f1 := h.f1; have c0 := h.c0; have c1 := h.c1
  intro n hn
  simp only [Cfg.nums, List.mem_cons, List.not_mem_nil, or_false] at hn
  rcases hn with rfl | rfl | rfl | rfl | rfl | rfl <;> simp [told] <;> omega
theorem six_bytes {c : Cfg} (h : Fit c) : sixCfg c.bytes = c := by
  have hn := nums_told h
  have e : ∀ k (hk : k < c.nums.length), eyeVal beyond c.bytes k = c.nums[k] := fun k hk => eyeVal_nums c.nums hn k hk
  show (⟨_, _, _, _, _, _⟩ : Cfg) = c
  have hl : c.nums.length = 6 := rfl
  rw [e 0 (by omega), e 1 (by omega), e 2 (by omega), e 3 (by omega), e 4 (by omega), e 5 (by omega)]
  rfl
theorem fits_bytes {c : Cfg} (h : CanBe c) : fits c.bytes := by
  refine ⟨?_, by rw [six_bytes h.fit]; exact h⟩
  have e : eyeSt beyond c.bytes 6 = (⟨(((c.nums.drop 6).map num4).flatten).toArray⟩, false) := eyeSt_nums c.nums (nums_told h.fit) 6 (Nat.le_refl 6)
  rw [e]
  rfl

end Go.Proofs.Ytgdifegbpbnekaa
