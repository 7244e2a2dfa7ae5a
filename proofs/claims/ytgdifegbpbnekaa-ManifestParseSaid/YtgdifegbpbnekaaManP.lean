/- Manifests: the chunks joined are the patch. -/
import Derived.Test.YtgdifegbpbnekaaManO
namespace Go.Proofs.Ytgdifegbpbnekaa
open Go.RowKit

theorem bl_join (s t : ByteArray) : bl (s ++ t) = bl s ++ bl t := by
  unfold bl
  rw [ByteArray.data_append, Array.toList_append]
theorem ext_join (s : ByteArray) (a b : Nat) (h : a ≤ b) : s.extract 0 a ++ s.extract a b = s.extract 0 b := by
  refine bl_ext ?_
  rw [bl_join, bl_extract, bl_extract, bl_extract, List.drop_zero, List.drop_zero]
  conv => lhs; lhs; rw [← Nat.min_eq_left h, ← List.take_take]
  exact List.take_append_drop _ _
/-- The first j chunks joined. -/
def joinP (k : Nat) (s : ByteArray) (j : Nat) : ByteArray := s.extract 0 (min (j * k) s.size)
theorem joinP_0 (k : Nat) (s : ByteArray) : joinP k s 0 = ⟨#[]⟩ := by
  refine bl_ext ?_
  unfold joinP
  rw [bl_extract]
  simp [bl]
theorem joinP_step (b v : Int) (k n j : Nat) (s : ByteArray) (hcnt : 0 < cnt b v (s.size : Int) (k : Int) n) (hj : j < n) : joinP k s j ++ partM b v (s.size : Int) (k : Int) n (j : Int) s = joinP k s (j + 1) := by
  obtain ⟨hh, _, e1, e2⟩ := cnt_pos hcnt
  have hl := lenM_at (b := b) (v := v) (z := (s.size : Int)) (k := (k : Int)) (a := (j : Int)) (n := n) (by omega) (by omega)
  have el : lenM b v (s.size : Int) (k : Int) n (j : Int) = min (k : Int) ((s.size : Int) - (j : Int) * k) := by
    unfold lenM
    rw [if_pos ⟨by omega, by omega⟩]
  have hk1 : (1 : Int) ≤ k := by unfold HeadOk at hh; omega
  have hjk : ((j : Int) * (k : Int)) = ((j * k : Nat) : Int) := by simp
  rw [hjk] at hl el
  unfold partM joinP
  rw [if_pos ⟨by rw [el]; omega, rfl⟩, el, hjk]
  have hs : (j + 1) * k = j * k + k := by rw [Nat.add_mul, Nat.one_mul]
  have e3 : (((j * k : Nat) : Int)).toNat = min (j * k) s.size := by omega
  have e4 : (((j * k : Nat) : Int) + min (k : Int) ((s.size : Int) - ((j * k : Nat) : Int))).toNat = min ((j + 1) * k) s.size := by omega
  rw [e3, e4]
  exact ext_join _ _ _ (by omega)

end Go.Proofs.Ytgdifegbpbnekaa
