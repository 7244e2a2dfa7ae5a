/- Shapes: read from bytes, and written as bytes, by the document. -/
import Derived.Test.YtgdifegbpbnekaaConfM
namespace Go.Proofs.Ytgdifegbpbnekaa
open Go.RowKit

theorem refEyeNum_k (E : Nat) (s : ByteArray) (k : Nat) (w : World) (h : Blk w E [.string (eyeSt beyond s k).1, .bool (eyeSt beyond s k).2] 168) :
    Calls Try.prog 104 #[.pointer (some ⟨E, 0, none⟩), .int .i64 4294967295] w fun e w' => e = .returned (.int .i64 (eyeVal beyond s k)) ∧ Blk w' E [.string (eyeSt beyond s (k + 1)).1, .bool (eyeSt beyond s (k + 1)).2] 168 ∧ Only [E] w w' :=
  refEyeNum_any E _ _ beyond w h

theorem bl_cat2 (s t : ByteArray) : bl (s ++ t) = bl s ++ bl t := by
  unfold bl
  simp
theorem le4_zeros6 : zeros6.length = 6 := rfl

end Go.Proofs.Ytgdifegbpbnekaa
