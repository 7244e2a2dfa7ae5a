/- Shapes: the numbers that the laws of shapes hold fast. -/
import Derived.Test.YtgdifegbpbnekaaConfJ
namespace Go.Proofs.Ytgdifegbpbnekaa
open Go.RowKit

def cfgA : Cfg := ⟨4, 2, 1, 1, 2, 3⟩
def cfgB : Cfg := ⟨4, 3, 2, 1, 2, 3⟩
theorem canA : CanBe cfgA := ⟨⟨by decide, by decide, by decide, by decide, by decide, by decide, by decide, by decide, by decide, by decide, by decide, by decide⟩, by decide, by decide⟩
theorem canB : ¬ CanBe cfgB := fun h => absurd h.div (by decide)

end Go.Proofs.Ytgdifegbpbnekaa
