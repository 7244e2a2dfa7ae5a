/- Shapes: written as bytes, by the document. -/
import Derived.Test.YtgdifegbpbnekaaConfN
namespace Go.Proofs.Ytgdifegbpbnekaa
open Go.RowKit

/-- The bytes of a shape. -/
def Cfg.bytes (c : Cfg) : ByteArray := ⟨((c.nums).map num4).flatten.toArray⟩

end Go.Proofs.Ytgdifegbpbnekaa
