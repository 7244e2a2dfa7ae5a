/- Shapes: where a part stands, by the document. -/
import Derived.Test.YtgdifegbpbnekaaConfG
namespace Go.Proofs.Ytgdifegbpbnekaa
open Go.RowKit

/-- The row of a part of a block. -/
def rowIs (p b : Int) (r : Row4) : Bool := decide (r.1 = p) && decide (r.2.1 = b)

/-- What the document tells of a part. -/
def toldOf : Option Row4 → Value
  | some r => .tuple #[.int .i64 r.2.2.1, .int .i64 r.2.2.2, .bool true]
  | none => .tuple #[.int .i64 0, .int .i64 0, .bool false]

end Go.Proofs.Ytgdifegbpbnekaa
