/- ConfExact, walked: the program's answers are the document's. -/
import Derived.Test.YtgdifegbpbnekaaConfK
namespace Go.Proofs.Ytgdifegbpbnekaa
open Go.RowKit

section
variable {P : Program} {w : World} {ops : Array Oper} {rest : List Oper} {o : Oper} {a : Act} {Q : Exit → Act → World → Prop}
/-- A row made of one part. -/
theorem wpL_build1 (hg : o.guard = none) (t : TypeId) (i : Nat) (x : Operand) (ho : o.op = .build t #[(i, x)]) (v : Value) (hx : a.eval x = v) (C : List Value)
    (hf : P.built t [(i, v)] = some C.toArray) (h : wpList P ops Q rest (a.put o.dst (.agg C.toArray)) w) : wpList P ops Q (o :: rest) a w :=
  wpL_build hg t _ ho C (by simpa [hx] using hf) h
end

theorem built_shp (c : Cfg) : Try.prog.built 36 [(0, .agg c.cells.toArray)] = some c.cells.toArray := by
  obtain ⟨V, D, H, B, F, C⟩ := c
  kernel_rfl

end Go.Proofs.Ytgdifegbpbnekaa
