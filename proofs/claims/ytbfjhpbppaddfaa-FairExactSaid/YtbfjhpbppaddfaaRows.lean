/-
  No cell of these rows narrows 'for every input' (looked for: loops, veiled, ifaces, maps, wideKeys, modest, calm, conditions, laid).
  DERIVED. THE GIVEN ROWS OF THIS SEAT. 4 by the template 'for every input the law returns true; each argument reads behind the call as it read before'; 0 by the template 'total and deterministic' (their statements: YtbfjhpbppaddfaaTotals.lean).
  GIVEN WITH THE SEED: the statements are not yours to turn. If you find one false, say at which input.
  Laid BY PROGRAM, IN A SANDBOX (cutbox-rows.mjs): the forced cells as the released guide's own fill.sh prints them over the translation 0f7bfbbd18b95e4f… (all of the seat's roots in one cut). By AI agents, Wed Nov 11 2026. No macro, syntax, notation, axiom, sorry.
-/
import Derived.Test.YtbfjhpbppaddfaaChecked
import GoSem.Claim
import GoSem.ClaimJoined
import GoSem.ClaimMapViews
import Derived.JoinedTies
import Derived.KernelRfl
namespace Go.Proofs.Ytbfjhpbppaddfaa
/- THE CELL 'sum', in the pinned program and in every row, IS THE sha256 OF THE DUMP (.gsa) THAT YtbfjhpbppaddfaaProg.lean LOADS. Nothing in Lean hashes anything: it is a label: what it is worth is what the hold of that sum in a sandbox is worth. -/
noncomputable def Try.pinned : Pinned := { name := "ytbfjhpbppaddfaa", sum := "0f7bfbbd18b95e4fb2773df7e4ea7bcb3ed32d0a3b418f726ac49bbf1285d0a0", checked := Try.checked }
namespace Rows
def none {H : Type} : Left H := { results := [], args := [] }

/-- 'coadjutorlaw38.FairExact': WHATEVER THE INPUT: true; the input reads as it did. -/
def fairExactSpec : ChangeSpec := { name := "fairExact", fn := fun _ => fun
  | [d1, d2] => { results := [.lit (.bool true)], args := [d1, d2] }
  | _ => none }
def fairExactRow : OpenClaim := { program := "ytbfjhpbppaddfaa", sum := "0f7bfbbd18b95e4fb2773df7e4ea7bcb3ed32d0a3b418f726ac49bbf1285d0a0", func := "coadjutor/coadjutorlaw38.FairExact", spec := "fairExact", unfollowed := true, recurses := true, apart := false }
def FairExactSaid : Prop := fairExactRow.holds Try.pinned (OpenSpec.ofChange fairExactSpec)

/-- ITS FALSE NEIGHBOUR: 'it returns false'. Refute it at one input. -/
def fairExactWrong : ChangeSpec := { name := "fairExact", fn := fun _ => fun
  | [d1, d2] => { results := [.lit (.bool false)], args := [d1, d2] }
  | _ => none }
def FairExactWrongFalsely : Prop := fairExactRow.holds Try.pinned (OpenSpec.ofChange fairExactWrong)

/-- 'coadjutorlaw15.ConfExact': WHATEVER THE INPUT: true; the input reads as it did. -/
def confExactSpec : ChangeSpec := { name := "confExact", fn := fun _ => fun
  | [d1, d2, d3] => { results := [.lit (.bool true)], args := [d1, d2, d3] }
  | _ => none }
def confExactRow : OpenClaim := { program := "ytbfjhpbppaddfaa", sum := "0f7bfbbd18b95e4fb2773df7e4ea7bcb3ed32d0a3b418f726ac49bbf1285d0a0", func := "coadjutor/coadjutorlaw15.ConfExact", spec := "confExact", inPlace := ["internal/abi.NoEscape"], apart := false }
def ConfExactSaid : Prop := confExactRow.holds Try.pinned (OpenSpec.ofChange confExactSpec)

/-- ITS FALSE NEIGHBOUR: 'it returns false'. Refute it at one input. -/
def confExactWrong : ChangeSpec := { name := "confExact", fn := fun _ => fun
  | [d1, d2, d3] => { results := [.lit (.bool false)], args := [d1, d2, d3] }
  | _ => none }
def ConfExactWrongFalsely : Prop := confExactRow.holds Try.pinned (OpenSpec.ofChange confExactWrong)

/-- 'coadjutorlaw15.ConfCover': WHATEVER THE INPUT: true; the input reads as it did. -/
def confCoverSpec : ChangeSpec := { name := "confCover", fn := fun _ => fun
  | [d] => { results := [.lit (.bool true)], args := [d] }
  | _ => none }
def confCoverRow : OpenClaim := { program := "ytbfjhpbppaddfaa", sum := "0f7bfbbd18b95e4fb2773df7e4ea7bcb3ed32d0a3b418f726ac49bbf1285d0a0", func := "coadjutor/coadjutorlaw15.ConfCover", spec := "confCover", inPlace := ["internal/abi.NoEscape"], apart := false }
def ConfCoverSaid : Prop := confCoverRow.holds Try.pinned (OpenSpec.ofChange confCoverSpec)

/-- ITS FALSE NEIGHBOUR: 'it returns false'. Refute it at one input. -/
def confCoverWrong : ChangeSpec := { name := "confCover", fn := fun _ => fun
  | [d] => { results := [.lit (.bool false)], args := [d] }
  | _ => none }
def ConfCoverWrongFalsely : Prop := confCoverRow.holds Try.pinned (OpenSpec.ofChange confCoverWrong)

/-- 'coadjutorlaw15.ConfBytes': WHATEVER THE INPUT: true; the input reads as it did. -/
def confBytesSpec : ChangeSpec := { name := "confBytes", fn := fun _ => fun
  | [d1, d2] => { results := [.lit (.bool true)], args := [d1, d2] }
  | _ => none }
def confBytesRow : OpenClaim := { program := "ytbfjhpbppaddfaa", sum := "0f7bfbbd18b95e4fb2773df7e4ea7bcb3ed32d0a3b418f726ac49bbf1285d0a0", func := "coadjutor/coadjutorlaw15.ConfBytes", spec := "confBytes", inPlace := ["internal/abi.NoEscape"], apart := false }
def ConfBytesSaid : Prop := confBytesRow.holds Try.pinned (OpenSpec.ofChange confBytesSpec)

/-- ITS FALSE NEIGHBOUR: 'it returns false'. Refute it at one input. -/
def confBytesWrong : ChangeSpec := { name := "confBytes", fn := fun _ => fun
  | [d1, d2] => { results := [.lit (.bool false)], args := [d1, d2] }
  | _ => none }
def ConfBytesWrongFalsely : Prop := confBytesRow.holds Try.pinned (OpenSpec.ofChange confBytesWrong)

/- THE SECOND FORM. 'bulk': how many values and letters a reading holds, each counted each time it is reached (what is shared counts as often as it is met; a slice's spare places count too). A statement '..UptoSaid' is the law's where the arguments, and the package variables that the reading takes, are together of bulk at most 1048576: NARROWER than '..Said'. Prove '..Said' where nothing that the law and all that it calls make is longer than what came in: it says more and counts as full. Else prove '..UptoSaid'. A law counts once. -/
mutual
def uptoBulk {H : Type} : DataW H → Nat
  | .lit (.string bytes) => bytes.length + 1
  | .lit _ => 1
  | .nil => 1
  | .ptr d => uptoBulk d + 1
  | .slice elems spare => uptoBulkAll elems + uptoBulkAll spare + 1
  | .agg parts => uptoBulkAll parts + 1
  | .iface _ d => uptoBulk d + 1
  | .map entries => uptoBulkEntries entries + 1
  | .held _ => 1
def uptoBulkAll {H : Type} : List (DataW H) → Nat
  | [] => 0
  | d :: r => uptoBulk d + uptoBulkAll r
def uptoBulkEntries {H : Type} : List (Lit × DataW H) → Nat
  | [] => 0
  | x :: r => uptoBulkEntry x + uptoBulkEntries r
def uptoBulkEntry {H : Type} : Lit × DataW H → Nat
  | (.string bytes, d) => bytes.length + uptoBulk d + 1
  | (_, d) => uptoBulk d + 1
 end
def uptoSmall : (H : Type) → List (DataW H) → Bool := fun _ ds => decide (uptoBulkAll ds ≤ 1048576)
def OpenSpec.upto (s : _root_.Go.ChangeSpec) : _root_.Go.OpenSpec := { _root_.Go.OpenSpec.ofChange s with cond := some uptoSmall }

/-- 'coadjutorlaw38.FairExact', WHERE WHAT IT READS IS OF BULK AT MOST 1048576: true; the input reads as it did. -/
def fairExactUptoRow : OpenClaim := { program := "ytbfjhpbppaddfaa", sum := "0f7bfbbd18b95e4fb2773df7e4ea7bcb3ed32d0a3b418f726ac49bbf1285d0a0", func := "coadjutor/coadjutorlaw38.FairExact", spec := "fairExact", unfollowed := true, recurses := true, apart := false, narrowed := true }
def FairExactUptoSaid : Prop := fairExactUptoRow.holds Try.pinned (OpenSpec.upto fairExactSpec)

/-- 'coadjutorlaw15.ConfExact', WHERE WHAT IT READS IS OF BULK AT MOST 1048576: true; the input reads as it did. -/
def confExactUptoRow : OpenClaim := { program := "ytbfjhpbppaddfaa", sum := "0f7bfbbd18b95e4fb2773df7e4ea7bcb3ed32d0a3b418f726ac49bbf1285d0a0", func := "coadjutor/coadjutorlaw15.ConfExact", spec := "confExact", inPlace := ["internal/abi.NoEscape"], apart := false, narrowed := true }
def ConfExactUptoSaid : Prop := confExactUptoRow.holds Try.pinned (OpenSpec.upto confExactSpec)

/-- 'coadjutorlaw15.ConfCover', WHERE WHAT IT READS IS OF BULK AT MOST 1048576: true; the input reads as it did. -/
def confCoverUptoRow : OpenClaim := { program := "ytbfjhpbppaddfaa", sum := "0f7bfbbd18b95e4fb2773df7e4ea7bcb3ed32d0a3b418f726ac49bbf1285d0a0", func := "coadjutor/coadjutorlaw15.ConfCover", spec := "confCover", inPlace := ["internal/abi.NoEscape"], apart := false, narrowed := true }
def ConfCoverUptoSaid : Prop := confCoverUptoRow.holds Try.pinned (OpenSpec.upto confCoverSpec)

/-- 'coadjutorlaw15.ConfBytes', WHERE WHAT IT READS IS OF BULK AT MOST 1048576: true; the input reads as it did. -/
def confBytesUptoRow : OpenClaim := { program := "ytbfjhpbppaddfaa", sum := "0f7bfbbd18b95e4fb2773df7e4ea7bcb3ed32d0a3b418f726ac49bbf1285d0a0", func := "coadjutor/coadjutorlaw15.ConfBytes", spec := "confBytes", inPlace := ["internal/abi.NoEscape"], apart := false, narrowed := true }
def ConfBytesUptoSaid : Prop := confBytesUptoRow.holds Try.pinned (OpenSpec.upto confBytesSpec)

end Rows
end Go.Proofs.Ytbfjhpbppaddfaa
