/-
  No cell of these rows narrows 'for every input' (looked for: loops, veiled, ifaces, maps, wideKeys, modest, calm, conditions, laid).
  DERIVED. THE GIVEN ROWS OF THIS SEAT. 10 by the template 'for every input the law returns true; each argument reads behind the call as it read before'; 0 by the template 'total and deterministic' (their statements: YtgdifegbpbnekaaTotals.lean).
  GIVEN WITH THE SEED: the statements are not yours to turn. If you find one false, say at which input.
  Laid BY PROGRAM, IN A SANDBOX (cutbox-rows.mjs): the forced cells as the released guide's own fill.sh prints them over the translation bebc6db3e29da2c5… (all of the seat's roots in one cut). By AI agents, Wed Nov 11 2026. No macro, syntax, notation, axiom, sorry.
-/
import Derived.Test.YtgdifegbpbnekaaChecked
import GoSem.Claim
import GoSem.ClaimJoined
import GoSem.ClaimMapViews
import Derived.JoinedTies
import Derived.KernelRfl
namespace Go.Proofs.Ytgdifegbpbnekaa
/- THE CELL 'sum', in the pinned program and in every row, IS THE sha256 OF THE DUMP (.gsa) THAT YtgdifegbpbnekaaProg.lean LOADS. Nothing in Lean hashes anything: it is a label: what it is worth is what the hold of that sum in a sandbox is worth. -/
noncomputable def Try.pinned : Pinned := { name := "ytgdifegbpbnekaa", sum := "bebc6db3e29da2c52dc1f4346695d59ec48e07544c963f6cd6761fa191a6fa90", checked := Try.checked }
namespace Rows
def none {H : Type} : Left H := { results := [], args := [] }

/-- 'coadjutorlaw16.BrainTables': WHATEVER THE INPUT: true; the input reads as it did. -/
def brainTablesSpec : ChangeSpec := { name := "brainTables", fn := fun _ => fun
  | [d1, d2, d3, d4] => { results := [.lit (.bool true)], args := [d1, d2, d3, d4] }
  | _ => none }
def brainTablesRow : OpenClaim := { program := "ytgdifegbpbnekaa", sum := "bebc6db3e29da2c52dc1f4346695d59ec48e07544c963f6cd6761fa191a6fa90", func := "coadjutor/coadjutorlaw16.BrainTables", spec := "brainTables", inPlace := ["internal/abi.NoEscape"], apart := false }
def BrainTablesSaid : Prop := brainTablesRow.holds Try.pinned (OpenSpec.ofChange brainTablesSpec)

/-- ITS FALSE NEIGHBOUR: 'it returns false'. Refute it at one input. -/
def brainTablesWrong : ChangeSpec := { name := "brainTables", fn := fun _ => fun
  | [d1, d2, d3, d4] => { results := [.lit (.bool false)], args := [d1, d2, d3, d4] }
  | _ => none }
def BrainTablesWrongFalsely : Prop := brainTablesRow.holds Try.pinned (OpenSpec.ofChange brainTablesWrong)

/-- 'coadjutorlaw20.ManifestExact': WHATEVER THE INPUT: true; the input reads as it did. -/
def manifestExactSpec : ChangeSpec := { name := "manifestExact", fn := fun _ => fun
  | [d1, d2, d3, d4] => { results := [.lit (.bool true)], args := [d1, d2, d3, d4] }
  | _ => none }
def manifestExactRow : OpenClaim := { program := "ytgdifegbpbnekaa", sum := "bebc6db3e29da2c52dc1f4346695d59ec48e07544c963f6cd6761fa191a6fa90", func := "coadjutor/coadjutorlaw20.ManifestExact", spec := "manifestExact", inPlace := ["internal/abi.NoEscape", "internal/bytealg.MakeNoZero"], recurses := true, apart := false }
def ManifestExactSaid : Prop := manifestExactRow.holds Try.pinned (OpenSpec.ofChange manifestExactSpec)

/-- ITS FALSE NEIGHBOUR: 'it returns false'. Refute it at one input. -/
def manifestExactWrong : ChangeSpec := { name := "manifestExact", fn := fun _ => fun
  | [d1, d2, d3, d4] => { results := [.lit (.bool false)], args := [d1, d2, d3, d4] }
  | _ => none }
def ManifestExactWrongFalsely : Prop := manifestExactRow.holds Try.pinned (OpenSpec.ofChange manifestExactWrong)

/-- 'coadjutorlaw20.ManifestParse': WHATEVER THE INPUT: true; the input reads as it did. -/
def manifestParseSpec : ChangeSpec := { name := "manifestParse", fn := fun _ => fun
  | [d] => { results := [.lit (.bool true)], args := [d] }
  | _ => none }
def manifestParseRow : OpenClaim := { program := "ytgdifegbpbnekaa", sum := "bebc6db3e29da2c52dc1f4346695d59ec48e07544c963f6cd6761fa191a6fa90", func := "coadjutor/coadjutorlaw20.ManifestParse", spec := "manifestParse", inPlace := ["internal/abi.NoEscape", "internal/bytealg.MakeNoZero"], recurses := true, apart := false }
def ManifestParseSaid : Prop := manifestParseRow.holds Try.pinned (OpenSpec.ofChange manifestParseSpec)

/-- ITS FALSE NEIGHBOUR: 'it returns false'. Refute it at one input. -/
def manifestParseWrong : ChangeSpec := { name := "manifestParse", fn := fun _ => fun
  | [d] => { results := [.lit (.bool false)], args := [d] }
  | _ => none }
def ManifestParseWrongFalsely : Prop := manifestParseRow.holds Try.pinned (OpenSpec.ofChange manifestParseWrong)

/-- 'coadjutorlaw20.ManifestChunks': WHATEVER THE INPUT: true; the input reads as it did. -/
def manifestChunksSpec : ChangeSpec := { name := "manifestChunks", fn := fun _ => fun
  | [d1, d2, d3, d4] => { results := [.lit (.bool true)], args := [d1, d2, d3, d4] }
  | _ => none }
def manifestChunksRow : OpenClaim := { program := "ytgdifegbpbnekaa", sum := "bebc6db3e29da2c52dc1f4346695d59ec48e07544c963f6cd6761fa191a6fa90", func := "coadjutor/coadjutorlaw20.ManifestChunks", spec := "manifestChunks", inPlace := ["internal/abi.NoEscape", "internal/bytealg.MakeNoZero"], recurses := true, apart := false }
def ManifestChunksSaid : Prop := manifestChunksRow.holds Try.pinned (OpenSpec.ofChange manifestChunksSpec)

/-- ITS FALSE NEIGHBOUR: 'it returns false'. Refute it at one input. -/
def manifestChunksWrong : ChangeSpec := { name := "manifestChunks", fn := fun _ => fun
  | [d1, d2, d3, d4] => { results := [.lit (.bool false)], args := [d1, d2, d3, d4] }
  | _ => none }
def ManifestChunksWrongFalsely : Prop := manifestChunksRow.holds Try.pinned (OpenSpec.ofChange manifestChunksWrong)

/-- 'coadjutorlaw20.ManifestCuts': WHATEVER THE INPUT: true; the input reads as it did. -/
def manifestCutsSpec : ChangeSpec := { name := "manifestCuts", fn := fun _ => fun
  | [d1, d2, d3, d4] => { results := [.lit (.bool true)], args := [d1, d2, d3, d4] }
  | _ => none }
def manifestCutsRow : OpenClaim := { program := "ytgdifegbpbnekaa", sum := "bebc6db3e29da2c52dc1f4346695d59ec48e07544c963f6cd6761fa191a6fa90", func := "coadjutor/coadjutorlaw20.ManifestCuts", spec := "manifestCuts", inPlace := ["internal/abi.NoEscape", "internal/bytealg.MakeNoZero"], recurses := true, apart := false }
def ManifestCutsSaid : Prop := manifestCutsRow.holds Try.pinned (OpenSpec.ofChange manifestCutsSpec)

/-- ITS FALSE NEIGHBOUR: 'it returns false'. Refute it at one input. -/
def manifestCutsWrong : ChangeSpec := { name := "manifestCuts", fn := fun _ => fun
  | [d1, d2, d3, d4] => { results := [.lit (.bool false)], args := [d1, d2, d3, d4] }
  | _ => none }
def ManifestCutsWrongFalsely : Prop := manifestCutsRow.holds Try.pinned (OpenSpec.ofChange manifestCutsWrong)

/-- 'coadjutorlaw16.BrainBack': WHATEVER THE INPUT: true; the input reads as it did. -/
def brainBackSpec : ChangeSpec := { name := "brainBack", fn := fun _ => fun
  | [d1, d2, d3, d4, d5] => { results := [.lit (.bool true)], args := [d1, d2, d3, d4, d5] }
  | _ => none }
def brainBackRow : OpenClaim := { program := "ytgdifegbpbnekaa", sum := "bebc6db3e29da2c52dc1f4346695d59ec48e07544c963f6cd6761fa191a6fa90", func := "coadjutor/coadjutorlaw16.BrainBack", spec := "brainBack", inPlace := ["internal/abi.NoEscape", "internal/bytealg.MakeNoZero"], apart := false }
def BrainBackSaid : Prop := brainBackRow.holds Try.pinned (OpenSpec.ofChange brainBackSpec)

/-- ITS FALSE NEIGHBOUR: 'it returns false'. Refute it at one input. -/
def brainBackWrong : ChangeSpec := { name := "brainBack", fn := fun _ => fun
  | [d1, d2, d3, d4, d5] => { results := [.lit (.bool false)], args := [d1, d2, d3, d4, d5] }
  | _ => none }
def BrainBackWrongFalsely : Prop := brainBackRow.holds Try.pinned (OpenSpec.ofChange brainBackWrong)

/-- 'coadjutorlaw35.MintExact': WHATEVER THE INPUT: true; the input reads as it did. -/
def mintExactSpec : ChangeSpec := { name := "mintExact", fn := fun _ => fun
  | [d1, d2, d3, d4, d5] => { results := [.lit (.bool true)], args := [d1, d2, d3, d4, d5] }
  | _ => none }
def mintExactRow : OpenClaim := { program := "ytgdifegbpbnekaa", sum := "bebc6db3e29da2c52dc1f4346695d59ec48e07544c963f6cd6761fa191a6fa90", func := "coadjutor/coadjutorlaw35.MintExact", spec := "mintExact", inPlace := ["internal/abi.NoEscape", "internal/bytealg.MakeNoZero"], unfollowed := true, recurses := true, apart := false }
def MintExactSaid : Prop := mintExactRow.holds Try.pinned (OpenSpec.ofChange mintExactSpec)

/-- ITS FALSE NEIGHBOUR: 'it returns false'. Refute it at one input. -/
def mintExactWrong : ChangeSpec := { name := "mintExact", fn := fun _ => fun
  | [d1, d2, d3, d4, d5] => { results := [.lit (.bool false)], args := [d1, d2, d3, d4, d5] }
  | _ => none }
def MintExactWrongFalsely : Prop := mintExactRow.holds Try.pinned (OpenSpec.ofChange mintExactWrong)

/-- 'coadjutorlaw06.SealWhole': WHATEVER THE INPUT: true; the input reads as it did. -/
def sealWholeSpec : ChangeSpec := { name := "sealWhole", fn := fun _ => fun
  | [d1, d2, d3, d4, d5] => { results := [.lit (.bool true)], args := [d1, d2, d3, d4, d5] }
  | _ => none }
def sealWholeRow : OpenClaim := { program := "ytgdifegbpbnekaa", sum := "bebc6db3e29da2c52dc1f4346695d59ec48e07544c963f6cd6761fa191a6fa90", func := "coadjutor/coadjutorlaw06.SealWhole", spec := "sealWhole", inPlace := ["internal/abi.NoEscape", "internal/bytealg.MakeNoZero"], unfollowed := true, recurses := true, apart := false }
def SealWholeSaid : Prop := sealWholeRow.holds Try.pinned (OpenSpec.ofChange sealWholeSpec)

/-- ITS FALSE NEIGHBOUR: 'it returns false'. Refute it at one input. -/
def sealWholeWrong : ChangeSpec := { name := "sealWhole", fn := fun _ => fun
  | [d1, d2, d3, d4, d5] => { results := [.lit (.bool false)], args := [d1, d2, d3, d4, d5] }
  | _ => none }
def SealWholeWrongFalsely : Prop := sealWholeRow.holds Try.pinned (OpenSpec.ofChange sealWholeWrong)

/-- 'coadjutorlaw06.SealExact': WHATEVER THE INPUT: true; the input reads as it did. -/
def sealExactSpec : ChangeSpec := { name := "sealExact", fn := fun _ => fun
  | [d1, d2, d3, d4] => { results := [.lit (.bool true)], args := [d1, d2, d3, d4] }
  | _ => none }
def sealExactRow : OpenClaim := { program := "ytgdifegbpbnekaa", sum := "bebc6db3e29da2c52dc1f4346695d59ec48e07544c963f6cd6761fa191a6fa90", func := "coadjutor/coadjutorlaw06.SealExact", spec := "sealExact", inPlace := ["internal/abi.NoEscape", "internal/bytealg.MakeNoZero"], unfollowed := true, recurses := true, apart := false }
def SealExactSaid : Prop := sealExactRow.holds Try.pinned (OpenSpec.ofChange sealExactSpec)

/-- ITS FALSE NEIGHBOUR: 'it returns false'. Refute it at one input. -/
def sealExactWrong : ChangeSpec := { name := "sealExact", fn := fun _ => fun
  | [d1, d2, d3, d4] => { results := [.lit (.bool false)], args := [d1, d2, d3, d4] }
  | _ => none }
def SealExactWrongFalsely : Prop := sealExactRow.holds Try.pinned (OpenSpec.ofChange sealExactWrong)

/-- 'coadjutorlaw35.MintUpdates': WHATEVER THE INPUT: true; the input reads as it did. -/
def mintUpdatesSpec : ChangeSpec := { name := "mintUpdates", fn := fun _ => fun
  | [d1, d2, d3, d4] => { results := [.lit (.bool true)], args := [d1, d2, d3, d4] }
  | _ => none }
def mintUpdatesRow : OpenClaim := { program := "ytgdifegbpbnekaa", sum := "bebc6db3e29da2c52dc1f4346695d59ec48e07544c963f6cd6761fa191a6fa90", func := "coadjutor/coadjutorlaw35.MintUpdates", spec := "mintUpdates", inPlace := ["internal/abi.NoEscape", "internal/bytealg.MakeNoZero"], unfollowed := true, recurses := true, apart := false }
def MintUpdatesSaid : Prop := mintUpdatesRow.holds Try.pinned (OpenSpec.ofChange mintUpdatesSpec)

/-- ITS FALSE NEIGHBOUR: 'it returns false'. Refute it at one input. -/
def mintUpdatesWrong : ChangeSpec := { name := "mintUpdates", fn := fun _ => fun
  | [d1, d2, d3, d4] => { results := [.lit (.bool false)], args := [d1, d2, d3, d4] }
  | _ => none }
def MintUpdatesWrongFalsely : Prop := mintUpdatesRow.holds Try.pinned (OpenSpec.ofChange mintUpdatesWrong)

/- THE SECOND FORM. 'bulk': how many values and letters a reading holds, each counted each time it is reached (what is shared counts as often as it is met; a slice's spare places count too). A statement '..UptoSaid' is the law's where the arguments, and the package variables that the reading takes, are together of bulk at most 1048576: NARROWER than '..Said'. Prove '..Said' where nothing that the law and all that it calls make is longer than what came in: it says more and counts as full. Else prove '..UptoSaid'. A law counts once. -/
mutual
def uptoBulk {H : Type} : DataW H → Nat
  | .lit (.string bytes) => bytes.length + 1
  | .lit _ => 1
  | .nil => 1
  | .ptr d => uptoBulk d + 1
  | .slice elems spare => uptoBulkAll elems + uptoBulkAll spare + 1
  | .agg parts => uptoBulkAll parts + 1
  | .iface _ d => uptoBulk d + 1
  | .map entries => uptoBulkEntries entries + 1
  | .held _ => 1
def uptoBulkAll {H : Type} : List (DataW H) → Nat
  | [] => 0
  | d :: r => uptoBulk d + uptoBulkAll r
def uptoBulkEntries {H : Type} : List (Lit × DataW H) → Nat
  | [] => 0
  | x :: r => uptoBulkEntry x + uptoBulkEntries r
def uptoBulkEntry {H : Type} : Lit × DataW H → Nat
  | (.string bytes, d) => bytes.length + uptoBulk d + 1
  | (_, d) => uptoBulk d + 1
 end
def uptoSmall : (H : Type) → List (DataW H) → Bool := fun _ ds => decide (uptoBulkAll ds ≤ 1048576)
def OpenSpec.upto (s : _root_.Go.ChangeSpec) : _root_.Go.OpenSpec := { _root_.Go.OpenSpec.ofChange s with cond := some uptoSmall }

/-- 'coadjutorlaw16.BrainTables', WHERE WHAT IT READS IS OF BULK AT MOST 1048576: true; the input reads as it did. -/
def brainTablesUptoRow : OpenClaim := { program := "ytgdifegbpbnekaa", sum := "bebc6db3e29da2c52dc1f4346695d59ec48e07544c963f6cd6761fa191a6fa90", func := "coadjutor/coadjutorlaw16.BrainTables", spec := "brainTables", inPlace := ["internal/abi.NoEscape"], apart := false, narrowed := true }
def BrainTablesUptoSaid : Prop := brainTablesUptoRow.holds Try.pinned (OpenSpec.upto brainTablesSpec)

/-- 'coadjutorlaw20.ManifestExact', WHERE WHAT IT READS IS OF BULK AT MOST 1048576: true; the input reads as it did. -/
def manifestExactUptoRow : OpenClaim := { program := "ytgdifegbpbnekaa", sum := "bebc6db3e29da2c52dc1f4346695d59ec48e07544c963f6cd6761fa191a6fa90", func := "coadjutor/coadjutorlaw20.ManifestExact", spec := "manifestExact", inPlace := ["internal/abi.NoEscape", "internal/bytealg.MakeNoZero"], recurses := true, apart := false, narrowed := true }
def ManifestExactUptoSaid : Prop := manifestExactUptoRow.holds Try.pinned (OpenSpec.upto manifestExactSpec)

/-- 'coadjutorlaw20.ManifestParse', WHERE WHAT IT READS IS OF BULK AT MOST 1048576: true; the input reads as it did. -/
def manifestParseUptoRow : OpenClaim := { program := "ytgdifegbpbnekaa", sum := "bebc6db3e29da2c52dc1f4346695d59ec48e07544c963f6cd6761fa191a6fa90", func := "coadjutor/coadjutorlaw20.ManifestParse", spec := "manifestParse", inPlace := ["internal/abi.NoEscape", "internal/bytealg.MakeNoZero"], recurses := true, apart := false, narrowed := true }
def ManifestParseUptoSaid : Prop := manifestParseUptoRow.holds Try.pinned (OpenSpec.upto manifestParseSpec)

/-- 'coadjutorlaw20.ManifestChunks', WHERE WHAT IT READS IS OF BULK AT MOST 1048576: true; the input reads as it did. -/
def manifestChunksUptoRow : OpenClaim := { program := "ytgdifegbpbnekaa", sum := "bebc6db3e29da2c52dc1f4346695d59ec48e07544c963f6cd6761fa191a6fa90", func := "coadjutor/coadjutorlaw20.ManifestChunks", spec := "manifestChunks", inPlace := ["internal/abi.NoEscape", "internal/bytealg.MakeNoZero"], recurses := true, apart := false, narrowed := true }
def ManifestChunksUptoSaid : Prop := manifestChunksUptoRow.holds Try.pinned (OpenSpec.upto manifestChunksSpec)

/-- 'coadjutorlaw20.ManifestCuts', WHERE WHAT IT READS IS OF BULK AT MOST 1048576: true; the input reads as it did. -/
def manifestCutsUptoRow : OpenClaim := { program := "ytgdifegbpbnekaa", sum := "bebc6db3e29da2c52dc1f4346695d59ec48e07544c963f6cd6761fa191a6fa90", func := "coadjutor/coadjutorlaw20.ManifestCuts", spec := "manifestCuts", inPlace := ["internal/abi.NoEscape", "internal/bytealg.MakeNoZero"], recurses := true, apart := false, narrowed := true }
def ManifestCutsUptoSaid : Prop := manifestCutsUptoRow.holds Try.pinned (OpenSpec.upto manifestCutsSpec)

/-- 'coadjutorlaw16.BrainBack', WHERE WHAT IT READS IS OF BULK AT MOST 1048576: true; the input reads as it did. -/
def brainBackUptoRow : OpenClaim := { program := "ytgdifegbpbnekaa", sum := "bebc6db3e29da2c52dc1f4346695d59ec48e07544c963f6cd6761fa191a6fa90", func := "coadjutor/coadjutorlaw16.BrainBack", spec := "brainBack", inPlace := ["internal/abi.NoEscape", "internal/bytealg.MakeNoZero"], apart := false, narrowed := true }
def BrainBackUptoSaid : Prop := brainBackUptoRow.holds Try.pinned (OpenSpec.upto brainBackSpec)

/-- 'coadjutorlaw35.MintExact', WHERE WHAT IT READS IS OF BULK AT MOST 1048576: true; the input reads as it did. -/
def mintExactUptoRow : OpenClaim := { program := "ytgdifegbpbnekaa", sum := "bebc6db3e29da2c52dc1f4346695d59ec48e07544c963f6cd6761fa191a6fa90", func := "coadjutor/coadjutorlaw35.MintExact", spec := "mintExact", inPlace := ["internal/abi.NoEscape", "internal/bytealg.MakeNoZero"], unfollowed := true, recurses := true, apart := false, narrowed := true }
def MintExactUptoSaid : Prop := mintExactUptoRow.holds Try.pinned (OpenSpec.upto mintExactSpec)

/-- 'coadjutorlaw06.SealWhole', WHERE WHAT IT READS IS OF BULK AT MOST 1048576: true; the input reads as it did. -/
def sealWholeUptoRow : OpenClaim := { program := "ytgdifegbpbnekaa", sum := "bebc6db3e29da2c52dc1f4346695d59ec48e07544c963f6cd6761fa191a6fa90", func := "coadjutor/coadjutorlaw06.SealWhole", spec := "sealWhole", inPlace := ["internal/abi.NoEscape", "internal/bytealg.MakeNoZero"], unfollowed := true, recurses := true, apart := false, narrowed := true }
def SealWholeUptoSaid : Prop := sealWholeUptoRow.holds Try.pinned (OpenSpec.upto sealWholeSpec)

/-- 'coadjutorlaw06.SealExact', WHERE WHAT IT READS IS OF BULK AT MOST 1048576: true; the input reads as it did. -/
def sealExactUptoRow : OpenClaim := { program := "ytgdifegbpbnekaa", sum := "bebc6db3e29da2c52dc1f4346695d59ec48e07544c963f6cd6761fa191a6fa90", func := "coadjutor/coadjutorlaw06.SealExact", spec := "sealExact", inPlace := ["internal/abi.NoEscape", "internal/bytealg.MakeNoZero"], unfollowed := true, recurses := true, apart := false, narrowed := true }
def SealExactUptoSaid : Prop := sealExactUptoRow.holds Try.pinned (OpenSpec.upto sealExactSpec)

/-- 'coadjutorlaw35.MintUpdates', WHERE WHAT IT READS IS OF BULK AT MOST 1048576: true; the input reads as it did. -/
def mintUpdatesUptoRow : OpenClaim := { program := "ytgdifegbpbnekaa", sum := "bebc6db3e29da2c52dc1f4346695d59ec48e07544c963f6cd6761fa191a6fa90", func := "coadjutor/coadjutorlaw35.MintUpdates", spec := "mintUpdates", inPlace := ["internal/abi.NoEscape", "internal/bytealg.MakeNoZero"], unfollowed := true, recurses := true, apart := false, narrowed := true }
def MintUpdatesUptoSaid : Prop := mintUpdatesUptoRow.holds Try.pinned (OpenSpec.upto mintUpdatesSpec)

end Rows
end Go.Proofs.Ytgdifegbpbnekaa
