/-
  No cell of these rows narrows 'for every input' (looked for: loops, veiled, ifaces, maps, wideKeys, modest, calm, conditions, laid).
  DERIVED. THE GIVEN ROWS OF THIS SEAT. 12 by the template 'for every input the law returns true; each argument reads behind the call as it read before'; 0 by the template 'total and deterministic' (their statements: YtlciphmjkbihkaaTotals.lean).
  GIVEN WITH THE SEED: the statements are not yours to turn. If you find one false, say at which input.
  Laid BY PROGRAM, IN A SANDBOX (cutbox-rows.mjs): the forced cells as the released guide's own fill.sh prints them over the translation ddf5c5657813eb80… (all of the seat's roots in one cut). By AI agents, Wed Nov 11 2026. No macro, syntax, notation, axiom, sorry.
-/
import Derived.Test.YtlciphmjkbihkaaChecked
import GoSem.Claim
import GoSem.ClaimJoined
import GoSem.ClaimMapViews
import Derived.JoinedTies
import Derived.KernelRfl
namespace Go.Proofs.Ytlciphmjkbihkaa
/- THE CELL 'sum', in the pinned program and in every row, IS THE sha256 OF THE DUMP (.gsa) THAT YtlciphmjkbihkaaProg.lean LOADS. Nothing in Lean hashes anything: it is a label: what it is worth is what the hold of that sum in a sandbox is worth. -/
noncomputable def Try.pinned : Pinned := { name := "ytlciphmjkbihkaa", sum := "ddf5c5657813eb80306e606ee579086ecffef523a74c405f2d03d0bc291ed14a", checked := Try.checked }
namespace Rows
def none {H : Type} : Left H := { results := [], args := [] }

/-- 'coadjutorlaw38.FairExact': WHATEVER THE INPUT: true; the input reads as it did. -/
def fairExactSpec : ChangeSpec := { name := "fairExact", fn := fun _ => fun
  | [d1, d2] => { results := [.lit (.bool true)], args := [d1, d2] }
  | _ => none }
def fairExactRow : OpenClaim := { program := "ytlciphmjkbihkaa", sum := "ddf5c5657813eb80306e606ee579086ecffef523a74c405f2d03d0bc291ed14a", func := "coadjutor/coadjutorlaw38.FairExact", spec := "fairExact", unfollowed := true, recurses := true, apart := false }
def FairExactSaid : Prop := fairExactRow.holds Try.pinned (OpenSpec.ofChange fairExactSpec)

/-- ITS FALSE NEIGHBOUR: 'it returns false'. Refute it at one input. -/
def fairExactWrong : ChangeSpec := { name := "fairExact", fn := fun _ => fun
  | [d1, d2] => { results := [.lit (.bool false)], args := [d1, d2] }
  | _ => none }
def FairExactWrongFalsely : Prop := fairExactRow.holds Try.pinned (OpenSpec.ofChange fairExactWrong)

/-- 'coadjutorlaw15.ConfExact': WHATEVER THE INPUT: true; the input reads as it did. -/
def confExactSpec : ChangeSpec := { name := "confExact", fn := fun _ => fun
  | [d1, d2, d3] => { results := [.lit (.bool true)], args := [d1, d2, d3] }
  | _ => none }
def confExactRow : OpenClaim := { program := "ytlciphmjkbihkaa", sum := "ddf5c5657813eb80306e606ee579086ecffef523a74c405f2d03d0bc291ed14a", func := "coadjutor/coadjutorlaw15.ConfExact", spec := "confExact", inPlace := ["internal/abi.NoEscape"], apart := false }
def ConfExactSaid : Prop := confExactRow.holds Try.pinned (OpenSpec.ofChange confExactSpec)

/-- ITS FALSE NEIGHBOUR: 'it returns false'. Refute it at one input. -/
def confExactWrong : ChangeSpec := { name := "confExact", fn := fun _ => fun
  | [d1, d2, d3] => { results := [.lit (.bool false)], args := [d1, d2, d3] }
  | _ => none }
def ConfExactWrongFalsely : Prop := confExactRow.holds Try.pinned (OpenSpec.ofChange confExactWrong)

/-- 'coadjutorlaw15.ConfCover': WHATEVER THE INPUT: true; the input reads as it did. -/
def confCoverSpec : ChangeSpec := { name := "confCover", fn := fun _ => fun
  | [d] => { results := [.lit (.bool true)], args := [d] }
  | _ => none }
def confCoverRow : OpenClaim := { program := "ytlciphmjkbihkaa", sum := "ddf5c5657813eb80306e606ee579086ecffef523a74c405f2d03d0bc291ed14a", func := "coadjutor/coadjutorlaw15.ConfCover", spec := "confCover", inPlace := ["internal/abi.NoEscape"], apart := false }
def ConfCoverSaid : Prop := confCoverRow.holds Try.pinned (OpenSpec.ofChange confCoverSpec)

/-- ITS FALSE NEIGHBOUR: 'it returns false'. Refute it at one input. -/
def confCoverWrong : ChangeSpec := { name := "confCover", fn := fun _ => fun
  | [d] => { results := [.lit (.bool false)], args := [d] }
  | _ => none }
def ConfCoverWrongFalsely : Prop := confCoverRow.holds Try.pinned (OpenSpec.ofChange confCoverWrong)

/-- 'coadjutorlaw02.ShaExact': WHATEVER THE INPUT: true; the input reads as it did. -/
def shaExactSpec : ChangeSpec := { name := "shaExact", fn := fun _ => fun
  | [d] => { results := [.lit (.bool true)], args := [d] }
  | _ => none }
def shaExactRow : OpenClaim := { program := "ytlciphmjkbihkaa", sum := "ddf5c5657813eb80306e606ee579086ecffef523a74c405f2d03d0bc291ed14a", func := "coadjutor/coadjutorlaw02.ShaExact", spec := "shaExact", inPlace := ["internal/abi.NoEscape", "internal/bytealg.MakeNoZero"], recurses := true, apart := false }
def ShaExactSaid : Prop := shaExactRow.holds Try.pinned (OpenSpec.ofChange shaExactSpec)

/-- ITS FALSE NEIGHBOUR: 'it returns false'. Refute it at one input. -/
def shaExactWrong : ChangeSpec := { name := "shaExact", fn := fun _ => fun
  | [d] => { results := [.lit (.bool false)], args := [d] }
  | _ => none }
def ShaExactWrongFalsely : Prop := shaExactRow.holds Try.pinned (OpenSpec.ofChange shaExactWrong)

/-- 'coadjutorlaw02.ShaTree': WHATEVER THE INPUT: true; the input reads as it did. -/
def shaTreeSpec : ChangeSpec := { name := "shaTree", fn := fun _ => fun
  | [d] => { results := [.lit (.bool true)], args := [d] }
  | _ => none }
def shaTreeRow : OpenClaim := { program := "ytlciphmjkbihkaa", sum := "ddf5c5657813eb80306e606ee579086ecffef523a74c405f2d03d0bc291ed14a", func := "coadjutor/coadjutorlaw02.ShaTree", spec := "shaTree", inPlace := ["internal/abi.NoEscape", "internal/bytealg.MakeNoZero"], recurses := true, apart := false }
def ShaTreeSaid : Prop := shaTreeRow.holds Try.pinned (OpenSpec.ofChange shaTreeSpec)

/-- ITS FALSE NEIGHBOUR: 'it returns false'. Refute it at one input. -/
def shaTreeWrong : ChangeSpec := { name := "shaTree", fn := fun _ => fun
  | [d] => { results := [.lit (.bool false)], args := [d] }
  | _ => none }
def ShaTreeWrongFalsely : Prop := shaTreeRow.holds Try.pinned (OpenSpec.ofChange shaTreeWrong)

/-- 'coadjutorlaw02.ShaParts': WHATEVER THE INPUT: true; the input reads as it did. -/
def shaPartsSpec : ChangeSpec := { name := "shaParts", fn := fun _ => fun
  | [d1, d2, d3] => { results := [.lit (.bool true)], args := [d1, d2, d3] }
  | _ => none }
def shaPartsRow : OpenClaim := { program := "ytlciphmjkbihkaa", sum := "ddf5c5657813eb80306e606ee579086ecffef523a74c405f2d03d0bc291ed14a", func := "coadjutor/coadjutorlaw02.ShaParts", spec := "shaParts", inPlace := ["internal/abi.NoEscape", "internal/bytealg.MakeNoZero"], recurses := true, apart := false }
def ShaPartsSaid : Prop := shaPartsRow.holds Try.pinned (OpenSpec.ofChange shaPartsSpec)

/-- ITS FALSE NEIGHBOUR: 'it returns false'. Refute it at one input. -/
def shaPartsWrong : ChangeSpec := { name := "shaParts", fn := fun _ => fun
  | [d1, d2, d3] => { results := [.lit (.bool false)], args := [d1, d2, d3] }
  | _ => none }
def ShaPartsWrongFalsely : Prop := shaPartsRow.holds Try.pinned (OpenSpec.ofChange shaPartsWrong)

/-- 'coadjutorlaw02.ShaTrees': WHATEVER THE INPUT: true; the input reads as it did. -/
def shaTreesSpec : ChangeSpec := { name := "shaTrees", fn := fun _ => fun
  | [d1, d2] => { results := [.lit (.bool true)], args := [d1, d2] }
  | _ => none }
def shaTreesRow : OpenClaim := { program := "ytlciphmjkbihkaa", sum := "ddf5c5657813eb80306e606ee579086ecffef523a74c405f2d03d0bc291ed14a", func := "coadjutor/coadjutorlaw02.ShaTrees", spec := "shaTrees", inPlace := ["internal/abi.NoEscape", "internal/bytealg.MakeNoZero"], recurses := true, apart := false }
def ShaTreesSaid : Prop := shaTreesRow.holds Try.pinned (OpenSpec.ofChange shaTreesSpec)

/-- ITS FALSE NEIGHBOUR: 'it returns false'. Refute it at one input. -/
def shaTreesWrong : ChangeSpec := { name := "shaTrees", fn := fun _ => fun
  | [d1, d2] => { results := [.lit (.bool false)], args := [d1, d2] }
  | _ => none }
def ShaTreesWrongFalsely : Prop := shaTreesRow.holds Try.pinned (OpenSpec.ofChange shaTreesWrong)

/-- 'coadjutorlaw15.ConfBytes': WHATEVER THE INPUT: true; the input reads as it did. -/
def confBytesSpec : ChangeSpec := { name := "confBytes", fn := fun _ => fun
  | [d1, d2] => { results := [.lit (.bool true)], args := [d1, d2] }
  | _ => none }
def confBytesRow : OpenClaim := { program := "ytlciphmjkbihkaa", sum := "ddf5c5657813eb80306e606ee579086ecffef523a74c405f2d03d0bc291ed14a", func := "coadjutor/coadjutorlaw15.ConfBytes", spec := "confBytes", inPlace := ["internal/abi.NoEscape"], apart := false }
def ConfBytesSaid : Prop := confBytesRow.holds Try.pinned (OpenSpec.ofChange confBytesSpec)

/-- ITS FALSE NEIGHBOUR: 'it returns false'. Refute it at one input. -/
def confBytesWrong : ChangeSpec := { name := "confBytes", fn := fun _ => fun
  | [d1, d2] => { results := [.lit (.bool false)], args := [d1, d2] }
  | _ => none }
def ConfBytesWrongFalsely : Prop := confBytesRow.holds Try.pinned (OpenSpec.ofChange confBytesWrong)

/-- 'coadjutorlaw26.RouteExact': WHATEVER THE INPUT: true; the input reads as it did. -/
def routeExactSpec : ChangeSpec := { name := "routeExact", fn := fun _ => fun
  | [d1, d2, d3, d4] => { results := [.lit (.bool true)], args := [d1, d2, d3, d4] }
  | _ => none }
def routeExactRow : OpenClaim := { program := "ytlciphmjkbihkaa", sum := "ddf5c5657813eb80306e606ee579086ecffef523a74c405f2d03d0bc291ed14a", func := "coadjutor/coadjutorlaw26.RouteExact", spec := "routeExact", inPlace := ["internal/abi.NoEscape", "internal/bytealg.MakeNoZero"], apart := false }
def RouteExactSaid : Prop := routeExactRow.holds Try.pinned (OpenSpec.ofChange routeExactSpec)

/-- ITS FALSE NEIGHBOUR: 'it returns false'. Refute it at one input. -/
def routeExactWrong : ChangeSpec := { name := "routeExact", fn := fun _ => fun
  | [d1, d2, d3, d4] => { results := [.lit (.bool false)], args := [d1, d2, d3, d4] }
  | _ => none }
def RouteExactWrongFalsely : Prop := routeExactRow.holds Try.pinned (OpenSpec.ofChange routeExactWrong)

/-- 'coadjutorlaw26.RouteShares': WHATEVER THE INPUT: true; the input reads as it did. -/
def routeSharesSpec : ChangeSpec := { name := "routeShares", fn := fun _ => fun
  | [d1, d2, d3] => { results := [.lit (.bool true)], args := [d1, d2, d3] }
  | _ => none }
def routeSharesRow : OpenClaim := { program := "ytlciphmjkbihkaa", sum := "ddf5c5657813eb80306e606ee579086ecffef523a74c405f2d03d0bc291ed14a", func := "coadjutor/coadjutorlaw26.RouteShares", spec := "routeShares", inPlace := ["internal/abi.NoEscape", "internal/bytealg.MakeNoZero"], apart := false }
def RouteSharesSaid : Prop := routeSharesRow.holds Try.pinned (OpenSpec.ofChange routeSharesSpec)

/-- ITS FALSE NEIGHBOUR: 'it returns false'. Refute it at one input. -/
def routeSharesWrong : ChangeSpec := { name := "routeShares", fn := fun _ => fun
  | [d1, d2, d3] => { results := [.lit (.bool false)], args := [d1, d2, d3] }
  | _ => none }
def RouteSharesWrongFalsely : Prop := routeSharesRow.holds Try.pinned (OpenSpec.ofChange routeSharesWrong)

/-- 'coadjutorlaw26.RouteApart': WHATEVER THE INPUT: true; the input reads as it did. -/
def routeApartSpec : ChangeSpec := { name := "routeApart", fn := fun _ => fun
  | [d1, d2, d3, d4] => { results := [.lit (.bool true)], args := [d1, d2, d3, d4] }
  | _ => none }
def routeApartRow : OpenClaim := { program := "ytlciphmjkbihkaa", sum := "ddf5c5657813eb80306e606ee579086ecffef523a74c405f2d03d0bc291ed14a", func := "coadjutor/coadjutorlaw26.RouteApart", spec := "routeApart", inPlace := ["internal/abi.NoEscape", "internal/bytealg.MakeNoZero"], apart := false }
def RouteApartSaid : Prop := routeApartRow.holds Try.pinned (OpenSpec.ofChange routeApartSpec)

/-- ITS FALSE NEIGHBOUR: 'it returns false'. Refute it at one input. -/
def routeApartWrong : ChangeSpec := { name := "routeApart", fn := fun _ => fun
  | [d1, d2, d3, d4] => { results := [.lit (.bool false)], args := [d1, d2, d3, d4] }
  | _ => none }
def RouteApartWrongFalsely : Prop := routeApartRow.holds Try.pinned (OpenSpec.ofChange routeApartWrong)

/-- 'coadjutorlaw02.ShaText': WHATEVER THE INPUT: true; the input reads as it did. -/
def shaTextSpec : ChangeSpec := { name := "shaText", fn := fun _ => fun
  | [d1, d2] => { results := [.lit (.bool true)], args := [d1, d2] }
  | _ => none }
def shaTextRow : OpenClaim := { program := "ytlciphmjkbihkaa", sum := "ddf5c5657813eb80306e606ee579086ecffef523a74c405f2d03d0bc291ed14a", func := "coadjutor/coadjutorlaw02.ShaText", spec := "shaText", inPlace := ["internal/abi.NoEscape", "internal/bytealg.MakeNoZero", "internal/bytealg.IndexByteString"], recurses := true, apart := false }
def ShaTextSaid : Prop := shaTextRow.holds Try.pinned (OpenSpec.ofChange shaTextSpec)

/-- ITS FALSE NEIGHBOUR: 'it returns false'. Refute it at one input. -/
def shaTextWrong : ChangeSpec := { name := "shaText", fn := fun _ => fun
  | [d1, d2] => { results := [.lit (.bool false)], args := [d1, d2] }
  | _ => none }
def ShaTextWrongFalsely : Prop := shaTextRow.holds Try.pinned (OpenSpec.ofChange shaTextWrong)

/- THE SECOND FORM. 'bulk': how many values and letters a reading holds, each counted each time it is reached (what is shared counts as often as it is met; a slice's spare places count too). A statement '..UptoSaid' is the law's where the arguments, and the package variables that the reading takes, are together of bulk at most 1048576: NARROWER than '..Said'. Prove '..Said' where nothing that the law and all that it calls make is longer than what came in: it says more and counts as full. Else prove '..UptoSaid'. A law counts once. -/
mutual
def uptoBulk {H : Type} : DataW H → Nat
  | .lit (.string bytes) => bytes.length + 1
  | .lit _ => 1
  | .nil => 1
  | .ptr d => uptoBulk d + 1
  | .slice elems spare => uptoBulkAll elems + uptoBulkAll spare + 1
  | .agg parts => uptoBulkAll parts + 1
  | .iface _ d => uptoBulk d + 1
  | .map entries => uptoBulkEntries entries + 1
  | .held _ => 1
def uptoBulkAll {H : Type} : List (DataW H) → Nat
  | [] => 0
  | d :: r => uptoBulk d + uptoBulkAll r
def uptoBulkEntries {H : Type} : List (Lit × DataW H) → Nat
  | [] => 0
  | x :: r => uptoBulkEntry x + uptoBulkEntries r
def uptoBulkEntry {H : Type} : Lit × DataW H → Nat
  | (.string bytes, d) => bytes.length + uptoBulk d + 1
  | (_, d) => uptoBulk d + 1
 end
def uptoSmall : (H : Type) → List (DataW H) → Bool := fun _ ds => decide (uptoBulkAll ds ≤ 1048576)
def OpenSpec.upto (s : _root_.Go.ChangeSpec) : _root_.Go.OpenSpec := { _root_.Go.OpenSpec.ofChange s with cond := some uptoSmall }

/-- 'coadjutorlaw38.FairExact', WHERE WHAT IT READS IS OF BULK AT MOST 1048576: true; the input reads as it did. -/
def fairExactUptoRow : OpenClaim := { program := "ytlciphmjkbihkaa", sum := "ddf5c5657813eb80306e606ee579086ecffef523a74c405f2d03d0bc291ed14a", func := "coadjutor/coadjutorlaw38.FairExact", spec := "fairExact", unfollowed := true, recurses := true, apart := false, narrowed := true }
def FairExactUptoSaid : Prop := fairExactUptoRow.holds Try.pinned (OpenSpec.upto fairExactSpec)

/-- 'coadjutorlaw15.ConfExact', WHERE WHAT IT READS IS OF BULK AT MOST 1048576: true; the input reads as it did. -/
def confExactUptoRow : OpenClaim := { program := "ytlciphmjkbihkaa", sum := "ddf5c5657813eb80306e606ee579086ecffef523a74c405f2d03d0bc291ed14a", func := "coadjutor/coadjutorlaw15.ConfExact", spec := "confExact", inPlace := ["internal/abi.NoEscape"], apart := false, narrowed := true }
def ConfExactUptoSaid : Prop := confExactUptoRow.holds Try.pinned (OpenSpec.upto confExactSpec)

/-- 'coadjutorlaw15.ConfCover', WHERE WHAT IT READS IS OF BULK AT MOST 1048576: true; the input reads as it did. -/
def confCoverUptoRow : OpenClaim := { program := "ytlciphmjkbihkaa", sum := "ddf5c5657813eb80306e606ee579086ecffef523a74c405f2d03d0bc291ed14a", func := "coadjutor/coadjutorlaw15.ConfCover", spec := "confCover", inPlace := ["internal/abi.NoEscape"], apart := false, narrowed := true }
def ConfCoverUptoSaid : Prop := confCoverUptoRow.holds Try.pinned (OpenSpec.upto confCoverSpec)

/-- 'coadjutorlaw02.ShaExact', WHERE WHAT IT READS IS OF BULK AT MOST 1048576: true; the input reads as it did. -/
def shaExactUptoRow : OpenClaim := { program := "ytlciphmjkbihkaa", sum := "ddf5c5657813eb80306e606ee579086ecffef523a74c405f2d03d0bc291ed14a", func := "coadjutor/coadjutorlaw02.ShaExact", spec := "shaExact", inPlace := ["internal/abi.NoEscape", "internal/bytealg.MakeNoZero"], recurses := true, apart := false, narrowed := true }
def ShaExactUptoSaid : Prop := shaExactUptoRow.holds Try.pinned (OpenSpec.upto shaExactSpec)

/-- 'coadjutorlaw02.ShaTree', WHERE WHAT IT READS IS OF BULK AT MOST 1048576: true; the input reads as it did. -/
def shaTreeUptoRow : OpenClaim := { program := "ytlciphmjkbihkaa", sum := "ddf5c5657813eb80306e606ee579086ecffef523a74c405f2d03d0bc291ed14a", func := "coadjutor/coadjutorlaw02.ShaTree", spec := "shaTree", inPlace := ["internal/abi.NoEscape", "internal/bytealg.MakeNoZero"], recurses := true, apart := false, narrowed := true }
def ShaTreeUptoSaid : Prop := shaTreeUptoRow.holds Try.pinned (OpenSpec.upto shaTreeSpec)

/-- 'coadjutorlaw02.ShaParts', WHERE WHAT IT READS IS OF BULK AT MOST 1048576: true; the input reads as it did. -/
def shaPartsUptoRow : OpenClaim := { program := "ytlciphmjkbihkaa", sum := "ddf5c5657813eb80306e606ee579086ecffef523a74c405f2d03d0bc291ed14a", func := "coadjutor/coadjutorlaw02.ShaParts", spec := "shaParts", inPlace := ["internal/abi.NoEscape", "internal/bytealg.MakeNoZero"], recurses := true, apart := false, narrowed := true }
def ShaPartsUptoSaid : Prop := shaPartsUptoRow.holds Try.pinned (OpenSpec.upto shaPartsSpec)

/-- 'coadjutorlaw02.ShaTrees', WHERE WHAT IT READS IS OF BULK AT MOST 1048576: true; the input reads as it did. -/
def shaTreesUptoRow : OpenClaim := { program := "ytlciphmjkbihkaa", sum := "ddf5c5657813eb80306e606ee579086ecffef523a74c405f2d03d0bc291ed14a", func := "coadjutor/coadjutorlaw02.ShaTrees", spec := "shaTrees", inPlace := ["internal/abi.NoEscape", "internal/bytealg.MakeNoZero"], recurses := true, apart := false, narrowed := true }
def ShaTreesUptoSaid : Prop := shaTreesUptoRow.holds Try.pinned (OpenSpec.upto shaTreesSpec)

/-- 'coadjutorlaw15.ConfBytes', WHERE WHAT IT READS IS OF BULK AT MOST 1048576: true; the input reads as it did. -/
def confBytesUptoRow : OpenClaim := { program := "ytlciphmjkbihkaa", sum := "ddf5c5657813eb80306e606ee579086ecffef523a74c405f2d03d0bc291ed14a", func := "coadjutor/coadjutorlaw15.ConfBytes", spec := "confBytes", inPlace := ["internal/abi.NoEscape"], apart := false, narrowed := true }
def ConfBytesUptoSaid : Prop := confBytesUptoRow.holds Try.pinned (OpenSpec.upto confBytesSpec)

/-- 'coadjutorlaw26.RouteExact', WHERE WHAT IT READS IS OF BULK AT MOST 1048576: true; the input reads as it did. -/
def routeExactUptoRow : OpenClaim := { program := "ytlciphmjkbihkaa", sum := "ddf5c5657813eb80306e606ee579086ecffef523a74c405f2d03d0bc291ed14a", func := "coadjutor/coadjutorlaw26.RouteExact", spec := "routeExact", inPlace := ["internal/abi.NoEscape", "internal/bytealg.MakeNoZero"], apart := false, narrowed := true }
def RouteExactUptoSaid : Prop := routeExactUptoRow.holds Try.pinned (OpenSpec.upto routeExactSpec)

/-- 'coadjutorlaw26.RouteShares', WHERE WHAT IT READS IS OF BULK AT MOST 1048576: true; the input reads as it did. -/
def routeSharesUptoRow : OpenClaim := { program := "ytlciphmjkbihkaa", sum := "ddf5c5657813eb80306e606ee579086ecffef523a74c405f2d03d0bc291ed14a", func := "coadjutor/coadjutorlaw26.RouteShares", spec := "routeShares", inPlace := ["internal/abi.NoEscape", "internal/bytealg.MakeNoZero"], apart := false, narrowed := true }
def RouteSharesUptoSaid : Prop := routeSharesUptoRow.holds Try.pinned (OpenSpec.upto routeSharesSpec)

/-- 'coadjutorlaw26.RouteApart', WHERE WHAT IT READS IS OF BULK AT MOST 1048576: true; the input reads as it did. -/
def routeApartUptoRow : OpenClaim := { program := "ytlciphmjkbihkaa", sum := "ddf5c5657813eb80306e606ee579086ecffef523a74c405f2d03d0bc291ed14a", func := "coadjutor/coadjutorlaw26.RouteApart", spec := "routeApart", inPlace := ["internal/abi.NoEscape", "internal/bytealg.MakeNoZero"], apart := false, narrowed := true }
def RouteApartUptoSaid : Prop := routeApartUptoRow.holds Try.pinned (OpenSpec.upto routeApartSpec)

/-- 'coadjutorlaw02.ShaText', WHERE WHAT IT READS IS OF BULK AT MOST 1048576: true; the input reads as it did. -/
def shaTextUptoRow : OpenClaim := { program := "ytlciphmjkbihkaa", sum := "ddf5c5657813eb80306e606ee579086ecffef523a74c405f2d03d0bc291ed14a", func := "coadjutor/coadjutorlaw02.ShaText", spec := "shaText", inPlace := ["internal/abi.NoEscape", "internal/bytealg.MakeNoZero", "internal/bytealg.IndexByteString"], recurses := true, apart := false, narrowed := true }
def ShaTextUptoSaid : Prop := shaTextUptoRow.holds Try.pinned (OpenSpec.upto shaTextSpec)

end Rows
end Go.Proofs.Ytlciphmjkbihkaa
