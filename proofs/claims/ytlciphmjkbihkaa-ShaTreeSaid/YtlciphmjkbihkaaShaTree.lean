/- ShaTree, for every input: the call returns true, whatever the row of sums is; the argument reads as it did. No condition. -/
import Derived.Test.YtlciphmjkbihkaaRows
import Derived.Test.YtlciphmjkbihkaaRefK
import Derived.Test.YtlciphmjkbihkaaOpen
import Derived.ProofKit
import Derived.OpenShut
import Derived.ShutString
import Derived.ChangeOld
import Derived.Below
namespace Go.Proofs.Ytlciphmjkbihkaa.ShaTreeDone
open Go.ChangeShapes Go.WideShapes Go.ChangeAt Go.RowKit
open Go.ChangeMaps (open_string shut_string)

theorem own : ownKnob Try.prog.godebug = none := by kernel_rfl
theorem laidOut : laidOutB Try.prog = true := by kernel_rfl

theorem walk (v : Value) (w : World) (h : (∃ a cap, v = .slice a 0 cap) ∨ ∃ (bk o cap : Nat) (ds : List (List UInt8)), v = .slice (some ⟨bk, o, none⟩) ds.length cap ∧ ds ≠ [] ∧ ds.length ≤ maxLen ∧ Wide ds ∧ Digs w v ds) :
    Calls Try.prog 7 #[v] w fun e w' => e = .returned (.bool true) ∧ Below w.heap.size w w' := by
  rcases h with ⟨a, cap, rfl⟩ | ⟨bk, o, cap, ds, rfl, h1, h2, h3, h4⟩
  · exact (treeLaw_none a cap w).mono fun _ _ ⟨he, ho⟩ => ⟨he, ho.below⟩
  · exact (treeLaw_many bk o cap ds w h1 h2 h3 h4).mono fun _ _ ⟨he, ho⟩ => ⟨he, ho.below⟩

set_option maxRecDepth 100000 in
theorem lifted (os : Os) (started : os.Started) (H : Type) (enc : TypeId × Value → H) :
    ReturnsInHanded {} Try.checked os 7 .any (Rows.shaTreeSpec.pre6 enc Try.prog Try.f7 Rows.shaTreeRow.domain false) (Rows.shaTreeSpec.post enc Try.prog Try.f7 false true false false) := by
  refine returnsInHanded_of_change (C := Try.checked) own started (by kernel_rfl) Try.func7
    (ChangeSpec.witness6 (enc := enc) (C := Try.checked) false ⟨#[], #[.slice none 0 0], []⟩ 8 (by kernel_rfl) (by kernel_rfl) (by kernel_rfl) (by kernel_rfl)) ?_
  intro W base args ds gs before hval0 hW hcnd _
  have hval : ∀ (j : Nat) t v, Try.f7.params[j]? = some t → args[j]? = some v → Value.okWide Try.prog W .any base t v := hval0
  have hW' := hW
  obtain ⟨p, q, hA0, hV, rfl, hfz, hnd⟩ := hW
  have hA : DataW.TrodAll enc Try.prog W 0 (fun _ => true) true Try.f7.params.toList args.toList ds p := hA0
  rw [Try.params7] at hA hval
  obtain ⟨v0, vs0, d0, ds0, p0, q0, hargs, rfl, rfl, h0, r0⟩ := trodAll_cons hA
  obtain ⟨rfl, rfl, rfl⟩ := trodAll_nil r0
  obtain rfl : args = #[v0] := by cases args; simp_all
  obtain ⟨rfl, rfl⟩ := trodVars_none hV
  obtain ⟨a0, len0, cap0, rfl⟩ := okWide_slice Try.underlying62 (hval 0 62 v0 rfl rfl)
  have k0 := h0
  have lt0 : ∀ x ∈ p0, x.block < W.heap.size := by obtain ⟨m, hm⟩ := k0; exact DataW.trod_lt m _ _ _ hm
  obtain ⟨fuel, hf⟩ := h0
  have w0 := open_digs Try.underlying62 Try.underlying57 Try.underlying5 (by kernel_rfl) (by kernel_rfl) hf
  clear hA0 hval0
  refine (walk _ W w0).mono fun e W' ⟨he, bel⟩ => ?_
  subst he
  exact ⟨_, rfl, _, _, _, [], _, [], hW', trodAll_mk1 (shut_bool Try.underlying4 _), (trodAll_cons_mk (Below.trod laidOut (by kernel_rfl) (of_decide_eq_true (by kernel_rfl)) k0 bel lt0) trodAll_mk0), rfl, bel.frame _, fun h => by cases h⟩
end Go.Proofs.Ytlciphmjkbihkaa.ShaTreeDone

namespace Go.Proofs.Ytlciphmjkbihkaa
open Go.ChangeShapes Go.WideShapes Go.ChangeAt Go.RowKit
theorem shaTree_holds : Rows.ShaTreeSaid :=
  OpenClaim.holds_of_wide 7 Try.f7 rfl rfl rfl rfl rfl rfl rfl ⟨rfl, rfl, rfl, rfl, rfl⟩ rfl rfl rfl rfl rfl (by kernel_rfl) Try.func7 (by kernel_rfl)
    (of_decide_eq_true (by kernel_rfl)) (by unfold Func.isWrapper; rw [if_neg (of_decide_eq_false (by kernel_rfl))]; exact ⟨rfl, rfl⟩)
    (fun os started H enc _ => ShaTreeDone.lifted os started H enc)
end Go.Proofs.Ytlciphmjkbihkaa
