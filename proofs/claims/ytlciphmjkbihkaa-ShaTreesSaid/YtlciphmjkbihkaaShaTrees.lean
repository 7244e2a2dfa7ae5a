/- ShaTrees, for every input: the call returns true, whatever the row of sums and the number are; each argument reads as it did. No condition. -/
import Derived.Test.YtlciphmjkbihkaaRows
import Derived.Test.YtlciphmjkbihkaaShaH
import Derived.Test.YtlciphmjkbihkaaOpen
import Derived.ProofKit
import Derived.OpenShut
import Derived.ShutString
import Derived.ChangeOld
import Derived.Below
namespace Go.Proofs.Ytlciphmjkbihkaa.ShaTreesDone
open Go.ChangeShapes Go.WideShapes Go.ChangeAt Go.RowKit
open Go.ChangeMaps (open_string shut_string)

theorem own : ownKnob Try.prog.godebug = none := by kernel_rfl
theorem laidOut : laidOutB Try.prog = true := by kernel_rfl

theorem walk (v : Value) (x : Int) (w : World) (h : (∃ a cap, v = .slice a 0 cap) ∨ ∃ (bk o cap : Nat) (ds : List (List UInt8)), v = .slice (some ⟨bk, o, none⟩) ds.length cap ∧ ds ≠ [] ∧ ds.length ≤ maxLen ∧ Wide ds ∧ Digs w v ds) :
    Calls Try.prog 9 #[v, .int .i64 x] w fun e w' => e = .returned (.bool true) ∧ Below w.heap.size w w' := by
  obtain ⟨E, N, M, hE, hN⟩ : ∃ (E : Int) (N M : Nat), (IntKind.u64.wrap x).tmod 4 = E ∧ ((E = 0 ∧ N = 1 ∧ M = 32) ∨ (E = 1 ∧ N = 2 ∧ M = 64) ∨ (E = 2 ∧ N = 4 ∧ M = 128) ∨ (E = 3 ∧ N = 8 ∧ M = 256)) := by
    have h0 : 0 ≤ IntKind.u64.wrap x := by
      have : IntKind.u64.wrap x = x % 18446744073709551616 := rfl
      rw [this]
      exact Int.emod_nonneg _ (by decide)
    have h1 : 0 ≤ (IntKind.u64.wrap x).tmod 4 := Int.tmod_nonneg _ h0
    have h2 : (IntKind.u64.wrap x).tmod 4 < 4 := Int.tmod_lt_of_pos _ (by decide)
    have : (IntKind.u64.wrap x).tmod 4 = 0 ∨ (IntKind.u64.wrap x).tmod 4 = 1 ∨ (IntKind.u64.wrap x).tmod 4 = 2 ∨ (IntKind.u64.wrap x).tmod 4 = 3 := by omega
    rcases this with h | h | h | h
    · exact ⟨0, 1, 32, h, .inl ⟨rfl, rfl, rfl⟩⟩
    · exact ⟨1, 2, 64, h, .inr (.inl ⟨rfl, rfl, rfl⟩)⟩
    · exact ⟨2, 4, 128, h, .inr (.inr (.inl ⟨rfl, rfl, rfl⟩))⟩
    · exact ⟨3, 8, 256, h, .inr (.inr (.inr ⟨rfl, rfl, rfl⟩))⟩
  have hN' : (E = 0 ∧ N = 1) ∨ (E = 1 ∧ N = 2) ∨ (E = 2 ∧ N = 4) ∨ (E = 3 ∧ N = 8) := by omega
  rcases h with ⟨a, cap, rfl⟩ | ⟨bk, o, cap, ds, rfl, _, _, hw, hd⟩
  · exact (trees_far a 0 cap x w E N hN' hE (by omega)).mono fun e w' ⟨he, ho⟩ => ⟨he, ho.below⟩
  · by_cases hf : ds.length ≤ N ∨ 2 * N < ds.length
    · exact (trees_far _ _ cap x w E N hN' hE hf).mono fun e w' ⟨he, ho⟩ => ⟨he, ho.below⟩
    · exact (trees_near bk o cap ds x w E N M hN hE (by omega) (by omega) hw hd).mono fun e w' ⟨he, ho⟩ => ⟨he, ho.below⟩

set_option maxRecDepth 100000 in
theorem lifted (os : Os) (started : os.Started) (H : Type) (enc : TypeId × Value → H) :
    ReturnsInHanded {} Try.checked os 9 .any (Rows.shaTreesSpec.pre6 enc Try.prog Try.f9 Rows.shaTreesRow.domain false) (Rows.shaTreesSpec.post enc Try.prog Try.f9 false true false false) := by
  refine returnsInHanded_of_change (C := Try.checked) own started (by kernel_rfl) Try.func9
    (ChangeSpec.witness6 (enc := enc) (C := Try.checked) false ⟨#[], #[.slice none 0 0, .int .i64 0], []⟩ 8 (by kernel_rfl) (by kernel_rfl) (by kernel_rfl) (by kernel_rfl)) ?_
  intro W base args ds gs before hval0 hW hcnd _
  have hval : ∀ (j : Nat) t v, Try.f9.params[j]? = some t → args[j]? = some v → Value.okWide Try.prog W .any base t v := hval0
  have hW' := hW
  obtain ⟨p, q, hA0, hV, rfl, hfz, hnd⟩ := hW
  have hA : DataW.TrodAll enc Try.prog W 0 (fun _ => true) true Try.f9.params.toList args.toList ds p := hA0
  rw [Try.params9] at hA hval
  obtain ⟨v0, vs0, d0, ds0, p0, q0, hargs, rfl, rfl, h0, r0⟩ := trodAll_cons hA
  obtain ⟨v1, vs1, d1, ds1, p1, q1, rfl, rfl, rfl, h1, r1⟩ := trodAll_cons r0
  obtain ⟨rfl, rfl, rfl⟩ := trodAll_nil r1
  obtain rfl : args = #[v0, v1] := by cases args; simp_all
  obtain ⟨rfl, rfl⟩ := trodVars_none hV
  obtain ⟨a0, len0, cap0, rfl⟩ := okWide_slice Try.underlying62 (hval 0 62 v0 rfl rfl)
  have k0 := h0
  have lt0 : ∀ x ∈ p0, x.block < W.heap.size := by obtain ⟨m, hm⟩ := k0; exact DataW.trod_lt m _ _ _ hm
  obtain ⟨fuel, hf⟩ := h0
  have w0 := open_digs Try.underlying62 Try.underlying57 Try.underlying5 (by kernel_rfl) (by kernel_rfl) hf
  obtain ⟨x, rfl, rfl, rfl, wx⟩ := open_int Try.underlying3 (hval 1 3 v1 rfl rfl) h1
  clear hA0 hval0
  refine (walk _ x W w0).mono fun e W' ⟨he, bel⟩ => ?_
  subst he
  exact ⟨_, rfl, _, _, _, [], _, [], hW', trodAll_mk1 (shut_bool Try.underlying4 _), (trodAll_cons_mk (Below.trod laidOut (by kernel_rfl) (of_decide_eq_true (by kernel_rfl)) k0 bel lt0) (trodAll_cons_mk (shut_int Try.underlying3 wx) trodAll_mk0)), rfl, bel.frame _, fun h => by cases h⟩
end Go.Proofs.Ytlciphmjkbihkaa.ShaTreesDone

namespace Go.Proofs.Ytlciphmjkbihkaa
open Go.ChangeShapes Go.WideShapes Go.ChangeAt Go.RowKit
theorem shaTrees_holds : Rows.ShaTreesSaid :=
  OpenClaim.holds_of_wide 9 Try.f9 rfl rfl rfl rfl rfl rfl rfl ⟨rfl, rfl, rfl, rfl, rfl⟩ rfl rfl rfl rfl rfl (by kernel_rfl) Try.func9 (by kernel_rfl)
    (of_decide_eq_true (by kernel_rfl)) (by unfold Func.isWrapper; rw [if_neg (of_decide_eq_false (by kernel_rfl))]; exact ⟨rfl, rfl⟩)
    (fun os started H enc _ => ShaTreesDone.lifted os started H enc)
end Go.Proofs.Ytlciphmjkbihkaa
