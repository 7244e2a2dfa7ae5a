/- The law TwinExact, lifted. -/
import Derived.Test.YtmogkiacakkmbaaRows
import Derived.Test.YtmogkiacakkmbaaTwinV
import Derived.ProofKit
import Derived.OpenShut
import Derived.ShutString
import Derived.ChangeOld
import Derived.Below
import Derived.Test.YtmogkiacakkmbaaDskA
import Derived.Deep.Slices
import Derived.Deep.Strs
namespace Go.Proofs.Ytmogkiacakkmbaa
open Go.ChangeShapes Go.WideShapes Go.ChangeAt Go.RowKit

section
variable {H : Type} {enc : TypeId × Value → H} {P : Program} {w : World} {base : Nat} {sp : Nat → Bool} {held : Bool}
/-- A row of texts, as it can be read. -/
theorem open_strs_any {t e : TypeId} {fuel : Nat} {v : Value} {x : DataW H × List MemPlace} (ht : P.underlying t = some (.slice e)) (he : P.underlying e = some .string) (hc : P.cellsOf e = 1)
    (h : DataW.trod enc P w base sp held fuel t [v] = some x) : ∃ xs : List ByteArray, Strs w v xs ∧ xs.length ≤ maxLen := by
  rcases Go.Deep.open_strs ht he hc h with ⟨hcs, _⟩ | ⟨a, len, cap, m, Sx, hcs, hb, hl, hm, hmm, _, hx⟩
  · simp at hcs
    exact ⟨[], .inl ⟨⟨none, 0, hcs⟩, rfl⟩, by simp⟩
  · simp at hcs
    by_cases h0 : len = 0
    · subst h0
      exact ⟨[], .inl ⟨⟨some a, cap, hcs⟩, rfl⟩, by simp⟩
    · have hml : len ≤ m := by split at hmm <;> omega
      have h1 := (hx 0 (by omega)).1
      obtain ⟨bk, o, spot⟩ := a
      have hspot : spot = none := by
        have := World.cell?_spot h1
        simpa [Addr.add] using this
      subst hspot
      have hlt : bk < w.heap.size := by
        have hh := h1
        rw [addr_addD] at hh
        rcases Nat.lt_or_ge bk w.heap.size with hl | hl
        · exact hl
        · simp [World.cell?, Array.getElem?_eq_none hl] at hh
      refine ⟨(List.range len).map Sx, .inr ⟨bk, o, cap, by simpa using hcs, fun j y hj => ?_, hlt, by simpa using hl⟩, by simp; omega⟩
      rw [List.getElem?_map] at hj
      cases hr : (List.range len)[j]? with
      | none => rw [hr] at hj; simp at hj
      | some i =>
        have hi := List.getElem?_range (n := len) (i := j) (by have := (List.getElem?_eq_some_iff.1 hr).1; simpa using this)
        rw [hr] at hi
        injection hi with hi
        subst hi
        rw [hr] at hj
        simp at hj
        subst hj
        have hjl : i < len := by have := (List.getElem?_eq_some_iff.1 hr).1; simpa using this
        have := (hx i (by omega)).1
        rwa [addr_addD] at this
end

end Go.Proofs.Ytmogkiacakkmbaa

namespace Go.Proofs.Ytmogkiacakkmbaa.TwinExactDone
open Go.ChangeShapes Go.WideShapes Go.ChangeAt Go.RowKit
open Go.ChangeMaps (open_string shut_string)

theorem own : ownKnob Try.prog.godebug = none := by kernel_rfl
theorem laidOut : laidOutB Try.prog = true := by kernel_rfl

set_option maxRecDepth 100000 in
theorem lifted (os : Os) (started : os.Started) (H : Type) (enc : TypeId × Value → H) :
    ReturnsInHanded {} Try.checked os 5 .any (Rows.twinExactSpec.pre6 enc Try.prog Try.f5 Rows.twinExactRow.domain false) (Rows.twinExactSpec.post enc Try.prog Try.f5 false true false false) := by
  refine returnsInHanded_of_change (C := Try.checked) own started (by kernel_rfl) Try.func5
    (ChangeSpec.witness6 (enc := enc) (C := Try.checked) false ⟨#[], #[.string ⟨#[]⟩, .slice none 0 0], []⟩ 8 (by kernel_rfl) (by kernel_rfl) (by kernel_rfl) (by kernel_rfl)) ?_
  intro W base args ds gs before hval0 hW hcnd _
  have hval : ∀ (j : Nat) t v, Try.f5.params[j]? = some t → args[j]? = some v → Value.okWide Try.prog W .any base t v := hval0
  have hW' := hW
  obtain ⟨p, q, hA0, hV, rfl, hfz, hnd⟩ := hW
  have hA : DataW.TrodAll enc Try.prog W 0 (fun _ => true) true Try.f5.params.toList args.toList ds p := hA0
  rw [Try.params5] at hA hval
  obtain ⟨v0, vs0, d0, ds0, p0, q0, hargs, rfl, rfl, h0, r0⟩ := trodAll_cons hA
  obtain ⟨v1, vs1, d1, ds1, p1, q1, rfl, rfl, rfl, h1, r1⟩ := trodAll_cons r0
  obtain ⟨rfl, rfl, rfl⟩ := trodAll_nil r1
  obtain rfl : args = #[v0, v1] := by cases args; simp_all
  obtain ⟨rfl, rfl⟩ := trodVars_none hV
  obtain ⟨x0, rfl, rfl, rfl, w0⟩ := open_string Try.underlying9 (hval 0 9 v0 rfl rfl) h0
  obtain ⟨a1, len1, cap1, rfl⟩ := okWide_slice Try.underlying40 (hval 1 40 v1 rfl rfl)
  have k1 := h1
  have lt1 : ∀ x ∈ p1, x.block < W.heap.size := by obtain ⟨m, hm⟩ := k1; exact DataW.trod_lt m _ _ _ hm
  obtain ⟨fuel1, hf1⟩ := h1
  obtain ⟨x1, w1, hlen1⟩ := open_strs_any Try.underlying40 Try.underlying9 (by kernel_rfl) hf1
  clear hA0 hval0
  refine (twinExact_walk x0 _ x1 W w1 hlen1).mono fun e W' ⟨he, only⟩ => ?_
  have bel := only.below
  subst he
  exact ⟨_, rfl, _, _, _, [], _, [], hW', trodAll_mk1 (shut_bool Try.underlying4 _), (trodAll_cons_mk (shut_string Try.underlying9 w0) (trodAll_cons_mk (Below.trod laidOut (by kernel_rfl) (of_decide_eq_true (by kernel_rfl)) k1 bel lt1) trodAll_mk0)), rfl, bel.frame _, fun h => by cases h⟩
end Go.Proofs.Ytmogkiacakkmbaa.TwinExactDone

namespace Go.Proofs.Ytmogkiacakkmbaa
open Go.ChangeShapes Go.WideShapes Go.ChangeAt Go.RowKit
theorem twinExact_holds : Rows.TwinExactSaid :=
  OpenClaim.holds_of_wide 5 Try.f5 rfl rfl rfl rfl rfl rfl rfl ⟨rfl, rfl, rfl, rfl, rfl⟩ rfl rfl rfl rfl rfl (by kernel_rfl) Try.func5 (by kernel_rfl)
    (of_decide_eq_true (by kernel_rfl)) (by unfold Func.isWrapper; rw [if_neg (of_decide_eq_false (by kernel_rfl))]; exact ⟨rfl, rfl⟩)
    (fun os started H enc _ => TwinExactDone.lifted os started H enc)
end Go.Proofs.Ytmogkiacakkmbaa
