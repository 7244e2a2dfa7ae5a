/- What comes in: a row of texts, as it reads. -/
import Derived.Test.YtmogkiacakkmbaaDskA
import Derived.ProofKit
import Derived.OpenShut
import Derived.Deep.Slices
import Derived.Deep.Strs
namespace Go.Proofs.Ytmogkiacakkmbaa
open Go.ChangeShapes Go.WideShapes Go.ChangeAt Go.RowKit

section
variable {H : Type} {enc : TypeId × Value → H} {P : Program} {w : World} {base : Nat} {sp : Nat → Bool} {held : Bool}
/-- A row of texts, as it can be read. -/
theorem open_strs_any {t e : TypeId} {fuel : Nat} {v : Value} {x : DataW H × List MemPlace} (ht : P.underlying t = some (.slice e)) (he : P.underlying e = some .string) (hc : P.cellsOf e = 1)
    (h : DataW.trod enc P w base sp held fuel t [v] = some x) : ∃ xs : List ByteArray, Strs w v xs ∧ xs.length ≤ maxLen := by
  rcases Go.Deep.open_strs ht he hc h with ⟨hcs, _⟩ | ⟨a, len, cap, m, Sx, hcs, hb, hl, hm, hmm, _, hx⟩
  · simp at hcs
    exact ⟨[], .inl ⟨⟨none, 0, hcs⟩, rfl⟩, by simp⟩
  · simp at hcs
    by_cases h0 : len = 0
    · subst h0
      exact ⟨[], .inl ⟨⟨some a, cap, hcs⟩, rfl⟩, by simp⟩
    · have hml : len ≤ m := by split at hmm <;> omega
      have h1 := (hx 0 (by omega)).1
      obtain ⟨bk, o, spot⟩ := a
      have hspot : spot = none := by
        have := World.cell?_spot h1
        simpa [Addr.add] using this
      subst hspot
      have hlt : bk < w.heap.size := by
        have hh := h1
        rw [addr_addD] at hh
        rcases Nat.lt_or_ge bk w.heap.size with hl | hl
        · exact hl
        · simp [World.cell?, Array.getElem?_eq_none hl] at hh
      refine ⟨(List.range len).map Sx, .inr ⟨bk, o, cap, by simpa using hcs, fun j y hj => ?_, hlt, by simpa using hl⟩, by simp; omega⟩
      rw [List.getElem?_map] at hj
      cases hr : (List.range len)[j]? with
      | none => rw [hr] at hj; simp at hj
      | some i =>
        have hi := List.getElem?_range (n := len) (i := j) (by have := (List.getElem?_eq_some_iff.1 hr).1; simpa using this)
        rw [hr] at hi
        injection hi with hi
        subst hi
        rw [hr] at hj
        simp at hj
        subst hj
        have hjl : i < len := by have := (List.getElem?_eq_some_iff.1 hr).1; simpa using this
        have := (hx i (by omega)).1
        rwa [addr_addD] at this
end

end Go.Proofs.Ytmogkiacakkmbaa
