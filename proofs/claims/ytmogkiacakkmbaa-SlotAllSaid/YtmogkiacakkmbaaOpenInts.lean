/- What comes in: a row of numbers, as it reads. -/
import Derived.Test.YtmogkiacakkmbaaPen
import Derived.ProofKit
import Derived.OpenShut
import Derived.Deep.Slices
import Derived.Deep.Strs
namespace Go.Proofs.Ytmogkiacakkmbaa
open Go.ChangeShapes Go.WideShapes Go.ChangeAt Go.RowKit

theorem addr_addI (b i j : Nat) : (⟨b, i, none⟩ : Addr).add j = ⟨b, i + j, none⟩ := by unfold Addr.add; split <;> simp_all

section
variable {H : Type} {enc : TypeId × Value → H} {P : Program} {w : World} {base : Nat} {sp : Nat → Bool} {held : Bool}
theorem open_ints_any {t e : TypeId} {fuel : Nat} {v : Value} {x : DataW H × List MemPlace} (ht : P.underlying t = some (.slice e)) (he : P.underlying e = some (.int .i64)) (hc : P.cellsOf e = 1)
    (h : DataW.trod enc P w base sp held fuel t [v] = some x) : ∃ xs : List Int, Ints w v xs ∧ xs.length ≤ maxLen := by
  rcases Go.Deep.open_slice1 ht hc h with ⟨hcs, _⟩ | ⟨a, len, cap, m, n, V, D, Pl, hcs, hb, hl, hm, hmm, _, hx⟩
  · simp at hcs
    exact ⟨[], .inl ⟨⟨none, 0, hcs⟩, rfl⟩, by simp⟩
  · simp at hcs
    by_cases h0 : len = 0
    · subst h0
      exact ⟨[], .inl ⟨⟨some a, cap, hcs⟩, rfl⟩, by simp⟩
    · have hml : len ≤ m := by split at hmm <;> omega
      have each : ∀ i, i < m → ∃ z : Int, V i = .int .i64 z := fun i hi => by
        obtain ⟨z, hz, _, _⟩ := DataW.trod_int he (hx i hi).2
        simp at hz
        exact ⟨z, hz⟩
      have h1 := (hx 0 (by omega)).1
      obtain ⟨bk, o, spot⟩ := a
      have hspot : spot = none := by
        have := World.cell?_spot h1
        simpa [Addr.add] using this
      subst hspot
      have hlt : bk < w.heap.size := by
        have hh := h1
        rw [addr_addI] at hh
        rcases Nat.lt_or_ge bk w.heap.size with hl | hl
        · exact hl
        · simp [World.cell?, Array.getElem?_eq_none hl] at hh
      let Z : Nat → Int := fun i => match V i with | .int _ z => z | _ => 0
      have hZ : ∀ i, i < m → V i = .int .i64 (Z i) := fun i hi => by
        obtain ⟨z, hz⟩ := each i hi
        show V i = .int .i64 (match V i with | .int _ z => z | _ => 0)
        rw [hz]
      refine ⟨(List.range len).map Z, .inr ⟨bk, o, cap, by simpa using hcs, fun j y hj => ?_, hlt, by simpa using hl⟩, by simp; omega⟩
      rw [List.getElem?_map] at hj
      cases hr : (List.range len)[j]? with
      | none => rw [hr] at hj; simp at hj
      | some i =>
        have hjl : j < len := by have := (List.getElem?_eq_some_iff.1 hr).1; simpa using this
        have hi := List.getElem?_range hjl
        rw [hr] at hi
        injection hi with hi
        subst hi
        rw [hr] at hj
        simp at hj
        subst hj
        have := (hx i (by omega)).1
        rwa [addr_addI, hZ i (by omega)] at this
end

end Go.Proofs.Ytmogkiacakkmbaa
