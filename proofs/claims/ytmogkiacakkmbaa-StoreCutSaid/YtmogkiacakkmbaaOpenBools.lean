/- What comes in: a row of bools, as it reads. -/
import Derived.Test.YtmogkiacakkmbaaDskA
import Derived.ProofKit
import Derived.OpenShut
import Derived.Deep.Slices
import Derived.Deep.Strs
namespace Go.Proofs.Ytmogkiacakkmbaa
open Go.ChangeShapes Go.WideShapes Go.ChangeAt Go.RowKit

section
variable {H : Type} {enc : TypeId × Value → H} {P : Program} {w : World} {base : Nat} {sp : Nat → Bool} {held : Bool}
theorem open_bools_any {t e : TypeId} {fuel : Nat} {v : Value} {x : DataW H × List MemPlace} (ht : P.underlying t = some (.slice e)) (he : P.underlying e = some .bool) (hc : P.cellsOf e = 1)
    (h : DataW.trod enc P w base sp held fuel t [v] = some x) : ∃ xs kb, Bools w v xs kb := by
  rcases Go.Deep.open_slice1 ht hc h with ⟨hcs, _⟩ | ⟨a, len, cap, m, n, V, D, Pl, hcs, hb, hl, hm, hmm, _, hx⟩
  · simp at hcs
    exact ⟨[], [], .inl ⟨rfl, rfl, none, 0, hcs⟩⟩
  · simp at hcs
    by_cases h0 : len = 0
    · subst h0
      exact ⟨[], [], .inl ⟨rfl, rfl, some a, cap, hcs⟩⟩
    · have hml : len ≤ m := by split at hmm <;> omega
      have each : ∀ i, i < m → ∃ z : Bool, V i = .bool z := fun i hi => by
        obtain ⟨z, hz, _⟩ := DataW.trod_bool he (hx i hi).2
        simp at hz
        exact ⟨z, hz⟩
      have h1 := (hx 0 (by omega)).1
      obtain ⟨bk, o, spot⟩ := a
      have hspot : spot = none := by
        have := World.cell?_spot h1
        simpa [Addr.add] using this
      subst hspot
      have hlt : bk < w.heap.size := by
        have hh := h1
        rw [addr_addD] at hh
        rcases Nat.lt_or_ge bk w.heap.size with hl | hl
        · exact hl
        · simp [World.cell?, Array.getElem?_eq_none hl] at hh
      let Z : Nat → Bool := fun i => match V i with | .bool z => z | _ => false
      have hZ : ∀ i, i < m → V i = .bool (Z i) := fun i hi => by
        obtain ⟨z, hz⟩ := each i hi
        show V i = .bool (match V i with | .bool z => z | _ => false)
        rw [hz]
      refine ⟨(List.range len).map Z, [bk], .inr ⟨bk, o, cap, by simpa using hcs, rfl, hlt, by simpa using hl, fun j hj => ?_⟩⟩
      have hj' : j < len := by simpa using hj
      have := (hx j (by omega)).1
      rw [addr_addD, hZ j (by omega)] at this
      rw [this]
      simp [List.getD_eq_getElem?_getD, hj']
end

end Go.Proofs.Ytmogkiacakkmbaa
