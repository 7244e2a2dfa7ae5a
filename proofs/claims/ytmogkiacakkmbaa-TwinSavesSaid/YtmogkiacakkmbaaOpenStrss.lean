/- What comes in: a row of rows of texts, as it reads. -/
import Derived.Test.YtmogkiacakkmbaaOpenStrs
import Derived.Test.YtmogkiacakkmbaaTwinL
namespace Go.Proofs.Ytmogkiacakkmbaa
open Go.ChangeShapes Go.WideShapes Go.ChangeAt Go.RowKit

section
variable {H : Type} {enc : TypeId × Value → H} {P : Program} {w : World} {base : Nat} {sp : Nat → Bool} {held : Bool}
/-- A row of rows of texts, as it can be read. -/
theorem open_strss_any {t e s : TypeId} {fuel : Nat} {v : Value} {x : DataW H × List MemPlace} (ht : P.underlying t = some (.slice e)) (he : P.underlying e = some (.slice s)) (hs : P.underlying s = some .string) (hc : P.cellsOf e = 1) (hcs : P.cellsOf s = 1)
    (h : DataW.trod enc P w base sp held fuel t [v] = some x) : ∃ xss, StrsS w v xss := by
  rcases Go.Deep.open_slice1 ht hc h with ⟨hcs, _⟩ | ⟨a, len, cap, m, n, V, D, Pl, hcv, hb, hl, hm, hmm, _, hx⟩
  · simp at hcs
    exact ⟨[], .inl ⟨⟨none, 0, hcs⟩, rfl⟩⟩
  · simp at hcv
    by_cases h0 : len = 0
    · subst h0
      exact ⟨[], .inl ⟨⟨some a, cap, hcv⟩, rfl⟩⟩
    · have hml : len ≤ m := by split at hmm <;> omega
      have each : ∀ i, i < m → ∃ l, Strs w (V i) l := fun i hi => by
        obtain ⟨l, hl, _⟩ := open_strs_any he hs hcs (hx i hi).2
        exact ⟨l, hl⟩
      have h1 := (hx 0 (by omega)).1
      obtain ⟨bk, o, spot⟩ := a
      have hspot : spot = none := by
        have := World.cell?_spot h1
        simpa [Addr.add] using this
      subst hspot
      have hlt : bk < w.heap.size := by
        have hh := h1
        rw [addr_addD] at hh
        rcases Nat.lt_or_ge bk w.heap.size with hl | hl
        · exact hl
        · simp [World.cell?, Array.getElem?_eq_none hl] at hh
      let Z : Nat → List ByteArray := fun i => if hi : i < m then (each i hi).choose else []
      have hZ : ∀ i, i < m → Strs w (V i) (Z i) := fun i hi => by
        show Strs w (V i) (if hi : i < m then (each i hi).choose else [])
        rw [dif_pos hi]
        exact (each i hi).choose_spec
      refine ⟨(List.range len).map Z, .inr ⟨bk, o, cap, by simpa using hcv, hlt, by simpa using hl, fun j l hj => ?_⟩⟩
      have hj' : j < len := by
        have := (List.getElem?_eq_some_iff.1 hj).1
        simpa using this
      have hl2 : l = Z j := by
        simp [hj'] at hj
        exact hj.symm
      have := (hx j (by omega)).1
      rw [addr_addD] at this
      exact ⟨V j, this, by rw [hl2]; exact hZ j (by omega)⟩
end

end Go.Proofs.Ytmogkiacakkmbaa
