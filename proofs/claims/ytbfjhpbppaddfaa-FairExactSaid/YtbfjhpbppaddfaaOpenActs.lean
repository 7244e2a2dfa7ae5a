/- What comes in: a row of picks, as it reads. -/
import Derived.Test.YtbfjhpbppaddfaaFairU
import Derived.ProofKit
import Derived.OpenShut
import Derived.WideShapes
import Derived.ChangeArms
import Derived.Deep.Slices
import Derived.Deep.Strs
namespace Go.Proofs.Ytbfjhpbppaddfaa
open Go.ChangeShapes Go.WideShapes Go.ChangeAt Go.RowKit

theorem addr_addA (b i j : Nat) : (⟨b, i, none⟩ : Addr).add j = ⟨b, i + j, none⟩ := by unfold Addr.add; split <;> simp_all

section
variable {H : Type} {enc : TypeId × Value → H} {P : Program} {w : World} {base : Nat} {sp : Nat → Bool} {held : Bool}
theorem open_ints_wf {t e : TypeId} {fuel : Nat} {v : Value} {x : DataW H × List MemPlace} (ht : P.underlying t = some (.slice e)) (he : P.underlying e = some (.int .i64)) (hc : P.cellsOf e = 1)
    (h : DataW.trod enc P w base sp held fuel t [v] = some x) : ∃ xs : List Int, Ints w v xs ∧ ∀ x ∈ xs, wfi x := by
  rcases Go.Deep.open_slice1 ht hc h with ⟨hcs, _⟩ | ⟨a, len, cap, m, n, V, D, Pl, hcs, hb, hl, hm, hmm, _, hx⟩
  · simp at hcs
    exact ⟨[], .inl ⟨⟨none, 0, hcs⟩, rfl⟩, by simp⟩
  · simp at hcs
    by_cases h0 : len = 0
    · subst h0
      exact ⟨[], .inl ⟨⟨some a, cap, hcs⟩, rfl⟩, by simp⟩
    · have hml : len ≤ m := by split at hmm <;> omega
      have each : ∀ i, i < m → ∃ z : Int, V i = .int .i64 z ∧ wfi z := fun i hi => by
        obtain ⟨z, hz, _, hw⟩ := DataW.trod_int he (hx i hi).2
        simp at hz
        exact ⟨z, hz, hw⟩
      have h1 := (hx 0 (by omega)).1
      obtain ⟨bk, o, spot⟩ := a
      have hspot : spot = none := by
        have := World.cell?_spot h1
        simpa [Addr.add] using this
      subst hspot
      have hlt : bk < w.heap.size := by
        have hh := h1
        rw [addr_addA] at hh
        rcases Nat.lt_or_ge bk w.heap.size with hl | hl
        · exact hl
        · simp [World.cell?, Array.getElem?_eq_none hl] at hh
      let Z : Nat → Int := fun i => match V i with | .int _ z => z | _ => 0
      have hZ : ∀ i, i < m → V i = .int .i64 (Z i) ∧ wfi (Z i) := fun i hi => by
        obtain ⟨z, hz, hw⟩ := each i hi
        have e : Z i = z := by
          show (match V i with | .int _ z => z | _ => 0) = z
          rw [hz]
        rw [e]
        exact ⟨hz, hw⟩
      refine ⟨(List.range len).map Z, .inr ⟨bk, o, cap, by simpa using hcs, fun j y hj => ?_, hlt, by simpa using hl⟩, fun y hy => ?_⟩
      · rw [List.getElem?_map] at hj
        cases hr : (List.range len)[j]? with
        | none => rw [hr] at hj; simp at hj
        | some i =>
          have hjl : j < len := by have := (List.getElem?_eq_some_iff.1 hr).1; simpa using this
          have hi := List.getElem?_range hjl
          rw [hr] at hi
          injection hi with hi
          subst hi
          rw [hr] at hj
          simp at hj
          subst hj
          have := (hx i (by omega)).1
          rwa [addr_addA, (hZ i (by omega)).1] at this
      · obtain ⟨i, hi, rfl⟩ := List.mem_map.1 hy
        exact (hZ i (by have := List.mem_range.1 hi; omega)).2
end

section
variable {H : Type} {enc : TypeId × Value → H} {w : World} {base : Nat} {sp : Nat → Bool} {held : Bool}
set_option maxRecDepth 100000 in
theorem open_act {fuel : Nat} {cs : List Value} {x : DataW H × List MemPlace} (h : DataW.trod enc Try.prog w base sp held fuel 32 cs = some x) :
    ∃ (id : Int) (vs : Value) (xs : List Int), cs = [.int .i64 id, vs] ∧ wfi id ∧ Ints w vs xs ∧ ∀ x ∈ xs, wfi x := by
  obtain ⟨xs, m, _, _, hl, hxl, hx⟩ := DataW.trod_struct Try.underlying32 h
  have h2 : cs.length = 2 := by rw [hl]; kernel_rfl
  have h1 : Try.prog.cellsOf 3 = 1 := by kernel_rfl
  have h3 : Try.prog.cellsOf 30 = 1 := by kernel_rfl
  have hxl' : xs.length = 2 := hxl
  have hd : ∀ i (hi : i < 2), (cs.drop i).take 1 = [cs[i]'(by omega)] := fun i hi => by
    rw [List.drop_eq_getElem_cons (by omega)]
    rfl
  have e0 : DataW.trod enc Try.prog w base sp held m 3 ((cs.drop 0).take (Try.prog.cellsOf 3)) = xs[0]? := hx 0 _ rfl
  have e1 : DataW.trod enc Try.prog w base sp held m 30 ((cs.drop 1).take (Try.prog.cellsOf 30)) = xs[1]? := hx 1 _ rfl
  rw [h1, List.getElem?_eq_getElem (by omega), hd 0 (by omega)] at e0
  rw [h3, List.getElem?_eq_getElem (by omega), hd 1 (by omega)] at e1
  obtain ⟨id, hn, _, hw⟩ := DataW.trod_int Try.underlying3 e0
  obtain ⟨ys, hi, hys⟩ := open_ints_wf Try.underlying30 Try.underlying3 h1 e1
  have f0 : cs[0]? = some (.int .i64 id) := by rw [List.getElem?_eq_getElem (by omega)]; simpa using hn
  obtain ⟨vs, evs⟩ : ∃ vs, cs[1]'(by omega) = vs := ⟨_, rfl⟩
  have f1 : cs[1]? = some vs := by rw [List.getElem?_eq_getElem (by omega), evs]
  rw [evs] at hi
  clear evs e0 e1 hn hx hl h hd
  refine ⟨id, vs, ys, ?_, hw, hi, hys⟩
  match cs, h2 with
  | [c0, c1], _ =>
    simp at f0 f1
    simp [f0, f1]

set_option maxRecDepth 100000 in
theorem open_acts {fuel : Nat} {v : Value} {x : DataW H × List MemPlace} (h : DataW.trod enc Try.prog w base sp held fuel 22 [v] = some x) : ∃ A : List (Int × List Int), Acts w v A := by
  have ct : Try.prog.cellsOf 32 = 2 := by kernel_rfl
  rcases Go.Deep.open_slice Try.underlying22 h with ⟨hcs, _⟩ | ⟨a, len, cap, m, n, D, Pl, hcs, hb, hl, hm, hmm, _, hx⟩
  · simp at hcs
    exact ⟨[], .inl ⟨⟨none, 0, hcs⟩, rfl⟩⟩
  · simp at hcs
    by_cases h0 : len = 0
    · subst h0
      exact ⟨[], .inl ⟨⟨some a, cap, hcs⟩, rfl⟩⟩
    · have hml : len ≤ m := by split at hmm <;> omega
      have each : ∀ i, i < len → ∃ (p : Int × List Int) (vs : Value), wfi p.1 ∧ (∀ x ∈ p.2, wfi x) ∧ Ints w vs p.2 ∧ w.cell? (a.add (i * 2)) = some (.int .i64 p.1) ∧ w.cell? (a.add (i * 2 + 1)) = some vs := fun i hi => by
        obtain ⟨cs', h1, h2⟩ := hx i (by omega)
        rw [ct] at h1
        obtain ⟨id, vs, xs, rfl, hw, hi2, hxs⟩ := open_act h2
        have hc := (World.cells?_some h1).2.2
        refine ⟨(id, xs), vs, hw, hxs, hi2, ?_, ?_⟩
        · have := hc 0 (by omega)
          rwa [Addr.add_add] at this
        · have := hc 1 (by omega)
          rwa [Addr.add_add] at this
      obtain ⟨bk, o, spot⟩ := a
      obtain ⟨_, _, _, _, _, hc0, _⟩ := each 0 (by omega)
      have hspot : spot = none := by
        have := World.cell?_spot hc0
        simpa [Addr.add] using this
      subst hspot
      have hlt : bk < w.heap.size := by
        have hh := hc0
        rw [addr_addA] at hh
        rcases Nat.lt_or_ge bk w.heap.size with hl | hl
        · exact hl
        · simp [World.cell?, Array.getElem?_eq_none hl] at hh
      have build : ∀ k, k ≤ len → ∃ A : List (Int × List Int), A.length = k ∧ ∀ (j : Nat) p, A[j]? = some p → wfi p.1 ∧ (∀ x ∈ p.2, wfi x) ∧ w.cell? ⟨bk, o + j * 2, none⟩ = some (.int .i64 p.1) ∧ ∃ vs, w.cell? ⟨bk, o + j * 2 + 1, none⟩ = some vs ∧ Ints w vs p.2 := fun k => by
        induction k with
        | zero => exact fun _ => ⟨[], rfl, fun j p hp => by simp at hp⟩
        | succ k ih =>
          intro hk
          obtain ⟨A, h1, h2⟩ := ih (by omega)
          obtain ⟨p, vs, q1, q2, q3, q4, q5⟩ := each k (by omega)
          rw [addr_addA] at q4 q5
          refine ⟨A ++ [p], by simp [h1], fun j y hy => ?_⟩
          rcases Nat.lt_or_ge j A.length with hj | hj
          · rw [List.getElem?_append_left hj] at hy
            exact h2 j y hy
          · rw [List.getElem?_append_right hj] at hy
            have hj0 : j - A.length = 0 := by
              have := (List.getElem?_eq_some_iff.1 hy).1
              simpa using this
            rw [hj0] at hy
            simp at hy
            subst hy
            obtain rfl : j = k := by omega
            exact ⟨q1, q2, q4, vs, by rw [Nat.add_assoc]; exact q5, q3⟩
      obtain ⟨A, hA1, hA2⟩ := build len (Nat.le_refl _)
      exact ⟨A, .inr ⟨bk, o, cap, by rw [hA1]; exact hcs, hlt, hA2⟩⟩
end

end Go.Proofs.Ytbfjhpbppaddfaa
