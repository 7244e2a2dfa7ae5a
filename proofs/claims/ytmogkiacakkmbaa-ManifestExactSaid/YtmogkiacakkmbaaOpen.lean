/- What comes in: a sum, and a row of sums, as they read. -/
import Derived.Test.YtmogkiacakkmbaaShaE
import Derived.ProofKit
import Derived.OpenShut
import Derived.Deep.Slices
namespace Go.Proofs.Ytmogkiacakkmbaa
open Go.ChangeShapes Go.WideShapes Go.ChangeAt Go.RowKit

/-- A byte in a cell. -/
def cellByte : Value → UInt8
  | .int _ n => UInt8.ofNat n.toNat
  | _ => 0
theorem cellByte_u8 {n : Int} (h : (Lit.int .u8 n).wf = true) : Value.int .u8 ((cellByte (.int .u8 n)).toNat : Int) = .int .u8 n := by
  have h2 : (0 : Int) ≤ n ∧ n ≤ 255 := by
    simp only [Lit.wf, Bool.and_eq_true, decide_eq_true_eq] at h
    exact ⟨h.1, h.2⟩
  unfold cellByte
  congr 1
  simp
  omega

section
variable {H : Type} {enc : TypeId × Value → H} {P : Program} {w : World} {base : Nat} {sp : Nat → Bool} {held : Bool}

theorem open_dig {t u : TypeId} {fuel : Nat} {cs : List Value} {x : DataW H × List MemPlace} (ht : P.underlying t = some (.array 32 u)) (hu : P.underlying u = some (.int .u8)) (ct : P.cellsOf t = 32) (cu : P.cellsOf u = 1)
    (h : DataW.trod enc P w base sp held fuel t cs = some x) : ∃ d : List UInt8, d.length = 32 ∧ cs = Lib.byteCells d := by
  obtain ⟨xs, m, _, _, hl, hxl, hx⟩ := DataW.trod_array ht h
  refine ⟨cs.map cellByte, by simp [hl, ct], ?_⟩
  unfold Lib.byteCells
  rw [List.map_map]
  refine (List.ext_getElem? fun i => ?_)
  rw [List.getElem?_map]
  cases hc : cs[i]? with
  | none => rfl
  | some v =>
    have hi : i < 32 := by have := (List.getElem?_eq_some_iff.1 hc).1; omega
    have h1 := hx i hi
    rw [List.getElem?_eq_getElem (by omega), cu, Nat.mul_one] at h1
    have h2 : (cs.drop i).take 1 = [v] := by
      have : cs.drop i = v :: cs.drop (i + 1) := by
        rw [List.drop_eq_getElem_cons (List.getElem?_eq_some_iff.1 hc).1]
        congr 1
        exact (List.getElem?_eq_some_iff.1 hc).2
      rw [this]
      rfl
    rw [h2] at h1
    obtain ⟨n, hn, _, hwf⟩ := DataW.trod_int hu h1
    simp at hn
    subst hn
    simp only [Option.map_some, Function.comp, Option.some.injEq]
    exact (cellByte_u8 hwf).symm

theorem open_digs {t e u : TypeId} {fuel : Nat} {v : Value} {x : DataW H × List MemPlace} (hs : P.underlying t = some (.slice e)) (ht : P.underlying e = some (.array 32 u)) (hu : P.underlying u = some (.int .u8)) (ct : P.cellsOf e = 32) (cu : P.cellsOf u = 1)
    (h : DataW.trod enc P w base sp held fuel t [v] = some x) : (∃ a cap, v = .slice a 0 cap) ∨ ∃ (bk o cap : Nat) (ds : List (List UInt8)), v = .slice (some ⟨bk, o, none⟩) ds.length cap ∧ ds ≠ [] ∧ ds.length ≤ maxLen ∧ Wide ds ∧ Digs w v ds := by
  rcases Go.Deep.open_slice hs h with ⟨hcs, _⟩ | ⟨a, len, cap, m, n, D, Pl, hcs, hb, hl, hm, hmm, _, hx⟩
  · simp at hcs
    exact .inl ⟨none, 0, hcs⟩
  · simp at hcs
    by_cases h0 : len = 0
    · subst h0
      exact .inl ⟨some a, cap, hcs⟩
    · have hml : len ≤ m := by split at hmm <;> omega
      have each : ∀ i, i < len → ∃ d : List UInt8, d.length = 32 ∧ ∀ k, k < 32 → w.cell? (a.add (i * 32 + k)) = (Lib.byteCells d)[k]? := fun i hi => by
        obtain ⟨cs', h1, h2⟩ := hx i (by omega)
        rw [ct] at h1
        obtain ⟨d, hd, rfl⟩ := open_dig ht hu ct cu h2
        refine ⟨d, hd, fun k hk => ?_⟩
        rw [← Addr.add_add]
        exact (World.cells?_some h1).2.2 k hk
      obtain ⟨bk, o, spot⟩ := a
      have hspot : spot = none := by
        obtain ⟨d, hd, hc⟩ := each 0 (by omega)
        have h1 := hc 0 (by omega)
        rw [List.getElem?_eq_getElem (by rw [byteCells_length]; omega)] at h1
        have := World.cell?_spot h1
        simpa [Addr.add] using this
      subst hspot
      have build : ∀ k, k ≤ len → ∃ ds : List (List UInt8), ds.length = k ∧ Wide ds ∧ ∀ j u, (digCells ds)[j]? = some u → w.cell? ⟨bk, o + j, none⟩ = some u := fun k => by
        induction k with
        | zero => exact fun _ => ⟨[], rfl, fun d hd => by simp at hd, fun j u hu => by simp [digCells] at hu⟩
        | succ k ih =>
          intro hk
          obtain ⟨ds, h1, h2, h3⟩ := ih (by omega)
          obtain ⟨d, hd, hc⟩ := each k (by omega)
          refine ⟨ds ++ [d], by simp [h1], fun y hy => ?_, fun j u hu => ?_⟩
          · rcases List.mem_append.1 hy with hy | hy
            · exact h2 y hy
            · simp at hy; subst hy; exact hd
          · rw [digCells_append] at hu
            rcases Nat.lt_or_ge j (digCells ds).length with hj | hj
            · rw [List.getElem?_append_left hj] at hu
              exact h3 j u hu
            · rw [List.getElem?_append_right hj] at hu
              rw [digCells_length ds h2, h1] at hj hu
              have hu' : (Lib.byteCells d)[j - k * 32]? = some u := by simpa [digCells] using hu
              have hlt : j - k * 32 < 32 := by have := (List.getElem?_eq_some_iff.1 hu').1; rw [byteCells_length, hd] at this; exact this
              have := hc (j - k * 32) hlt
              rw [hu', addr_add] at this
              rwa [show o + (k * 32 + (j - k * 32)) = o + j by omega] at this
      obtain ⟨ds, h1, h2, h3⟩ := build len (Nat.le_refl _)
      have hblk : bk < w.heap.size := by
        obtain ⟨cs', h4, _⟩ := hx 0 (by omega)
        have := World.cells?_block h4 (by rw [ct]; decide)
        simpa [Addr.add] using this
      refine .inr ⟨bk, o, cap, ds, by rw [h1]; exact hcs, fun h => by rw [h] at h1; simp at h1; omega, by omega, h2, bk, o, cap, by rw [h1]; exact hcs, by omega, hblk, h3⟩
end

theorem okWide_array32 {P : Program} {w : World} {r : Reach} {base : Nat} {t e : TypeId} {n : Nat} {v : Value} (ht : P.underlying t = some (.array n e)) (h : Value.okWide P w r base t v) : ∃ cs, v = .agg cs ∧ cs.size = P.cellsOf t := by
  unfold Value.okWide at h
  simp only [ht] at h
  cases v <;> simp at h
  exact ⟨_, rfl, h.1⟩

end Go.Proofs.Ytmogkiacakkmbaa
