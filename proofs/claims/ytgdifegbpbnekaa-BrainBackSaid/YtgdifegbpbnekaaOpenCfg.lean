/- What comes in: a shape's six numbers, as they read. -/
import Derived.Test.YtgdifegbpbnekaaConfA
import Derived.ProofKit
import Derived.OpenShut
import Derived.WideShapes
import Derived.ChangeArms
namespace Go.Proofs.Ytgdifegbpbnekaa
open Go.ChangeShapes Go.WideShapes Go.ChangeAt Go.RowKit

section
variable {H : Type} {enc : TypeId × Value → H} {w : World} {base : Nat} {sp : Nat → Bool} {held : Bool}
set_option maxRecDepth 100000 in
theorem open_cfg {fuel : Nat} {cs : List Value} {x : DataW H × List MemPlace} (h : DataW.trod enc Try.prog w base sp held fuel 23 cs = some x) : ∃ c : Cfg, cs = c.cells := by
  obtain ⟨xs, m, _, _, hl, hxl, hx⟩ := DataW.trod_struct Try.underlying23 h
  have h6 : cs.length = 6 := by rw [hl]; kernel_rfl
  have h1 : Try.prog.cellsOf 3 = 1 := by kernel_rfl
  have hxl' : xs.length = 6 := hxl
  have each : ∀ i, i < 6 → DataW.trod enc Try.prog w base sp held m 3 ((cs.drop i).take (Try.prog.cellsOf 3)) = xs[i]? → ∃ n : Int, cs[i]? = some (.int .i64 n) := fun i hi he => by
    rw [h1, List.getElem?_eq_getElem (by omega)] at he
    obtain ⟨n, hn, _, _⟩ := DataW.trod_int Try.underlying3 he
    have hd : (cs.drop i).take 1 = [cs[i]'(by omega)] := by
      rw [List.drop_eq_getElem_cons (by omega)]
      rfl
    rw [hd] at hn
    simp at hn
    exact ⟨n, by rw [List.getElem?_eq_getElem (by omega), hn]⟩
  obtain ⟨a0, e0⟩ := each 0 (by decide) (hx 0 _ rfl)
  obtain ⟨a1, e1⟩ := each 1 (by decide) (hx 1 _ rfl)
  obtain ⟨a2, e2⟩ := each 2 (by decide) (hx 2 _ rfl)
  obtain ⟨a3, e3⟩ := each 3 (by decide) (hx 3 _ rfl)
  obtain ⟨a4, e4⟩ := each 4 (by decide) (hx 4 _ rfl)
  obtain ⟨a5, e5⟩ := each 5 (by decide) (hx 5 _ rfl)
  refine ⟨⟨a0, a1, a2, a3, a4, a5⟩, ?_⟩
  match cs, h6 with
  | [c0, c1, c2, c3, c4, c5], _ =>
    simp at e0 e1 e2 e3 e4 e5
    simp [Cfg.cells, e0, e1, e2, e3, e4, e5]
end

end Go.Proofs.Ytgdifegbpbnekaa
