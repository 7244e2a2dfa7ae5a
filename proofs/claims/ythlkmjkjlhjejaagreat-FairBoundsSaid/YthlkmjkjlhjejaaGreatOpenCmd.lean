/- What comes in: a command's seven cells, as they read. -/
import Derived.Test.YthlkmjkjlhjejaaGreatFairE
import Derived.ProofKit
import Derived.OpenShut
import Derived.WideShapes
import Derived.ChangeArms
import Derived.Deep.Slices
namespace Go.Proofs.YthlkmjkjlhjejaaGreat
open Go.ChangeShapes Go.WideShapes Go.ChangeAt Go.RowKit

section
variable {H : Type} {enc : TypeId × Value → H} {w : World} {base : Nat} {sp : Nat → Bool} {held : Bool}
set_option maxRecDepth 100000 in
theorem open_cmd {fuel : Nat} {cs : List Value} {x : DataW H × List MemPlace} (h : DataW.trod enc Tryz.prog w base sp held fuel 24 cs = some x) :
    ∃ (k i n : Int) (g : Bool) (a1 a2 : Option Addr) (n1 c1 n2 c2 : Nat) (s : ByteArray), cs = cmdC k i n g (.slice a1 n1 c1) (.slice a2 n2 c2) s := by
  obtain ⟨xs, m, _, _, hl, hxl, hx⟩ := DataW.trod_struct Tryz.underlying24 h
  have h7 : cs.length = 7 := by rw [hl]; kernel_rfl
  have h1 : Tryz.prog.cellsOf 3 = 1 := by kernel_rfl
  have h2 : Tryz.prog.cellsOf 4 = 1 := by kernel_rfl
  have h3 : Tryz.prog.cellsOf 22 = 1 := by kernel_rfl
  have h4 : Tryz.prog.cellsOf 9 = 1 := by kernel_rfl
  have hxl' : xs.length = 7 := hxl
  have hd : ∀ i (hi : i < 7), (cs.drop i).take 1 = [cs[i]'(by omega)] := fun i hi => by
    rw [List.drop_eq_getElem_cons (by omega)]
    rfl
  have eInt : ∀ i (hi : i < 7), DataW.trod enc Tryz.prog w base sp held m 3 ((cs.drop i).take (Tryz.prog.cellsOf 3)) = xs[i]? → ∃ n : Int, cs[i]'(by omega) = .int .i64 n := fun i hi he => by
    rw [h1, List.getElem?_eq_getElem (by omega)] at he
    obtain ⟨n, hn, _, _⟩ := DataW.trod_int Tryz.underlying3 he
    rw [hd i hi] at hn
    exact ⟨n, by simpa using hn⟩
  have eBool : ∀ i (hi : i < 7), DataW.trod enc Tryz.prog w base sp held m 4 ((cs.drop i).take (Tryz.prog.cellsOf 4)) = xs[i]? → ∃ n : Bool, cs[i]'(by omega) = .bool n := fun i hi he => by
    rw [h2, List.getElem?_eq_getElem (by omega)] at he
    obtain ⟨n, hn, _⟩ := DataW.trod_bool Tryz.underlying4 he
    rw [hd i hi] at hn
    exact ⟨n, by simpa using hn⟩
  have eStr : ∀ i (hi : i < 7), DataW.trod enc Tryz.prog w base sp held m 9 ((cs.drop i).take (Tryz.prog.cellsOf 9)) = xs[i]? → ∃ n : ByteArray, cs[i]'(by omega) = .string n := fun i hi he => by
    rw [h4, List.getElem?_eq_getElem (by omega)] at he
    obtain ⟨n, hn, _, _⟩ := DataW.trod_string Tryz.underlying9 he
    rw [hd i hi] at hn
    exact ⟨n, by simpa using hn⟩
  have eSl : ∀ i (hi : i < 7), DataW.trod enc Tryz.prog w base sp held m 22 ((cs.drop i).take (Tryz.prog.cellsOf 22)) = xs[i]? → ∃ (a : Option Addr) (n c : Nat), cs[i]'(by omega) = .slice a n c := fun i hi he => by
    rw [h3, List.getElem?_eq_getElem (by omega)] at he
    rcases Go.Deep.open_slice1 Tryz.underlying22 h1 he with ⟨hn, _⟩ | ⟨a, len, cap, _, _, _, _, _, hn, _⟩
    · rw [hd i hi] at hn
      exact ⟨none, 0, 0, by simpa using hn⟩
    · rw [hd i hi] at hn
      exact ⟨some a, len, cap, by simpa using hn⟩
  obtain ⟨k, e0⟩ := eInt 0 (by decide) (hx 0 _ rfl)
  obtain ⟨i, e1⟩ := eInt 1 (by decide) (hx 1 _ rfl)
  obtain ⟨n, e2⟩ := eInt 2 (by decide) (hx 2 _ rfl)
  obtain ⟨g, e3⟩ := eBool 3 (by decide) (hx 3 _ rfl)
  obtain ⟨a1, n1, c1, e4⟩ := eSl 4 (by decide) (hx 4 _ rfl)
  obtain ⟨a2, n2, c2, e5⟩ := eSl 5 (by decide) (hx 5 _ rfl)
  obtain ⟨s, e6⟩ := eStr 6 (by decide) (hx 6 _ rfl)
  have f0 : cs[0]? = some (.int .i64 k) := by rw [List.getElem?_eq_getElem (by omega), e0]
  have f1 : cs[1]? = some (.int .i64 i) := by rw [List.getElem?_eq_getElem (by omega), e1]
  have f2 : cs[2]? = some (.int .i64 n) := by rw [List.getElem?_eq_getElem (by omega), e2]
  have f3 : cs[3]? = some (.bool g) := by rw [List.getElem?_eq_getElem (by omega), e3]
  have f4 : cs[4]? = some (.slice a1 n1 c1) := by rw [List.getElem?_eq_getElem (by omega), e4]
  have f5 : cs[5]? = some (.slice a2 n2 c2) := by rw [List.getElem?_eq_getElem (by omega), e5]
  have f6 : cs[6]? = some (.string s) := by rw [List.getElem?_eq_getElem (by omega), e6]
  clear e0 e1 e2 e3 e4 e5 e6 hd eInt eBool eStr eSl hl hx h
  refine ⟨k, i, n, g, a1, a2, n1, c1, n2, c2, s, ?_⟩
  match cs, h7 with
  | [d0, d1, d2, d3, d4, d5, d6], _ =>
    simp at f0 f1 f2 f3 f4 f5 f6
    simp [cmdC, f0, f1, f2, f3, f4, f5, f6]
end

end Go.Proofs.YthlkmjkjlhjejaaGreat
