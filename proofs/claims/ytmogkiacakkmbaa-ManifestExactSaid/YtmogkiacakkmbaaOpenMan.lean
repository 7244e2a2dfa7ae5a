/- What comes in: a manifest, raw ones too, as it reads; the law ManifestExact for it. -/
import Derived.Test.YtmogkiacakkmbaaOpen
import Derived.Test.YtmogkiacakkmbaaMrJ
import Derived.WideShapes
import Derived.ChangeArms
namespace Go.Proofs.Ytmogkiacakkmbaa
open Go.ChangeShapes Go.WideShapes Go.ChangeAt Go.RowKit

theorem five_drop : ∀ (cs : List Value) (h : 5 ≤ cs.length), cs = [cs[0]'(by omega), cs[1]'(by omega), cs[2]'(by omega), cs[3]'(by omega), cs[4]'(by omega)] ++ cs.drop 5
  | _ :: _ :: _ :: _ :: _ :: _, _ => rfl

section
variable {H : Type} {enc : TypeId × Value → H} {w : World} {base : Nat} {sp : Nat → Bool} {held : Bool}
set_option maxRecDepth 100000 in
theorem open_man {fuel : Nat} {cs : List Value} {x : DataW H × List MemPlace} (h : DataW.trod enc Try.prog w base sp held fuel 104 cs = some x) :
    ∃ (b v z k : Int) (ad : Option Addr) (n cp : Nat) (d : List UInt8) (ds : List (List UInt8)), cs = Value.int .i64 b :: .int .i64 v :: .int .i64 z :: .int .i64 k :: .slice ad n cp :: Lib.byteCells d ∧ d.length = 32 ∧ Wide ds ∧ ds.length = n ∧ (ds ≠ [] → Digs w (.slice ad n cp) ds) := by
  obtain ⟨xs, m, _, _, hl, hxl, hx⟩ := DataW.trod_struct Try.underlying104 h
  have h37 : cs.length = 37 := by rw [hl]; kernel_rfl
  have h1 : Try.prog.cellsOf 3 = 1 := by kernel_rfl
  have h2 : Try.prog.cellsOf 100 = 1 := by kernel_rfl
  have h3 : Try.prog.cellsOf 102 = 32 := by kernel_rfl
  have h4 : Try.prog.cellsOf 5 = 1 := by kernel_rfl
  have hxl' : xs.length = 6 := hxl
  have hd : ∀ i (hi : i < 37), (cs.drop i).take 1 = [cs[i]'(by omega)] := fun i hi => by
    rw [List.drop_eq_getElem_cons (by omega)]
    rfl
  have eInt : ∀ i (hi : i < 6), DataW.trod enc Try.prog w base sp held m 3 ((cs.drop i).take (Try.prog.cellsOf 3)) = xs[i]? → ∃ n : Int, cs[i]'(by omega) = .int .i64 n := fun i hi he => by
    rw [h1, List.getElem?_eq_getElem (by omega)] at he
    obtain ⟨n, hn, _, _⟩ := DataW.trod_int Try.underlying3 he
    rw [hd i (by omega)] at hn
    exact ⟨n, by simpa using hn⟩
  obtain ⟨b, e0⟩ := eInt 0 (by decide) (hx 0 _ rfl)
  obtain ⟨v, e1⟩ := eInt 1 (by decide) (hx 1 _ rfl)
  obtain ⟨z, e2⟩ := eInt 2 (by decide) (hx 2 _ rfl)
  obtain ⟨k, e3⟩ := eInt 3 (by decide) (hx 3 _ rfl)
  have e4 : DataW.trod enc Try.prog w base sp held m 100 ((cs.drop 4).take (Try.prog.cellsOf 100)) = xs[4]? := hx 4 _ rfl
  rw [h2, List.getElem?_eq_getElem (by omega), hd 4 (by omega)] at e4
  have e5 : DataW.trod enc Try.prog w base sp held m 102 ((cs.drop 5).take (Try.prog.cellsOf 102)) = xs[5]? := hx 5 _ rfl
  rw [List.getElem?_eq_getElem (by omega), h3, List.take_of_length_le (by rw [List.length_drop]; omega)] at e5
  obtain ⟨d, hd32, e5⟩ := open_dig Try.underlying102 Try.underlying5 h3 h4 e5
  have hcs := five_drop cs (by omega)
  rcases open_digs Try.underlying100 Try.underlying102 Try.underlying5 h3 h4 e4 with ⟨a, cap, e⟩ | ⟨bk, o, cap, ds, e, hne, hml, hw, hD⟩
  · refine ⟨b, v, z, k, a, 0, cap, d, [], ?_, hd32, (fun x hx => by cases hx), rfl, fun h => absurd rfl h⟩
    rw [hcs, e0, e1, e2, e3, e, e5]
    rfl
  · refine ⟨b, v, z, k, some ⟨bk, o, none⟩, ds.length, cap, d, ds, ?_, hd32, hw, rfl, fun _ => by rw [← e]; exact hD⟩
    rw [hcs, e0, e1, e2, e3, e, e5]
    rfl
end

theorem manExact_walk (b v z k : Int) (ad : Option Addr) (n cp : Nat) (r : List UInt8) (ds : List (List UInt8)) (a : Int) (s t : ByteArray) (w : World) (hr : r.length = 32) (hw : Wide ds) (hn : ds.length = n) (hD : ds ≠ [] → Digs w (.slice ad n cp) ds) :
    Calls Try.prog 12 #[.agg (Value.int .i64 b :: .int .i64 v :: .int .i64 z :: .int .i64 k :: .slice ad n cp :: Lib.byteCells r).toArray, .int .i64 a, .string s, .string t] w fun e w' => e = .returned (.bool true) ∧ Only [] w w' := by
  by_cases h : 70 < (n : Int) ∨ 8192 < (s.size : Int) ∨ 512 < (t.size : Int)
  · exact exactLaw_far b v z k ad n cp _ a s t w h
  · exact exactLaw_near b v z k ad n cp r ds a s t w hr hw hn hD (by omega) (by omega) (by omega)
end Go.Proofs.Ytmogkiacakkmbaa
