/- Pens and eyes: what several layers share. -/
import Derived.Test.YtmogkiacakkmbaaRules
import Derived.Test.YtmogkiacakkmbaaPen
import Derived.Test.YtmogkiacakkmbaaEyeA
namespace Go.Proofs.Ytmogkiacakkmbaa
open Go.RowKit

theorem penInfo2 : (Try.prog.info? 149).map (·.zero) = some (some (.agg #[.pointer none, .slice none 0 0, .bool false])) := by kernel_rfl

set_option maxRecDepth 100000 in
set_option maxHeartbeats 1000000 in
theorem penBytes2_any (b : Nat) (x : Value) (v : Value) (l : List UInt8) (w : World) (h : BldF w b [x] 149 v l) :
    Calls Try.prog 91 #[.pointer (some ⟨b, 0, none⟩)] w fun e w' => e = .returned (.string ⟨l.toArray⟩) ∧ BldF w' b [x] 149 v l ∧ Only v.ownBlock.toList w w' := by
  go_enter Try.func91, Try.ntmps91
  go_wp2_with (go_at_call 112; refine (string_any _ _ _ _ _ _ h).mono ?_; rintro e w' ⟨rfl, hb, ho⟩)
  go_ret
  exact ⟨rfl, hb, ho⟩

/-- An eye before its k-th number; that number. -/
def eyeSt (most : Int) (s : ByteArray) : Nat → ByteArray × Bool
  | 0 => (s, false)
  | k + 1 => (eyeNum most (eyeSt most s k).1 (eyeSt most s k).2).2
def eyeVal (most : Int) (s : ByteArray) (k : Nat) : Int := (eyeNum most (eyeSt most s k).1 (eyeSt most s k).2).1
def beyond : Int := 4294967295
theorem ptrInfo : (Try.prog.info? 209).map (fun i => (i.zero, i.size, i.bytes)) = some (some (.pointer none), 1, 8) := by kernel_rfl

set_option maxRecDepth 100000 in
set_option maxHeartbeats 1000000 in
theorem penOf_any (s : ByteArray) (w : World) : Calls Try.prog 85 #[.string s] w fun e w' => e = .returned (.pointer (some ⟨w.heap.size, 0, none⟩)) ∧ Blk w' w.heap.size [.string s, .bool false] 190 ∧ Only [] w w' := by
  go_enter Try.func85, Try.ntmps85
  go_wp2
  go_ret
  exact ⟨rfl, Blk.new w _ _, (Only.refl [] w).alloc _⟩

theorem leNat_le4 (m : Nat) (hm : m < 4294967296) : leNat (le4 m) = m := by
  simp only [le4, List.map_cons, List.map_nil, leNat, UInt8.toNat_ofNat']
  omega
theorem num4_told {n : Int} (h : told n = true) : num4 n = le4 n.toNat := by simp [num4, h]
theorem Ints.of_blk {w : World} {b : Nat} {ty : TypeId} {xs : List Int} (h : Blk w b (xs.map (Value.int .i64)) ty) (cp : Nat) (hc : xs.length ≤ cp) : Ints w (.slice (some ⟨b, 0, none⟩) xs.length cp) xs :=
  .inr ⟨b, 0, cp, rfl, fun j x hx => h.cell (by rw [Nat.zero_add, List.getElem?_map, hx]; rfl), h.lt, hc⟩

end Go.Proofs.Ytmogkiacakkmbaa
