/- A number as bytes, by the document. -/
import Derived.Test.YtmogkiacakkmbaaPen
import Derived.Test.YtmogkiacakkmbaaMix
namespace Go.Proofs.Ytmogkiacakkmbaa
open Go.RowKit

theorem le4_cells (n : Nat) (hn : n < 4294967296) : Lib.byteCells (le4 n) = [.int .u8 ((n : Int) % 256), .int .u8 ((n : Int) / 256 % 256), .int .u8 ((n : Int) / 65536 % 256), .int .u8 ((n : Int) / 16777216)] := by
  have e : ∀ m : Nat, m < 256 → ((UInt8.ofNat m).toNat : Int) = (m : Int) := fun m hm => by rw [UInt8.toNat_ofNat']; omega
  simp only [le4, List.map_cons, List.map_nil, Lib.byteCells, List.cons.injEq, Value.int.injEq, and_true, true_and]
  refine ⟨?_, ?_, ?_, ?_⟩
  · rw [e _ (by omega)]; omega
  · rw [e _ (by omega)]; omega
  · rw [e _ (by omega)]; omega
  · rw [e _ (by omega)]; omega

set_option maxRecDepth 100000 in
set_option maxHeartbeats 4000000 in
theorem refNum_any (n : Nat) (w : World) (hn : n < 4294967296) : Calls Try.prog 94 #[.int .i64 (n : Int)] w fun e w' => e = .returned (.tuple #[.string ⟨(le4 n).toArray⟩, .bool true]) ∧ Only [] w w' := by
  have g1 : ¬ (n : Int) < 0 := by omega
  have g2 : ¬ (4294967295 : Int) < n := by omega
  have g3 : (n : Int) < 4294967296 := by omega
  have HC := Lib.hid (le4_cells n hn)
  obtain ⟨d, ed⟩ : ∃ d, d = le4 n := ⟨_, rfl⟩
  have HD : Hid (d.length = 4) := by rw [ed]; exact le4_length n
  rw [← ed] at HC ⊢
  clear ed
  go_enter Try.func94, Try.ntmps94
  go_wp2_with (refine wpL_slice_lit rfl 56 4 _ rfl Try.underlying56 byteInfo (by decide) (by decide) [.int .u8 ((n : Int) % 256), .int .u8 ((n : Int) / 256 % 256), .int .u8 ((n : Int) / 65536 % 256), .int .u8 ((n : Int) / 16777216)] rfl rfl (by simp [Value.cells]) ?_)
  intro w1 ho1 hs1 hb1
  have hb1' : Blk w1 w.heap.size (Lib.byteCells d) 5 := by rw [HC.out]; simpa [Value.cells] using hb1
  go_wp2_with (refine wpL_str rfl 56 9 5 _ rfl ⟨w.heap.size, 0, none⟩ d 4 4 rfl HD.out Try.underlying56 Try.underlying5 Try.underlying9 ?cc ?_)
  case cc =>
    intro j hj
    rw [show (⟨w.heap.size, 0, none⟩ : Addr).add j = ⟨w.heap.size, j, none⟩ by unfold Addr.add; split <;> simp_all]
    refine hb1'.cell ?_
    simp [Lib.byteCells, List.getD_eq_getElem?_getD, List.getElem?_eq_getElem hj]
  go_ret2
  exact ⟨rfl, ho1⟩

end Go.Proofs.Ytmogkiacakkmbaa
