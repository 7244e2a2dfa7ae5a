/- Walks: a sum as digits; the sum of two sums; the tree of sums. -/
import Derived.Test.YtmogkiacakkmbaaShaC
import Derived.Test.YtmogkiacakkmbaaText
namespace Go.Proofs.Ytmogkiacakkmbaa
open Go.RowKit

theorem digInfo : (Try.prog.info? 102).map (·.size) = some 32 := by kernel_rfl
theorem byteSize : (Try.prog.info? 5).map (·.size) = some 1 := by kernel_rfl
def zBuilder : List Value := [.pointer none, .slice none 0 0]
theorem zBuilder_info : (Try.prog.info? 147).map (·.zero) = some (some (.agg zBuilder.toArray)) := by kernel_rfl
theorem byteCells_get (l : List UInt8) (i : Nat) (h : i < l.length) : (Lib.byteCells l)[i]? = some (.int .u8 ((l.getD i 0).toNat : Int)) := by
  simp [Lib.byteCells, List.getElem?_map, List.getElem?_eq_getElem h, List.getD_eq_getElem?_getD]

theorem byteCells_one (l : List UInt8) : (Lib.byteCells l).toArray.all (·.oneCell') = true := by
  rw [Array.all_eq_true_iff_forall_mem]
  simp [Lib.byteCells, Value.oneCell']

theorem text_take (d : List UInt8) (j : Nat) (h : j < d.length) : Sha.text (d.take (j + 1)) = Sha.text (d.take j) ++ [Sha.dig.getD ((d.getD j 0).toNat / 16) 0] ++ [Sha.dig.getD ((d.getD j 0).toNat % 16) 0] := by
  unfold Sha.text
  rw [List.take_succ_eq_append_getElem h, List.map_append, List.flatten_append, List.getD_eq_getElem?_getD (l := d), List.getElem?_eq_getElem h]
  simp
theorem text_length (d : List UInt8) : (Sha.text d).length = 2 * d.length := by
  induction d with
  | nil => rfl
  | cons c d ih =>
    unfold Sha.text at ih ⊢
    rw [List.map_cons, List.flatten_cons, List.length_append, ih]
    simp
    omega

theorem run_bytes_text {P : Program} {w : World} {b : Nat} {d : List UInt8} {ty : TypeId} (h : Blk w b (Lib.byteCells d) ty) {src dst e : TypeId} (hs : P.underlying src = some (.slice e)) (he : P.underlying e = some (.int .u8)) (hd : P.underlying dst = some .string) (cap : Nat) :
    (convert src dst (.slice (some ⟨b, 0, none⟩) d.length cap)).run P w = .ok (.string ⟨d.toArray⟩) w := by
  refine run_convert_bytes_back w src dst e ⟨b, 0, none⟩ cap d hs he hd fun j hj => ?_
  have hadd : (⟨b, 0, none⟩ : Addr).add j = ⟨b, j, none⟩ := by unfold Addr.add; split <;> simp_all
  rw [hadd, h.cell (byteCells_get d j hj), List.getD_eq_getElem?_getD, List.getElem?_eq_getElem hj]
  rfl

set_option maxRecDepth 100000 in
set_option maxHeartbeats 1000000 in
theorem pair_any (a b : List UInt8) (w : World) (ha : a.length = 32) (hb : b.length = 32) :
    Calls Try.prog 156 #[.agg (Lib.byteCells a).toArray, .agg (Lib.byteCells b).toArray] w fun e w' => e = .returned (.agg (Lib.byteCells (Sha.pair a b)).toArray) ∧ Only [] w w' := by
  have hA := Blk.new w (Lib.byteCells a) 102
  have hB := Blk.new (w.alloc (.cells (Lib.byteCells a).toArray 102)) (Lib.byteCells b) 102
  have HA := Lib.hid (hA.alloc (.cells (Lib.byteCells b).toArray 102))
  have HB := Lib.hid hB
  have HLA := Lib.hid ha
  have HLB := Lib.hid hb
  clear ha hb hA hB
  go_enter Try.func156, Try.ntmps156
  go_wp2_with (refine wpL_alloc rfl 4 rfl _ rfl (.agg zeros32.toArray) zeros32 (by kernel_rfl) rfl ?_; intro w1 ho1 hs1 hb1)
  go_frame
  have hA1 := HA.out.keep ho1
  have hB1 := HB.out.keep ho1
  have hca : (convert 56 9 (.slice (some ⟨w.heap.size, 0, none⟩) 32 32)).run Try.prog w1.drew = .ok (.string ⟨a.toArray⟩) w1.drew := by
    have := run_bytes_text (P := Try.prog) hA1.drew (src := 56) (dst := 9) Try.underlying56 Try.underlying5 Try.underlying9 32
    rwa [HLA.out] at this
  have hcb : (convert 56 9 (.slice (some ⟨w.heap.size + 1, 0, none⟩) 32 32)).run Try.prog w1.drew = .ok (.string ⟨b.toArray⟩) w1.drew := by
    have := run_bytes_text (P := Try.prog) hB1.drew (src := 56) (dst := 9) Try.underlying56 Try.underlying5 Try.underlying9 32
    rw [HLB.out] at this
    simpa using this
  go_still_tail 4, (by kernel_rfl)
  change wpList _ _ _ _ _ w1.drew
  have hz1 : Blk w1 (w.heap.size + 1 + 1) zeros32 102 := by simpa using hb1
  have hc : Hid (cat [⟨#[1]⟩, ⟨a.toArray⟩, ⟨b.toArray⟩] = [1] ++ a ++ b) := by show _ = _; simp [cat, bl]
  have hstr : Strs (w1.alloc (.cells #[.string ⟨#[1]⟩, .string ⟨a.toArray⟩, .string ⟨b.toArray⟩] 9)).drew (.slice (some ⟨w1.heap.size, 0, none⟩) 3 3) [⟨#[1]⟩, ⟨a.toArray⟩, ⟨b.toArray⟩] := (Strs.made w1 [⟨#[1]⟩, ⟨a.toArray⟩, ⟨b.toArray⟩] 9).keep (Only.refl _ _).drew
  have hov : Only [] w (w1.alloc (.cells #[.string ⟨#[1]⟩, .string ⟨a.toArray⟩, .string ⟨b.toArray⟩] 9)).drew := (((((Only.refl _ w).alloc _).alloc _).trans ho1).alloc _).drew
  have HSTR := Lib.hid hstr
  have HZ := Lib.hid ((hz1.alloc (.cells #[.string ⟨#[1]⟩, .string ⟨a.toArray⟩, .string ⟨b.toArray⟩] 9)).drew)
  clear hstr hz1 hca hcb
  go_wp2_with (go_at_call 121; refine (of_any _ [⟨#[1]⟩, ⟨a.toArray⟩, ⟨b.toArray⟩] _ HSTR.out (by simp) (by rw [hc.out]; simp [HLA.out, HLB.out])).mono ?_)
  rintro e w2 ⟨rfl, ho2⟩
  rw [hc.out]
  have hz2 := HZ.out.keep ho2
  go_wp2_with (refine wpL_store rfl _ _ _ rfl (w.heap.size + 1 + 1) _ rfl rfl _ _ hz2 digInfo (by simp [byteCells_length, Sha.sum_length]) rfl (byteCells_one _) ?_; intro w3 ho3 hs3 hb3)
  refine end_row (ty := 102) Try.results156 rfl hb3 Try.underlying102 rfl digInfo (by simp [byteCells_length, Sha.sum_length]) rfl ⟨rfl, (hov.trans ho2).step ho3 (by simp; omega)⟩

end Go.Proofs.Ytmogkiacakkmbaa
