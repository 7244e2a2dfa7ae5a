/- Walks: a sum as digits; the sum of two sums; the tree of sums. -/
import Derived.Test.YtlciphmjkbihkaaShaC
import Derived.Test.YtlciphmjkbihkaaText
namespace Go.Proofs.Ytlciphmjkbihkaa
open Go.RowKit

theorem digInfo : (Try.prog.info? 57).map (·.size) = some 32 := by kernel_rfl
theorem byteSize : (Try.prog.info? 5).map (·.size) = some 1 := by kernel_rfl
def zBuilder : List Value := [.pointer none, .slice none 0 0]
theorem zBuilder_info : (Try.prog.info? 124).map (·.zero) = some (some (.agg zBuilder.toArray)) := by kernel_rfl
theorem byteCells_get (l : List UInt8) (i : Nat) (h : i < l.length) : (Lib.byteCells l)[i]? = some (.int .u8 ((l.getD i 0).toNat : Int)) := by
  simp [Lib.byteCells, List.getElem?_map, List.getElem?_eq_getElem h, List.getD_eq_getElem?_getD]

theorem byteCells_one (l : List UInt8) : (Lib.byteCells l).toArray.all (·.oneCell') = true := by
  rw [Array.all_eq_true_iff_forall_mem]
  simp [Lib.byteCells, Value.oneCell']

theorem text_take (d : List UInt8) (j : Nat) (h : j < d.length) : Sha.text (d.take (j + 1)) = Sha.text (d.take j) ++ [Sha.dig.getD ((d.getD j 0).toNat / 16) 0] ++ [Sha.dig.getD ((d.getD j 0).toNat % 16) 0] := by
  unfold Sha.text
  rw [List.take_succ_eq_append_getElem h, List.map_append, List.flatten_append, List.getD_eq_getElem?_getD (l := d), List.getElem?_eq_getElem h]
  simp
theorem text_length (d : List UInt8) : (Sha.text d).length = 2 * d.length := by
  induction d with
  | nil => rfl
  | cons c d ih =>
    unfold Sha.text at ih ⊢
    rw [List.map_cons, List.flatten_cons, List.length_append, ih]
    simp
    omega

set_option maxRecDepth 100000 in
set_option maxHeartbeats 1000000 in
theorem text_any (d : List UInt8) (w : World) (hd : d.length = 32) :
    Calls Try.prog 51 #[.agg (Lib.byteCells d).toArray] w fun e w' => e = .returned (.string ⟨(Sha.text d).toArray⟩) ∧ Only [] w w' := by
  have HD := Lib.hid hd
  have hlen : (Lib.byteCells d).length = 32 := by rw [byteCells_length, hd]
  have HL := Lib.hid hlen
  clear hd hlen
  have hb0 := Lib.hid (Blk.new w (Lib.byteCells d) 57)
  go_enter Try.func51, Try.ntmps51
  go_wp2_with (first
    | (refine wpL_alloc rfl 3 rfl _ rfl (.agg zBuilder.toArray) zBuilder zBuilder_info rfl ?_; intro w1 ho1 hs1 hb1)
    | (refine wpL_load rfl _ _ rfl w.heap.size rfl _ _ _ (hb0.out.keep ho1) Try.underlying57 rfl digInfo HL.out ?_))
  have hb : Bld w1 (w.heap.size + 1) [] 124 (.slice none 0 0) [] := by
    have := Bld.new hb1
    simpa using this
  have hm : Made w w1 (w.heap.size + 1) (.slice none 0 0) := Made.start (((Only.refl _ w).alloc _).trans ho1) (Nat.le_succ _)
  have HB := Lib.hid hb
  clear hb hb1 hb0 ho1
  go_loopw [7] (fun i wr => ∃ (j : Nat) (v : Value), j ≤ 32 ∧ i = .int .i64 j ∧ Bld wr (w.heap.size + 1) [] 124 v (Sha.text (d.take j)) ∧ Made w wr (w.heap.size + 1) v) (fun i _ => 32 - (intOf i).toNat)
  case atStart => exact ⟨0, _, by omega, rfl, HB.out, hm⟩
  case round =>
    obtain ⟨j, v, hj, rfl, hbj, hmj⟩ := hrel
    by_cases hlt : j < 32
    · have hc256 := (d.getD j 0).toNat_lt
      obtain ⟨c, hc⟩ : ∃ c : Nat, c = (d.getD j 0).toNat := ⟨_, rfl⟩
      rw [← hc] at hc256
      have HC := Lib.hid hc
      clear hc
      have ht : (Sha.text (d.take j)).length ≤ 64 := by rw [text_length, List.length_take]; omega
      have HBJ := Lib.hid hbj
      clear hbj
      go_wp2_with (first
        | (refine wpL_index rfl _ _ _ rfl _ rfl rfl Try.underlying57 Try.underlying5 rfl byteSize (by omega) (by omega) (v := .int .u8 (c : Int)) (by rw [HC.out]; simpa using byteCells_get d j (by rw [HD.out]; exact hlt)) ?_)
        | (refine wpL_index_string rfl _ _ _ rfl _ rfl rfl Try.underlying9 (by omega) (by show _ < (16 : Int); omega) ?_; intro x1 hx1 bx1)
        | (go_at_call 79; refine (writeByte_any _ [] 124 v _ _ _ HBJ.out lies_own (by omega) (by omega) (by omega)).mono ?_))
      rintro e w2 ⟨rfl, v2, hb2, hw2⟩
      have HB2 := Lib.hid hb2
      clear hb2
      go_wp2_with (first
        | (refine wpL_index_string rfl _ _ _ rfl _ rfl rfl Try.underlying9 (by omega) (by show _ < (16 : Int); omega) ?_; intro x2 hx2 bx2)
        | (go_at_call 79; refine (writeByte_any _ [] 124 v2 _ _ _ HB2.out lies_own (by omega) (by omega) (by rw [List.length_append]; simp; omega)).mono ?_))
      rintro e w3 ⟨rfl, v3, hb3, hw3⟩
      go_wp2
      go_roundw
      case rel =>
        refine ⟨j + 1, v3, by omega, by go_num, ?_, (hmj.wrote hw2).wrote hw3⟩
        rw [text_take d j (by rw [HD.out]; exact hlt), ← HC.out]
        have e1 : UInt8.ofNat ((x1 : Int)).toNat = Sha.dig.getD (c / 16) 0 := by
          rw [Int.toNat_natCast, hx1.out, show ((c : Int) / 16).toNat = c / 16 by omega]
          exact UInt8.ofNat_toNat
        have e2 : UInt8.ofNat ((x2 : Int)).toNat = Sha.dig.getD (c % 16) 0 := by
          rw [Int.toNat_natCast, hx2.out, show ((c : Int) % 16).toNat = c % 16 by omega]
          exact UInt8.ofNat_toNat
        rw [e1, e2] at hb3
        exact hb3
      case measure => simp [intOf]; omega
    · have HJ : Hid (j = 32) := by show j = 32; omega
      go_wp2_with (go_at_call 80; refine (string_any _ _ _ _ _ _ hbj.F).mono ?_; rintro e w' ⟨rfl, _, ho4⟩)
      go_ret
      refine ⟨?_, (hmj.told ho4).1⟩
      rw [HJ.out, List.take_of_length_le (by rw [HD.out]; exact Nat.le_refl _)]
      rfl

theorem run_bytes_text {P : Program} {w : World} {b : Nat} {d : List UInt8} {ty : TypeId} (h : Blk w b (Lib.byteCells d) ty) {src dst e : TypeId} (hs : P.underlying src = some (.slice e)) (he : P.underlying e = some (.int .u8)) (hd : P.underlying dst = some .string) (cap : Nat) :
    (convert src dst (.slice (some ⟨b, 0, none⟩) d.length cap)).run P w = .ok (.string ⟨d.toArray⟩) w := by
  refine run_convert_bytes_back w src dst e ⟨b, 0, none⟩ cap d hs he hd fun j hj => ?_
  have hadd : (⟨b, 0, none⟩ : Addr).add j = ⟨b, j, none⟩ := by unfold Addr.add; split <;> simp_all
  rw [hadd, h.cell (byteCells_get d j hj), List.getD_eq_getElem?_getD, List.getElem?_eq_getElem hj]
  rfl

set_option maxRecDepth 100000 in
set_option maxHeartbeats 1000000 in
theorem pair_any (a b : List UInt8) (w : World) (ha : a.length = 32) (hb : b.length = 32) :
    Calls Try.prog 36 #[.agg (Lib.byteCells a).toArray, .agg (Lib.byteCells b).toArray] w fun e w' => e = .returned (.agg (Lib.byteCells (Sha.pair a b)).toArray) ∧ Only [] w w' := by
  have hA := Blk.new w (Lib.byteCells a) 57
  have hB := Blk.new (w.alloc (.cells (Lib.byteCells a).toArray 57)) (Lib.byteCells b) 57
  have HA := Lib.hid (hA.alloc (.cells (Lib.byteCells b).toArray 57))
  have HB := Lib.hid hB
  have HLA := Lib.hid ha
  have HLB := Lib.hid hb
  clear ha hb hA hB
  go_enter Try.func36, Try.ntmps36
  go_wp2_with (refine wpL_alloc rfl 4 rfl _ rfl (.agg zeros32.toArray) zeros32 (by kernel_rfl) rfl ?_; intro w1 ho1 hs1 hb1)
  go_frame
  have hA1 := HA.out.keep ho1
  have hB1 := HB.out.keep ho1
  have hca : (convert 114 9 (.slice (some ⟨w.heap.size, 0, none⟩) 32 32)).run Try.prog w1.drew = .ok (.string ⟨a.toArray⟩) w1.drew := by
    have := run_bytes_text (P := Try.prog) hA1.drew (src := 114) (dst := 9) Try.underlying114 Try.underlying5 Try.underlying9 32
    rwa [HLA.out] at this
  have hcb : (convert 114 9 (.slice (some ⟨w.heap.size + 1, 0, none⟩) 32 32)).run Try.prog w1.drew = .ok (.string ⟨b.toArray⟩) w1.drew := by
    have := run_bytes_text (P := Try.prog) hB1.drew (src := 114) (dst := 9) Try.underlying114 Try.underlying5 Try.underlying9 32
    rw [HLB.out] at this
    simpa using this
  go_still_tail 4, (by kernel_rfl)
  change wpList _ _ _ _ _ w1.drew
  have hz1 : Blk w1 (w.heap.size + 1 + 1) zeros32 57 := by simpa using hb1
  have hc : Hid (cat [⟨#[1]⟩, ⟨a.toArray⟩, ⟨b.toArray⟩] = [1] ++ a ++ b) := by show _ = _; simp [cat, bl]
  have hstr : Strs (w1.alloc (.cells #[.string ⟨#[1]⟩, .string ⟨a.toArray⟩, .string ⟨b.toArray⟩] 9)).drew (.slice (some ⟨w1.heap.size, 0, none⟩) 3 3) [⟨#[1]⟩, ⟨a.toArray⟩, ⟨b.toArray⟩] := (Strs.made w1 [⟨#[1]⟩, ⟨a.toArray⟩, ⟨b.toArray⟩] 9).keep (Only.refl _ _).drew
  have hov : Only [] w (w1.alloc (.cells #[.string ⟨#[1]⟩, .string ⟨a.toArray⟩, .string ⟨b.toArray⟩] 9)).drew := (((((Only.refl _ w).alloc _).alloc _).trans ho1).alloc _).drew
  have HSTR := Lib.hid hstr
  have HZ := Lib.hid ((hz1.alloc (.cells #[.string ⟨#[1]⟩, .string ⟨a.toArray⟩, .string ⟨b.toArray⟩] 9)).drew)
  clear hstr hz1 hca hcb
  go_wp2_with (go_at_call 33; refine (of_any _ [⟨#[1]⟩, ⟨a.toArray⟩, ⟨b.toArray⟩] _ HSTR.out (by simp) (by rw [hc.out]; simp [HLA.out, HLB.out])).mono ?_)
  rintro e w2 ⟨rfl, ho2⟩
  rw [hc.out]
  have hz2 := HZ.out.keep ho2
  go_wp2_with (refine wpL_store rfl _ _ _ rfl (w.heap.size + 1 + 1) _ rfl rfl _ _ hz2 digInfo (by simp [byteCells_length, Sha.sum_length]) rfl (byteCells_one _) ?_; intro w3 ho3 hs3 hb3)
  refine end_row (ty := 57) Try.results36 rfl hb3 Try.underlying57 rfl digInfo (by simp [byteCells_length, Sha.sum_length]) rfl ⟨rfl, (hov.trans ho2).step ho3 (by simp; omega)⟩

end Go.Proofs.Ytlciphmjkbihkaa
