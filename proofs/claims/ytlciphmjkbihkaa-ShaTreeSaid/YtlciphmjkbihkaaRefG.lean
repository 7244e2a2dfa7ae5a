/- Walks: the reference's digits; digits read back. -/
import Derived.Test.YtlciphmjkbihkaaRefF
namespace Go.Proofs.Ytlciphmjkbihkaa
open Go.RowKit

/-- The digits' text. -/
def DIG : ByteArray := ⟨#[48, 49, 50, 51, 52, 53, 54, 55, 56, 57, 97, 98, 99, 100, 101, 102]⟩
theorem dig_slice (q : Nat) (h : q < 16) : bl (DIG.extract q (q + 1)) = [Sha.dig.getD q 0] := by
  have : ∀ q : Fin 16, bl (DIG.extract q.val (q.val + 1)) = [Sha.dig.getD q.val 0] := by decide +kernel
  exact this ⟨q, h⟩

theorem ext_size (a b : Nat) : (DIG.extract a b).size ≤ 16 := by
  rw [ByteArray.size_extract]
  have : DIG.size = 16 := rfl
  omega

set_option maxRecDepth 100000 in
set_option maxHeartbeats 1000000 in
theorem refText_any (d : List UInt8) (w : World) (hd : d.length = 32) :
    Calls Try.prog 53 #[.agg (Lib.byteCells d).toArray] w fun e w' => e = .returned (.string ⟨(Sha.text d).toArray⟩) ∧ Only [] w w' := by
  have HD := Lib.hid hd
  clear hd
  have hb0 := Blk.new w (Lib.byteCells d) 56
  go_enter Try.func53, Try.ntmps53
  go_wp2
  go_loopw [4, 5] (fun s i wr => ∃ (j : Nat), j ≤ 32 ∧ i = .int .i64 j ∧ s = .string ⟨(Sha.text (d.take j)).toArray⟩ ∧ Only [] (w.alloc (.cells (Lib.byteCells d).toArray 56)) wr) (fun _ i _ => 32 - (intOf i).toNat)
  case atStart => exact ⟨0, by omega, rfl, rfl, Only.refl _ _⟩
  case round =>
    obtain ⟨j, hj, rfl, rfl, hor⟩ := hrel
    by_cases hlt : j < 32
    · have j32 : (j : Int) < 32 := by omega
      have hc := (hb0.keep hor).cell (byteCells_get d j (by rw [HD.out]; exact hlt))
      have hc256 := (d.getD j 0).toNat_lt
      obtain ⟨c, ec⟩ : ∃ c : Nat, c = (d.getD j 0).toNat := ⟨_, rfl⟩
      rw [← ec] at hc hc256
      have EC := Lib.hid ec
      clear ec
      have hts : (⟨(Sha.text (d.take j)).toArray⟩ : ByteArray).size ≤ 64 := by
        show (Sha.text (d.take j)).length ≤ 64
        rw [text_length, List.length_take]
        omega
      go_wp2_with fail
      refine wp_region_text (by kernel_rfl) (by kernel_rfl) ?_
      have s1 : ((⟨#[48, 49, 50, 51, 52, 53, 54, 55, 56, 57, 97, 98, 99, 100, 101, 102]⟩ : ByteArray).extract (c / 16) (c / 16 + 1)).size ≤ 16 := ext_size _ _
      have s2 : ((⟨#[48, 49, 50, 51, 52, 53, 54, 55, 56, 57, 97, 98, 99, 100, 101, 102]⟩ : ByteArray).extract (c % 16) (c % 16 + 1)).size ≤ 16 := ext_size _ _
      have S1 := Lib.hid s1
      have S2 := Lib.hid s2
      have TS := Lib.hid hts
      clear s1 s2 hts
      go_wp2_with (first
        | (refine wpL_concat rfl _ _ _ _ rfl _ _ rfl rfl (by rw [ByteArray.size_append]; have := S1.out; have := S2.out; have := TS.out; omega) ?_)
        | (refine wpL_concat rfl _ _ _ _ rfl _ _ rfl rfl (by have := S1.out; have := TS.out; omega) ?_))
      refine TextQ.mk ?_ rfl
      go_wp2_with fail
      go_roundw
      case rel =>
        refine ⟨j + 1, by omega, by go_num, ?_, hor.drew⟩
        congr 1
        refine bl_ext ?_
        have e0 : bl ⟨(Sha.text (d.take j)).toArray⟩ = Sha.text (d.take j) := rfl
        have e1 := dig_slice (c / 16) (by omega)
        have e2 := dig_slice (c % 16) (by omega)
        unfold DIG at e1 e2
        rw [bl_append, bl_append, e0, e1, e2]
        show _ = Sha.text (d.take (j + 1))
        rw [text_take d j (by rw [HD.out]; exact hlt), ← EC.out]
      case measure => simp [intOf]; omega
    · go_wp2_with fail
      go_ret
      obtain rfl : j = 32 := by omega
      rw [List.take_of_length_le (by rw [HD.out]; exact Nat.le_refl _)]
      exact ⟨rfl, ((Only.refl [] w).alloc _).trans hor⟩

end Go.Proofs.Ytlciphmjkbihkaa
