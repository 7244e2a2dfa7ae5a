/- Seals: what the law of layer 6 asks ahead. -/
import Derived.Test.YtmogkiacakkmbaaSealH
import Derived.Test.YtmogkiacakkmbaaDskC
import Derived.Test.YtmogkiacakkmbaaZonB
namespace Go.Proofs.Ytmogkiacakkmbaa
open Go.RowKit

theorem getR_none (m : DM) (f n : Nat) (a : Int) (hz : zreadE m f n a = 0) (h : zread m f n a = zeroS 32) : getR m f n a = (⟨#[]⟩, 0, 5) := by
  have r1 : rowJ m f n a 1 = ([], 0, 5) := by
    unfold rowJ
    rw [show a + ((0 : Nat) : Int) = a by omega, if_neg (by simp [rowJ]), hz, if_neg (by decide), if_neg (by simp), h, secNum_zero, if_pos (.inl rfl)]
  have r2 : rowJ m f n a 2 = ([], 0, 5) := by
    rw [rowJ_stuck m f n a 1 2 (by rw [r1]; decide) (by decide), r1]
  unfold getR
  rw [hz, if_neg (by simp), r2, if_pos (by decide)]
/-- What stands in a zone, behind writes that are all there. -/
theorem zread_free (m : DM) (f n a : Nat) (haw : m.away = false) (hfn : f + n ≤ m.len) (ha : a < n) : zreadE m f n (a : Int) = 0 ∧ zread m f n (a : Int) = m.now.getD (f + a) ⟨#[]⟩ := by
  have hz : zIn n (a : Int) = true := zIn_iff.2 (by omega)
  have hc : m.check ((f : Int) + (a : Int)) = 0 := by
    unfold DM.check
    rw [if_neg (by omega), if_neg (by simp [haw])]
  unfold zreadE zread
  rw [if_pos hz, if_pos hz]
  refine ⟨hc, ?_⟩
  unfold DM.read
  rw [if_pos hc, show ((f : Int) + (a : Int)).toNat = f + a by omega]
/-- What was put is got. -/
theorem getR_put (m : DM) (f n a : Nat) (num : Int) (s : ByteArray) (haw : m.away = false) (hfn : f + n ≤ m.len) (hc : canLay num s = true) (ha : a + secsOf s.size ≤ n) (lo : List (Nat × ByteArray)) (hlo : m.loose = lo ++ wsOf (f + a) (layS num s (secsOf s.size)) (secsOf s.size)) :
    getR m f n (a : Int) = (s, num, 0) := by
  have h2 := secsOf_two s.size
  obtain ⟨hN, hs⟩ := canLay_iff.1 hc
  have hr : ∀ i, i < secsOf s.size → zreadE m f n ((a : Int) + (i : Int)) = 0 ∧ zread m f n ((a : Int) + (i : Int)) = laySec num s i := fun i hi => by
    obtain ⟨h1, h2⟩ := zread_free m f n (a + i) haw hfn (by omega)
    rw [show ((a + i : Nat) : Int) = (a : Int) + (i : Int) by omega] at h1 h2
    refine ⟨h1, h2.trans ?_⟩
    unfold DM.len at hfn
    unfold DM.now
    rw [hlo, laid_append, laid_ws _ _ _ _ _ _ (by rw [laid_length]; omega), if_pos ⟨by omega, by omega⟩, show f + (a + i) - (f + a) = i by omega, layS_at _ _ _ _ hi]
  have h0 := (hr 0 (by omega)).2
  rw [show (a : Int) + ((0 : Nat) : Int) = (a : Int) by omega] at h0
  exact (getR_mix m f n a num s hN hs (fun i hi => (hr i hi).1) h0 (fun i hi _ => (hr i hi).2)).1 (fun i hi => (hr i hi).2)
def awakeM : DM := (putR (DM.fresh 6) 1 5 1 7 ⟨#[97]⟩).1
theorem awakeM_facts : (putR (DM.fresh 6) 1 5 1 7 ⟨#[97]⟩).2 = 0 ∧ awakeM.loose.length ≤ 100 ∧ getR awakeM 1 5 1 = (⟨#[97]⟩, 7, 0) ∧ getR awakeM 1 5 0 = (⟨#[]⟩, 0, 5) := by
  have h97 : (⟨#[97]⟩ : ByteArray).size = 1 := rfl
  have hs2 : secsOf (⟨#[97]⟩ : ByteArray).size = 2 := rfl
  obtain ⟨dn, h⟩ := putR_free (DM.fresh 6) 1 5 1 7 ⟨#[97]⟩ rfl rfl (by decide) (by decide) (by decide)
  rw [show ((1 : Nat) : Int) = 1 from rfl] at h
  unfold awakeM
  rw [h]
  refine ⟨rfl, by simp [DM.fresh, wsOf_length, hs2], ?_, ?_⟩
  · exact getR_put _ 1 5 1 7 ⟨#[97]⟩ rfl (Nat.le_refl 6) (by decide) (by decide) [] rfl
  · obtain ⟨h1, h2⟩ := zread_free { DM.fresh 6 with loose := (DM.fresh 6).loose ++ wsOf (1 + 1) (layS 7 ⟨#[97]⟩ (secsOf (⟨#[97]⟩ : ByteArray).size)) (secsOf (⟨#[97]⟩ : ByteArray).size), done := dn } 1 5 0 rfl (Nat.le_refl 6) (by decide)
    refine getR_none _ _ _ _ h1 (h2.trans ?_)
    unfold DM.now
    simp only [DM.fresh, List.nil_append]
    rw [laid_ws _ _ _ _ _ _ (by rw [List.length_replicate, hs2]; decide), if_neg (by omega)]
    rfl

set_option maxRecDepth 100000 in
set_option maxHeartbeats 8000000 in
theorem awake06_any (w : World) : Calls Try.prog 13 #[] w fun e w' => e = .returned (.bool true) ∧ Only [] w w' := by
  have hst := Sd.start w []
  obtain ⟨f1, f2, f3, f4⟩ := awakeM_facts
  have DN : Hid (∀ w, Calls Try.prog 14 #[.int .i64 6] w fun e w' => ∃ d F, e = .returned (.pointer (some ⟨d, 0, none⟩)) ∧ DiskAt w' d (DM.fresh 6) F ∧ Only [] w w' ∧ (∀ b ∈ F, w.heap.size ≤ b)) := fun w => dskNew_any 6 w (by decide)
  have ZN : Hid (∀ d F w, DiskAt w d (DM.fresh 6) F → Calls Try.prog 15 #[.pointer (some ⟨d, 0, none⟩), .int .i64 1, .int .i64 5] w fun e w' => ∃ z, e = .returned (.tuple #[.pointer (some ⟨z, 0, none⟩), .int .i64 0]) ∧ w.heap.size ≤ z ∧ Blk w' z (zcells d 1 5) 34 ∧ Only [] w w') := fun d F w h => zonNew_yes d 1 5 _ F w h (by decide)
  have PT : Hid (∀ z d F w, Blk w z (zcells d 1 5) 34 → DiskAt w d (DM.fresh 6) F → z ∉ F → Calls Try.prog 16 #[.pointer (some ⟨z, 0, none⟩), .int .i64 1, .int .i64 7, .string ⟨#[97]⟩] w fun e w' => ∃ F', e = .returned (.int .i64 0) ∧ DiskAt w' d awakeM F' ∧ Turn F F' w w') := fun z d F w h1 h2 h3 => by
    have := sealPut_any z d 1 5 (DM.fresh 6) F 1 7 ⟨#[97]⟩ w h1 h2 h3 (by decide) (by decide) (by decide) (by decide)
    rw [f1] at this
    exact this
  have G1 : Hid (∀ z d F w, Blk w z (zcells d 1 5) 34 → DiskAt w d awakeM F → z ∉ F → Calls Try.prog 21 #[.pointer (some ⟨z, 0, none⟩), .int .i64 1] w fun e w' => e = .returned (.tuple #[.string ⟨#[97]⟩, .int .i64 7, .int .i64 0]) ∧ Only [] w w') := fun z d F w h1 h2 h3 => by
    have := sealGet_any z d 1 5 awakeM F 1 w h1 h2 h3 (by decide) (by decide) (by omega)
    rw [f3] at this
    exact this
  have G0 : Hid (∀ z d F w, Blk w z (zcells d 1 5) 34 → DiskAt w d awakeM F → z ∉ F → Calls Try.prog 21 #[.pointer (some ⟨z, 0, none⟩), .int .i64 0] w fun e w' => e = .returned (.tuple #[.string ⟨#[]⟩, .int .i64 0, .int .i64 5]) ∧ Only [] w w') := fun z d F w h1 h2 h3 => by
    have := sealGet_any z d 1 5 awakeM F 0 w h1 h2 h3 (by decide) (by decide) (by omega)
    rw [f4] at this
    exact this
  have LY : Hid (∀ w, Calls Try.prog 22 #[.int .i64 0, .string ⟨#[]⟩] w fun e w' => e = .returned (.tuple #[.slice none 0 0, .int .i64 1]) ∧ Only [] w w') := fun w => sealLay_no 0 ⟨#[]⟩ w (by decide)
  have SZ : Hid (∀ w, Calls Try.prog 18 #[.string ⟨#[97]⟩] w fun e w' => e = .returned (.int .i64 2) ∧ w = w') := fun w => sealSize_any ⟨#[97]⟩ w (by decide)
  clear f1 f2 f3 f4
  go_enter Try.func13, Try.ntmps13
  go_wp2_with (first
    | (go_at_call 14; (with_reducible refine (DN.out _).mono ?_); rintro e1 w1 ⟨d, F, rfl, hd1, ho1, hg1⟩; replace hst := hst.add ho1 (r := diskR d _ F) hd1 hg1; clear hd1 ho1 hg1)
    | (go_at_call 15; (with_reducible refine (ZN.out _ _ _ (hst.rs 0 rfl)).mono ?_); rintro e1 w1 ⟨z, rfl, hg1, hz1, ho1⟩; replace hst := hst.new ho1 hz1 hg1; clear hg1 hz1 ho1)
    | (go_at_call 16; (with_reducible refine (PT.out _ _ _ _ (hst.blk 0 rfl) (hst.rs 0 rfl) (hst.away 0 0 rfl rfl)).mono ?_); rintro e1 w1 ⟨F1, rfl, hd1, ht1⟩; replace hst := hst.act 0 rfl (diskR _ _ F1) rfl ht1 hd1; simp only [List.set] at hst; clear hd1 ht1)
    | (go_at_call 21; (with_reducible first | refine (G1.out _ _ _ _ (hst.blk 0 rfl) (hst.rs 0 rfl) (hst.away 0 0 rfl rfl)).mono ?_ | refine (G0.out _ _ _ _ (hst.blk 0 rfl) (hst.rs 0 rfl) (hst.away 0 0 rfl rfl)).mono ?_); rintro e1 w1 ⟨rfl, ho1⟩; replace hst := hst.keep ho1; clear ho1)
    | (go_at_call 22; (with_reducible refine (LY.out _).mono ?_); rintro e1 w1 ⟨rfl, ho1⟩; replace hst := hst.keep ho1; clear ho1)
    | (go_at_call 18; (with_reducible refine (SZ.out _).mono ?_); rintro e1 w1 ⟨rfl, rfl⟩)
    | ((with_reducible refine wpL_isBin rfl ?_); refine wpL_yes rfl (wpL_eql_same rfl 9 _ _ _ rfl _ rfl rfl ?_)))
  go_ret
  exact ⟨rfl, hst.only⟩
end Go.Proofs.Ytmogkiacakkmbaa
