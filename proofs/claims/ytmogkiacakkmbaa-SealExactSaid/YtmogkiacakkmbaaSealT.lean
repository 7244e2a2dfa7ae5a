/- The law SealExact: its cases, joined. -/
import Derived.Test.YtmogkiacakkmbaaSealQ
namespace Go.Proofs.Ytmogkiacakkmbaa
open Go.RowKit

set_option maxRecDepth 100000 in
set_option maxHeartbeats 16000000 in
/-- A text that can be laid, where there is room. -/
theorem sealExact_room (n : Int) (s image : ByteArray) (p : Int) (w : World) (h1 : (s.size : Int) ≤ 1100) (h2 : (image.size : Int) ≤ 640) (h3 : 32 ≤ (image.size : Int)) (hc : canLay n s = true) (hr : 0 ≤ p ∧ p < ((image.size / 32 : Nat) : Int) ∧ (secsOf s.size : Int) ≤ ((image.size / 32 : Nat) : Int) - p) :
    Calls Try.prog 4 #[.int .i64 n, .string s, .string image, .int .i64 p] w fun e w' => e = .returned (.bool true) ∧ Only [] w w' := by
  have hst := Sd.start w []
  have AW := Lib.hid awake06_any
  obtain ⟨M, eM⟩ : ∃ M, M = DM.of image := ⟨_, rfl⟩
  have hok : M.Ok := by rw [eM]; exact DM.of_ok image
  have hlo : M.loose = [] := by rw [eM]; rfl
  have haw : M.away = false := by rw [eM]; rfl
  obtain ⟨L, eL⟩ : ∃ L, L = M.len := ⟨_, rfl⟩
  have hLi : L = image.size / 32 := by
    rw [eL, eM]
    unfold DM.len DM.of
    simp only [secsD_length]
    unfold secsN
    omega
  rw [← hLi] at hr
  have hL : 1 ≤ L ∧ L ≤ 20 := by
    have : M.len = secsN image := by rw [eM]; unfold DM.len DM.of; simp only; exact secsD_length _ _
    rw [eL, this]
    unfold secsN
    omega
  obtain ⟨K, eK⟩ : ∃ K, K = secsOf s.size := ⟨_, rfl⟩
  have LY : Hid (∀ w, Calls Try.prog 22 #[.int .i64 n, .string s] w fun e w' => ∃ ad cp, e = .returned (.tuple #[.slice ad K cp, .int .i64 0]) ∧ w'.ownsRow 0 9 1 (.slice ad K cp) K (scells (layS n s K)) ∧ (∀ b ∈ (Value.slice ad K cp).ownBlock.toList, w.heap.size ≤ b) ∧ Only [] w w') := fun w => by rw [eK]; exact sealLay_yes n s w hc
  have RB : Hid (∀ w, Calls Try.prog 23 #[.int .i64 n, .string s] w fun e w' => e = .returned (.tuple #[.string (catS n s K), .bool true]) ∧ Only [] w w') := fun w => by rw [eK]; exact refBytes_yes n s w hc
  have hK40 : K ≤ 40 := by
    have := (canLay_iff.1 hc).2
    rw [eK]
    unfold secsOf
    omega
  have JN : Hid (∀ ad cp w, World.ownsRow w 0 9 1 (.slice ad K cp) K (scells (layS n s K)) → Calls Try.prog 24 #[.slice ad K cp] w fun e w' => e = .returned (.string (catS n s K)) ∧ Only [] w w') := fun ad cp w h => by
    have hl : (layS n s K).length = K := layS_length n s K
    have := joinedRow_any (layS n s K) ad cp w (by rw [hl]; exact h) (fun t ht => by
      simp only [layS, List.mem_map, List.mem_range] at ht
      obtain ⟨i, hi, rfl⟩ := ht
      rw [laySec_size n s i (by omega)]
      exact Nat.le_refl _) (by omega)
    rw [hl] at this
    exact this
  have S1 : Hid (∀ w, Calls Try.prog 18 #[.string s] w fun e w' => e = .returned (.int .i64 (K : Int)) ∧ w = w') := fun w => by rw [eK]; exact sealSize_any s w (by omega)
  have S2 : Hid (∀ w, Calls Try.prog 25 #[.string s] w fun e w' => e = .returned (.int .i64 (K : Int)) ∧ w = w') := fun w => by rw [eK]; exact refSizeT s w (by omega)
  have DN : Hid (∀ w, Calls Try.prog 26 #[.string image] w fun e w' => ∃ d F, e = .returned (.pointer (some ⟨d, 0, none⟩)) ∧ DiskAt w' d M F ∧ Only [] w w' ∧ (∀ b ∈ F, w.heap.size ≤ b)) := fun w => by rw [eM]; exact dskOf_any image w (by omega)
  have LN : Hid (∀ d F w, DiskAt w d M F → Calls Try.prog 27 #[.pointer (some ⟨d, 0, none⟩)] w fun e w' => e = .returned (.int .i64 (L : Int)) ∧ Only [] w w') := fun d F w h => by rw [eL]; exact dskLen_any d M F w h
  have ZN : Hid (∀ d F w, DiskAt w d M F → Calls Try.prog 15 #[.pointer (some ⟨d, 0, none⟩), .int .i64 0, .int .i64 (L : Int)] w fun e w' => ∃ z, e = .returned (.tuple #[.pointer (some ⟨z, 0, none⟩), .int .i64 0]) ∧ w.heap.size ≤ z ∧ Blk w' z (zcells d 0 L) 34 ∧ Only [] w w') := fun d F w h => zonNew_yes d 0 L _ F w h (by unfold partOk; simp; omega)
  have IM : Hid (∀ d F w, DiskAt w d M F → Calls Try.prog 29 #[.pointer (some ⟨d, 0, none⟩)] w fun e w' => e = .returned (.string (joinB M.safe)) ∧ Only [] w w') := fun d F w h => dskImage_any d M F w h
  have GT : Hid (∀ z d F w, Blk w z (zcells d 0 L) 34 → DiskAt w d M F → z ∉ F → Calls Try.prog 21 #[.pointer (some ⟨z, 0, none⟩), .int .i64 p] w fun e w' => e = .returned (.tuple #[.string (getR M 0 L p).1, .int .i64 (getR M 0 L p).2.1, .int .i64 (getR M 0 L p).2.2]) ∧ Only [] w w') := fun z d F w h1 h2 h3 => sealGet_any z d 0 L M F p w h1 h2 h3 (by decide) (by omega) (by rw [hlo]; decide)
  obtain ⟨l1, l2⟩ := hL
  · obtain ⟨a, rfl⟩ : ∃ a : Nat, p = (a : Int) := ⟨p.toNat, by omega⟩
    have ha : a < L := by omega
    obtain ⟨X, eX⟩ : ∃ X, X = joinB M.safe := ⟨_, rfl⟩
    have hX : X.size = 32 * L := by rw [eX, joinB_size _ hok.full, eL]; rfl
    have hG : refG (X.extract (32 * a) X.size) = getR M 0 L (a : Int) := by rw [eX, eL]; exact getR_image M hok haw hlo a (by omega)
    have RG : Hid (∀ w, Calls Try.prog 28 #[.string (X.extract (a * 32) (32 * L))] w fun e w' => e = .returned (.tuple #[.string (getR M 0 L (a : Int)).1, .int .i64 (getR M 0 L (a : Int)).2.1, .int .i64 (getR M 0 L (a : Int)).2.2]) ∧ Only [] w w') := fun w => by
      rw [Nat.mul_comm a 32, ← hG, ← hX]
      exact refGet_any _ w (by rw [ext_len _ _ _ (Nat.le_refl _) (by omega)]; omega)
    rw [← eX] at IM
    generalize getR M 0 L (a : Int) = G at *
    obtain ⟨t, k, g⟩ := G
    have ha' : (a : Int) < L := by omega
    have hX' : (X.size : Int) = 32 * (L : Int) := by omega
    have hX2 : (a : Int) * 32 ≤ X.size := by omega
    have hfu : M.fuse = -1 := by rw [eM]; rfl
    have hroom : a + K ≤ L := by rw [eK]; omega
    obtain ⟨dn, hP⟩ := putR_free M 0 L a n s haw hfu (by omega) hc (by rw [← eK]; exact hroom)
    rw [hlo, List.nil_append, ← eK] at hP
    obtain ⟨M1, eM1⟩ : ∃ M1, M1 = (putR M 0 L (a : Int) n s).1 := ⟨_, rfl⟩
    have eM1' : M1 = { M with loose := wsOf (0 + a) (layS n s K) K, done := dn } := by rw [eM1, hP]
    have P1 : Hid (∀ z d F w, Blk w z (zcells d 0 L) 34 → DiskAt w d M F → z ∉ F → Calls Try.prog 16 #[.pointer (some ⟨z, 0, none⟩), .int .i64 (a : Int), .int .i64 n, .string s] w fun e w' => ∃ F', e = .returned (.int .i64 0) ∧ DiskAt w' d M1 F' ∧ Turn F F' w w') := fun z d F w h1 h2 h3 => by
      have := sealPut_any z d 0 L M F (a : Int) n s w h1 h2 h3 (by decide) (by omega) (by omega) (by rw [hlo]; decide)
      rw [← eM1, show (putR M 0 L (a : Int) n s).2 = 0 by rw [hP]] at this
      exact this
    have hl1 : M1.len = L := by rw [eM1', eL]; rfl
    have LN1 : Hid (∀ d F w, DiskAt w d M1 F → Calls Try.prog 27 #[.pointer (some ⟨d, 0, none⟩)] w fun e w' => e = .returned (.int .i64 (L : Int)) ∧ Only [] w w') := fun d F w h => by rw [← hl1]; exact dskLen_any d M1 F w h
    have hlo1 : M1.loose.length ≤ 100 := by rw [eM1']; simp only [wsOf_length]; omega
    have G1 : Hid (∀ z d F w, Blk w z (zcells d 0 L) 34 → DiskAt w d M1 F → z ∉ F → Calls Try.prog 21 #[.pointer (some ⟨z, 0, none⟩), .int .i64 (a : Int)] w fun e w' => e = .returned (.tuple #[.string s, .int .i64 n, .int .i64 0]) ∧ Only [] w w') := fun z d F w h1 h2 h3 => by
      have := sealGet_any z d 0 L M1 F (a : Int) w h1 h2 h3 (by decide) (by omega) (by omega)
      rw [getR_put M1 0 L a n s (by rw [eM1']; exact haw) (by omega) hc (by rw [← eK]; exact hroom) [] (by rw [eM1', ← eK]; rfl)] at this
      exact this
    obtain ⟨M2, eM2⟩ : ∃ M2, M2 = M1.sync := ⟨_, rfl⟩
    have SY : Hid (∀ d F w, DiskAt w d M1 F → Calls Try.prog 17 #[.pointer (some ⟨d, 0, none⟩)] w fun e w' => ∃ F', e = .returned (.int .i64 0) ∧ DiskAt w' d M2 F' ∧ Turn F F' w w') := fun d F w h => by
      have := dskSync_any d M1 F w h (by omega) (by omega)
      have e : M1.syncE = 0 := by rw [eM1']; unfold DM.syncE DM.useE; simp [haw, hfu]
      rw [e, ← eM2] at this
      exact this
    obtain ⟨dm, hM2⟩ : ∃ dm, M2 = { M with safe := M1.now, loose := [], done := dm } := by
      refine ⟨wrap64 (dn + 1), ?_⟩
      rw [eM2, eM1']
      unfold DM.sync DM.used
      simp only [haw, hfu]
      rfl
    obtain ⟨Y, eY⟩ : ∃ Y, Y = joinB M2.safe := ⟨_, rfl⟩
    have hn1 : M1.now.length = L := by rw [DM.now_length, hl1]
    have hok1 : M1.Ok := by
      rw [eM1']
      refine ⟨hok.few, hok.full, fun x hx => ?_, fun x hx => ?_, hok.least, hok.most, hok.kept⟩
      all_goals
        simp only [wsOf, List.mem_map, List.mem_range] at hx
        obtain ⟨i, hi, rfl⟩ := hx
      · show ((layS n s K).getD i ⟨#[]⟩).size = 32
        rw [layS_at _ _ _ _ hi]
        exact laySec_size n s i (by omega)
      · show 0 + a + i < M.safe.length
        have : M.len = M.safe.length := rfl
        omega
    have hY : Y.size = 32 * L := by rw [eY, hM2]; simp only; rw [joinB_size _ (DM.now_wide hok1), hn1]
    have I2 : Hid (∀ d F w, DiskAt w d M2 F → Calls Try.prog 29 #[.pointer (some ⟨d, 0, none⟩)] w fun e w' => e = .returned (.string Y) ∧ Only [] w w') := fun d F w h => by rw [eY]; exact dskImage_any d M2 F w h
    have HY : Hid (decide (Y.extract (a * 32) (a * 32 + 32 * K) = catS n s K) = true) := by
      refine decide_eq_true ?_
      rw [Nat.mul_comm a 32]
      rw [eY, hM2, eK]
      simp only
      refine joinB_put M1.now (DM.now_wide hok1) a n s (by rw [hn1, ← eK]; exact hroom) (fun i hi => ?_)
      unfold DM.now
      rw [eM1']
      simp only
      rw [laid_ws _ _ _ _ _ _ (by show 0 + a + K ≤ M.len; omega), if_pos ⟨by omega, by rw [← eK] at hi; omega⟩, show a + i - (0 + a) = i by omega, layS_at _ _ _ _ (by rw [← eK] at hi; exact hi)]
    obtain ⟨M3, eM3⟩ : ∃ M3, M3 = M2.cut [] := ⟨_, rfl⟩
    have hl2 : M2.len = L := by rw [hM2]; exact hn1
    have CU : Hid (∀ d F w, DiskAt w d M2 F → Calls Try.prog 19 #[.pointer (some ⟨d, 0, none⟩), .slice none 0 0] w fun e w' => ∃ F', e = .returned (.tuple #[]) ∧ DiskAt w' d M3 F' ∧ Turn F F' w w') := fun d F w h => by
      rw [eM3]
      exact dskCut_any d M2 F _ [] [] w h (by omega) (.inl ⟨rfl, rfl, none, 0, rfl⟩) (fun b hb => by cases hb) (by rw [hM2]; exact Nat.zero_le _)
    have haw3 : M3.away = true := by rw [eM3, hM2]; unfold DM.cut; simp [haw]
    have hl3 : M3.len = L := by
      rw [eM3]
      unfold DM.cut
      split
      · exact hl2
      · show (laid _ _).length = L
        rw [laid_length]
        exact hl2
    have hlo3 : M3.loose.length ≤ 100 := by
      rw [eM3, hM2]
      unfold DM.cut
      simp [haw]
    have G3 : Hid (∀ z d F w, Blk w z (zcells d 0 L) 34 → DiskAt w d M3 F → z ∉ F → Calls Try.prog 21 #[.pointer (some ⟨z, 0, none⟩), .int .i64 (a : Int)] w fun e w' => e = .returned (.tuple #[.string ⟨#[]⟩, .int .i64 0, .int .i64 4]) ∧ Only [] w w') := fun z d F w h1 h2 h3 => by
      have := sealGet_any z d 0 L M3 F (a : Int) w h1 h2 h3 (by decide) (by omega) (by omega)
      have hz := zreadE_away M3 0 L (a : Int) haw3 (by omega) (by omega)
      rw [getR_err _ _ _ _ (by rw [hz]; decide), hz] at this
      exact this
    obtain ⟨M4, eM4⟩ : ∃ M4, M4 = (putR M3 0 L (a : Int) n s).1 := ⟨_, rfl⟩
    have P3 : Hid (∀ z d F w, Blk w z (zcells d 0 L) 34 → DiskAt w d M3 F → z ∉ F → Calls Try.prog 16 #[.pointer (some ⟨z, 0, none⟩), .int .i64 (a : Int), .int .i64 n, .string s] w fun e w' => ∃ F', e = .returned (.int .i64 4) ∧ DiskAt w' d M4 F' ∧ Turn F F' w w') := fun z d F w h1 h2 h3 => by
      have := sealPut_any z d 0 L M3 F (a : Int) n s w h1 h2 h3 (by decide) (by omega) (by omega) (by omega)
      rw [← eM4, putR_away M3 0 L (a : Int) n s haw3 (by omega) hc (by unfold putIn; simp; omega)] at this
      exact this
    have GN : Hid (∀ w, Calls Try.prog 21 #[.pointer none, .int .i64 0] w fun e w' => e = .returned (.tuple #[.string ⟨#[]⟩, .int .i64 0, .int .i64 2]) ∧ Only [] w w') := sealGet_nil 0
    have PN : Hid (∀ w, Calls Try.prog 16 #[.pointer none, .int .i64 0, .int .i64 0, .string ⟨#[]⟩] w fun e w' => e = .returned (.int .i64 2) ∧ Only [] w w') := sealPut_nil 0 0 ⟨#[]⟩
    have hcs : (catS n s K).size = 32 * K := catS_size n s K (by omega)
    have hroom2 : ¬ (L : Int) - (a : Int) < (K : Int) := by omega
    have hY' : (Y.size : Int) = 32 * (L : Int) := by omega
    clear hG eK eL eM hok hlo haw hc eX hr hLi hP eM1 eM1' eM2 hM2 eM3 eM4 haw3 hl3 hlo3 hl2 hok1 hn1 hl1 hlo1 eY hfu
    go_enter Try.func4, Try.ntmps4
    go_wp2_with (first
      | ((with_reducible refine wpL_peel rfl ?_ ?_); focus (go_simp; done)) | (go_at_call 13; (with_reducible refine (AW.out _).mono ?_); rintro e1 w1 ⟨rfl, ho1⟩; replace hst := hst.keep ho1; clear ho1) | (go_at_call 22; (with_reducible refine (LY.out _).mono ?_); rintro e1 w1 ⟨ad, cp, rfl, hown, hge, ho1⟩; replace hst := hst.add ho1 (r := rowR (.slice ad K cp) 9 1 K (scells (layS n s K))) hown hge; clear ho1 hge hown) | (go_at_call 23; (with_reducible refine (RB.out _).mono ?_); rintro e1 w1 ⟨rfl, ho1⟩; replace hst := hst.keep ho1; clear ho1) | (go_at_call 24; (with_reducible refine (JN.out _ _ _ (hst.rs 0 rfl)).mono ?_); rintro e1 w1 ⟨rfl, ho1⟩; replace hst := hst.keep ho1; clear ho1)
      | (go_at_call 18; (with_reducible refine (S1.out _).mono ?_); rintro e1 w1 ⟨rfl, rfl⟩) | (go_at_call 25; (with_reducible refine (S2.out _).mono ?_); rintro e1 w1 ⟨rfl, rfl⟩) | (go_at_call 26; (with_reducible refine (DN.out _).mono ?_); rintro e1 w1 ⟨d, F, rfl, hd1, ho1, hg1⟩; replace hst := hst.add ho1 (r := diskR d _ F) hd1 hg1; clear hd1 ho1 hg1) | (go_at_call 27; (with_reducible first | refine (LN.out _ _ _ (hst.rs 0 rfl)).mono ?_ | refine (LN1.out _ _ _ (hst.rs 0 rfl)).mono ?_); rintro e1 w1 ⟨rfl, ho1⟩; replace hst := hst.keep ho1; clear ho1) | (go_at_call 15; (with_reducible refine (ZN.out _ _ _ (hst.rs 0 rfl)).mono ?_); rintro e1 w1 ⟨z, rfl, hg1, hz1, ho1⟩; replace hst := hst.new ho1 hz1 hg1; unfold zcells at hst; clear hg1 hz1 ho1)
      | ((with_reducible refine wpL_peel rfl ?_ ?_); focus (go_simp; done)) | ((with_reducible refine wpL_isLoad rfl ?_); first | (refine wpL_load1S hst.st rfl rfl 0 rfl rfl rfl (by kernel_rfl) ?_) | (refine wpL_load1S hst.st rfl rfl 1 rfl rfl rfl (by kernel_rfl) ?_) | (refine wpL_load1S hst.st rfl rfl 2 rfl rfl rfl (by kernel_rfl) ?_) | (refine wpL_load1S hst.st rfl rfl 3 rfl rfl rfl (by kernel_rfl) ?_))
      | (go_at_call 21; (with_reducible first | refine (GT.out _ _ _ _ (hst.blk 0 rfl) (hst.rs 0 rfl) (hst.away 0 0 rfl rfl)).mono ?_ | refine (G1.out _ _ _ _ (hst.blk 0 rfl) (hst.rs 0 rfl) (hst.away 0 0 rfl rfl)).mono ?_ | refine (G3.out _ _ _ _ (hst.blk 0 rfl) (hst.rs 0 rfl) (hst.away 0 0 rfl rfl)).mono ?_ | refine (GN.out _).mono ?_); rintro e1 w1 ⟨rfl, ho1⟩; replace hst := hst.keep ho1; clear ho1)
      | (go_at_call 29; (with_reducible first | refine (IM.out _ _ _ (hst.rs 0 rfl)).mono ?_ | refine (I2.out _ _ _ (hst.rs 0 rfl)).mono ?_); rintro e1 w1 ⟨rfl, ho1⟩; replace hst := hst.keep ho1; clear ho1)
      | (go_at_call 28; (with_reducible refine (RG.out _).mono ?_); rintro e1 w1 ⟨rfl, ho1⟩; replace hst := hst.keep ho1; clear ho1)
      | (go_at_call 16; first
          | ((with_reducible first | refine (P1.out _ _ _ _ (hst.blk 0 rfl) (hst.rs 0 rfl) (hst.away 0 0 rfl rfl)).mono ?_ | refine (P3.out _ _ _ _ (hst.blk 0 rfl) (hst.rs 0 rfl) (hst.away 0 0 rfl rfl)).mono ?_); rintro e1 w1 ⟨F1, rfl, hd1, ht1⟩; replace hst := hst.act 0 rfl (diskR _ _ F1) rfl ht1 hd1; simp only [List.set] at hst; clear hd1 ht1)
          | ((with_reducible refine (PN.out _).mono ?_); rintro e1 w1 ⟨rfl, ho1⟩; replace hst := hst.keep ho1; clear ho1))
      | (go_at_call 17; (with_reducible refine (SY.out _ _ _ (hst.rs 0 rfl)).mono ?_); rintro e1 w1 ⟨F1, rfl, hd1, ht1⟩; replace hst := hst.act 0 rfl (diskR _ _ F1) rfl ht1 hd1; simp only [List.set] at hst; clear hd1 ht1)
      | (go_at_call 19; (with_reducible refine (CU.out _ _ _ (hst.rs 0 rfl)).mono ?_); rintro e1 w1 ⟨F1, rfl, hd1, ht1⟩; replace hst := hst.act 0 rfl (diskR _ _ F1) rfl ht1 hd1; simp only [List.set] at hst; clear hd1 ht1)
      | ((with_reducible refine wpL_isBin rfl ?_); first | (refine wpL_neqStrT rfl rfl _ _ rfl rfl true HY.out ?_) | (refine wpL_neqStrT rfl rfl _ _ rfl rfl true (decide_eq_true rfl) ?_) | (refine wpL_eql_same rfl 9 _ _ _ rfl _ rfl rfl ?_)))
    go_ret
    exact ⟨rfl, hst.only⟩
end Go.Proofs.Ytmogkiacakkmbaa

namespace Go.Proofs.Ytmogkiacakkmbaa
open Go.RowKit

theorem sealExact_walk (n : Int) (s image : ByteArray) (p : Int) (w : World) :
    Calls Try.prog 4 #[.int .i64 n, .string s, .string image, .int .i64 p] w fun e w' => e = .returned (.bool true) ∧ Only [] w w' := by
  by_cases h1 : (s.size : Int) ≤ 1100
  · by_cases h2 : (image.size : Int) ≤ 640
    · by_cases h3 : 32 ≤ (image.size : Int)
      · cases hc : canLay n s
        · exact sealExact_no n s image p w h1 h2 h3 hc
        · by_cases hr : 0 ≤ p ∧ p < ((image.size / 32 : Nat) : Int) ∧ (secsOf s.size : Int) ≤ ((image.size / 32 : Nat) : Int) - p
          · exact sealExact_room n s image p w h1 h2 h3 hc hr
          · exact sealExact_noroom n s image p w h1 h2 h3 hc (by omega)
      · exact sealExact_far n s image p w (.inr (.inr ⟨h1, h2, by omega⟩))
    · exact sealExact_far n s image p w (.inr (.inl ⟨h1, by omega⟩))
  · exact sealExact_far n s image p w (.inl (by omega))
end Go.Proofs.Ytmogkiacakkmbaa
