/- Stores, plain: a disk laid out without a fuse; under one. -/
import Derived.Test.YtmogkiacakkmbaaStoC
import Derived.Test.YtmogkiacakkmbaaTwinH
import Derived.Test.YtmogkiacakkmbaaPutOk
namespace Go.Proofs.Ytmogkiacakkmbaa
open Go.RowKit

theorem fmtR_len (m : DM) (f n : Nat) (s : ByteArray) : (fmtR m f n s).1.len = m.len := by
  have h1 : (layA m f n).1.len = m.len := fillJ_len m f n (zeroS 32) n
  have h2 : (fmtC m f n s).1.len = m.len := (putR_len _ _ _ _ _ _).trans h1
  unfold fmtR
  split
  · exact h1
  · split
    · exact h2
    · exact (DM.sync_len _).trans h2
theorem fmtR_few (m : DM) (f n : Nat) (s : ByteArray) (hs : s.size ≤ 1024) : (fmtR m f n s).1.loose.length ≤ m.loose.length + n + 40 := by
  have h1 : (layA m f n).1.loose.length ≤ m.loose.length + n := fillJ_few m f n (zeroS 32) n
  have h2 : (fmtC m f n s).1.loose.length ≤ (layA m f n).1.loose.length + 40 := putR_few (layA m f n).1 f n 0 1 s hs
  have h3 := DM.sync_few (fmtC m f n s).1
  unfold fmtR
  split
  · omega
  · split
    · omega
    · show (fmtC m f n s).1.sync.loose.length ≤ _
      omega

set_option maxRecDepth 100000 in
set_option maxHeartbeats 16000000 in
theorem twinFormat_broke (z d f n : Nat) (m : DM) (F : List Nat) (s : ByteArray) (w : World) (hz : Blk w z (zcells d f n) 34) (hd : DiskAt w d m F) (hzF : z ∉ F) (hf : f ≤ 4096) (hn : n ≤ 4096) (h0 : 0 < m.len) (few : m.loose.length ≤ 800000) (hzo : zoneOk n = true) (hft : fits (n / 2) s = true) (er : Int) (her : (fmtR m f n s).2 = er) (he : ¬ er = 0) :
    Calls Try.prog 33 #[.pointer (some ⟨z, 0, none⟩), .string s] w fun e w' => ∃ F', e = .returned (.tuple #[.pointer none, .int .i64 er]) ∧ DiskAt w' d (fmtR m f n s).1 F' ∧ Turn F F' w w' := by
  have hst := (Sd.with (diskR d m F) hd).read hz (by simp) (fun r hr => by simp only [List.mem_singleton] at hr; subst hr; exact hzF)
  obtain ⟨f1, f2⟩ := fits_iff.1 hft
  have IZ : Hid (∀ w, Blk w z (zcells d f n) 34 → Calls Try.prog 97 #[.pointer (some ⟨z, 0, none⟩)] w fun e w' => e = .returned (.bool true) ∧ w = w') := fun w h => by have := isZone_any z d f n w h; rw [hzo] at this; exact this
  have IT : Hid (∀ w, Blk w z (zcells d f n) 34 → Calls Try.prog 98 #[.pointer (some ⟨z, 0, none⟩), .string s] w fun e w' => e = .returned (.bool true) ∧ w = w') := fun w h => by have := isText_any z d f n s w h hn; rw [hft] at this; exact this
  have hA : (layA m f n).1.loose.length ≤ m.loose.length + n := fillJ_few m f n (zeroS 32) n
  have hAl : (layA m f n).1.len = m.len := fillJ_len m f n (zeroS 32) n
  have FL : Hid (∀ F w, Blk w z (zcells d f n) 34 → DiskAt w d m F → z ∉ F → Calls Try.prog 99 #[.pointer (some ⟨z, 0, none⟩), .int .u8 0] w fun e w' => ∃ F', e = .returned (.int .i64 (layA m f n).2) ∧ DiskAt w' d (layA m f n).1 F' ∧ Turn F F' w w') := fun F w h1 h2 h3 => zonFill_any z d f n m F w h1 h2 h3 hf hn h0 (by omega)
  have hC : (fmtC m f n s).1.loose.length ≤ (layA m f n).1.loose.length + 40 := putR_few (layA m f n).1 f n 0 1 s f1
  have hCl : (fmtC m f n s).1.len = m.len := (putR_len (layA m f n).1 f n 0 1 s).trans hAl
  have PT : Hid (∀ F w, Blk w z (zcells d f n) 34 → DiskAt w d (layA m f n).1 F → z ∉ F → Calls Try.prog 16 #[.pointer (some ⟨z, 0, none⟩), .int .i64 0, .int .i64 1, .string s] w fun e w' => ∃ F', e = .returned (.int .i64 (fmtC m f n s).2) ∧ DiskAt w' d (fmtC m f n s).1 F' ∧ Turn F F' w w') := fun F w h1 h2 h3 => sealPut_any z d f n (layA m f n).1 F 0 1 s w h1 h2 h3 hf hn (by omega) (by omega)
  have SY : Hid (∀ F w, DiskAt w d (fmtC m f n s).1 F → Calls Try.prog 17 #[.pointer (some ⟨d, 0, none⟩)] w fun e w' => ∃ F', e = .returned (.int .i64 (fmtC m f n s).1.syncE) ∧ DiskAt w' d (fmtC m f n s).1.sync F' ∧ Turn F F' w w') := fun F w h => dskSync_any d (fmtC m f n s).1 F w h (by omega) (by omega)
  unfold fmtR at her ⊢
  by_cases a0 : (layA m f n).2 = 0
  · rw [if_neg (by rw [a0]; simp)] at her ⊢
    rw [a0] at FL
    by_cases c0 : (fmtC m f n s).2 = 0
    · rw [if_neg (by rw [c0]; simp)] at her ⊢
      rw [c0] at PT
      simp only at her ⊢
      rw [her] at SY
      obtain ⟨m1, e1⟩ : ∃ x, x = (layA m f n).1 := ⟨_, rfl⟩
      obtain ⟨m2, e2⟩ : ∃ x, x = (fmtC m f n s).1 := ⟨_, rfl⟩
      obtain ⟨m3, e3⟩ : ∃ x, x = (fmtC m f n s).1.sync := ⟨_, rfl⟩
      rw [← e3] at SY ⊢
      rw [← e1] at FL PT
      rw [← e2] at PT SY
      clear hd hz hzF e1 e2 e3 a0 c0 hA hAl hC hCl her
      go_enter Try.func33, Try.ntmps33
      go_wp2_with (first
        | ((with_reducible refine wpL_peel rfl ?_ ?_); focus (go_simp; done)) | (go_at_call 97; (with_reducible refine (IZ.out _ (hst.blk 0 rfl)).mono ?_); rintro e1 w1 ⟨rfl, rfl⟩) | (go_at_call 98; (with_reducible refine (IT.out _ (hst.blk 0 rfl)).mono ?_); rintro e1 w1 ⟨rfl, rfl⟩)
        | (go_at_call 99; (with_reducible refine (FL.out _ _ (hst.blk 0 rfl) (hst.rs 0 rfl) (hst.away 0 0 rfl rfl)).mono ?_); rintro e1 w1 ⟨F1, rfl, hd1, ht1⟩; replace hst := hst.act 0 rfl (diskR _ _ F1) rfl ht1 hd1; simp only [List.set] at hst; clear hd1 ht1)
        | (go_at_call 16; (with_reducible refine (PT.out _ _ (hst.blk 0 rfl) (hst.rs 0 rfl) (hst.away 0 0 rfl rfl)).mono ?_); rintro e1 w1 ⟨F1, rfl, hd1, ht1⟩; replace hst := hst.act 0 rfl (diskR _ _ F1) rfl ht1 hd1; simp only [List.set] at hst; clear hd1 ht1)
        | (go_at_call 17; (with_reducible refine (SY.out _ _ (hst.rs 0 rfl)).mono ?_); rintro e1 w1 ⟨F1, rfl, hd1, ht1⟩; replace hst := hst.act 0 rfl (diskR _ _ F1) rfl ht1 hd1; simp only [List.set] at hst; clear hd1 ht1)
        | ((with_reducible refine wpL_peel rfl ?_ ?_); focus (go_simp; done)) | ((with_reducible refine wpL_isLoad rfl ?_); first | (refine wpL_load1S hst.st rfl rfl 0 rfl rfl rfl (by kernel_rfl) ?_)))
      go_ret2
      exact ⟨_, rfl, hst.rs 0 rfl, hst.turn 0 rfl rfl⟩
    · rw [if_pos c0] at her ⊢
      rw [her] at PT
      obtain ⟨m1, e1⟩ : ∃ x, x = (layA m f n).1 := ⟨_, rfl⟩
      obtain ⟨m2, e2⟩ : ∃ x, x = (fmtC m f n s).1 := ⟨_, rfl⟩
      rw [← e2] at PT ⊢
      rw [← e1] at FL PT
      clear hd hz hzF e1 e2 a0 c0 hA hAl hC hCl her SY
      go_enter Try.func33, Try.ntmps33
      go_wp2_with (first
        | ((with_reducible refine wpL_peel rfl ?_ ?_); focus (go_simp; done)) | (go_at_call 97; (with_reducible refine (IZ.out _ (hst.blk 0 rfl)).mono ?_); rintro e1 w1 ⟨rfl, rfl⟩) | (go_at_call 98; (with_reducible refine (IT.out _ (hst.blk 0 rfl)).mono ?_); rintro e1 w1 ⟨rfl, rfl⟩)
        | (go_at_call 99; (with_reducible refine (FL.out _ _ (hst.blk 0 rfl) (hst.rs 0 rfl) (hst.away 0 0 rfl rfl)).mono ?_); rintro e1 w1 ⟨F1, rfl, hd1, ht1⟩; replace hst := hst.act 0 rfl (diskR _ _ F1) rfl ht1 hd1; simp only [List.set] at hst; clear hd1 ht1)
        | (go_at_call 16; (with_reducible refine (PT.out _ _ (hst.blk 0 rfl) (hst.rs 0 rfl) (hst.away 0 0 rfl rfl)).mono ?_); rintro e1 w1 ⟨F1, rfl, hd1, ht1⟩; replace hst := hst.act 0 rfl (diskR _ _ F1) rfl ht1 hd1; simp only [List.set] at hst; clear hd1 ht1)
        | ((with_reducible refine wpL_peel rfl ?_ ?_); focus (go_simp; done)) | ((with_reducible refine wpL_isLoad rfl ?_); first | (refine wpL_load1S hst.st rfl rfl 0 rfl rfl rfl (by kernel_rfl) ?_)))
      go_ret2
      exact ⟨_, rfl, hst.rs 0 rfl, hst.turn 0 rfl rfl⟩
  · rw [if_pos a0] at her ⊢
    rw [her] at FL
    obtain ⟨m1, e1⟩ : ∃ x, x = (layA m f n).1 := ⟨_, rfl⟩
    rw [← e1] at FL ⊢
    clear hd hz hzF e1 a0 hA hAl hC hCl her SY PT
    go_enter Try.func33, Try.ntmps33
    go_wp2_with (first
      | ((with_reducible refine wpL_peel rfl ?_ ?_); focus (go_simp; done)) | (go_at_call 97; (with_reducible refine (IZ.out _ (hst.blk 0 rfl)).mono ?_); rintro e1 w1 ⟨rfl, rfl⟩) | (go_at_call 98; (with_reducible refine (IT.out _ (hst.blk 0 rfl)).mono ?_); rintro e1 w1 ⟨rfl, rfl⟩)
      | (go_at_call 99; (with_reducible refine (FL.out _ _ (hst.blk 0 rfl) (hst.rs 0 rfl) (hst.away 0 0 rfl rfl)).mono ?_); rintro e1 w1 ⟨F1, rfl, hd1, ht1⟩; replace hst := hst.act 0 rfl (diskR _ _ F1) rfl ht1 hd1; simp only [List.set] at hst; clear hd1 ht1)
      | ((with_reducible refine wpL_peel rfl ?_ ?_); focus (go_simp; done)) | ((with_reducible refine wpL_isLoad rfl ?_); first | (refine wpL_load1S hst.st rfl rfl 0 rfl rfl rfl (by kernel_rfl) ?_)))
    go_ret2
    exact ⟨_, rfl, hst.rs 0 rfl, hst.turn 0 rfl rfl⟩

set_option maxRecDepth 100000 in
set_option maxHeartbeats 4000000 in
theorem layRecord_yes (d R : Nat) (zv cv : Int) (m : DM) (F : List Nat) (w : World) (hd : DiskAt w d m F) (h1 : 1 ≤ R) (h2 : 2 + R ≤ m.len) :
    Calls Try.prog 116 #[.agg #[.int .i64 (R : Int), .int .i64 zv, .int .i64 cv], .pointer (some ⟨d, 0, none⟩)] w fun e w' => ∃ z, e = .returned (.tuple #[.pointer (some ⟨z, 0, none⟩), .int .i64 0]) ∧ w.heap.size ≤ z ∧ Blk w' z (zcells d 2 R) 34 ∧ Only [] w w' := by
  have hst := Sd.withQ [] (diskQ d m F) hd rfl
  have ZN : Hid (∀ w, DiskAt w d m F → Calls Try.prog 15 #[.pointer (some ⟨d, 0, none⟩), .int .i64 2, .int .i64 (R : Int)] w fun e w' => ∃ z, e = .returned (.tuple #[.pointer (some ⟨z, 0, none⟩), .int .i64 0]) ∧ w.heap.size ≤ z ∧ Blk w' z (zcells d 2 R) 34 ∧ Only [] w w') := fun w h => zonNew_yes d 2 R m F w h (by unfold partOk; simp; omega)
  clear hd h1 h2
  go_enter Try.func116, Try.ntmps116
  go_wp2_with (first
    | ((with_reducible refine wpL_isBoxD rfl ?_); refine wpL_boxD hst rfl 84 rfl rfl ?_; clear hst; intro w1 bl hbl hst) | ((with_reducible refine wpL_peel rfl ?_ ?_); focus (go_simp; done)) | ((with_reducible refine wpL_peel rfl ?_ ?_); focus (go_simp; done)) | ((with_reducible refine wpL_isLoad rfl ?_); first | (refine wpL_load1S hst.st rfl rfl 0 rfl rfl rfl (by kernel_rfl) ?_) | (refine wpL_load1S hst.st rfl rfl 1 rfl rfl rfl (by kernel_rfl) ?_))
    | (go_at_call 15; (with_reducible refine (ZN.out _ (hst.rs 0 rfl)).mono ?_); rintro e1 w1 ⟨z, rfl, hg1, hz1, ho1⟩; have HS : Hid (w.heap.size ≤ z) := Nat.le_trans hst.only.size hg1; replace hst := hst.new ho1 hz1 hg1; clear hg1 hz1 ho1))
  go_ret2
  exact ⟨z, rfl, HS.out, hst.blk 0 rfl, hst.only⟩

/-- A disk laid out, step by step. -/
def stA (m : DM) (N : Nat) : DM × Int := layA m 0 N
def stT (m : DM) (R N : Nat) (s : ByteArray) : DM × Int := fmtR (stA m N).1 2 R s
def stP (m : DM) (R Z C N : Nat) (s : ByteArray) : DM × Int := putR (stT m R N s).1 0 N 0 1 (superB R Z C)
def stR (m : DM) (R Z C N : Nat) (s : ByteArray) : DM × Int :=
  if (stA m N).2 ≠ 0 then stA m N
  else if (stT m R N s).2 ≠ 0 then stT m R N s
  else if (stP m R Z C N s).2 ≠ 0 then stP m R Z C N s
  else ((stP m R Z C N s).1.sync, (stP m R Z C N s).1.syncE)
theorem stA_len (m : DM) (N : Nat) : (stA m N).1.len = m.len := fillJ_len m 0 N (zeroS 32) N
theorem stA_few (m : DM) (N : Nat) : (stA m N).1.loose.length ≤ m.loose.length + N := fillJ_few m 0 N (zeroS 32) N
theorem stT_len (m : DM) (R N : Nat) (s : ByteArray) : (stT m R N s).1.len = m.len := (fmtR_len _ _ _ _).trans (stA_len m N)
theorem stT_few (m : DM) (R N : Nat) (s : ByteArray) (hs : s.size ≤ 1024) : (stT m R N s).1.loose.length ≤ m.loose.length + N + R + 40 := by
  have h1 := fmtR_few (stA m N).1 2 R s hs
  have h2 := stA_few m N
  unfold stT
  omega
theorem stP_len (m : DM) (R Z C N : Nat) (s : ByteArray) : (stP m R Z C N s).1.len = m.len := (putR_len _ _ _ _ _ _).trans (stT_len m R N s)
theorem stP_few (m : DM) (R Z C N : Nat) (s : ByteArray) (hs : s.size ≤ 1024) : (stP m R Z C N s).1.loose.length ≤ m.loose.length + N + R + 80 := by
  have h1 := putR_few (stT m R N s).1 0 N 0 1 (superB R Z C) (by rw [superB_size]; decide)
  have h2 := stT_few m R N s hs
  unfold stP
  omega
theorem stR_len (m : DM) (R Z C N : Nat) (s : ByteArray) : (stR m R Z C N s).1.len = m.len := by
  unfold stR
  split
  · exact stA_len _ _
  · split
    · exact stT_len _ _ _ _
    · split
      · exact stP_len _ _ _ _ _ _
      · exact (DM.sync_len _).trans (stP_len _ _ _ _ _ _)

/-- All of a store: its blocks, and its disk. -/
def storeR (d : Nat) (M : DM) (F : List Nat) (R Z C S : Nat) (tx : ByteArray) (g k : Int) (dn : Bool) (t zr s z0 a0 z1 a1 : Nat) : Rsc :=
  pairR zr (zcells d 2 R) 34 (pairR t (tcells zr tx g k dn) 98 (pairR s (stcells t R Z C (.pointer (some ⟨a0, 0, none⟩)) (.pointer (some ⟨a1, 0, none⟩))) 91 (pairR z0 (zcells d (2 + R) S) 34 (pairR a0 (slcells z0 Z) 80 (pairR z1 (zcells d (2 + R + S) S) 34 (pairR a1 (slcells z1 Z) 80 (diskR d M F)))))))

section
variable (d R Z C : Nat) (m : DM) (F : List Nat) (s : ByteArray) (w : World) (hd : DiskAt w d m F) (hg : GoodL R Z C) (hl : needN R Z C ≤ m.len) (few : m.loose.length ≤ 600000) (hft : fits (R / 2) s = true)
include hd hg hl few hft

set_option maxRecDepth 100000 in
set_option maxHeartbeats 32000000 in
theorem storeFormat_yes (hok : (stR m R Z C (needN R Z C) s).2 = 0) :
    Calls Try.prog 54 #[.pointer (some ⟨d, 0, none⟩), .agg #[.int .i64 (R : Int), .int .i64 (Z : Int), .int .i64 (C : Int)], .string s] w fun e w' => ∃ t zr p z0 a0 z1 a1 F', e = .returned (.tuple #[.pointer (some ⟨p, 0, none⟩), .int .i64 0]) ∧
      (storeR d (stR m R Z C (needN R Z C) s).1 F' R Z C (C * secsOf Z) s 1 0 false t zr p z0 a0 z1 a1).p w' ∧ Turn F (storeR d (stR m R Z C (needN R Z C) s).1 F' R Z C (C * secsOf Z) s 1 0 false t zr p z0 a0 z1 a1).F w w' := by
  have hst := Sd.with (diskR d m F) hd
  have hOK : m.Ok := hd.1
  have h4 : m.len ≤ 4096 := hOK.few
  obtain ⟨f1, f2⟩ := fits_iff.1 hft
  have hR := hg.r2
  have hR1 := hg.r1
  have hpos := GoodL.pos R Z C
  have a0 : (stA m (needN R Z C)).2 = 0 := Classical.byContradiction fun h => by unfold stR at hok; rw [if_pos h] at hok; exact h hok
  have t0 : (stT m R (needN R Z C) s).2 = 0 := Classical.byContradiction fun h => by unfold stR at hok; rw [if_neg (by rw [a0]; simp), if_pos h] at hok; exact h hok
  have p0 : (stP m R Z C (needN R Z C) s).2 = 0 := Classical.byContradiction fun h => by unfold stR at hok; rw [if_neg (by rw [a0]; simp), if_neg (by rw [t0]; simp), if_pos h] at hok; exact h hok
  have eR : stR m R Z C (needN R Z C) s = ((stP m R Z C (needN R Z C) s).1.sync, (stP m R Z C (needN R Z C) s).1.syncE) := by unfold stR; rw [if_neg (by rw [a0]; simp), if_neg (by rw [t0]; simp), if_neg (by rw [p0]; simp)]
  rw [eR] at hok ⊢
  simp only at hok ⊢
  have zo : zoneOk R = true := zoneOk_iff.2 ⟨hg.r1, hg.r3⟩
  have lA := stA_len m (needN R Z C)
  have lT := stT_len m R (needN R Z C) s
  have lP := stP_len m R Z C (needN R Z C) s
  have wA := stA_few m (needN R Z C)
  have wT := stT_few m R (needN R Z C) s f1
  have wP := stP_few m R Z C (needN R Z C) s f1
  have ND : Hid (∀ w, Calls Try.prog 53 #[.agg #[.int .i64 (R : Int), .int .i64 (Z : Int), .int .i64 (C : Int)]] w fun e w' => e = .returned (.int .i64 (needN R Z C : Int)) ∧ Only [] w w') := fun w => by
    have := storeNeed_any R Z C w
    rw [hg.need] at this
    exact this
  have LN : Hid (∀ w, DiskAt w d m F → Calls Try.prog 27 #[.pointer (some ⟨d, 0, none⟩)] w fun e w' => e = .returned (.int .i64 (m.len : Int)) ∧ Only [] w w') := fun w h => dskLen_any d m F w h
  have IT : Hid (∀ w, Calls Try.prog 115 #[.agg #[.int .i64 (R : Int), .int .i64 (Z : Int), .int .i64 (C : Int)], .string s] w fun e w' => e = .returned (.bool true) ∧ Only [] w w') := fun w => by
    have := layIsText_any R Z C s w (by omega)
    rw [hft] at this
    exact this
  have TX : Hid (∀ w, Calls Try.prog 117 #[.agg #[.int .i64 (R : Int), .int .i64 (Z : Int), .int .i64 (C : Int)]] w fun e w' => e = .returned (.string (superB R Z C)) ∧ Only [] w w') := fun w => layText_yes R Z C w (by omega) (by have := hg.z2; omega) (by have := hg.c2; omega)
  have ZN : Hid (∀ w, DiskAt w d m F → Calls Try.prog 15 #[.pointer (some ⟨d, 0, none⟩), .int .i64 0, .int .i64 (needN R Z C : Int)] w fun e w' => ∃ z, e = .returned (.tuple #[.pointer (some ⟨z, 0, none⟩), .int .i64 0]) ∧ w.heap.size ≤ z ∧ Blk w' z (zcells d 0 (needN R Z C)) 34 ∧ Only [] w w') := fun w h => zonNew_yes d 0 (needN R Z C) m F w h (by unfold partOk; simp; omega)
  have FL : Hid (∀ z F w, Blk w z (zcells d 0 (needN R Z C)) 34 → DiskAt w d m F → z ∉ F → Calls Try.prog 99 #[.pointer (some ⟨z, 0, none⟩), .int .u8 0] w fun e w' => ∃ F', e = .returned (.int .i64 0) ∧ DiskAt w' d (stA m (needN R Z C)).1 F' ∧ Turn F F' w w') := fun z F w h1 h2 h3 => by
    have := zonFill_any z d 0 (needN R Z C) m F w h1 h2 h3 (by omega) (by omega) (by omega) (by omega)
    change Calls _ _ _ _ fun e w' => ∃ F', e = .returned (.int .i64 (stA m (needN R Z C)).2) ∧ DiskAt w' d (stA m (needN R Z C)).1 F' ∧ Turn F F' w w' at this
    rw [a0] at this
    exact this
  have ZR : Hid (∀ F w, DiskAt w d (stA m (needN R Z C)).1 F → Calls Try.prog 116 #[.agg #[.int .i64 (R : Int), .int .i64 (Z : Int), .int .i64 (C : Int)], .pointer (some ⟨d, 0, none⟩)] w fun e w' => ∃ z, e = .returned (.tuple #[.pointer (some ⟨z, 0, none⟩), .int .i64 0]) ∧ w.heap.size ≤ z ∧ Blk w' z (zcells d 2 R) 34 ∧ Only [] w w') := fun F w h => layRecord_yes d R Z C _ F w h (by omega) (by omega)
  have FM : Hid (∀ z F w, Blk w z (zcells d 2 R) 34 → DiskAt w d (stA m (needN R Z C)).1 F → z ∉ F → Calls Try.prog 33 #[.pointer (some ⟨z, 0, none⟩), .string s] w fun e w' => ∃ t F', e = .returned (.tuple #[.pointer (some ⟨t, 0, none⟩), .int .i64 0]) ∧ w.heap.size ≤ t ∧ Blk w' t (tcells z s 1 0 false) 98 ∧ DiskAt w' d (stT m R (needN R Z C) s).1 F' ∧ Turn F F' w w' ∧ t ∉ F') := fun z F w h1 h2 h3 => twinFormat_yes z d 2 R _ F s w h1 h2 h3 (by omega) (by omega) (by omega) (by omega) zo hft t0
  have PT : Hid (∀ z F w, Blk w z (zcells d 0 (needN R Z C)) 34 → DiskAt w d (stT m R (needN R Z C) s).1 F → z ∉ F → Calls Try.prog 16 #[.pointer (some ⟨z, 0, none⟩), .int .i64 0, .int .i64 1, .string (superB R Z C)] w fun e w' => ∃ F', e = .returned (.int .i64 0) ∧ DiskAt w' d (stP m R Z C (needN R Z C) s).1 F' ∧ Turn F F' w w') := fun z F w h1 h2 h3 => by
    have := sealPut_any z d 0 (needN R Z C) (stT m R (needN R Z C) s).1 F 0 1 (superB R Z C) w h1 h2 h3 (by omega) (by omega) (by omega) (by omega)
    change Calls _ _ _ _ fun e w' => ∃ F', e = .returned (.int .i64 (stP m R Z C (needN R Z C) s).2) ∧ DiskAt w' d (stP m R Z C (needN R Z C) s).1 F' ∧ Turn F F' w w' at this
    rw [p0] at this
    exact this
  have SY : Hid (∀ F w, DiskAt w d (stP m R Z C (needN R Z C) s).1 F → Calls Try.prog 17 #[.pointer (some ⟨d, 0, none⟩)] w fun e w' => ∃ F', e = .returned (.int .i64 0) ∧ DiskAt w' d (stP m R Z C (needN R Z C) s).1.sync F' ∧ Turn F F' w w') := fun F w h => by
    have := dskSync_any d (stP m R Z C (needN R Z C) s).1 F w h (by omega) (by omega)
    rw [hok] at this
    exact this
  have lS : (stP m R Z C (needN R Z C) s).1.sync.len = m.len := (DM.sync_len _).trans lP
  have MD : Hid (∀ t F w, DiskAt w d (stP m R Z C (needN R Z C) s).1.sync F → Calls Try.prog 118 #[.agg #[.int .i64 (R : Int), .int .i64 (Z : Int), .int .i64 (C : Int)], .pointer (some ⟨d, 0, none⟩), .pointer (some ⟨t, 0, none⟩)] w fun e w' => ∃ s z0 a0 z1 a1, e = .returned (.tuple #[.pointer (some ⟨s, 0, none⟩), .int .i64 0]) ∧ News w w' (madeN d t R Z C (C * secsOf Z) s z0 a0 z1 a1)) := fun t F w h => storeMade_yes d t R Z C _ F w h hg (by omega) (by omega)
  have hNl : ¬ (m.len : Int) < (needN R Z C : Int) := by omega
  have dNl : decide (m.len < needN R Z C) = false := decide_eq_false (by omega)
  have hN0 : ((needN R Z C : Int) == 0) = false := beq_eq_false_iff_ne.2 (by omega)
  obtain ⟨m1, e1⟩ : ∃ x, x = (stA m (needN R Z C)).1 := ⟨_, rfl⟩
  obtain ⟨m2, e2⟩ : ∃ x, x = (stT m R (needN R Z C) s).1 := ⟨_, rfl⟩
  obtain ⟨m4, e4⟩ : ∃ x, x = (stP m R Z C (needN R Z C) s).1.sync := ⟨_, rfl⟩
  rw [← e4] at SY MD ⊢
  obtain ⟨m3, e3⟩ : ∃ x, x = (stP m R Z C (needN R Z C) s).1 := ⟨_, rfl⟩
  rw [← e3] at PT SY
  rw [← e2] at FM PT
  rw [← e1] at FL ZR FM
  generalize superB R Z C = sb at *
  generalize C * secsOf Z = S at *
  generalize needN R Z C = N at *
  generalize m.len = ml at *
  clear hd hOK h4 f1 f2 hR hR1 hpos a0 t0 p0 eR hok zo lA lT lP wA wT wP lS e1 e2 e3 e4 hg hl few hft
  go_enter Try.func54, Try.ntmps54
  go_wp2_with (first
    | ((with_reducible refine wpL_isBoxD rfl ?_); refine wpL_boxD hst rfl 84 rfl rfl ?_; clear hst; intro w1 bl hbl hst) | ((with_reducible refine wpL_skipS rfl ?_ ?_); focus (go_simp; done)) | ((with_reducible refine wpL_peel rfl ?_ ?_); focus (go_simp; done)) | ((with_reducible refine wpL_peel rfl ?_ ?_); focus (go_simp; done)) | ((with_reducible refine wpL_isLoad rfl ?_); first | (refine wpL_loadAtS hst.st rfl (ty := 84) rfl 0 rfl rfl (by kernel_rfl) 3 (by kernel_rfl) [_, _, _] rfl rfl ?_) | (refine wpL_loadAtS hst.st rfl (ty := 84) rfl 1 rfl rfl (by kernel_rfl) 3 (by kernel_rfl) [_, _, _] rfl rfl ?_) | (refine wpL_loadAtS hst.st rfl (ty := 84) rfl 2 rfl rfl (by kernel_rfl) 3 (by kernel_rfl) [_, _, _] rfl rfl ?_) | (refine wpL_loadAtS hst.st rfl (ty := 84) rfl 3 rfl rfl (by kernel_rfl) 3 (by kernel_rfl) [_, _, _] rfl rfl ?_) | (refine wpL_load1S hst.st rfl rfl 0 rfl rfl rfl (by kernel_rfl) ?_) | (refine wpL_load1S hst.st rfl rfl 1 rfl rfl rfl (by kernel_rfl) ?_) | (refine wpL_load1S hst.st rfl rfl 2 rfl rfl rfl (by kernel_rfl) ?_) | (refine wpL_load1S hst.st rfl rfl 3 rfl rfl rfl (by kernel_rfl) ?_))
    | (go_at_call 53; (with_reducible refine (ND.out _).mono ?_); rintro e1 w1 ⟨rfl, ho1⟩; replace hst := hst.keep ho1; clear ho1) | (go_at_call 27; (with_reducible refine (LN.out _ (hst.rs 0 rfl)).mono ?_); rintro e1 w1 ⟨rfl, ho1⟩; replace hst := hst.keep ho1; clear ho1) | (go_at_call 115; (with_reducible refine (IT.out _).mono ?_); rintro e1 w1 ⟨rfl, ho1⟩; replace hst := hst.keep ho1; clear ho1) | (go_at_call 117; (with_reducible refine (TX.out _).mono ?_); rintro e1 w1 ⟨rfl, ho1⟩; replace hst := hst.keep ho1; clear ho1)
    | (go_at_call 15; (with_reducible refine (ZN.out _ (hst.rs 0 rfl)).mono ?_); rintro e1 w1 ⟨za, rfl, hg1, hz1, ho1⟩; replace hst := hst.new ho1 hz1 hg1; clear hg1 hz1 ho1)
    | (go_at_call 116; (with_reducible refine (ZR.out _ _ (hst.rs 0 rfl)).mono ?_); rintro e1 w1 ⟨z, rfl, hg1, hz1, ho1⟩; replace hst := hst.new ho1 hz1 hg1; clear hg1 hz1 ho1)
    | (go_at_call 99; (with_reducible refine (FL.out _ _ _ (hst.blk 0 rfl) (hst.rs 0 rfl) (hst.away 0 0 rfl rfl)).mono ?_); rintro e1 w1 ⟨F1, rfl, hd1, ht1⟩; replace hst := hst.act 0 rfl (diskR _ _ F1) rfl ht1 hd1; simp only [List.set] at hst; clear hd1 ht1)
    | (go_at_call 33; (with_reducible refine (FM.out _ _ _ (hst.blk 0 rfl) (hst.rs 0 rfl) (hst.away 0 0 rfl rfl)).mono ?_); rintro e1 w1 ⟨t, F1, rfl, hg1, ht1, hd1, hT1, hn1⟩; replace hst := hst.actNew 0 rfl (diskR _ _ F1) rfl hT1 hd1 ht1 hg1 hn1; simp only [List.set] at hst; clear hg1 ht1 hd1 hT1 hn1)
    | (go_at_call 16; (with_reducible refine (PT.out _ _ _ (hst.blk 2 rfl) (hst.rs 0 rfl) (hst.away 2 0 rfl rfl)).mono ?_); rintro e1 w1 ⟨F1, rfl, hd1, ht1⟩; replace hst := hst.act 0 rfl (diskR _ _ F1) rfl ht1 hd1; simp only [List.set] at hst; clear hd1 ht1)
    | (go_at_call 16; (with_reducible refine (PT.out _ _ _ (hst.blk 3 rfl) (hst.rs 0 rfl) (hst.away 3 0 rfl rfl)).mono ?_); rintro e1 w1 ⟨F1, rfl, hd1, ht1⟩; replace hst := hst.act 0 rfl (diskR _ _ F1) rfl ht1 hd1; simp only [List.set] at hst; clear hd1 ht1)
    | (go_at_call 17; (with_reducible refine (SY.out _ _ (hst.rs 0 rfl)).mono ?_); rintro e1 w1 ⟨F1, rfl, hd1, ht1⟩; replace hst := hst.act 0 rfl (diskR _ _ F1) rfl ht1 hd1; simp only [List.set] at hst; clear hd1 ht1)
    | (go_at_call 118; (with_reducible refine (MD.out _ _ _ (hst.rs 0 rfl)).mono ?_); rintro e1 w1 ⟨p, z0, a0, z1, a1, rfl, hn1⟩; replace hst := hst.news hn1; clear hn1))
  go_ret2
  have hj := ((((((((show Sd w (diskR d m F).F _ (⟨a1, _, _, true⟩ :: ⟨z1, _, _, true⟩ :: ⟨a0, _, _, true⟩ :: ⟨z0, _, _, true⟩ :: ⟨p, _, _, true⟩ :: ⟨t, _, _, true⟩ :: ⟨z, _, _, true⟩ :: _) [diskR d m4 F1] from hst).join rfl).join rfl).join rfl).join rfl).join rfl).join rfl).join rfl)
  exact ⟨t, z, p, z0, a0, z1, a1, F1, rfl, hj.rs 0 rfl, hj.turn 0 rfl rfl⟩
end
end Go.Proofs.Ytmogkiacakkmbaa

namespace Go.Proofs.Ytmogkiacakkmbaa
open Go.RowKit

set_option maxRecDepth 100000 in
set_option maxHeartbeats 32000000 in
theorem storeFormat_broke (d R Z C : Nat) (m : DM) (F : List Nat) (s : ByteArray) (w : World) (hd : DiskAt w d m F) (hg : GoodL R Z C) (hl : needN R Z C ≤ m.len) (few : m.loose.length ≤ 600000) (hft : fits (R / 2) s = true) (er : Int) (her : (stR m R Z C (needN R Z C) s).2 = er) (he : ¬ er = 0) :
    Calls Try.prog 54 #[.pointer (some ⟨d, 0, none⟩), .agg #[.int .i64 (R : Int), .int .i64 (Z : Int), .int .i64 (C : Int)], .string s] w fun e w' => ∃ F', e = .returned (.tuple #[.pointer none, .int .i64 er]) ∧ DiskAt w' d (stR m R Z C (needN R Z C) s).1 F' ∧ Turn F F' w w' := by
  have hst := Sd.with (diskR d m F) hd
  have hOK : m.Ok := hd.1
  have h4 : m.len ≤ 4096 := hOK.few
  obtain ⟨f1, f2⟩ := fits_iff.1 hft
  have hR := hg.r2
  have hR1 := hg.r1
  have hpos := GoodL.pos R Z C
  have zo : zoneOk R = true := zoneOk_iff.2 ⟨hg.r1, hg.r3⟩
  have lA := stA_len m (needN R Z C)
  have lT := stT_len m R (needN R Z C) s
  have lP := stP_len m R Z C (needN R Z C) s
  have wA := stA_few m (needN R Z C)
  have wT := stT_few m R (needN R Z C) s f1
  have wP := stP_few m R Z C (needN R Z C) s f1
  have ND : Hid (∀ w, Calls Try.prog 53 #[.agg #[.int .i64 (R : Int), .int .i64 (Z : Int), .int .i64 (C : Int)]] w fun e w' => e = .returned (.int .i64 (needN R Z C : Int)) ∧ Only [] w w') := fun w => by
    have := storeNeed_any R Z C w
    rw [hg.need] at this
    exact this
  have LN : Hid (∀ w, DiskAt w d m F → Calls Try.prog 27 #[.pointer (some ⟨d, 0, none⟩)] w fun e w' => e = .returned (.int .i64 (m.len : Int)) ∧ Only [] w w') := fun w h => dskLen_any d m F w h
  have IT : Hid (∀ w, Calls Try.prog 115 #[.agg #[.int .i64 (R : Int), .int .i64 (Z : Int), .int .i64 (C : Int)], .string s] w fun e w' => e = .returned (.bool true) ∧ Only [] w w') := fun w => by
    have := layIsText_any R Z C s w (by omega)
    rw [hft] at this
    exact this
  have TX : Hid (∀ w, Calls Try.prog 117 #[.agg #[.int .i64 (R : Int), .int .i64 (Z : Int), .int .i64 (C : Int)]] w fun e w' => e = .returned (.string (superB R Z C)) ∧ Only [] w w') := fun w => layText_yes R Z C w (by omega) (by have := hg.z2; omega) (by have := hg.c2; omega)
  have ZN : Hid (∀ w, DiskAt w d m F → Calls Try.prog 15 #[.pointer (some ⟨d, 0, none⟩), .int .i64 0, .int .i64 (needN R Z C : Int)] w fun e w' => ∃ z, e = .returned (.tuple #[.pointer (some ⟨z, 0, none⟩), .int .i64 0]) ∧ w.heap.size ≤ z ∧ Blk w' z (zcells d 0 (needN R Z C)) 34 ∧ Only [] w w') := fun w h => zonNew_yes d 0 (needN R Z C) m F w h (by unfold partOk; simp; omega)
  have FL : Hid (∀ z F w, Blk w z (zcells d 0 (needN R Z C)) 34 → DiskAt w d m F → z ∉ F → Calls Try.prog 99 #[.pointer (some ⟨z, 0, none⟩), .int .u8 0] w fun e w' => ∃ F', e = .returned (.int .i64 (stA m (needN R Z C)).2) ∧ DiskAt w' d (stA m (needN R Z C)).1 F' ∧ Turn F F' w w') := fun z F w h1 h2 h3 => zonFill_any z d 0 (needN R Z C) m F w h1 h2 h3 (by omega) (by omega) (by omega) (by omega)
  have ZR : Hid (∀ F w, DiskAt w d (stA m (needN R Z C)).1 F → Calls Try.prog 116 #[.agg #[.int .i64 (R : Int), .int .i64 (Z : Int), .int .i64 (C : Int)], .pointer (some ⟨d, 0, none⟩)] w fun e w' => ∃ z, e = .returned (.tuple #[.pointer (some ⟨z, 0, none⟩), .int .i64 0]) ∧ w.heap.size ≤ z ∧ Blk w' z (zcells d 2 R) 34 ∧ Only [] w w') := fun F w h => layRecord_yes d R Z C _ F w h (by omega) (by omega)
  have FMY : Hid ((stT m R (needN R Z C) s).2 = 0 → ∀ z F w, Blk w z (zcells d 2 R) 34 → DiskAt w d (stA m (needN R Z C)).1 F → z ∉ F → Calls Try.prog 33 #[.pointer (some ⟨z, 0, none⟩), .string s] w fun e w' => ∃ t F', e = .returned (.tuple #[.pointer (some ⟨t, 0, none⟩), .int .i64 0]) ∧ w.heap.size ≤ t ∧ Blk w' t (tcells z s 1 0 false) 98 ∧ DiskAt w' d (stT m R (needN R Z C) s).1 F' ∧ Turn F F' w w' ∧ t ∉ F') := fun t0 z F w h1 h2 h3 => twinFormat_yes z d 2 R _ F s w h1 h2 h3 (by omega) (by omega) (by omega) (by omega) zo hft t0
  have FMN : Hid (¬ er = 0 → (stT m R (needN R Z C) s).2 = er → ∀ z F w, Blk w z (zcells d 2 R) 34 → DiskAt w d (stA m (needN R Z C)).1 F → z ∉ F → Calls Try.prog 33 #[.pointer (some ⟨z, 0, none⟩), .string s] w fun e w' => ∃ F', e = .returned (.tuple #[.pointer none, .int .i64 er]) ∧ DiskAt w' d (stT m R (needN R Z C) s).1 F' ∧ Turn F F' w w') := fun he t0 z F w h1 h2 h3 => twinFormat_broke z d 2 R _ F s w h1 h2 h3 (by omega) (by omega) (by omega) (by omega) zo hft er t0 he
  have PT : Hid (∀ z F w, Blk w z (zcells d 0 (needN R Z C)) 34 → DiskAt w d (stT m R (needN R Z C) s).1 F → z ∉ F → Calls Try.prog 16 #[.pointer (some ⟨z, 0, none⟩), .int .i64 0, .int .i64 1, .string (superB R Z C)] w fun e w' => ∃ F', e = .returned (.int .i64 (stP m R Z C (needN R Z C) s).2) ∧ DiskAt w' d (stP m R Z C (needN R Z C) s).1 F' ∧ Turn F F' w w') := fun z F w h1 h2 h3 => sealPut_any z d 0 (needN R Z C) (stT m R (needN R Z C) s).1 F 0 1 (superB R Z C) w h1 h2 h3 (by omega) (by omega) (by omega) (by omega)
  have SY : Hid (∀ F w, DiskAt w d (stP m R Z C (needN R Z C) s).1 F → Calls Try.prog 17 #[.pointer (some ⟨d, 0, none⟩)] w fun e w' => ∃ F', e = .returned (.int .i64 (stP m R Z C (needN R Z C) s).1.syncE) ∧ DiskAt w' d (stP m R Z C (needN R Z C) s).1.sync F' ∧ Turn F F' w w') := fun F w h => dskSync_any d (stP m R Z C (needN R Z C) s).1 F w h (by omega) (by omega)
  have hNl : ¬ (m.len : Int) < (needN R Z C : Int) := by omega
  have dNl : decide (m.len < needN R Z C) = false := decide_eq_false (by omega)
  have hN0 : ((needN R Z C : Int) == 0) = false := beq_eq_false_iff_ne.2 (by omega)
  unfold stR at her ⊢
  by_cases a0 : (stA m (needN R Z C)).2 = 0
  · rw [if_neg (by rw [a0]; simp)] at her ⊢
    rw [a0] at FL
    by_cases t0 : (stT m R (needN R Z C) s).2 = 0
    · rw [if_neg (by rw [t0]; simp)] at her ⊢
      have FM := Lib.hid (FMY.out t0)
      by_cases p0 : (stP m R Z C (needN R Z C) s).2 = 0
      · rw [if_neg (by rw [p0]; simp)] at her ⊢
        rw [p0] at PT
        simp only at her ⊢
        rw [her] at SY
        clear FMY FMN a0 t0 p0 her
        obtain ⟨m4, em4⟩ : ∃ x, x = (stP m R Z C (needN R Z C) s).1.sync := ⟨_, rfl⟩
        rw [← em4] at SY ⊢
        obtain ⟨m3, em3⟩ : ∃ x, x = (stP m R Z C (needN R Z C) s).1 := ⟨_, rfl⟩
        obtain ⟨m2, em2⟩ : ∃ x, x = (stT m R (needN R Z C) s).1 := ⟨_, rfl⟩
        obtain ⟨m1, em1⟩ : ∃ x, x = (stA m (needN R Z C)).1 := ⟨_, rfl⟩
        rw [← em3] at PT SY
        rw [← em2] at FM PT
        rw [← em1] at FL ZR FM
        generalize superB R Z C = sb at *
        generalize needN R Z C = N at *
        generalize m.len = ml at *
        clear hd hOK h4 f1 f2 hR hR1 hpos zo lA lT lP wA wT wP hg hl few hft em1 em2 em3 em4
        go_enter Try.func54, Try.ntmps54
        go_wp2_with (first
            | ((with_reducible refine wpL_isBoxD rfl ?_); refine wpL_boxD hst rfl 84 rfl rfl ?_; clear hst; intro w1 bl hbl hst) | ((with_reducible refine wpL_skipS rfl ?_ ?_); focus (go_simp; done)) | ((with_reducible refine wpL_peel rfl ?_ ?_); focus (go_simp; done)) | ((with_reducible refine wpL_peel rfl ?_ ?_); focus (go_simp; done)) | ((with_reducible refine wpL_isLoad rfl ?_); first | (refine wpL_loadAtS hst.st rfl (ty := 84) rfl 0 rfl rfl (by kernel_rfl) 3 (by kernel_rfl) [_, _, _] rfl rfl ?_) | (refine wpL_loadAtS hst.st rfl (ty := 84) rfl 1 rfl rfl (by kernel_rfl) 3 (by kernel_rfl) [_, _, _] rfl rfl ?_) | (refine wpL_loadAtS hst.st rfl (ty := 84) rfl 2 rfl rfl (by kernel_rfl) 3 (by kernel_rfl) [_, _, _] rfl rfl ?_) | (refine wpL_loadAtS hst.st rfl (ty := 84) rfl 3 rfl rfl (by kernel_rfl) 3 (by kernel_rfl) [_, _, _] rfl rfl ?_) | (refine wpL_load1S hst.st rfl rfl 0 rfl rfl rfl (by kernel_rfl) ?_) | (refine wpL_load1S hst.st rfl rfl 1 rfl rfl rfl (by kernel_rfl) ?_) | (refine wpL_load1S hst.st rfl rfl 2 rfl rfl rfl (by kernel_rfl) ?_) | (refine wpL_load1S hst.st rfl rfl 3 rfl rfl rfl (by kernel_rfl) ?_))
            | (go_at_call 53; (with_reducible refine (ND.out _).mono ?_); rintro e1 w1 ⟨rfl, ho1⟩; replace hst := hst.keep ho1; clear ho1) | (go_at_call 27; (with_reducible refine (LN.out _ (hst.rs 0 rfl)).mono ?_); rintro e1 w1 ⟨rfl, ho1⟩; replace hst := hst.keep ho1; clear ho1) | (go_at_call 115; (with_reducible refine (IT.out _).mono ?_); rintro e1 w1 ⟨rfl, ho1⟩; replace hst := hst.keep ho1; clear ho1) | (go_at_call 117; (with_reducible refine (TX.out _).mono ?_); rintro e1 w1 ⟨rfl, ho1⟩; replace hst := hst.keep ho1; clear ho1)
            | (go_at_call 15; (with_reducible refine (ZN.out _ (hst.rs 0 rfl)).mono ?_); rintro e1 w1 ⟨za, rfl, hg1, hz1, ho1⟩; replace hst := hst.new ho1 hz1 hg1; clear hg1 hz1 ho1)
            | (go_at_call 99; (with_reducible refine (FL.out _ _ _ (hst.blk 0 rfl) (hst.rs 0 rfl) (hst.away 0 0 rfl rfl)).mono ?_); rintro e1 w1 ⟨F1, rfl, hd1, ht1⟩; replace hst := hst.act 0 rfl (diskR _ _ F1) rfl ht1 hd1; simp only [List.set] at hst; clear hd1 ht1)
            | (go_at_call 116; (with_reducible refine (ZR.out _ _ (hst.rs 0 rfl)).mono ?_); rintro e1 w1 ⟨z, rfl, hg1, hz1, ho1⟩; replace hst := hst.new ho1 hz1 hg1; clear hg1 hz1 ho1)
            | (go_at_call 33; (with_reducible refine (FM.out _ _ _ (hst.blk 0 rfl) (hst.rs 0 rfl) (hst.away 0 0 rfl rfl)).mono ?_); rintro e1 w1 ⟨t, F1, rfl, hg1, ht1, hd1, hT1, hn1⟩; replace hst := hst.actNew 0 rfl (diskR _ _ F1) rfl hT1 hd1 ht1 hg1 hn1; simp only [List.set] at hst; clear hg1 ht1 hd1 hT1 hn1)
            | (go_at_call 16; (with_reducible refine (PT.out _ _ _ (hst.blk 2 rfl) (hst.rs 0 rfl) (hst.away 2 0 rfl rfl)).mono ?_); rintro e1 w1 ⟨F1, rfl, hd1, ht1⟩; replace hst := hst.act 0 rfl (diskR _ _ F1) rfl ht1 hd1; simp only [List.set] at hst; clear hd1 ht1)
            | (go_at_call 16; (with_reducible refine (PT.out _ _ _ (hst.blk 3 rfl) (hst.rs 0 rfl) (hst.away 3 0 rfl rfl)).mono ?_); rintro e1 w1 ⟨F1, rfl, hd1, ht1⟩; replace hst := hst.act 0 rfl (diskR _ _ F1) rfl ht1 hd1; simp only [List.set] at hst; clear hd1 ht1)
            | (go_at_call 17; (with_reducible refine (SY.out _ _ (hst.rs 0 rfl)).mono ?_); rintro e1 w1 ⟨F1, rfl, hd1, ht1⟩; replace hst := hst.act 0 rfl (diskR _ _ F1) rfl ht1 hd1; simp only [List.set] at hst; clear hd1 ht1))
        go_ret2
        exact ⟨_, rfl, hst.rs 0 rfl, hst.turn 0 rfl rfl⟩
      · rw [if_pos p0] at her ⊢
        rw [her] at PT
        clear FMY FMN a0 t0 p0 her SY
        obtain ⟨m3, em3⟩ : ∃ x, x = (stP m R Z C (needN R Z C) s).1 := ⟨_, rfl⟩
        obtain ⟨m2, em2⟩ : ∃ x, x = (stT m R (needN R Z C) s).1 := ⟨_, rfl⟩
        obtain ⟨m1, em1⟩ : ∃ x, x = (stA m (needN R Z C)).1 := ⟨_, rfl⟩
        rw [← em3] at PT ⊢
        rw [← em2] at FM PT
        rw [← em1] at FL ZR FM
        generalize superB R Z C = sb at *
        generalize needN R Z C = N at *
        generalize m.len = ml at *
        clear hd hOK h4 f1 f2 hR hR1 hpos zo lA lT lP wA wT wP hg hl few hft em1 em2 em3
        go_enter Try.func54, Try.ntmps54
        go_wp2_with (first
            | ((with_reducible refine wpL_isBoxD rfl ?_); refine wpL_boxD hst rfl 84 rfl rfl ?_; clear hst; intro w1 bl hbl hst) | ((with_reducible refine wpL_skipS rfl ?_ ?_); focus (go_simp; done)) | ((with_reducible refine wpL_peel rfl ?_ ?_); focus (go_simp; done)) | ((with_reducible refine wpL_peel rfl ?_ ?_); focus (go_simp; done)) | ((with_reducible refine wpL_isLoad rfl ?_); first | (refine wpL_loadAtS hst.st rfl (ty := 84) rfl 0 rfl rfl (by kernel_rfl) 3 (by kernel_rfl) [_, _, _] rfl rfl ?_) | (refine wpL_loadAtS hst.st rfl (ty := 84) rfl 1 rfl rfl (by kernel_rfl) 3 (by kernel_rfl) [_, _, _] rfl rfl ?_) | (refine wpL_loadAtS hst.st rfl (ty := 84) rfl 2 rfl rfl (by kernel_rfl) 3 (by kernel_rfl) [_, _, _] rfl rfl ?_) | (refine wpL_loadAtS hst.st rfl (ty := 84) rfl 3 rfl rfl (by kernel_rfl) 3 (by kernel_rfl) [_, _, _] rfl rfl ?_) | (refine wpL_load1S hst.st rfl rfl 0 rfl rfl rfl (by kernel_rfl) ?_) | (refine wpL_load1S hst.st rfl rfl 1 rfl rfl rfl (by kernel_rfl) ?_) | (refine wpL_load1S hst.st rfl rfl 2 rfl rfl rfl (by kernel_rfl) ?_) | (refine wpL_load1S hst.st rfl rfl 3 rfl rfl rfl (by kernel_rfl) ?_))
            | (go_at_call 53; (with_reducible refine (ND.out _).mono ?_); rintro e1 w1 ⟨rfl, ho1⟩; replace hst := hst.keep ho1; clear ho1) | (go_at_call 27; (with_reducible refine (LN.out _ (hst.rs 0 rfl)).mono ?_); rintro e1 w1 ⟨rfl, ho1⟩; replace hst := hst.keep ho1; clear ho1) | (go_at_call 115; (with_reducible refine (IT.out _).mono ?_); rintro e1 w1 ⟨rfl, ho1⟩; replace hst := hst.keep ho1; clear ho1) | (go_at_call 117; (with_reducible refine (TX.out _).mono ?_); rintro e1 w1 ⟨rfl, ho1⟩; replace hst := hst.keep ho1; clear ho1)
            | (go_at_call 15; (with_reducible refine (ZN.out _ (hst.rs 0 rfl)).mono ?_); rintro e1 w1 ⟨za, rfl, hg1, hz1, ho1⟩; replace hst := hst.new ho1 hz1 hg1; clear hg1 hz1 ho1)
            | (go_at_call 99; (with_reducible refine (FL.out _ _ _ (hst.blk 0 rfl) (hst.rs 0 rfl) (hst.away 0 0 rfl rfl)).mono ?_); rintro e1 w1 ⟨F1, rfl, hd1, ht1⟩; replace hst := hst.act 0 rfl (diskR _ _ F1) rfl ht1 hd1; simp only [List.set] at hst; clear hd1 ht1)
            | (go_at_call 116; (with_reducible refine (ZR.out _ _ (hst.rs 0 rfl)).mono ?_); rintro e1 w1 ⟨z, rfl, hg1, hz1, ho1⟩; replace hst := hst.new ho1 hz1 hg1; clear hg1 hz1 ho1)
            | (go_at_call 33; (with_reducible refine (FM.out _ _ _ (hst.blk 0 rfl) (hst.rs 0 rfl) (hst.away 0 0 rfl rfl)).mono ?_); rintro e1 w1 ⟨t, F1, rfl, hg1, ht1, hd1, hT1, hn1⟩; replace hst := hst.actNew 0 rfl (diskR _ _ F1) rfl hT1 hd1 ht1 hg1 hn1; simp only [List.set] at hst; clear hg1 ht1 hd1 hT1 hn1)
            | (go_at_call 16; (with_reducible refine (PT.out _ _ _ (hst.blk 2 rfl) (hst.rs 0 rfl) (hst.away 2 0 rfl rfl)).mono ?_); rintro e1 w1 ⟨F1, rfl, hd1, ht1⟩; replace hst := hst.act 0 rfl (diskR _ _ F1) rfl ht1 hd1; simp only [List.set] at hst; clear hd1 ht1)
            | (go_at_call 16; (with_reducible refine (PT.out _ _ _ (hst.blk 3 rfl) (hst.rs 0 rfl) (hst.away 3 0 rfl rfl)).mono ?_); rintro e1 w1 ⟨F1, rfl, hd1, ht1⟩; replace hst := hst.act 0 rfl (diskR _ _ F1) rfl ht1 hd1; simp only [List.set] at hst; clear hd1 ht1))
        go_ret2
        exact ⟨_, rfl, hst.rs 0 rfl, hst.turn 0 rfl rfl⟩
    · rw [if_pos t0] at her ⊢
      have FM := Lib.hid (FMN.out he her)
      clear FMY FMN a0 t0 her SY PT
      obtain ⟨m2, em2⟩ : ∃ x, x = (stT m R (needN R Z C) s).1 := ⟨_, rfl⟩
      obtain ⟨m1, em1⟩ : ∃ x, x = (stA m (needN R Z C)).1 := ⟨_, rfl⟩
      rw [← em2] at FM ⊢
      rw [← em1] at FL ZR FM
      generalize superB R Z C = sb at *
      generalize needN R Z C = N at *
      generalize m.len = ml at *
      clear hd hOK h4 f1 f2 hR hR1 hpos zo lA lT lP wA wT wP hg hl few hft em1 em2
      go_enter Try.func54, Try.ntmps54
      go_wp2_with (first
          | ((with_reducible refine wpL_isBoxD rfl ?_); refine wpL_boxD hst rfl 84 rfl rfl ?_; clear hst; intro w1 bl hbl hst) | ((with_reducible refine wpL_skipS rfl ?_ ?_); focus (go_simp; done)) | ((with_reducible refine wpL_peel rfl ?_ ?_); focus (go_simp; done)) | ((with_reducible refine wpL_peel rfl ?_ ?_); focus (go_simp; done)) | ((with_reducible refine wpL_isLoad rfl ?_); first | (refine wpL_loadAtS hst.st rfl (ty := 84) rfl 0 rfl rfl (by kernel_rfl) 3 (by kernel_rfl) [_, _, _] rfl rfl ?_) | (refine wpL_loadAtS hst.st rfl (ty := 84) rfl 1 rfl rfl (by kernel_rfl) 3 (by kernel_rfl) [_, _, _] rfl rfl ?_) | (refine wpL_loadAtS hst.st rfl (ty := 84) rfl 2 rfl rfl (by kernel_rfl) 3 (by kernel_rfl) [_, _, _] rfl rfl ?_) | (refine wpL_loadAtS hst.st rfl (ty := 84) rfl 3 rfl rfl (by kernel_rfl) 3 (by kernel_rfl) [_, _, _] rfl rfl ?_) | (refine wpL_load1S hst.st rfl rfl 0 rfl rfl rfl (by kernel_rfl) ?_) | (refine wpL_load1S hst.st rfl rfl 1 rfl rfl rfl (by kernel_rfl) ?_) | (refine wpL_load1S hst.st rfl rfl 2 rfl rfl rfl (by kernel_rfl) ?_) | (refine wpL_load1S hst.st rfl rfl 3 rfl rfl rfl (by kernel_rfl) ?_))
          | (go_at_call 53; (with_reducible refine (ND.out _).mono ?_); rintro e1 w1 ⟨rfl, ho1⟩; replace hst := hst.keep ho1; clear ho1) | (go_at_call 27; (with_reducible refine (LN.out _ (hst.rs 0 rfl)).mono ?_); rintro e1 w1 ⟨rfl, ho1⟩; replace hst := hst.keep ho1; clear ho1) | (go_at_call 115; (with_reducible refine (IT.out _).mono ?_); rintro e1 w1 ⟨rfl, ho1⟩; replace hst := hst.keep ho1; clear ho1) | (go_at_call 117; (with_reducible refine (TX.out _).mono ?_); rintro e1 w1 ⟨rfl, ho1⟩; replace hst := hst.keep ho1; clear ho1)
          | (go_at_call 15; (with_reducible refine (ZN.out _ (hst.rs 0 rfl)).mono ?_); rintro e1 w1 ⟨za, rfl, hg1, hz1, ho1⟩; replace hst := hst.new ho1 hz1 hg1; clear hg1 hz1 ho1)
          | (go_at_call 99; (with_reducible refine (FL.out _ _ _ (hst.blk 0 rfl) (hst.rs 0 rfl) (hst.away 0 0 rfl rfl)).mono ?_); rintro e1 w1 ⟨F1, rfl, hd1, ht1⟩; replace hst := hst.act 0 rfl (diskR _ _ F1) rfl ht1 hd1; simp only [List.set] at hst; clear hd1 ht1)
          | (go_at_call 116; (with_reducible refine (ZR.out _ _ (hst.rs 0 rfl)).mono ?_); rintro e1 w1 ⟨z, rfl, hg1, hz1, ho1⟩; replace hst := hst.new ho1 hz1 hg1; clear hg1 hz1 ho1)
          | (go_at_call 33; (with_reducible refine (FM.out _ _ _ (hst.blk 0 rfl) (hst.rs 0 rfl) (hst.away 0 0 rfl rfl)).mono ?_); rintro e1 w1 ⟨F1, rfl, hd1, ht1⟩; replace hst := hst.act 0 rfl (diskR _ _ F1) rfl ht1 hd1; simp only [List.set] at hst; clear hd1 ht1))
      go_ret2
      exact ⟨_, rfl, hst.rs 0 rfl, hst.turn 0 rfl rfl⟩
  · rw [if_pos a0] at her ⊢
    rw [her] at FL
    clear FMY FMN a0 her SY PT ZR
    obtain ⟨m1, em1⟩ : ∃ x, x = (stA m (needN R Z C)).1 := ⟨_, rfl⟩
    rw [← em1] at FL ⊢
    generalize superB R Z C = sb at *
    generalize needN R Z C = N at *
    generalize m.len = ml at *
    clear hd hOK h4 f1 f2 hR hR1 hpos zo lA lT lP wA wT wP hg hl few hft em1
    go_enter Try.func54, Try.ntmps54
    go_wp2_with (first
        | ((with_reducible refine wpL_isBoxD rfl ?_); refine wpL_boxD hst rfl 84 rfl rfl ?_; clear hst; intro w1 bl hbl hst) | ((with_reducible refine wpL_skipS rfl ?_ ?_); focus (go_simp; done)) | ((with_reducible refine wpL_peel rfl ?_ ?_); focus (go_simp; done)) | ((with_reducible refine wpL_peel rfl ?_ ?_); focus (go_simp; done)) | ((with_reducible refine wpL_isLoad rfl ?_); first | (refine wpL_loadAtS hst.st rfl (ty := 84) rfl 0 rfl rfl (by kernel_rfl) 3 (by kernel_rfl) [_, _, _] rfl rfl ?_) | (refine wpL_loadAtS hst.st rfl (ty := 84) rfl 1 rfl rfl (by kernel_rfl) 3 (by kernel_rfl) [_, _, _] rfl rfl ?_) | (refine wpL_loadAtS hst.st rfl (ty := 84) rfl 2 rfl rfl (by kernel_rfl) 3 (by kernel_rfl) [_, _, _] rfl rfl ?_) | (refine wpL_loadAtS hst.st rfl (ty := 84) rfl 3 rfl rfl (by kernel_rfl) 3 (by kernel_rfl) [_, _, _] rfl rfl ?_) | (refine wpL_load1S hst.st rfl rfl 0 rfl rfl rfl (by kernel_rfl) ?_) | (refine wpL_load1S hst.st rfl rfl 1 rfl rfl rfl (by kernel_rfl) ?_) | (refine wpL_load1S hst.st rfl rfl 2 rfl rfl rfl (by kernel_rfl) ?_) | (refine wpL_load1S hst.st rfl rfl 3 rfl rfl rfl (by kernel_rfl) ?_))
        | (go_at_call 53; (with_reducible refine (ND.out _).mono ?_); rintro e1 w1 ⟨rfl, ho1⟩; replace hst := hst.keep ho1; clear ho1) | (go_at_call 27; (with_reducible refine (LN.out _ (hst.rs 0 rfl)).mono ?_); rintro e1 w1 ⟨rfl, ho1⟩; replace hst := hst.keep ho1; clear ho1) | (go_at_call 115; (with_reducible refine (IT.out _).mono ?_); rintro e1 w1 ⟨rfl, ho1⟩; replace hst := hst.keep ho1; clear ho1) | (go_at_call 117; (with_reducible refine (TX.out _).mono ?_); rintro e1 w1 ⟨rfl, ho1⟩; replace hst := hst.keep ho1; clear ho1)
        | (go_at_call 15; (with_reducible refine (ZN.out _ (hst.rs 0 rfl)).mono ?_); rintro e1 w1 ⟨za, rfl, hg1, hz1, ho1⟩; replace hst := hst.new ho1 hz1 hg1; clear hg1 hz1 ho1)
        | (go_at_call 99; (with_reducible refine (FL.out _ _ _ (hst.blk 0 rfl) (hst.rs 0 rfl) (hst.away 0 0 rfl rfl)).mono ?_); rintro e1 w1 ⟨F1, rfl, hd1, ht1⟩; replace hst := hst.act 0 rfl (diskR _ _ F1) rfl ht1 hd1; simp only [List.set] at hst; clear hd1 ht1))
    go_ret2
    exact ⟨_, rfl, hst.rs 0 rfl, hst.turn 0 rfl rfl⟩
end Go.Proofs.Ytmogkiacakkmbaa

namespace Go.Proofs.Ytmogkiacakkmbaa
open Go.RowKit

/-- What a store that was opened is made of. -/
def openN (d R Z C S : Nat) (tx : ByteArray) (g k : Int) (t zr s z0 a0 z1 a1 : Nat) : List Ent := madeN d t R Z C S s z0 a0 z1 a1 ++ [⟨t, tcells zr tx g k false, 98, true⟩, ⟨zr, zcells d 2 R, 34, true⟩]

section
variable (d : Nat) (m : DM) (F : List Nat) (w : World) (hd : DiskAt w d m F) (few : m.loose.length ≤ 600000) (haw : m.away = false)
include hd few haw

set_option maxRecDepth 100000 in
set_option maxHeartbeats 16000000 in
theorem storeOpen_no (h2 : 2 ≤ m.len) (er : Int) (he : ¬ er = 0) (hG : getR m 0 2 0 = (⟨#[]⟩, 0, er)) :
    Calls Try.prog 56 #[.pointer (some ⟨d, 0, none⟩)] w fun e w' => e = .returned (.tuple #[.pointer none, .int .i64 5]) ∧ Only [] w w' := by
  have hst := Sd.withQ [] (diskQ d m F) hd rfl
  have LN : Hid (∀ w, DiskAt w d m F → Calls Try.prog 27 #[.pointer (some ⟨d, 0, none⟩)] w fun e w' => e = .returned (.int .i64 (m.len : Int)) ∧ Only [] w w') := fun w h => dskLen_any d m F w h
  have IO : Hid (∀ w, DiskAt w d m F → Calls Try.prog 55 #[.pointer (some ⟨d, 0, none⟩)] w fun e w' => e = .returned (.bool true) ∧ Only [] w w') := fun w h => by
    have := dskIsOn_any d m F w h
    rw [haw] at this
    exact this
  have ZN : Hid (∀ w, DiskAt w d m F → Calls Try.prog 15 #[.pointer (some ⟨d, 0, none⟩), .int .i64 0, .int .i64 2] w fun e w' => ∃ z, e = .returned (.tuple #[.pointer (some ⟨z, 0, none⟩), .int .i64 0]) ∧ w.heap.size ≤ z ∧ Blk w' z (zcells d 0 2) 34 ∧ Only [] w w') := fun w h => zonNew_yes d 0 2 m F w h (by unfold partOk; simp; omega)
  have GT : Hid (∀ z w, Blk w z (zcells d 0 2) 34 → DiskAt w d m F → z ∉ F → Calls Try.prog 21 #[.pointer (some ⟨z, 0, none⟩), .int .i64 0] w fun e w' => e = .returned (.tuple #[.string ⟨#[]⟩, .int .i64 0, .int .i64 er]) ∧ Only [] w w') := fun z w h1 h2 h3 => by
    have := sealGet_any z d 0 2 m F 0 w h1 h2 h3 (by omega) (by omega) (by omega)
    rw [hG] at this
    exact this
  have PA : Hid (∀ w, Calls Try.prog 120 #[.string ⟨#[]⟩] w fun e w' => e = .returned (.tuple #[.agg #[.int .i64 0, .int .i64 0, .int .i64 0], .bool false]) ∧ Only [] w w') := storeParse_no
  have hl : ¬ (m.len : Int) < 2 := by omega
  have dl : decide (m.len < 2) = false := decide_eq_false (by omega)
  generalize m.len = ml at *
  clear hd few haw h2 hG
  go_enter Try.func56, Try.ntmps56
  go_wp2_with (first | ((with_reducible refine wpL_skipS rfl ?_ ?_); focus (go_simp; done)) | ((with_reducible refine wpL_peel rfl ?_ ?_); focus (go_simp; done)) | (go_at_call 27; (with_reducible refine (LN.out _ (hst.rs 0 rfl)).mono ?_); rintro e1 w1 ⟨rfl, ho1⟩; replace hst := hst.keep ho1; clear ho1) | (go_at_call 55; (with_reducible refine (IO.out _ (hst.rs 0 rfl)).mono ?_); rintro e1 w1 ⟨rfl, ho1⟩; replace hst := hst.keep ho1; clear ho1) | (go_at_call 15; (with_reducible refine (ZN.out _ (hst.rs 0 rfl)).mono ?_); rintro e1 w1 ⟨za, rfl, hg1, hz1, ho1⟩; replace hst := hst.new ho1 hz1 hg1; clear hg1 hz1 ho1) | (go_at_call 21; (with_reducible refine (GT.out _ _ (hst.blk 0 rfl) (hst.rs 0 rfl) (hst.away 0 0 rfl rfl)).mono ?_); rintro e1 w1 ⟨rfl, ho1⟩; replace hst := hst.keep ho1; clear ho1) | (go_at_call 120; (with_reducible refine (PA.out _).mono ?_); rintro e1 w1 ⟨rfl, ho1⟩; replace hst := hst.keep ho1; clear ho1) | ((with_reducible refine wpL_isAlloc rfl ?_); refine wpL_allocD hst rfl 84 rfl (.agg #[.int .i64 0, .int .i64 0, .int .i64 0]) [.int .i64 0, .int .i64 0, .int .i64 0] (by kernel_rfl) rfl _ rfl ?_; clear hst; intro w1 b1 hb1 hst) | ((with_reducible refine wpL_isStore rfl ?_); first | (refine wpL_storeD hst rfl (ty := 84) rfl 0 rfl rfl rfl (by kernel_rfl) (by kernel_rfl) rfl rfl ?_; clear hst; intro w1 hst; simp only [List.set] at hst) | (refine wpL_store1D hst rfl rfl 0 rfl rfl rfl rfl (by kernel_rfl) rfl ?_; clear hst; intro w1 hst; simp only [List.set] at hst)))
  go_ret2
  exact ⟨rfl, hst.only⟩

set_option maxRecDepth 100000 in
set_option maxHeartbeats 32000000 in
theorem storeOpen_yes (R Z C : Nat) (tx : ByteArray) (g k : Int) (hg : GoodL R Z C) (hl : needN R Z C ≤ m.len) (hG : getR m 0 2 0 = (superB R Z C, 1, 0)) (hT : openR m 2 R = (tx, g, k)) (hg0 : ¬ g = 0) :
    Calls Try.prog 56 #[.pointer (some ⟨d, 0, none⟩)] w fun e w' => ∃ t zr p z0 a0 z1 a1, e = .returned (.tuple #[.pointer (some ⟨p, 0, none⟩), .int .i64 0]) ∧ News w w' (openN d R Z C (C * secsOf Z) tx g k t zr p z0 a0 z1 a1) := by
  have hst := Sd.withQ [] (diskQ d m F) hd rfl
  have h4 : m.len ≤ 4096 := hd.1.few
  have hR := hg.r2
  have hR1 := hg.r1
  have hpos := GoodL.pos R Z C
  have zo : zoneOk R = true := zoneOk_iff.2 ⟨hg.r1, hg.r3⟩
  have LN : Hid (∀ w, DiskAt w d m F → Calls Try.prog 27 #[.pointer (some ⟨d, 0, none⟩)] w fun e w' => e = .returned (.int .i64 (m.len : Int)) ∧ Only [] w w') := fun w h => dskLen_any d m F w h
  have IO : Hid (∀ w, DiskAt w d m F → Calls Try.prog 55 #[.pointer (some ⟨d, 0, none⟩)] w fun e w' => e = .returned (.bool true) ∧ Only [] w w') := fun w h => by
    have := dskIsOn_any d m F w h
    rw [haw] at this
    exact this
  have ZN : Hid (∀ w, DiskAt w d m F → Calls Try.prog 15 #[.pointer (some ⟨d, 0, none⟩), .int .i64 0, .int .i64 2] w fun e w' => ∃ z, e = .returned (.tuple #[.pointer (some ⟨z, 0, none⟩), .int .i64 0]) ∧ w.heap.size ≤ z ∧ Blk w' z (zcells d 0 2) 34 ∧ Only [] w w') := fun w h => zonNew_yes d 0 2 m F w h (by unfold partOk; simp; omega)
  have GT : Hid (∀ z w, Blk w z (zcells d 0 2) 34 → DiskAt w d m F → z ∉ F → Calls Try.prog 21 #[.pointer (some ⟨z, 0, none⟩), .int .i64 0] w fun e w' => e = .returned (.tuple #[.string (superB R Z C), .int .i64 1, .int .i64 0]) ∧ Only [] w w') := fun z w h1 h2 h3 => by
    have := sealGet_any z d 0 2 m F 0 w h1 h2 h3 (by omega) (by omega) (by omega)
    rw [hG] at this
    exact this
  have PA : Hid (∀ w, Calls Try.prog 120 #[.string (superB R Z C)] w fun e w' => e = .returned (.tuple #[.agg #[.int .i64 (R : Int), .int .i64 (Z : Int), .int .i64 (C : Int)], .bool true]) ∧ Only [] w w') := fun w => storeParse_yes R Z C w hg
  have ND : Hid (∀ w, Calls Try.prog 53 #[.agg #[.int .i64 (R : Int), .int .i64 (Z : Int), .int .i64 (C : Int)]] w fun e w' => e = .returned (.int .i64 (needN R Z C : Int)) ∧ Only [] w w') := fun w => by
    have := storeNeed_any R Z C w
    rw [hg.need] at this
    exact this
  have ZR : Hid (∀ w, DiskAt w d m F → Calls Try.prog 116 #[.agg #[.int .i64 (R : Int), .int .i64 (Z : Int), .int .i64 (C : Int)], .pointer (some ⟨d, 0, none⟩)] w fun e w' => ∃ z, e = .returned (.tuple #[.pointer (some ⟨z, 0, none⟩), .int .i64 0]) ∧ w.heap.size ≤ z ∧ Blk w' z (zcells d 2 R) 34 ∧ Only [] w w') := fun w h => layRecord_yes d R Z C _ F w h (by omega) (by omega)
  have OP : Hid (∀ z w, Blk w z (zcells d 2 R) 34 → DiskAt w d m F → z ∉ F → Calls Try.prog 32 #[.pointer (some ⟨z, 0, none⟩)] w fun e w' => ∃ u, e = .returned (.tuple #[.pointer (some ⟨u, 0, none⟩), .int .i64 0]) ∧ w.heap.size ≤ u ∧ Blk w' u (tcells z tx g k false) 98 ∧ Only [] w w') := fun z w h1 h2 h3 => by
    refine (twinOpen_any z d 2 R m F w h1 h2 h3 (by omega) (by omega) (by omega) haw zo).mono ?_
    intro e w' h
    rw [hT] at h
    rcases h with ⟨h, _⟩ | ⟨_, h⟩
    · exact absurd h hg0
    · exact h
  have MD : Hid (∀ t w, DiskAt w d m F → Calls Try.prog 118 #[.agg #[.int .i64 (R : Int), .int .i64 (Z : Int), .int .i64 (C : Int)], .pointer (some ⟨d, 0, none⟩), .pointer (some ⟨t, 0, none⟩)] w fun e w' => ∃ s z0 a0 z1 a1, e = .returned (.tuple #[.pointer (some ⟨s, 0, none⟩), .int .i64 0]) ∧ News w w' (madeN d t R Z C (C * secsOf Z) s z0 a0 z1 a1)) := fun t w h => storeMade_yes d t R Z C _ F w h hg (by omega) (by omega)
  have hNl : ¬ (m.len : Int) < (needN R Z C : Int) := by omega
  have dNl : decide (m.len < needN R Z C) = false := decide_eq_false (by omega)
  have hl2 : ¬ (m.len : Int) < 2 := by omega
  have dl2 : decide (m.len < 2) = false := decide_eq_false (by omega)
  generalize superB R Z C = sb at *
  generalize C * secsOf Z = S at *
  generalize needN R Z C = N at *
  generalize m.len = ml at *
  clear hd few haw hG hT hg0 hg hl hR hR1 hpos zo h4
  go_enter Try.func56, Try.ntmps56
  go_wp2_with (first
    | ((with_reducible refine wpL_skipS rfl ?_ ?_); focus (go_simp; done)) | ((with_reducible refine wpL_peel rfl ?_ ?_); focus (go_simp; done)) | (go_at_call 27; (with_reducible refine (LN.out _ (hst.rs 0 rfl)).mono ?_); rintro e1 w1 ⟨rfl, ho1⟩; replace hst := hst.keep ho1; clear ho1) | (go_at_call 55; (with_reducible refine (IO.out _ (hst.rs 0 rfl)).mono ?_); rintro e1 w1 ⟨rfl, ho1⟩; replace hst := hst.keep ho1; clear ho1) | (go_at_call 15; (with_reducible refine (ZN.out _ (hst.rs 0 rfl)).mono ?_); rintro e1 w1 ⟨za, rfl, hg1, hz1, ho1⟩; replace hst := hst.new ho1 hz1 hg1; clear hg1 hz1 ho1) | (go_at_call 21; (with_reducible refine (GT.out _ _ (hst.blk 0 rfl) (hst.rs 0 rfl) (hst.away 0 0 rfl rfl)).mono ?_); rintro e1 w1 ⟨rfl, ho1⟩; replace hst := hst.keep ho1; clear ho1) | (go_at_call 120; (with_reducible refine (PA.out _).mono ?_); rintro e1 w1 ⟨rfl, ho1⟩; replace hst := hst.keep ho1; clear ho1) | ((with_reducible refine wpL_isAlloc rfl ?_); refine wpL_allocD hst rfl 84 rfl (.agg #[.int .i64 0, .int .i64 0, .int .i64 0]) [.int .i64 0, .int .i64 0, .int .i64 0] (by kernel_rfl) rfl _ rfl ?_; clear hst; intro w1 b1 hb1 hst) | ((with_reducible refine wpL_peel rfl ?_ ?_); focus (go_simp; done)) | ((with_reducible refine wpL_isLoad rfl ?_); first | (refine wpL_loadAtS hst.st rfl (ty := 84) rfl 0 rfl rfl (by kernel_rfl) 3 (by kernel_rfl) [_, _, _] rfl rfl ?_) | (refine wpL_loadAtS hst.st rfl (ty := 84) rfl 1 rfl rfl (by kernel_rfl) 3 (by kernel_rfl) [_, _, _] rfl rfl ?_) | (refine wpL_loadAtS hst.st rfl (ty := 84) rfl 2 rfl rfl (by kernel_rfl) 3 (by kernel_rfl) [_, _, _] rfl rfl ?_) | (refine wpL_loadAtS hst.st rfl (ty := 84) rfl 3 rfl rfl (by kernel_rfl) 3 (by kernel_rfl) [_, _, _] rfl rfl ?_) | (refine wpL_load1S hst.st rfl rfl 0 rfl rfl rfl (by kernel_rfl) ?_) | (refine wpL_load1S hst.st rfl rfl 1 rfl rfl rfl (by kernel_rfl) ?_) | (refine wpL_load1S hst.st rfl rfl 2 rfl rfl rfl (by kernel_rfl) ?_) | (refine wpL_load1S hst.st rfl rfl 3 rfl rfl rfl (by kernel_rfl) ?_)) | ((with_reducible refine wpL_isStore rfl ?_); first | (refine wpL_storeD hst rfl (ty := 84) rfl 0 rfl rfl rfl (by kernel_rfl) (by kernel_rfl) rfl rfl ?_; clear hst; intro w1 hst; simp only [List.set] at hst) | (refine wpL_store1D hst rfl rfl 0 rfl rfl rfl rfl (by kernel_rfl) rfl ?_; clear hst; intro w1 hst; simp only [List.set] at hst))
    | (go_at_call 53; (with_reducible refine (ND.out _).mono ?_); rintro e1 w1 ⟨rfl, ho1⟩; replace hst := hst.keep ho1; clear ho1)
    | (go_at_call 116; (with_reducible refine (ZR.out _ (hst.rs 0 rfl)).mono ?_); rintro e1 w1 ⟨z, rfl, hg1, hz1, ho1⟩; replace hst := hst.new ho1 hz1 hg1; clear hg1 hz1 ho1)
    | (go_at_call 32; (with_reducible refine (OP.out _ _ (hst.blk 0 rfl) (hst.rs 0 rfl) (hst.away 0 0 rfl rfl)).mono ?_); rintro e1 w1 ⟨t, rfl, hg1, hz1, ho1⟩; replace hst := hst.new ho1 hz1 hg1; clear hg1 hz1 ho1)
    | (go_at_call 118; (with_reducible refine (MD.out _ _ (hst.rs 0 rfl)).mono ?_); rintro e1 w1 ⟨p, z0, a0, z1, a1, rfl, hn1⟩; replace hst := hst.news hn1; clear hn1))
  go_ret2
  exact ⟨t, z, p, z0, a0, z1, a1, rfl, News.of (N := openN d R Z C S tx g k t z p z0 a0 z1 a1) (L := [_, _]) hst (by simp [openN, madeN])⟩
end
end Go.Proofs.Ytmogkiacakkmbaa

namespace Go.Proofs.Ytmogkiacakkmbaa

/-- A disk whose power is there, without a fuse. -/
structure On (m : DM) : Prop where
  ok : m.Ok
  aw : m.away = false
  fu : m.fuse = -1
theorem Rest.on {m : DM} (h : Rest m) : On m := ⟨h.ok, h.aw, h.fu⟩
theorem On.fu1 {m : DM} (h : On m) : -1 ≤ m.fuse := by rw [h.fu]; decide
theorem On.fu2 {m : DM} (h : On m) : m.fuse ≤ 9223372036854775807 := by rw [h.fu]; decide
theorem went_on {m m' : DM} (h : On m) {ws : List (Nat × ByteArray)} (hw : Went m m' ws) (ok : m'.Ok) : On m' := by
  refine ⟨ok, by rw [hw.away]; exact h.aw, ?_⟩
  obtain ⟨_, _, _, _, k, e⟩ := hw
  rw [e]
  exact k h.fu
theorem fill_free {m : DM} (h : On m) (p k : Nat) (hpk : p + k ≤ m.len) : (layA m p k).2 = 0 ∧ On (layA m p k).1 ∧ (layA m p k).1.len = m.len ∧ ∀ q, (layA m p k).1.now.getD q ⟨#[]⟩ = if p ≤ q ∧ q < p + k then zeroS 32 else m.now.getD q ⟨#[]⟩ := by
  rcases fillJ_on m p k (zeroS 32) h.aw h.fu1 h.fu2 hpk (zeroS_size 32) k (Nat.le_refl _) with ⟨ws, a1, a2, _, _, a4⟩ | ⟨ws, a1, _⟩
  · refine ⟨a2, went_on h a1 (fillJ_ok h.ok _ _ _ _), a1.len, fun q => ?_⟩
    have := a1.now
    change (layA m p k).1.now = _ at this
    rw [this]
    exact a4 q
  · exact absurd h.fu a1.1
theorem put_free {m : DM} (h : On m) (f n a : Nat) (num : Int) (s : ByteArray) (hfn : f + n ≤ m.len) (hc : canLay num s = true) (ha : a + secsOf s.size ≤ n) :
    (putR m f n (a : Int) num s).2 = 0 ∧ On (putR m f n (a : Int) num s).1 ∧ (putR m f n (a : Int) num s).1.len = m.len ∧ ∀ q, (putR m f n (a : Int) num s).1.now.getD q ⟨#[]⟩ = if f + a ≤ q ∧ q < f + a + secsOf s.size then laySec num s (q - (f + a)) else m.now.getD q ⟨#[]⟩ := by
  obtain ⟨dn, e⟩ := putR_free m f n a num s h.aw h.fu hfn hc ha
  have ok := putR_ok h.ok f n (a : Int) num s
  have hl := putR_len m f n (a : Int) num s
  rw [e] at ok hl ⊢
  refine ⟨rfl, ⟨ok, h.aw, h.fu⟩, hl, fun q => ?_⟩
  have e2 : DM.now { m with loose := m.loose ++ wsOf (f + a) (layS num s (secsOf s.size)) (secsOf s.size), done := dn } = laid m.now (wsOf (f + a) (layS num s (secsOf s.size)) (secsOf s.size)) := by
    unfold DM.now
    exact laid_append _ _ _
  rw [e2, laid_ws _ _ _ _ _ _ (by rw [DM.now_length]; omega)]
  split
  · rw [layS_at _ _ _ _ (by omega)]
  · rfl
theorem sync_free {m : DM} (h : On m) : m.syncE = 0 ∧ Rest m.sync ∧ m.sync.safe = m.now ∧ m.sync.len = m.len := by
  rcases sync_on m h.aw h.fu1 h.fu2 with ⟨fz, dn, s1, s2, s3, s4, s5⟩ | ⟨s1, _⟩
  · have ok := h.ok.sync
    have e := s3 h.fu
    subst e
    refine ⟨s5, ⟨ok, ?_, ?_, ?_⟩, ?_, DM.sync_len m⟩
    all_goals rw [s4]
    exact h.aw
  · exact absurd h.fu s1.1
theorem fmt_free {m : DM} (h : On m) (f n : Nat) (s : ByteArray) (hfn : f + n ≤ m.len) (hc : canLay 1 s = true) (hs : secsOf s.size ≤ n) :
    (fmtR m f n s).2 = 0 ∧ Rest (fmtR m f n s).1 ∧ (fmtR m f n s).1.len = m.len ∧ ∀ q, (fmtR m f n s).1.safe.getD q ⟨#[]⟩ = layL m.now f n 1 s q := by
  obtain ⟨a1, a2, a3, a4⟩ := fill_free h f n hfn
  have hp := put_free a2 f n 0 1 s (by rw [a3]; exact hfn) hc (by omega)
  rw [show ((0 : Nat) : Int) = 0 from rfl, Nat.add_zero] at hp
  change (fmtC m f n s).2 = 0 ∧ On (fmtC m f n s).1 ∧ (fmtC m f n s).1.len = _ ∧ ∀ q, (fmtC m f n s).1.now.getD q ⟨#[]⟩ = _ at hp
  obtain ⟨p1, p2, p3, p4⟩ := hp
  obtain ⟨s1, s2, s3, s4⟩ := sync_free p2
  have e : fmtR m f n s = ((fmtC m f n s).1.sync, (fmtC m f n s).1.syncE) := by unfold fmtR; rw [if_neg (by rw [a1]; simp), if_neg (by rw [p1]; simp)]
  rw [e]
  refine ⟨s1, s2, s4.trans (p3.trans a3), fun q => ?_⟩
  rw [s3, p4 q, a4 q]
  unfold layL
  by_cases h1 : f ≤ q ∧ q < f + secsOf s.size
  · rw [if_pos h1, if_pos (by omega), if_pos h1.2]
  · rw [if_neg h1]
    by_cases h2 : f ≤ q ∧ q < f + n
    · rw [if_pos h2, if_pos h2, if_neg (by omega)]
    · rw [if_neg h2, if_neg h2]
theorem lay_free {m : DM} (h : On m) (p k : Nat) (g : Int) (s : ByteArray) (hpk : p + k ≤ m.len) (hc : canLay (g + 1) s = true) (hs : secsOf s.size ≤ k) :
    (layR m p k g s).2 = 0 ∧ Rest (layR m p k g s).1 ∧ (layR m p k g s).1.len = m.len ∧ ∀ q, (layR m p k g s).1.safe.getD q ⟨#[]⟩ = layL m.now p k (g + 1) s q := by
  obtain ⟨a1, a2, a3, a4⟩ := fill_free h p k hpk
  obtain ⟨b1, b2, b3, b4⟩ := sync_free a2
  have hp := put_free b2.on p k 0 (g + 1) s (by rw [b4, a3]; exact hpk) hc (by omega)
  rw [show ((0 : Nat) : Int) = 0 from rfl, Nat.add_zero] at hp
  change (layC m p k g s).2 = 0 ∧ On (layC m p k g s).1 ∧ (layC m p k g s).1.len = _ ∧ ∀ q, (layC m p k g s).1.now.getD q ⟨#[]⟩ = _ at hp
  obtain ⟨p1, p2, p3, p4⟩ := hp
  obtain ⟨s1, s2, s3, s4⟩ := sync_free p2
  have e : layR m p k g s = ((layC m p k g s).1.sync, (layC m p k g s).1.syncE) := by unfold layR; rw [if_neg (by rw [a1]; simp), if_neg (by rw [b1]; simp), if_neg (by rw [p1]; simp)]
  rw [e]
  refine ⟨s1, s2, s4.trans (p3.trans (b4.trans a3)), fun q => ?_⟩
  rw [s3, p4 q, b2.now, b3, a4 q]
  unfold layL
  by_cases h1 : p ≤ q ∧ q < p + secsOf s.size
  · rw [if_pos h1, if_pos (by omega), if_pos h1.2]
  · rw [if_neg h1]
    by_cases h2 : p ≤ q ∧ q < p + k
    · rw [if_pos h2, if_pos h2, if_neg (by omega)]
    · rw [if_neg h2, if_neg h2]

theorem superLay (R Z C : Nat) : canLay 1 (superB R Z C) = true := canLay_iff.2 ⟨by decide, by rw [superB_size]; decide⟩
theorem superSecs (R Z C : Nat) : secsOf (superB R Z C).size = 2 := by rw [superB_size]; decide
/-- What stands on a disk that was laid out. -/
def stL (l : List ByteArray) (R Z C : Nat) (s : ByteArray) (q : Nat) : ByteArray :=
  if q < 2 then laySec 1 (superB R Z C) q else if q < 2 + R then (if q < 2 + secsOf s.size then laySec 1 s (q - 2) else zeroS 32) else if q < needN R Z C then zeroS 32 else l.getD q ⟨#[]⟩
theorem st_free {m : DM} (h : On m) (R Z C : Nat) (s : ByteArray) (hg : GoodL R Z C) (hl : needN R Z C ≤ m.len) (hft : fits (R / 2) s = true) :
    (stR m R Z C (needN R Z C) s).2 = 0 ∧ Rest (stR m R Z C (needN R Z C) s).1 ∧ (stR m R Z C (needN R Z C) s).1.len = m.len ∧ ∀ q, (stR m R Z C (needN R Z C) s).1.safe.getD q ⟨#[]⟩ = stL m.now R Z C s q := by
  have hpos := GoodL.pos R Z C
  have hR := hg.r1
  obtain ⟨f1, f2⟩ := fits_iff.1 hft
  have hc : canLay 1 s = true := canLay_iff.2 ⟨by decide, f1⟩
  have h2 := secsOf_two s.size
  obtain ⟨a1, a2, a3, a4⟩ := fill_free h 0 (needN R Z C) (by omega)
  change (stA m (needN R Z C)).2 = 0 at a1
  change On (stA m (needN R Z C)).1 at a2
  change (stA m (needN R Z C)).1.len = m.len at a3
  have a4 : ∀ q, (stA m (needN R Z C)).1.now.getD q ⟨#[]⟩ = if 0 ≤ q ∧ q < 0 + needN R Z C then zeroS 32 else m.now.getD q ⟨#[]⟩ := a4
  obtain ⟨t1, t2, t3, t4⟩ := fmt_free a2 2 R s (by omega) hc (by omega)
  change (stT m R (needN R Z C) s).2 = 0 at t1
  change Rest (stT m R (needN R Z C) s).1 at t2
  change (stT m R (needN R Z C) s).1.len = _ at t3
  have t4 : ∀ q, (stT m R (needN R Z C) s).1.safe.getD q ⟨#[]⟩ = layL (stA m (needN R Z C)).1.now 2 R 1 s q := t4
  have hp := put_free t2.on 0 (needN R Z C) 0 1 (superB R Z C) (by omega) (superLay R Z C) (by rw [superSecs]; omega)
  rw [show ((0 : Nat) : Int) = 0 from rfl] at hp
  obtain ⟨p1, p2, p3, p4⟩ := hp
  change (stP m R Z C (needN R Z C) s).2 = 0 at p1
  change On (stP m R Z C (needN R Z C) s).1 at p2
  change (stP m R Z C (needN R Z C) s).1.len = _ at p3
  have p4 : ∀ q, (stP m R Z C (needN R Z C) s).1.now.getD q ⟨#[]⟩ = if 0 + 0 ≤ q ∧ q < 0 + 0 + secsOf (superB R Z C).size then laySec 1 (superB R Z C) (q - (0 + 0)) else (stT m R (needN R Z C) s).1.now.getD q ⟨#[]⟩ := p4
  obtain ⟨s1, s2, s3, s4⟩ := sync_free p2
  have e : stR m R Z C (needN R Z C) s = ((stP m R Z C (needN R Z C) s).1.sync, (stP m R Z C (needN R Z C) s).1.syncE) := by unfold stR; rw [if_neg (by rw [a1]; simp), if_neg (by rw [t1]; simp), if_neg (by rw [p1]; simp)]
  rw [e]
  refine ⟨s1, s2, s4.trans (p3.trans (t3.trans a3)), fun q => ?_⟩
  rw [s3, p4 q, superSecs, t2.now, t4 q]
  unfold stL layL
  by_cases h1 : q < 2
  · rw [if_pos (by omega), if_pos h1]
    rfl
  · rw [if_neg (by omega), if_neg h1]
    by_cases h3 : q < 2 + R
    · rw [if_pos (by omega), if_pos h3]
    · rw [if_neg (by omega), if_neg h3, a4 q]
      by_cases h4 : q < needN R Z C
      · rw [if_pos (by omega), if_pos h4]
      · rw [if_neg (by omega), if_neg h4]
/-- A disk that was laid out is opened. -/
theorem st_open {m : DM} (h : Rest m) (R Z C : Nat) (s : ByteArray) (hg : GoodL R Z C) (hl : needN R Z C ≤ m.len) (hft : fits (R / 2) s = true) (h0 : ∀ q, q < 2 → m.safe.getD q ⟨#[]⟩ = laySec 1 (superB R Z C) q) (h1 : ∀ q, 2 ≤ q → q < 2 + R → m.safe.getD q ⟨#[]⟩ = if q < 2 + secsOf s.size then laySec 1 s (q - 2) else zeroS 32) :
    getR m 0 2 0 = (superB R Z C, 1, 0) ∧ openR m 2 R = (s, 1, 0) := by
  have hpos := GoodL.pos R Z C
  have hc : canLay 1 s = true := canLay_iff.2 ⟨by decide, (fits_iff.1 hft).1⟩
  refine ⟨getR_here m 0 2 0 1 (superB R Z C) h.aw (by omega) (superLay R Z C) (by rw [superSecs]; omega) (fun i hi => ?_), fmt_open (m := m) h 2 R s (by omega) (zoneOk_iff.2 ⟨hg.r1, hg.r3⟩) hc hft (fun q => ?_)⟩
  · rw [superSecs] at hi
    rw [h.now, show 0 + 0 + i = i by omega]
    exact h0 i hi
  · unfold layL
    by_cases hq : 2 ≤ q ∧ q < 2 + R
    · rw [if_pos hq]
      exact h1 q hq.1 hq.2
    · rw [if_neg hq]
end Go.Proofs.Ytmogkiacakkmbaa
