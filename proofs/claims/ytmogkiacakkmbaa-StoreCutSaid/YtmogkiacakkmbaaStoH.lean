/- The law StoreCut, walked. Printed by mksto.py. -/
import Derived.Test.YtmogkiacakkmbaaStoG
import Derived.Test.YtmogkiacakkmbaaStoQ
import Derived.Test.YtmogkiacakkmbaaFuse
import Derived.Test.YtmogkiacakkmbaaSealJ
namespace Go.Proofs.Ytmogkiacakkmbaa
open Go.RowKit

set_option maxRecDepth 100000 in
set_option maxHeartbeats 32000000 in
theorem storeCut_walk (s : ByteArray) (fuse : Int) (K : Value) (keep : List Bool) (kb : List Nat) (w : World) (hB : Bools w K keep kb) :
    Calls Try.prog 10 #[.string s, .int .i64 fuse, K] w fun e w' => e = .returned (.bool true) ∧ Only [] w w' := by
  have hst := Sd.withQ [] (boolsQ K keep kb) hB rfl
  have AW := Lib.hid awake10_any
  obtain ⟨ak, ck, rfl⟩ := hB.slice
  by_cases h1 : 20 < (s.size : Int)
  · have d1 : decide (20 < (s.size : Int)) = true := decide_eq_true h1
    clear hB h1
    go_enter Try.func10, Try.ntmps10
    go_wp2_with (first | (go_at_call 52; (with_reducible refine (AW.out _).mono ?_); rintro e1 w1 ⟨rfl, ho1⟩; replace hst := hst.keep ho1; clear ho1))
    go_ret
    exact ⟨rfl, hst.only⟩
  have d1 : decide (20 < (s.size : Int)) = false := decide_eq_false h1
  by_cases h2 : 100 < (keep.length : Int)
  · have d2 : decide (100 < (keep.length : Int)) = true := decide_eq_true h2
    clear hB h2
    go_enter Try.func10, Try.ntmps10
    go_wp2_with (first | (go_at_call 52; (with_reducible refine (AW.out _).mono ?_); rintro e1 w1 ⟨rfl, ho1⟩; replace hst := hst.keep ho1; clear ho1))
    go_ret
    exact ⟨rfl, hst.only⟩
  have d2 : decide (100 < (keep.length : Int)) = false := decide_eq_false h2
  have hs20 : s.size ≤ 20 := by omega
  have hk100 : keep.length ≤ 100 := by omega
  obtain ⟨n, hn, hn2⟩ := rem_idx fuse 12 (by decide)
  have hn : (IntKind.u64.wrap fuse).tmod 12 = (n : Int) := hn
  have hn12 : (n : Int) ≤ 12 := by omega
  have law := cut_law (n : Int) (by omega) keep (by omega) s hs20
  have hm0 : (DM.fresh 20).fuseAt (n : Int) keep = cutM (n : Int) keep := rfl
  have mlen : (cutM (n : Int) keep).len = 20 := by rw [cutM_eq]; unfold DM.len; exact List.length_replicate
  have mlo : (cutM (n : Int) keep).loose = [] := rfl
  have hft : fits (6 / 2) s = true := fits_iff.2 ⟨by omega, by unfold secsOf; omega⟩
  have Mlen := stR_len (cutM (n : Int) keep) 6 30 2 20 s
  have Mok := stR_ok (cutM_ok (n : Int) (by omega) keep (by omega)) 6 30 2 20 s
  rw [mlen] at Mlen
  have ND : Hid (∀ w, Calls Try.prog 53 #[.agg #[.int .i64 6, .int .i64 30, .int .i64 2]] w fun e w' => e = .returned (.int .i64 20) ∧ Only [] w w') := fun w => by
    have := storeNeed_any (6 : Nat) (30 : Nat) (2 : Nat) w
    rw [good630.need, need630] at this
    exact this
  have DN : Hid (∀ w, Calls Try.prog 14 #[.int .i64 20] w fun e w' => ∃ d F, e = .returned (.pointer (some ⟨d, 0, none⟩)) ∧ DiskAt w' d (DM.fresh 20) F ∧ Only [] w w' ∧ (∀ b ∈ F, w.heap.size ≤ b)) := fun w => dskNew_any 20 w (by decide)
  obtain ⟨D0, eD0⟩ : ∃ D0, D0 = DM.fresh 20 := ⟨_, rfl⟩
  have l0 : D0.len = 20 := by rw [eD0]; unfold DM.len; exact List.length_replicate
  have a0 : D0.away = false := by rw [eD0]; rfl
  obtain ⟨m, em⟩ : ∃ m, m = cutM (n : Int) keep := ⟨_, rfl⟩
  have FU : Hid (∀ d F w, DiskAt w d D0 F → Bools w (.slice ak keep.length ck) keep kb → (∀ b ∈ kb, b ∉ F) → Calls Try.prog 41 #[.pointer (some ⟨d, 0, none⟩), .int .i64 (n : Int), .slice ak keep.length ck] w fun e w' => ∃ F', e = .returned (.tuple #[]) ∧ DiskAt w' d m F' ∧ Turn F F' w w') := fun d F w h h2 h3 => by
    have := dskFuse_any d D0 F (n : Int) _ keep kb w h (by omega) a0 h2 h3 (by omega) (by omega)
    rw [eD0, hm0, ← em] at this
    exact this
  rw [← eD0] at DN
  rw [← em] at law mlen mlo Mlen Mok
  have CUG : Hid (∀ (M : DM) d F w, M.len = 20 → M.loose = [] → DiskAt w d M F → Calls Try.prog 19 #[.pointer (some ⟨d, 0, none⟩), .slice none 0 0] w fun e w' => ∃ F', e = .returned (.tuple #[]) ∧ DiskAt w' d (M.cut []) F' ∧ Turn F F' w w') := fun M d F w h1 h2 h => dskCut_any d M F _ [] [] w h (by omega) (.inl ⟨rfl, rfl, none, 0, rfl⟩) (fun b hb => by cases hb) (by rw [h2]; exact Nat.zero_le _)
  have COG : Hid (∀ (M : DM) d F w, M.len = 20 → DiskAt w d (M.cut []) F → Calls Try.prog 20 #[.pointer (some ⟨d, 0, none⟩)] w fun e w' => ∃ F', e = .returned (.tuple #[]) ∧ DiskAt w' d (M.cut []).come F' ∧ Turn F F' w w') := fun M d F w h1 h => by
    refine (dskCome_any d (M.cut []) F w h (by rw [DM.cut_len]; omega)).mono ?_
    rintro e w' ⟨h1, h2, h3⟩
    exact ⟨F, h1, h2, h3⟩
  have OYG : Hid (∀ (M : DM) d F w, M.Ok → M.len = 20 → M.loose = [] → CutYes (M.cut []).come s → DiskAt w d (M.cut []).come F → Calls Try.prog 56 #[.pointer (some ⟨d, 0, none⟩)] w fun e w' => ∃ t zr p z0 a0 z1 a1, e = .returned (.tuple #[.pointer (some ⟨p, 0, none⟩), .int .i64 0]) ∧ News w w' (openN d 6 30 2 6 s 1 0 t zr p z0 a0 z1 a1)) := fun M d F w h1 h2 h3 h4 h => by
    obtain ⟨k1, k2⟩ := cut_come h1 h3
    exact storeOpen_yes d _ F w h (by rw [k1.lo]; exact Nat.zero_le _) k1.aw 6 30 2 s 1 0 good630 (by rw [need630]; unfold DM.len; rw [k2]; exact Nat.le_of_eq h2.symm) h4.1 h4.2 (by decide)
  have ONG : Hid (∀ (M : DM) d F w, M.Ok → M.len = 20 → M.loose = [] → CutNo (M.cut []).come → DiskAt w d (M.cut []).come F → Calls Try.prog 56 #[.pointer (some ⟨d, 0, none⟩)] w fun e w' => e = .returned (.tuple #[.pointer none, .int .i64 5]) ∧ Only [] w w') := fun M d F w h1 h2 h3 h4 h => by
    obtain ⟨k1, k2⟩ := cut_come h1 h3
    exact storeOpen_no d _ F w h (by rw [k1.lo]; exact Nat.zero_le _) k1.aw (by unfold DM.len; rw [k2]; exact Nat.le_trans (by decide) (Nat.le_of_eq h2.symm)) 5 (by decide) h4
  have LY : Hid (∀ s t a0 a1 w, Blk w s (stcells t 6 30 2 (.pointer (some ⟨a0, 0, none⟩)) (.pointer (some ⟨a1, 0, none⟩))) 91 → Calls Try.prog 57 #[.pointer (some ⟨s, 0, none⟩)] w fun e w' => e = .returned (.agg #[.int .i64 6, .int .i64 30, .int .i64 2]) ∧ Only [] w w') := fun s t a0 a1 w h => storeLayout_any s t 6 30 2 _ _ w h
  have TX : Hid (∀ t z w, Blk w t (tcells z s 1 0 false) 98 → Calls Try.prog 35 #[.pointer (some ⟨t, 0, none⟩)] w fun e w' => e = .returned (.string s) ∧ w = w') := fun t z w h => twinText_any t z _ _ _ _ w h
  have TG : Hid (∀ t z w, Blk w t (tcells z s 1 0 false) 98 → Calls Try.prog 36 #[.pointer (some ⟨t, 0, none⟩)] w fun e w' => e = .returned (.int .i64 1) ∧ w = w') := fun t z w h => twinGen_any t z _ _ _ _ w h
  have SS : Hid (decide (s = s) = true) := decide_eq_true rfl
  clear hB h1 h2 hm0
  obtain ⟨M, eM⟩ : ∃ M, M = (stR m 6 30 2 20 s).1 := ⟨_, rfl⟩
  have FMY : Hid ((stR m 6 30 2 20 s).2 = 0 → ∀ d F w, DiskAt w d m F → Calls Try.prog 54 #[.pointer (some ⟨d, 0, none⟩), .agg #[.int .i64 6, .int .i64 30, .int .i64 2], .string s] w fun e w' => ∃ t zr p z0 a0 z1 a1 F', e = .returned (.tuple #[.pointer (some ⟨p, 0, none⟩), .int .i64 0]) ∧ (storeR d M F' 6 30 2 6 s 1 0 false t zr p z0 a0 z1 a1).p w' ∧ Turn F (storeR d M F' 6 30 2 6 s 1 0 false t zr p z0 a0 z1 a1).F w w') := fun h0 d F w h => by
    have := storeFormat_yes d 6 30 2 m F s w h good630 (by rw [need630, mlen]; decide) (by rw [mlo]; exact Nat.zero_le _) hft (by rw [need630]; exact h0)
    rw [need630, ← eM] at this
    exact this
  have FMN : Hid ((stR m 6 30 2 20 s).2 = 4 → ∀ d F w, DiskAt w d m F → Calls Try.prog 54 #[.pointer (some ⟨d, 0, none⟩), .agg #[.int .i64 6, .int .i64 30, .int .i64 2], .string s] w fun e w' => ∃ F', e = .returned (.tuple #[.pointer none, .int .i64 4]) ∧ DiskAt w' d M F' ∧ Turn F F' w w') := fun h0 d F w h => by
    have := storeFormat_broke d 6 30 2 m F s w h good630 (by rw [need630, mlen]; decide) (by rw [mlo]; exact Nat.zero_le _) hft 4 (by rw [need630]; exact h0) (by decide)
    rw [need630, ← eM] at this
    exact this
  rw [← eM] at law Mlen Mok
  rcases law with ⟨c1, c2, c3, c4⟩ | ⟨c1, c3, c4⟩
  · as_aux_lemma =>
    have FM := Lib.hid (FMY.out c1)
    have CU : Hid (∀ d F w, DiskAt w d M F → Calls Try.prog 19 #[.pointer (some ⟨d, 0, none⟩), .slice none 0 0] w fun e w' => ∃ F', e = .returned (.tuple #[]) ∧ DiskAt w' d (M.cut []) F' ∧ Turn F F' w w') := fun d F w h => CUG.out M d F w Mlen c3 h
    have CO : Hid (∀ d F w, DiskAt w d (M.cut []) F → Calls Try.prog 20 #[.pointer (some ⟨d, 0, none⟩)] w fun e w' => ∃ F', e = .returned (.tuple #[]) ∧ DiskAt w' d (M.cut []).come F' ∧ Turn F F' w w') := fun d F w h => COG.out M d F w Mlen h
    have OP : Hid (∀ d F w, DiskAt w d (M.cut []).come F → Calls Try.prog 56 #[.pointer (some ⟨d, 0, none⟩)] w fun e w' => ∃ t zr p z0 a0 z1 a1, e = .returned (.tuple #[.pointer (some ⟨p, 0, none⟩), .int .i64 0]) ∧ News w w' (openN d 6 30 2 6 s 1 0 t zr p z0 a0 z1 a1)) := fun d F w h => OYG.out M d F w Mok Mlen c3 c4 h
    have IO : Hid (∀ d F w, DiskAt w d M F → Calls Try.prog 55 #[.pointer (some ⟨d, 0, none⟩)] w fun e w' => e = .returned (.bool true) ∧ Only [] w w') := fun d F w h => by
      have := dskIsOn_any d M F w h
      rw [c2] at this
      exact this
    clear c2
    generalize (M.cut []).come = M2 at *
    generalize M.cut [] = M1 at *
    clear FMY FMN CUG COG OYG ONG c1 c3 c4 eM em eD0 l0 a0 mlen mlo Mlen Mok hft hs20 hk100
    go_enter Try.func10, Try.ntmps10
    go_wp2_with (first
        | ((with_reducible refine wpL_skipS rfl ?_ ?_); focus (go_simp; done)) | ((with_reducible refine wpL_peel rfl ?_ ?_); focus (go_simp; done)) | (go_at_call 52; (with_reducible refine (AW.out _).mono ?_); rintro e1 w1 ⟨rfl, ho1⟩; replace hst := hst.keep ho1; clear ho1) | ((with_reducible refine wpL_isAlloc rfl ?_); refine wpL_allocD hst rfl 84 rfl (.agg #[.int .i64 0, .int .i64 0, .int .i64 0]) [.int .i64 0, .int .i64 0, .int .i64 0] (by kernel_rfl) rfl _ rfl ?_; clear hst; intro w1 b1 hb1 hst) | ((with_reducible refine wpL_isStore rfl ?_); first | (refine wpL_storeD hst rfl (ty := 84) rfl 0 rfl rfl rfl (by kernel_rfl) (by kernel_rfl) rfl rfl ?_; clear hst; intro w1 hst; simp only [List.set] at hst) | (refine wpL_store1D hst rfl rfl 0 rfl rfl rfl rfl (by kernel_rfl) rfl ?_; clear hst; intro w1 hst; simp only [List.set] at hst)) | ((with_reducible refine wpL_isLoad rfl ?_); first | (refine wpL_loadAtS hst.st rfl (ty := 84) rfl 0 rfl rfl (by kernel_rfl) 3 (by kernel_rfl) [_, _, _] rfl rfl ?_) | (refine wpL_load1S hst.st rfl rfl 4 rfl rfl rfl (by kernel_rfl) ?_)) | (go_at_call 53; (with_reducible refine (ND.out _).mono ?_); rintro e1 w1 ⟨rfl, ho1⟩; replace hst := hst.keep ho1; clear ho1) | (go_at_call 14; (with_reducible refine (DN.out _).mono ?_); rintro e1 w1 ⟨d, F, rfl, hd1, ho1, hg1⟩; replace hst := hst.add ho1 (r := diskR d _ F) hd1 hg1; clear hd1 ho1 hg1)
        | (go_at_call 41; (with_reducible refine (FU.out _ _ _ (hst.rs 0 rfl) (hst.rs 1 rfl) hst.apartB).mono ?_); rintro e1 w1 ⟨F1, rfl, hd1, ht1⟩; replace hst := hst.act 0 rfl (diskR _ _ F1) rfl ht1 hd1; simp only [List.set] at hst; clear hd1 ht1)
        | (go_at_call 19; (with_reducible refine (CU.out _ _ _ (hst.rs 0 rfl)).mono ?_); rintro e1 w1 ⟨F1, rfl, hd1, ht1⟩; replace hst := hst.act 0 rfl (diskR _ _ F1) rfl ht1 hd1; simp only [List.set] at hst; clear hd1 ht1) | (go_at_call 20; (with_reducible refine (CO.out _ _ _ (hst.rs 0 rfl)).mono ?_); rintro e1 w1 ⟨F1, rfl, hd1, ht1⟩; replace hst := hst.act 0 rfl (diskR _ _ F1) rfl ht1 hd1; simp only [List.set] at hst; clear hd1 ht1)
        | (go_at_call 54; (with_reducible refine (FM.out _ _ _ (hst.rs 0 rfl)).mono ?_); rintro e1 w1 ⟨t, zr, p, z0, a0, z1, a1, F1, rfl, hp1, hT1⟩; replace hst := hst.act 0 rfl (storeR _ _ F1 _ _ _ _ _ _ _ _ t zr p z0 a0 z1 a1) rfl hT1 hp1; clear hp1 hT1; simp only [List.set] at hst; unfold storeR at hst; replace hst := hst.split.split.split.split.split.split.split) | (go_at_call 56; (with_reducible refine (OP.out _ _ _ (hst.rs 0 rfl)).mono ?_); rintro e1 w1 ⟨u, zu, q, y0, b0, y1, b1, rfl, hn1⟩; replace hst := hst.news hn1; clear hn1; simp only [openN, madeN, List.cons_append, List.nil_append] at hst)
        | (go_at_call 35; (with_reducible refine (TX.out _ _ _ (hst.blk 5 rfl)).mono ?_); rintro e1 w1 ⟨rfl, rfl⟩)
        | ((with_reducible refine wpL_isBin rfl ?_); (refine wpL_neqStrT rfl rfl s s rfl rfl true SS.out ?_))
        | (go_at_call 55; (with_reducible refine (IO.out _ _ _ (hst.rs 0 rfl)).mono ?_); rintro e1 w1 ⟨rfl, ho1⟩; replace hst := hst.keep ho1; clear ho1))
    replace hst := hst.drew
    refine wp_region_ord [4, 9, 18] [0, 1, 2, 3, 4, 5, 6, 7, 8, 10, 9, 11, 12, 13, 14, 15, 16, 17, 18, 19, 20, 21] (by kernel_rfl) (by kernel_rfl) ?_
    generalize World.drew _ = W at *
    refine Ord.cut 3 2 rfl rfl rfl rfl (by kernel_rfl) (by kernel_rfl) ?_; simp only [List.take_succ_cons, List.take_zero, List.drop_succ_cons, List.drop_zero, List.filterMap_cons, List.filterMap_nil, List.getElem?_cons_succ, List.getElem?_cons_zero]; go_wp2_with fail; refine TextQ.mk ⟨fun h => by simp at h, ?_⟩ rfl
    refine Ord.cut 1 3 rfl rfl rfl rfl (by kernel_rfl) (by kernel_rfl) ?_; simp only [List.take_succ_cons, List.take_zero, List.drop_succ_cons, List.drop_zero, List.filterMap_cons, List.filterMap_nil, List.getElem?_cons_succ, List.getElem?_cons_zero]
    (try refine wpL_peel rfl rfl ?_)
    refine wpL_load1S hst.st rfl rfl 4 rfl rfl rfl (by kernel_rfl) ?_
    refine TextQ.mk ⟨fun h => by simp at h, ?_⟩ rfl
    refine Ord.cut 1 4 rfl rfl rfl rfl (by kernel_rfl) (by kernel_rfl) ?_; simp only [List.take_succ_cons, List.take_zero, List.drop_succ_cons, List.drop_zero, List.filterMap_cons, List.filterMap_nil, List.getElem?_cons_succ, List.getElem?_cons_zero]
    (try refine wpL_peel rfl rfl ?_)
    go_wp2_with (go_at_call 35; (with_reducible refine (TX.out _ _ _ (hst.blk 5 rfl)).mono ?_); rintro e1 w1 ⟨rfl, rfl⟩)
    refine TextQ.mk ⟨fun _ => Only.refl _ _, ?_⟩ rfl
    refine Ord.cut 1 5 rfl rfl rfl rfl (by kernel_rfl) (by kernel_rfl) ?_; simp only [List.take_succ_cons, List.take_zero, List.drop_succ_cons, List.drop_zero, List.filterMap_cons, List.filterMap_nil, List.getElem?_cons_succ, List.getElem?_cons_zero]; go_wp2_with fail; refine TextQ.mk ⟨fun h => by simp at h, ?_⟩ rfl
    refine Ord.cut 1 6 rfl rfl rfl rfl (by kernel_rfl) (by kernel_rfl) ?_; simp only [List.take_succ_cons, List.take_zero, List.drop_succ_cons, List.drop_zero, List.filterMap_cons, List.filterMap_nil, List.getElem?_cons_succ, List.getElem?_cons_zero]
    (try refine wpL_peel rfl rfl ?_)
    refine wpL_eql_same rfl 9 _ _ _ rfl _ rfl rfl ?_
    refine TextQ.mk ⟨fun h => by simp at h, ?_⟩ rfl
    refine Ord.cut 2 8 rfl rfl rfl rfl (by kernel_rfl) (by kernel_rfl) ?_; simp only [List.take_succ_cons, List.take_zero, List.drop_succ_cons, List.drop_zero, List.filterMap_cons, List.filterMap_nil, List.getElem?_cons_succ, List.getElem?_cons_zero]; go_wp2_with fail; refine TextQ.mk ⟨fun h => by simp at h, ?_⟩ rfl
    refine Ord.cut 1 10 rfl rfl rfl rfl (by kernel_rfl) (by kernel_rfl) ?_; simp only [List.take_succ_cons, List.take_zero, List.drop_succ_cons, List.drop_zero, List.filterMap_cons, List.filterMap_nil, List.getElem?_cons_succ, List.getElem?_cons_zero]
    (try refine wpL_peel rfl rfl ?_)
    refine wpL_loadAtS hst.st rfl (ty := 84) rfl 14 rfl rfl (by kernel_rfl) 3 (by kernel_rfl) [_, _, _] rfl rfl ?_
    refine TextQ.mk ⟨fun h => by simp at h, ?_⟩ rfl
    refine Ord.cut 1 9 rfl rfl rfl rfl (by kernel_rfl) (by kernel_rfl) ?_; simp only [List.take_succ_cons, List.take_zero, List.drop_succ_cons, List.drop_zero, List.filterMap_cons, List.filterMap_nil, List.getElem?_cons_succ, List.getElem?_cons_zero]
    (try refine wpL_peel rfl rfl ?_)
    go_wp2_with (go_at_call 57; (with_reducible refine (LY.out _ _ _ _ _ (hst.blk 4 rfl)).mono ?_); rintro e1 w1 ⟨rfl, ho1⟩)
    refine TextQ.mk ⟨fun _ => ho1, ?_⟩ rfl
    replace hst := hst.keep ho1
    clear ho1
    refine Ord.cut 1 11 rfl rfl rfl rfl (by kernel_rfl) (by kernel_rfl) ?_; simp only [List.take_succ_cons, List.take_zero, List.drop_succ_cons, List.drop_zero, List.filterMap_cons, List.filterMap_nil, List.getElem?_cons_succ, List.getElem?_cons_zero]
    (try refine wpL_peel rfl rfl ?_)
    refine wpL_eql_lay rfl _ _ _ rfl _ _ _ rfl rfl ?_
    refine TextQ.mk ⟨fun h => by simp at h, ?_⟩ ?fine
    case fine => repeat' (first | exact rfl | exact fine_lay _ _ _ rfl rfl rfl | refine fine_cons ?_ ?_)
    refine Ord.cut 3 14 rfl rfl rfl rfl (by kernel_rfl) (by kernel_rfl) ?_; simp only [List.take_succ_cons, List.take_zero, List.drop_succ_cons, List.drop_zero, List.filterMap_cons, List.filterMap_nil, List.getElem?_cons_succ, List.getElem?_cons_zero]; go_wp2_with fail; refine TextQ.mk ⟨fun h => by simp at h, ?_⟩ rfl
    refine Ord.cut 2 16 rfl rfl rfl rfl (by kernel_rfl) (by kernel_rfl) ?_; simp only [List.take_succ_cons, List.take_zero, List.drop_succ_cons, List.drop_zero, List.filterMap_cons, List.filterMap_nil, List.getElem?_cons_succ, List.getElem?_cons_zero]; go_wp2_with fail; refine TextQ.mk ⟨fun h => by simp at h, ?_⟩ rfl
    refine Ord.cut 1 17 rfl rfl rfl rfl (by kernel_rfl) (by kernel_rfl) ?_; simp only [List.take_succ_cons, List.take_zero, List.drop_succ_cons, List.drop_zero, List.filterMap_cons, List.filterMap_nil, List.getElem?_cons_succ, List.getElem?_cons_zero]
    (try refine wpL_peel rfl rfl ?_)
    refine wpL_load1S hst.st rfl rfl 4 rfl rfl rfl (by kernel_rfl) ?_
    refine TextQ.mk ⟨fun h => by simp at h, ?_⟩ rfl
    refine Ord.cut 1 18 rfl rfl rfl rfl (by kernel_rfl) (by kernel_rfl) ?_; simp only [List.take_succ_cons, List.take_zero, List.drop_succ_cons, List.drop_zero, List.filterMap_cons, List.filterMap_nil, List.getElem?_cons_succ, List.getElem?_cons_zero]
    (try refine wpL_peel rfl rfl ?_)
    go_wp2_with (go_at_call 36; (with_reducible refine (TG.out _ _ _ (hst.blk 5 rfl)).mono ?_); rintro e1 w1 ⟨rfl, rfl⟩)
    refine TextQ.mk ⟨fun _ => Only.refl _ _, ?_⟩ rfl
    refine Ord.cut 3 21 rfl rfl rfl rfl (by kernel_rfl) (by kernel_rfl) ?_; simp only [List.take_succ_cons, List.take_zero, List.drop_succ_cons, List.drop_zero, List.filterMap_cons, List.filterMap_nil, List.getElem?_cons_succ, List.getElem?_cons_zero]; go_wp2_with fail; refine TextQ.mk ⟨fun h => by simp at h, ?_⟩ rfl
    refine Ord.done ?_
    go_wp2_with fail
    go_ret
    exact ⟨rfl, hst.only⟩
  · rcases c4 with c4 | c4
    · as_aux_lemma =>
      have FM := Lib.hid (FMN.out c1)
      have CU : Hid (∀ d F w, DiskAt w d M F → Calls Try.prog 19 #[.pointer (some ⟨d, 0, none⟩), .slice none 0 0] w fun e w' => ∃ F', e = .returned (.tuple #[]) ∧ DiskAt w' d (M.cut []) F' ∧ Turn F F' w w') := fun d F w h => CUG.out M d F w Mlen c3 h
      have CO : Hid (∀ d F w, DiskAt w d (M.cut []) F → Calls Try.prog 20 #[.pointer (some ⟨d, 0, none⟩)] w fun e w' => ∃ F', e = .returned (.tuple #[]) ∧ DiskAt w' d (M.cut []).come F' ∧ Turn F F' w w') := fun d F w h => COG.out M d F w Mlen h
      have OP : Hid (∀ d F w, DiskAt w d (M.cut []).come F → Calls Try.prog 56 #[.pointer (some ⟨d, 0, none⟩)] w fun e w' => ∃ t zr p z0 a0 z1 a1, e = .returned (.tuple #[.pointer (some ⟨p, 0, none⟩), .int .i64 0]) ∧ News w w' (openN d 6 30 2 6 s 1 0 t zr p z0 a0 z1 a1)) := fun d F w h => OYG.out M d F w Mok Mlen c3 c4 h
      generalize (M.cut []).come = M2 at *
      generalize M.cut [] = M1 at *
      clear FMY FMN CUG COG OYG ONG c1 c3 c4 eM em eD0 l0 a0 mlen mlo Mlen Mok hft hs20 hk100
      go_enter Try.func10, Try.ntmps10
      go_wp2_with (first
          | ((with_reducible refine wpL_skipS rfl ?_ ?_); focus (go_simp; done)) | ((with_reducible refine wpL_peel rfl ?_ ?_); focus (go_simp; done)) | (go_at_call 52; (with_reducible refine (AW.out _).mono ?_); rintro e1 w1 ⟨rfl, ho1⟩; replace hst := hst.keep ho1; clear ho1) | ((with_reducible refine wpL_isAlloc rfl ?_); refine wpL_allocD hst rfl 84 rfl (.agg #[.int .i64 0, .int .i64 0, .int .i64 0]) [.int .i64 0, .int .i64 0, .int .i64 0] (by kernel_rfl) rfl _ rfl ?_; clear hst; intro w1 b1 hb1 hst) | ((with_reducible refine wpL_isStore rfl ?_); first | (refine wpL_storeD hst rfl (ty := 84) rfl 0 rfl rfl rfl (by kernel_rfl) (by kernel_rfl) rfl rfl ?_; clear hst; intro w1 hst; simp only [List.set] at hst) | (refine wpL_store1D hst rfl rfl 0 rfl rfl rfl rfl (by kernel_rfl) rfl ?_; clear hst; intro w1 hst; simp only [List.set] at hst)) | ((with_reducible refine wpL_isLoad rfl ?_); first | (refine wpL_loadAtS hst.st rfl (ty := 84) rfl 0 rfl rfl (by kernel_rfl) 3 (by kernel_rfl) [_, _, _] rfl rfl ?_) | (refine wpL_load1S hst.st rfl rfl 4 rfl rfl rfl (by kernel_rfl) ?_)) | (go_at_call 53; (with_reducible refine (ND.out _).mono ?_); rintro e1 w1 ⟨rfl, ho1⟩; replace hst := hst.keep ho1; clear ho1) | (go_at_call 14; (with_reducible refine (DN.out _).mono ?_); rintro e1 w1 ⟨d, F, rfl, hd1, ho1, hg1⟩; replace hst := hst.add ho1 (r := diskR d _ F) hd1 hg1; clear hd1 ho1 hg1)
          | (go_at_call 41; (with_reducible refine (FU.out _ _ _ (hst.rs 0 rfl) (hst.rs 1 rfl) hst.apartB).mono ?_); rintro e1 w1 ⟨F1, rfl, hd1, ht1⟩; replace hst := hst.act 0 rfl (diskR _ _ F1) rfl ht1 hd1; simp only [List.set] at hst; clear hd1 ht1)
          | (go_at_call 19; (with_reducible refine (CU.out _ _ _ (hst.rs 0 rfl)).mono ?_); rintro e1 w1 ⟨F1, rfl, hd1, ht1⟩; replace hst := hst.act 0 rfl (diskR _ _ F1) rfl ht1 hd1; simp only [List.set] at hst; clear hd1 ht1) | (go_at_call 20; (with_reducible refine (CO.out _ _ _ (hst.rs 0 rfl)).mono ?_); rintro e1 w1 ⟨F1, rfl, hd1, ht1⟩; replace hst := hst.act 0 rfl (diskR _ _ F1) rfl ht1 hd1; simp only [List.set] at hst; clear hd1 ht1)
          | (go_at_call 54; (with_reducible refine (FM.out _ _ _ (hst.rs 0 rfl)).mono ?_); rintro e1 w1 ⟨F1, rfl, hd1, ht1⟩; replace hst := hst.act 0 rfl (diskR _ _ F1) rfl ht1 hd1; simp only [List.set] at hst; clear hd1 ht1) | (go_at_call 56; (with_reducible refine (OP.out _ _ _ (hst.rs 0 rfl)).mono ?_); rintro e1 w1 ⟨u, zu, q, y0, b0, y1, b1, rfl, hn1⟩; replace hst := hst.news hn1; clear hn1; simp only [openN, madeN, List.cons_append, List.nil_append] at hst))
      replace hst := hst.drew
      refine wp_region_ord [4, 9, 18] [0, 1, 2, 3, 4, 5, 6, 7, 8, 10, 9, 11, 12, 13, 14, 15, 16, 17, 18, 19, 20, 21] (by kernel_rfl) (by kernel_rfl) ?_
      generalize World.drew _ = W at *
      refine Ord.cut 3 2 rfl rfl rfl rfl (by kernel_rfl) (by kernel_rfl) ?_; simp only [List.take_succ_cons, List.take_zero, List.drop_succ_cons, List.drop_zero, List.filterMap_cons, List.filterMap_nil, List.getElem?_cons_succ, List.getElem?_cons_zero]; go_wp2_with fail; refine TextQ.mk ⟨fun h => by simp at h, ?_⟩ rfl
      refine Ord.cut 1 3 rfl rfl rfl rfl (by kernel_rfl) (by kernel_rfl) ?_; simp only [List.take_succ_cons, List.take_zero, List.drop_succ_cons, List.drop_zero, List.filterMap_cons, List.filterMap_nil, List.getElem?_cons_succ, List.getElem?_cons_zero]
      (try refine wpL_peel rfl rfl ?_)
      refine wpL_load1S hst.st rfl rfl 4 rfl rfl rfl (by kernel_rfl) ?_
      refine TextQ.mk ⟨fun h => by simp at h, ?_⟩ rfl
      refine Ord.cut 1 4 rfl rfl rfl rfl (by kernel_rfl) (by kernel_rfl) ?_; simp only [List.take_succ_cons, List.take_zero, List.drop_succ_cons, List.drop_zero, List.filterMap_cons, List.filterMap_nil, List.getElem?_cons_succ, List.getElem?_cons_zero]
      (try refine wpL_peel rfl rfl ?_)
      go_wp2_with (go_at_call 35; (with_reducible refine (TX.out _ _ _ (hst.blk 5 rfl)).mono ?_); rintro e1 w1 ⟨rfl, rfl⟩)
      refine TextQ.mk ⟨fun _ => Only.refl _ _, ?_⟩ rfl
      refine Ord.cut 1 5 rfl rfl rfl rfl (by kernel_rfl) (by kernel_rfl) ?_; simp only [List.take_succ_cons, List.take_zero, List.drop_succ_cons, List.drop_zero, List.filterMap_cons, List.filterMap_nil, List.getElem?_cons_succ, List.getElem?_cons_zero]; go_wp2_with fail; refine TextQ.mk ⟨fun h => by simp at h, ?_⟩ rfl
      refine Ord.cut 1 6 rfl rfl rfl rfl (by kernel_rfl) (by kernel_rfl) ?_; simp only [List.take_succ_cons, List.take_zero, List.drop_succ_cons, List.drop_zero, List.filterMap_cons, List.filterMap_nil, List.getElem?_cons_succ, List.getElem?_cons_zero]
      (try refine wpL_peel rfl rfl ?_)
      refine wpL_eql_same rfl 9 _ _ _ rfl _ rfl rfl ?_
      refine TextQ.mk ⟨fun h => by simp at h, ?_⟩ rfl
      refine Ord.cut 2 8 rfl rfl rfl rfl (by kernel_rfl) (by kernel_rfl) ?_; simp only [List.take_succ_cons, List.take_zero, List.drop_succ_cons, List.drop_zero, List.filterMap_cons, List.filterMap_nil, List.getElem?_cons_succ, List.getElem?_cons_zero]; go_wp2_with fail; refine TextQ.mk ⟨fun h => by simp at h, ?_⟩ rfl
      refine Ord.cut 1 10 rfl rfl rfl rfl (by kernel_rfl) (by kernel_rfl) ?_; simp only [List.take_succ_cons, List.take_zero, List.drop_succ_cons, List.drop_zero, List.filterMap_cons, List.filterMap_nil, List.getElem?_cons_succ, List.getElem?_cons_zero]
      (try refine wpL_peel rfl rfl ?_)
      refine wpL_loadAtS hst.st rfl (ty := 84) rfl 7 rfl rfl (by kernel_rfl) 3 (by kernel_rfl) [_, _, _] rfl rfl ?_
      refine TextQ.mk ⟨fun h => by simp at h, ?_⟩ rfl
      refine Ord.cut 1 9 rfl rfl rfl rfl (by kernel_rfl) (by kernel_rfl) ?_; simp only [List.take_succ_cons, List.take_zero, List.drop_succ_cons, List.drop_zero, List.filterMap_cons, List.filterMap_nil, List.getElem?_cons_succ, List.getElem?_cons_zero]
      (try refine wpL_peel rfl rfl ?_)
      go_wp2_with (go_at_call 57; (with_reducible refine (LY.out _ _ _ _ _ (hst.blk 4 rfl)).mono ?_); rintro e1 w1 ⟨rfl, ho1⟩)
      refine TextQ.mk ⟨fun _ => ho1, ?_⟩ rfl
      replace hst := hst.keep ho1
      clear ho1
      refine Ord.cut 1 11 rfl rfl rfl rfl (by kernel_rfl) (by kernel_rfl) ?_; simp only [List.take_succ_cons, List.take_zero, List.drop_succ_cons, List.drop_zero, List.filterMap_cons, List.filterMap_nil, List.getElem?_cons_succ, List.getElem?_cons_zero]
      (try refine wpL_peel rfl rfl ?_)
      refine wpL_eql_lay rfl _ _ _ rfl _ _ _ rfl rfl ?_
      refine TextQ.mk ⟨fun h => by simp at h, ?_⟩ ?fine
      case fine => repeat' (first | exact rfl | exact fine_lay _ _ _ rfl rfl rfl | refine fine_cons ?_ ?_)
      refine Ord.cut 3 14 rfl rfl rfl rfl (by kernel_rfl) (by kernel_rfl) ?_; simp only [List.take_succ_cons, List.take_zero, List.drop_succ_cons, List.drop_zero, List.filterMap_cons, List.filterMap_nil, List.getElem?_cons_succ, List.getElem?_cons_zero]; go_wp2_with fail; refine TextQ.mk ⟨fun h => by simp at h, ?_⟩ rfl
      refine Ord.cut 2 16 rfl rfl rfl rfl (by kernel_rfl) (by kernel_rfl) ?_; simp only [List.take_succ_cons, List.take_zero, List.drop_succ_cons, List.drop_zero, List.filterMap_cons, List.filterMap_nil, List.getElem?_cons_succ, List.getElem?_cons_zero]; go_wp2_with fail; refine TextQ.mk ⟨fun h => by simp at h, ?_⟩ rfl
      refine Ord.cut 1 17 rfl rfl rfl rfl (by kernel_rfl) (by kernel_rfl) ?_; simp only [List.take_succ_cons, List.take_zero, List.drop_succ_cons, List.drop_zero, List.filterMap_cons, List.filterMap_nil, List.getElem?_cons_succ, List.getElem?_cons_zero]
      (try refine wpL_peel rfl rfl ?_)
      refine wpL_load1S hst.st rfl rfl 4 rfl rfl rfl (by kernel_rfl) ?_
      refine TextQ.mk ⟨fun h => by simp at h, ?_⟩ rfl
      refine Ord.cut 1 18 rfl rfl rfl rfl (by kernel_rfl) (by kernel_rfl) ?_; simp only [List.take_succ_cons, List.take_zero, List.drop_succ_cons, List.drop_zero, List.filterMap_cons, List.filterMap_nil, List.getElem?_cons_succ, List.getElem?_cons_zero]
      (try refine wpL_peel rfl rfl ?_)
      go_wp2_with (go_at_call 36; (with_reducible refine (TG.out _ _ _ (hst.blk 5 rfl)).mono ?_); rintro e1 w1 ⟨rfl, rfl⟩)
      refine TextQ.mk ⟨fun _ => Only.refl _ _, ?_⟩ rfl
      refine Ord.cut 3 21 rfl rfl rfl rfl (by kernel_rfl) (by kernel_rfl) ?_; simp only [List.take_succ_cons, List.take_zero, List.drop_succ_cons, List.drop_zero, List.filterMap_cons, List.filterMap_nil, List.getElem?_cons_succ, List.getElem?_cons_zero]; go_wp2_with fail; refine TextQ.mk ⟨fun h => by simp at h, ?_⟩ rfl
      refine Ord.done ?_
      go_wp2_with fail
      go_ret
      exact ⟨rfl, hst.only⟩
    · as_aux_lemma =>
      have FM := Lib.hid (FMN.out c1)
      have CU : Hid (∀ d F w, DiskAt w d M F → Calls Try.prog 19 #[.pointer (some ⟨d, 0, none⟩), .slice none 0 0] w fun e w' => ∃ F', e = .returned (.tuple #[]) ∧ DiskAt w' d (M.cut []) F' ∧ Turn F F' w w') := fun d F w h => CUG.out M d F w Mlen c3 h
      have CO : Hid (∀ d F w, DiskAt w d (M.cut []) F → Calls Try.prog 20 #[.pointer (some ⟨d, 0, none⟩)] w fun e w' => ∃ F', e = .returned (.tuple #[]) ∧ DiskAt w' d (M.cut []).come F' ∧ Turn F F' w w') := fun d F w h => COG.out M d F w Mlen h
      have OP : Hid (∀ d F w, DiskAt w d (M.cut []).come F → Calls Try.prog 56 #[.pointer (some ⟨d, 0, none⟩)] w fun e w' => e = .returned (.tuple #[.pointer none, .int .i64 5]) ∧ Only [] w w') := fun d F w h => ONG.out M d F w Mok Mlen c3 c4 h
      generalize (M.cut []).come = M2 at *
      generalize M.cut [] = M1 at *
      clear FMY FMN CUG COG OYG ONG c1 c3 c4 eM em eD0 l0 a0 mlen mlo Mlen Mok hft hs20 hk100
      go_enter Try.func10, Try.ntmps10
      go_wp2_with (first
          | ((with_reducible refine wpL_skipS rfl ?_ ?_); focus (go_simp; done)) | ((with_reducible refine wpL_peel rfl ?_ ?_); focus (go_simp; done)) | (go_at_call 52; (with_reducible refine (AW.out _).mono ?_); rintro e1 w1 ⟨rfl, ho1⟩; replace hst := hst.keep ho1; clear ho1) | ((with_reducible refine wpL_isAlloc rfl ?_); refine wpL_allocD hst rfl 84 rfl (.agg #[.int .i64 0, .int .i64 0, .int .i64 0]) [.int .i64 0, .int .i64 0, .int .i64 0] (by kernel_rfl) rfl _ rfl ?_; clear hst; intro w1 b1 hb1 hst) | ((with_reducible refine wpL_isStore rfl ?_); first | (refine wpL_storeD hst rfl (ty := 84) rfl 0 rfl rfl rfl (by kernel_rfl) (by kernel_rfl) rfl rfl ?_; clear hst; intro w1 hst; simp only [List.set] at hst) | (refine wpL_store1D hst rfl rfl 0 rfl rfl rfl rfl (by kernel_rfl) rfl ?_; clear hst; intro w1 hst; simp only [List.set] at hst)) | ((with_reducible refine wpL_isLoad rfl ?_); first | (refine wpL_loadAtS hst.st rfl (ty := 84) rfl 0 rfl rfl (by kernel_rfl) 3 (by kernel_rfl) [_, _, _] rfl rfl ?_) | (refine wpL_load1S hst.st rfl rfl 4 rfl rfl rfl (by kernel_rfl) ?_)) | (go_at_call 53; (with_reducible refine (ND.out _).mono ?_); rintro e1 w1 ⟨rfl, ho1⟩; replace hst := hst.keep ho1; clear ho1) | (go_at_call 14; (with_reducible refine (DN.out _).mono ?_); rintro e1 w1 ⟨d, F, rfl, hd1, ho1, hg1⟩; replace hst := hst.add ho1 (r := diskR d _ F) hd1 hg1; clear hd1 ho1 hg1)
          | (go_at_call 41; (with_reducible refine (FU.out _ _ _ (hst.rs 0 rfl) (hst.rs 1 rfl) hst.apartB).mono ?_); rintro e1 w1 ⟨F1, rfl, hd1, ht1⟩; replace hst := hst.act 0 rfl (diskR _ _ F1) rfl ht1 hd1; simp only [List.set] at hst; clear hd1 ht1)
          | (go_at_call 19; (with_reducible refine (CU.out _ _ _ (hst.rs 0 rfl)).mono ?_); rintro e1 w1 ⟨F1, rfl, hd1, ht1⟩; replace hst := hst.act 0 rfl (diskR _ _ F1) rfl ht1 hd1; simp only [List.set] at hst; clear hd1 ht1) | (go_at_call 20; (with_reducible refine (CO.out _ _ _ (hst.rs 0 rfl)).mono ?_); rintro e1 w1 ⟨F1, rfl, hd1, ht1⟩; replace hst := hst.act 0 rfl (diskR _ _ F1) rfl ht1 hd1; simp only [List.set] at hst; clear hd1 ht1)
          | (go_at_call 54; (with_reducible refine (FM.out _ _ _ (hst.rs 0 rfl)).mono ?_); rintro e1 w1 ⟨F1, rfl, hd1, ht1⟩; replace hst := hst.act 0 rfl (diskR _ _ F1) rfl ht1 hd1; simp only [List.set] at hst; clear hd1 ht1) | (go_at_call 56; (with_reducible refine (OP.out _ _ _ (hst.rs 0 rfl)).mono ?_); rintro e1 w1 ⟨rfl, ho1⟩; replace hst := hst.keep ho1; clear ho1))
      go_ret
      exact ⟨rfl, hst.only⟩
end Go.Proofs.Ytmogkiacakkmbaa
