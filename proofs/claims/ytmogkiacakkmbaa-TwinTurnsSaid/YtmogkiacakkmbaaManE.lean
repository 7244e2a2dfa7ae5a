/- Manifests: made of a patch, walked. -/
import Derived.Test.YtmogkiacakkmbaaManD
import Derived.Test.YtmogkiacakkmbaaRules
namespace Go.Proofs.Ytmogkiacakkmbaa
open Go.RowKit

set_option maxRecDepth 100000 in
set_option maxHeartbeats 4000000 in
theorem manMake_yes (b v k : Int) (s : ByteArray) (r : List UInt8) (n : Nat) (w : World) (hr : r.length = 32) (hh : HeadOk b v (s.size : Int) k) (hn : nch b v (s.size : Int) k = (n : Int)) :
    Calls Try.prog 75 #[.int .i64 b, .int .i64 v, .int .i64 k, .string s, .agg (Lib.byteCells r).toArray] w fun e w' => ∃ g, e = .returned (.tuple #[.agg (Value.int .i64 b :: .int .i64 v :: .int .i64 (s.size : Int) :: .int .i64 k :: .slice (some ⟨g, 0, none⟩) n n :: Lib.byteCells r).toArray, .int .i64 0]) ∧ w.heap.size ≤ g ∧ Blk w' g (digCells (dsOf b v (s.size : Int) k n s n)) 102 ∧ Only [] w w' := by
  have hR : (Lib.byteCells r).length = 32 := by simp [Lib.byteCells, hr]
  have hR1 : (Lib.byteCells r).all (·.oneCell') = true := by rw [List.all_eq_true]; exact byteCells_ones _
  obtain ⟨R, eR⟩ : ∃ R, R = Lib.byteCells r := ⟨_, rfl⟩
  rw [← eR] at hR hR1 ⊢
  have hst := (St.start w []).box R 102
  have BM := Lib.hid (built_mf b v (s.size : Int) k R hR)
  have HR0 : Hid ((R.drop 0).take 32 = R) := List.take_of_length_le (by simp [hR])
  have HR := Lib.hid hR
  have H1R := Lib.hid hR1
  have H1K : Hid ((Value.int .i64 b :: .int .i64 v :: .int .i64 (s.size : Int) :: .int .i64 k :: .slice none 0 0 :: R).all (·.oneCell') = true) := by show _ = _; simp only [List.all_cons, hR1]; rfl
  have HLK : Hid ((Value.int .i64 b :: .int .i64 v :: .int .i64 (s.size : Int) :: .int .i64 k :: .slice none 0 0 :: R).length = mfZ.length) := by show _ = _; simp [hR]; rfl
  have CH : Hid (∀ V w, Calls Try.prog 124 #[.agg (Value.int .i64 b :: .int .i64 v :: .int .i64 (s.size : Int) :: .int .i64 k :: V :: R).toArray] w fun e w' => e = .returned (.int .i64 (n : Int)) ∧ Only [] w w') := fun V w => by rw [← hn]; exact chunks_any b v (s.size : Int) k V R w
  have hnb := nch_bounds b v (s.size : Int) k
  rw [hn] at hnb
  have hn64 : n ≤ 64 := by omega
  have hn1 : (1 : Int) ≤ n := by
    rw [← hn, nch_yes hh]
    have hh' := hh
    unfold HeadOk at hh'
    exact div_pos' _ k (by omega) (by omega)
  have en : ((n : Int) == 0) = false := beq_eq_false_iff_ne.2 (by omega)
  have hs96 : s.size ≤ 4096 := by unfold HeadOk at hh; omega
  have HT := Lib.hid (fun V => mfTake b v (s.size : Int) k V R hR)
  have HL := Lib.hid (fun V => mfLen b v (s.size : Int) k V R hR)
  have PT : Hid (∀ g i w, Calls Try.prog 66 #[.agg (Value.int .i64 b :: .int .i64 v :: .int .i64 (s.size : Int) :: .int .i64 k :: .slice (some ⟨g, 0, none⟩) n n :: R).toArray, .int .i64 i, .string s] w fun e w' => e = .returned (.string (partM b v (s.size : Int) k n i s)) ∧ Only [] w w') := fun g i w => manPart_any b v (s.size : Int) k _ n n R hR i s w
  clear hh hn hnb eR hR1
  go_enter Try.func75, Try.ntmps75
  go_wp2_with (first
    | ((with_reducible refine wpL_isAlloc rfl ?_); refine wpL_allocS hst rfl 104 rfl (.agg mfZ.toArray) mfZ (by kernel_rfl) rfl 10 rfl ?_; clear hst; intro w1 b0 hb0 hst)
    | ((with_reducible refine wpL_isAlloc rfl ?_); refine wpL_allocS hst rfl 104 rfl (.agg mfZ.toArray) mfZ (by kernel_rfl) rfl 12 rfl ?_; clear hst; intro w1 b1 hb1 hst)
    | ((with_reducible refine wpL_isLoad rfl ?_); refine wpL_loadAtS hst rfl (ty := 102) rfl 1 rfl rfl (by kernel_rfl) 32 (by kernel_rfl) _ HR0.out HR.out ?_)
    | ((with_reducible refine wpL_isLoad rfl ?_); refine wpL_loadAtS hst rfl (ty := 104) rfl 0 rfl rfl (by kernel_rfl) 37 (by kernel_rfl) _ (HT.out _) (HL.out _) ?_)
    | ((with_reducible refine wpL_isBuild rfl ?_); refine wpL_build5 rfl 104 rfl rfl rfl rfl rfl rfl _ BM.out ?_)
    | ((with_reducible refine wpL_isStore rfl ?_); refine wpL_storeS hst rfl (ty := 104) rfl 0 rfl rfl rfl (by kernel_rfl) (by kernel_rfl) HLK.out H1K.out ?_; clear hst; intro w1 hst; simp only [List.set] at hst)
    | ((with_reducible refine wpL_isStore rfl ?_); refine wpL_store1S hst rfl rfl 1 rfl rfl rfl (v := .slice (some ⟨g, 0, none⟩) n n) rfl (by kernel_rfl) rfl ?_; clear hst; intro w1 hst; simp only [List.set] at hst)
    | (go_at_call 124; (with_reducible refine (CH.out _ _).mono ?_); rintro e1 w1 ⟨rfl, ho1⟩; replace hst := hst.keep ho1; clear ho1)
    | ((with_reducible refine wpL_isMake rfl ?_); refine wpL_makeR hst rfl 100 _ rfl Try.underlying100 (.agg zeros32.toArray) (.int .u8 0) 32 32 rfl (by decide) digInfo3 n rfl (by omega) (by decide) (by decide) ?_; intro w1 g hg hst1; have hg0 := Nat.le_trans hst.only.size hg; clear hst; have hst := hst1; clear hst1))
  rw [← rowD_nil n] at hst
  go_loopw [14, 31] (fun _ i wr => ∃ (j : Nat), j ≤ n ∧ i = .int .i64 (j : Int) ∧ St w [] wr [⟨g, rowD (dsOf b v (s.size : Int) k n s j) n, 102, true⟩, ⟨b1, (.int .i64 b :: .int .i64 v :: .int .i64 (s.size : Int) :: .int .i64 k :: .slice (some ⟨g, 0, none⟩) n n :: R), 104, true⟩, ⟨b0, mfZ, 104, true⟩, ⟨w.heap.size, R, 102, true⟩]) (fun _ i _ => (n - intOf i).toNat)
  case atStart => exact ⟨0, by omega, rfl, hst⟩
  case round =>
    obtain ⟨j, hj, rfl, hst⟩ := hrel
    by_cases hlt : j < n
    · have j1 : (j : Int) < n := by omega
      obtain ⟨pt, ept⟩ : ∃ pt, pt = partM b v (s.size : Int) k n (j : Int) s := ⟨_, rfl⟩
      have hps := part_size b v (s.size : Int) k n (j : Int) s (by omega)
      have PJ : Hid (∀ w, Calls Try.prog 66 #[.agg (.int .i64 b :: .int .i64 v :: .int .i64 (s.size : Int) :: .int .i64 k :: .slice (some ⟨g, 0, none⟩) n n :: R).toArray, .int .i64 (j : Int), .string s] w fun e w' => e = .returned (.string pt) ∧ Only [] w w') := fun w => by rw [ept]; exact PT.out g (j : Int) w
      have OO : Hid (∀ b w, Blk w b [.string pt] 9 → Calls Try.prog 121 #[.slice (some ⟨b, 0, none⟩) 1 1] w fun e w' => e = .returned (.agg (Lib.byteCells (Sha.sum (bl pt))).toArray) ∧ Only [] w w') := fun b w h => of_one b _ w _ h (by rw [ept]; exact hps)
      have HP : Hid (putAt (rowD (dsOf b v (s.size : Int) k n s j) n) (Lib.byteCells (Sha.sum (bl pt))) (j * 32) = rowD (dsOf b v (s.size : Int) k n s (j + 1)) n) := by
        show _ = _
        have := rowD_put (dsOf b v (s.size : Int) k n s j) n (Sha.sum (bl pt)) (dsOf_wide _ _ _ _ _ _ _) (Sha.sum_length _) (by rw [dsOf_length]; exact hlt)
        rw [dsOf_length] at this
        rw [this, dsOf_succ, ept]
      have HDL : Hid ((Lib.byteCells (Sha.sum (bl pt))).length = 32) := by show _ = _; simp [Lib.byteCells, Sha.sum_length]
      have HD1 : Hid ((Lib.byteCells (Sha.sum (bl pt))).all (·.oneCell') = true) := by show _ = _; rw [List.all_eq_true]; exact byteCells_ones _
      have HRL := Lib.hid (rowD_length (dsOf b v (s.size : Int) k n s j) n (dsOf_wide _ _ _ _ _ _ _) (by rw [dsOf_length]; exact hj))
      obtain ⟨D, eD⟩ : ∃ D, D = Lib.byteCells (Sha.sum (bl pt)) := ⟨_, rfl⟩
      rw [← eD] at OO HP HDL HD1
      clear ept hps eD PT
      go_wp2_with fail
      replace hst := hst.drew
      refine wp_region_ord [6, 7, 8] [0, 1, 2, 3, 4, 5, 6, 7, 8, 9, 10] (by kernel_rfl) (by kernel_rfl) ?_
      generalize World.drew _ = W at *
      refine Ord.cut 1 0 rfl rfl rfl rfl (by kernel_rfl) (by kernel_rfl) ?_; simp only [List.take_succ_cons, List.take_zero, List.drop_succ_cons, List.drop_zero, List.filterMap_cons, List.filterMap_nil, List.getElem?_cons_zero]; go_wp2_with fail; refine TextQ.mk ⟨fun h => by simp at h, ?_⟩ rfl
      refine Ord.cut 1 1 rfl rfl rfl rfl (by kernel_rfl) (by kernel_rfl) ?_; simp only [List.take_succ_cons, List.take_zero, List.drop_succ_cons, List.drop_zero, List.filterMap_cons, List.filterMap_nil, List.getElem?_cons_succ, List.getElem?_cons_zero]; (try refine wpL_peel rfl rfl ?_); (first | (refine wpL_load1S hst rfl rfl 0 rfl rfl rfl (by kernel_rfl) ?_) | (refine wpL_load1S hst rfl rfl 1 rfl rfl rfl (by kernel_rfl) ?_) | (refine wpL_load1S hst rfl rfl 2 rfl rfl rfl (by kernel_rfl) ?_) | (refine wpL_load1S hst rfl rfl 3 rfl rfl rfl (by kernel_rfl) ?_)); refine TextQ.mk ⟨fun h => by simp at h, ?_⟩ rfl
      refine Ord.cut 1 2 rfl rfl rfl rfl (by kernel_rfl) (by kernel_rfl) ?_; simp only [List.take_succ_cons, List.take_zero, List.drop_succ_cons, List.drop_zero, List.filterMap_cons, List.filterMap_nil, List.getElem?_cons_succ, List.getElem?_cons_zero]; go_wp2_with fail; refine TextQ.mk ⟨fun h => by simp at h, ?_⟩ rfl
      refine Ord.cut 1 3 rfl rfl rfl rfl (by kernel_rfl) (by kernel_rfl) ?_; simp only [List.take_succ_cons, List.take_zero, List.drop_succ_cons, List.drop_zero, List.filterMap_cons, List.filterMap_nil, List.getElem?_cons_succ, List.getElem?_cons_zero]
      refine wpL_loadAtS hst rfl (ty := 104) rfl 1 rfl rfl (by kernel_rfl) 37 (by kernel_rfl) _ (HT.out _) (HL.out _) ?_
      refine TextQ.mk ⟨fun h => by simp at h, ?_⟩ rfl
      refine Ord.cut 2 5 rfl rfl rfl rfl (by kernel_rfl) (by kernel_rfl) ?_; simp only [List.take_succ_cons, List.take_zero, List.drop_succ_cons, List.drop_zero, List.filterMap_cons, List.filterMap_nil, List.getElem?_cons_succ, List.getElem?_cons_zero]; go_wp2_with fail; refine TextQ.mk ⟨fun h => by simp at h, ?_⟩ rfl
      refine Ord.cut 1 6 rfl rfl rfl rfl (by kernel_rfl) (by kernel_rfl) ?_; simp only [List.take_succ_cons, List.take_zero, List.drop_succ_cons, List.drop_zero, List.filterMap_cons, List.filterMap_nil, List.getElem?_cons_succ, List.getElem?_cons_zero]
      go_wp2_with (go_at_call 66; refine (PJ.out _).mono ?_; rintro e1 w1 ⟨rfl, ho1⟩)
      refine TextQ.mk ⟨fun _ => ho1, ?_⟩ rfl
      replace hst := hst.keep ho1
      clear ho1
      refine Ord.cut 1 7 rfl rfl rfl rfl (by kernel_rfl) (by kernel_rfl) ?_; simp only [List.take_succ_cons, List.take_zero, List.drop_succ_cons, List.drop_zero, List.filterMap_cons, List.filterMap_nil, List.getElem?_cons_succ, List.getElem?_cons_zero]
      refine wpL_slice_lit rfl 40 1 _ rfl Try.underlying40 strInfo (by decide) (by decide) [.string pt] rfl rfl (by simp [Value.cells]) ?_
      intro w2 ho2 hs2 hB2
      refine TextQ.mk ⟨fun _ => ho2, ?_⟩ rfl
      replace hst := hst.new ho2 hB2 (Nat.le_refl _)
      clear ho2 hs2 hB2
      refine Ord.cut 1 8 rfl rfl rfl rfl (by kernel_rfl) (by kernel_rfl) ?_; simp only [List.take_succ_cons, List.take_zero, List.drop_succ_cons, List.drop_zero, List.filterMap_cons, List.filterMap_nil, List.getElem?_cons_succ, List.getElem?_cons_zero]
      go_wp2_with (go_at_call 121; refine (OO.out _ _ (hst.blk 0 rfl)).mono ?_; rintro e1 w3 ⟨rfl, ho3⟩)
      refine TextQ.mk ⟨fun _ => ho3, ?_⟩ rfl
      replace hst := hst.keep ho3
      clear ho3
      replace hst : St w [] _ _ := hst.dropN 1
      refine Ord.cut 1 9 rfl rfl rfl rfl (by kernel_rfl) (by kernel_rfl) ?_; simp only [List.take_succ_cons, List.take_zero, List.drop_succ_cons, List.drop_zero, List.filterMap_cons, List.filterMap_nil, List.getElem?_cons_succ, List.getElem?_cons_zero]; go_wp2_with fail; refine TextQ.mk ⟨fun h => by simp at h, ?_⟩ rfl
      refine Ord.cut 1 10 rfl rfl rfl rfl (by kernel_rfl) (by kernel_rfl) ?_; simp only [List.take_succ_cons, List.take_zero, List.drop_succ_cons, List.drop_zero, List.filterMap_cons, List.filterMap_nil, List.getElem?_cons_succ, List.getElem?_cons_zero]
      refine wpL_storeAtS hst rfl (ty := 102) rfl 0 (j := j * 32) rfl rfl (D := D) rfl (by rw [HDL.out]; exact digInfo) (by rw [HDL.out]; exact Nat.le_trans (by omega : j * 32 + 32 ≤ n * 32) (Nat.le_of_eq HRL.out.symm)) HD1.out ?_
      clear hst
      intro w4 hst
      simp only [List.drop_succ_cons, List.drop_zero, List.set_cons_zero] at hst
      rw [HP.out] at hst
      refine TextQ.mk ⟨fun h => by simp at h, ?_⟩ rfl
      refine Ord.done ?_
      go_wp2_with fail
      exact ⟨⟨j + 1, by omega, by go_num, hst⟩, by simp [intOf]; omega⟩
    · have j1 : ¬ (j : Int) < n := by omega
      have ej : j = n := by omega
      have HF : Hid (rowD (dsOf b v (s.size : Int) k n s j) n = digCells (dsOf b v (s.size : Int) k n s n)) := by
        show _ = _
        rw [ej]
        have := rowD_full (dsOf b v (s.size : Int) k n s n)
        rwa [dsOf_length] at this
      rw [HF.out] at hst
      have H1L : Hid ((.int .i64 b :: .int .i64 v :: .int .i64 (s.size : Int) :: .int .i64 k :: .slice (some ⟨g, 0, none⟩) n n :: R).all (·.oneCell') = true) := by show _ = _; simp only [List.all_cons, H1R.out]; rfl
      have HLL : Hid ((.int .i64 b :: .int .i64 v :: .int .i64 (s.size : Int) :: .int .i64 k :: .slice (some ⟨g, 0, none⟩) n n :: R).length = mfZ.length) := by show _ = _; rw [HL.out]; rfl
      clear ej HF PT
      go_wp2_with (first
        | ((with_reducible refine wpL_isLoad rfl ?_); refine wpL_loadAtS hst rfl (ty := 104) rfl 1 rfl rfl (by kernel_rfl) 37 (by kernel_rfl) _ (HT.out _) (HL.out _) ?_)
        | ((with_reducible refine wpL_isStore rfl ?_); refine wpL_storeS hst rfl (ty := 104) rfl 2 rfl rfl rfl (by kernel_rfl) (by kernel_rfl) HLL.out H1L.out ?_; clear hst; intro w1 hst; simp only [List.set] at hst))
      refine end_row_tmp2 (ty := 104) Try.results75 rfl (hst.blk 2 rfl) Try.underlying104 rfl mfInfo (HL.out _) rfl rfl ⟨g, rfl, hg0, hst.blk 0 rfl, hst.only⟩

end Go.Proofs.Ytmogkiacakkmbaa
