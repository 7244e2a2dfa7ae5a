/- The law ManifestCuts, walked. -/
import Derived.Test.YtgdifegbpbnekaaManQ
import Derived.Test.YtgdifegbpbnekaaGrow
namespace Go.Proofs.Ytgdifegbpbnekaa
open Go.RowKit

set_option maxRecDepth 100000 in
set_option maxHeartbeats 16000000 in
theorem manCuts_any (s : ByteArray) (chunk at_ : Int) (r : List UInt8) (hr : r.length = 32) (w : World) :
    Calls Try.prog 7 #[.string s, .int .i64 chunk, .int .i64 at_, .agg (Lib.byteCells r).toArray] w fun e w' => e = .returned (.bool true) ∧ Only [] w w' := by
  have hst := (St.start w []).box (Lib.byteCells r) 48
  have AW := Lib.hid awake20_any
  obtain ⟨i, hi, hi2⟩ := rem_idx chunk 40 (by decide)
  have hi : (IntKind.u64.wrap chunk).tmod 40 = (i : Int) := hi
  by_cases h3 : 300 < (s.size : Int)
  · have d3 : decide (300 < (s.size : Int)) = true := decide_eq_true h3
    go_enter Try.func7, Try.ntmps7
    go_wp2_with (first
      | (go_at_call 20; (with_reducible refine (AW.out _).mono ?_); rintro e1 w1 ⟨rfl, ho1⟩; replace hst := hst.keep ho1; clear ho1))
    go_ret
    exact ⟨rfl, hst.only⟩
  have d3 : decide (300 < (s.size : Int)) = false := decide_eq_false h3
  by_cases h4 : (s.size : Int) = 0
  · have d4 : ((s.size : Int) == 0) = true := by rw [h4]; rfl
    clear h4
    go_enter Try.func7, Try.ntmps7
    go_wp2_with (first
      | (go_at_call 20; (with_reducible refine (AW.out _).mono ?_); rintro e1 w1 ⟨rfl, ho1⟩; replace hst := hst.keep ho1; clear ho1))
    go_ret
    exact ⟨rfl, hst.only⟩
  have d4 : ((s.size : Int) == 0) = false := beq_eq_false_iff_ne.2 h4
  by_cases h5 : 64 < ((s.size : Int) + (1 + (i : Int)) - 1) / (1 + (i : Int))
  · have d5 : decide (64 < ((s.size : Int) + (1 + (i : Int)) - 1) / (1 + (i : Int))) = true := decide_eq_true h5
    clear h5
    go_enter Try.func7, Try.ntmps7
    go_wp2_with (first
      | (go_at_call 20; (with_reducible refine (AW.out _).mono ?_); rintro e1 w1 ⟨rfl, ho1⟩; replace hst := hst.keep ho1; clear ho1))
    go_ret
    exact ⟨rfl, hst.only⟩
  have d5 : decide (64 < ((s.size : Int) + (1 + (i : Int)) - 1) / (1 + (i : Int))) = false := decide_eq_false h5
  have hh : HeadOk 1 2 (s.size : Int) (1 + (i : Int)) := by unfold HeadOk; omega
  obtain ⟨n, hn⟩ : ∃ n : Nat, nch 1 2 (s.size : Int) (1 + (i : Int)) = (n : Int) := ⟨(nch 1 2 (s.size : Int) (1 + (i : Int))).toNat, by have := nch_bounds 1 2 (s.size : Int) (1 + (i : Int)); omega⟩
  have hRL := digLen r hr
  have HR1 := Lib.hid (digOne r)
  have MK0 := fun w => manMake_yes 1 2 (1 + (i : Int)) s r n w hr hh hn
  obtain ⟨RC, eRC⟩ : ∃ RC, RC = Lib.byteCells r := ⟨_, rfl⟩
  rw [← eRC] at hst hRL HR1 MK0 ⊢
  have HR0 : Hid ((RC.drop 0).take 32 = RC) := List.take_of_length_le (by simp [hRL])
  have HRL := Lib.hid hRL
  have MK := Lib.hid MK0
  have HT := Lib.hid (fun V => mfTake 1 2 (s.size : Int) (1 + (i : Int)) V RC hRL)
  have HL := Lib.hid (fun V => mfLen 1 2 (s.size : Int) (1 + (i : Int)) V RC hRL)
  have H1L : Hid (∀ ad m c, (Value.int .i64 1 :: .int .i64 2 :: .int .i64 (s.size : Int) :: .int .i64 (1 + (i : Int)) :: .slice ad m c :: RC).all (·.oneCell') = true) := fun ad m c => by simp only [List.all_cons, HR1.out]; rfl
  have HLL : Hid (∀ V, (Value.int .i64 1 :: .int .i64 2 :: .int .i64 (s.size : Int) :: .int .i64 (1 + (i : Int)) :: V :: RC).length = mfZ.length) := fun V => by rw [HL.out]; rfl
  have HH := Lib.hid hh
  have HN := Lib.hid hn
  have HR := Lib.hid hr
  have ERC := Lib.hid eRC
  have hnb := nch_bounds 1 2 (s.size : Int) (1 + (i : Int))
  rw [hn] at hnb
  have hn64 : n ≤ 64 := by omega
  have hn1 : 1 ≤ n := by
    have := nch_yes hh
    have := div_pos' (s.size : Int) (1 + (i : Int)) (by unfold HeadOk at hh; omega) (by omega)
    omega
  obtain ⟨x, hx, hx2⟩ := rem_idx at_ n (by omega)
  clear MK0 hRL hr hh hn eRC hnb
  go_enter Try.func7, Try.ntmps7
  go_wp2_with (first
    | ((with_reducible refine wpL_peel rfl ?_ ?_); focus (go_simp; done))
    | ((with_reducible refine wpL_isLoad rfl ?_); first | (refine wpL_loadAtS hst rfl (ty := 50) rfl 0 rfl rfl (by kernel_rfl) 37 (by kernel_rfl) _ (HT.out _) (HL.out _) ?_) | (refine wpL_loadAtS hst rfl (ty := 48) rfl 0 rfl rfl (by kernel_rfl) 32 (by kernel_rfl) _ HR0.out HRL.out ?_))
    | ((with_reducible refine wpL_peel rfl ?_ ?_); focus (go_simp; done)) | ((with_reducible refine wpL_isLoad rfl ?_); first | (refine wpL_load1S hst rfl rfl 0 rfl rfl rfl (by kernel_rfl) ?_) | (refine wpL_load1S hst rfl rfl 1 rfl rfl rfl (by kernel_rfl) ?_) | (refine wpL_load1S hst rfl rfl 2 rfl rfl rfl (by kernel_rfl) ?_) | (refine wpL_load1S hst rfl rfl 3 rfl rfl rfl (by kernel_rfl) ?_))
    | ((with_reducible refine wpL_isAlloc rfl ?_); refine wpL_allocS hst rfl 50 rfl (.agg mfZ.toArray) mfZ (by kernel_rfl) rfl _ rfl ?_; clear hst; intro w1 b1 hb1 hst)
    | ((with_reducible refine wpL_isStore rfl ?_); refine wpL_storeS hst rfl (ty := 50) rfl 0 rfl rfl rfl (by kernel_rfl) (by kernel_rfl) (HLL.out _) (H1L.out _ _ _) ?_; clear hst; intro w1 hst; simp only [List.set] at hst)
    | (go_at_call 20; (with_reducible refine (AW.out _).mono ?_); rintro e1 w1 ⟨rfl, ho1⟩; replace hst := hst.keep ho1; clear ho1)
    | (go_at_call 36; refine (MK.out _).mono ?_; rintro e1 w1 ⟨g, rfl, hg, hB, ho1⟩; replace hst := hst.new ho1 hB hg; clear ho1 hB))
  go_loopw [12, 13] (fun q y wr => ∃ (m sq : Nat), m ≤ n ∧ Hid (sq = (joinP (1 + i) s m).size) ∧ y = .int .i64 (m : Int) ∧ q = .int .i64 (sq : Int) ∧ St w [] wr [⟨b1, (Value.int .i64 1 :: .int .i64 2 :: .int .i64 (s.size : Int) :: .int .i64 (1 + (i : Int)) :: .slice (some ⟨g, 0, none⟩) n n :: RC), 50, true⟩, ⟨g, digCells (dsOf 1 2 (s.size : Int) (1 + (i : Int)) n s n), 48, true⟩, ⟨w.heap.size, RC, 48, true⟩]) (fun _ y _ => (n - intOf y).toNat)
  case atStart => exact ⟨0, 0, by omega, by show _ = _; rw [joinP_0]; rfl, rfl, rfl, hst⟩
  case round =>
    obtain ⟨m, sq, hm, HQ, rfl, rfl, hst⟩ := hrel
    have hcn : cnt 1 2 (s.size : Int) (1 + (i : Int)) n = (n : Int) := by unfold cnt; rw [HN.out, if_pos rfl]
    have CO : Hid (∀ g w, Calls Try.prog 24 #[.agg (Value.int .i64 1 :: .int .i64 2 :: .int .i64 (s.size : Int) :: .int .i64 (1 + (i : Int)) :: .slice (some ⟨g, 0, none⟩) n n :: RC).toArray] w fun e w' => e = .returned (.int .i64 (n : Int)) ∧ Only [] w w') := fun g w => by
      have := manCount_any 1 2 (s.size : Int) (1 + (i : Int)) (some ⟨g, 0, none⟩) n n RC HRL.out w
      rwa [hcn] at this
    have hs3 : (s.size : Int) ≤ 300 := by simpa using d3
    by_cases hlt : m < n
    · have m1 : (m : Int) < n := by omega
      have dlt : decide ((m : Int) < (n : Int)) = true := decide_eq_true m1
      obtain ⟨hl0, hl1⟩ := part_at hcn hlt
      have hjs := congrArg ByteArray.size (joinP_step 1 2 (1 + i) n m s (by rw [show (((1 + i : Nat)) : Int) = 1 + (i : Int) by omega, hcn]; omega) hlt)
      rw [show (((1 + i : Nat)) : Int) = 1 + (i : Int) by omega, ByteArray.size_append, ← HQ.out] at hjs
      have hjm : ∀ m, (joinP (1 + i) s m).size ≤ s.size := fun m => by unfold joinP; rw [ext_size _ _ _ (Nat.zero_le _) (Nat.min_le_right _ _)]; omega
      have hj1 := hjm (m + 1)
      obtain ⟨ln, eln⟩ : ∃ ln, ln = (partM 1 2 (s.size : Int) (1 + (i : Int)) n (m : Int) s).size := ⟨_, rfl⟩
      rw [← eln] at hl1 hjs
      have LN : Hid (∀ g w, Calls Try.prog 25 #[.agg (Value.int .i64 1 :: .int .i64 2 :: .int .i64 (s.size : Int) :: .int .i64 (1 + (i : Int)) :: .slice (some ⟨g, 0, none⟩) n n :: RC).toArray, .int .i64 (m : Int)] w fun e w' => e = .returned (.int .i64 (ln : Int)) ∧ Only [] w w') := fun g w => by
        rw [hl1]
        exact manLength_any 1 2 (s.size : Int) (1 + (i : Int)) (some ⟨g, 0, none⟩) n n RC HRL.out (m : Int) w
      have HJ := Lib.hid hjs
      have hb : (sq : Int) + ln ≤ 300 := by omega
      clear hl0 hl1 hjs eln hcn hjm hj1
      go_wp2_with (first
        | ((with_reducible refine wpL_isLoad rfl ?_); first | (refine wpL_loadAtS hst rfl (ty := 50) rfl 0 rfl rfl (by kernel_rfl) 37 (by kernel_rfl) _ (HT.out _) (HL.out _) ?_) | (refine wpL_loadAtS hst rfl (ty := 50) rfl 1 rfl rfl (by kernel_rfl) 37 (by kernel_rfl) _ (HT.out _) (HL.out _) ?_) | (refine wpL_loadAtS hst rfl (ty := 50) rfl 2 rfl rfl (by kernel_rfl) 37 (by kernel_rfl) _ (HT.out _) (HL.out _) ?_))
        | (go_at_call 24; (with_reducible refine (CO.out _ _).mono ?_); rintro e1 w1 ⟨rfl, ho1⟩; replace hst := hst.keep ho1; clear ho1)
        | (go_at_call 25; (with_reducible refine (LN.out _ _).mono ?_); rintro e1 w1 ⟨rfl, ho1⟩; replace hst := hst.keep ho1; clear ho1))
      exact ⟨⟨m + 1, sq + ln, by omega, HJ, by go_num, by go_num, hst⟩, by simp [intOf]; omega⟩
    · have em : m = n := by omega
      have hlt' : ¬ (m : Int) < n := by omega
      have dlt : decide ((m : Int) < (n : Int)) = false := decide_eq_false hlt'
      have esq : sq = s.size := by
        rw [HQ.out, em, joinP_all (b := 1) (v := 2) (by rw [show (((1 + i : Nat)) : Int) = 1 + (i : Int) by omega]; exact hcn) hn1]
      obtain ⟨hl0, hl1⟩ := part_at hcn hx2
      have hps := part_size 1 2 (s.size : Int) (1 + (i : Int)) n (x : Int) s (by omega)
      obtain ⟨pt, ept⟩ : ∃ pt, pt = partM 1 2 (s.size : Int) (1 + (i : Int)) n (x : Int) s := ⟨_, rfl⟩
      rw [← ept] at hl1 hps
      have hp1 : 1 ≤ pt.size := by omega
      have PT : Hid (∀ g w, Calls Try.prog 27 #[.agg (Value.int .i64 1 :: .int .i64 2 :: .int .i64 (s.size : Int) :: .int .i64 (1 + (i : Int)) :: .slice (some ⟨g, 0, none⟩) n n :: RC).toArray, .int .i64 (x : Int), .string s] w fun e w' => e = .returned (.string pt) ∧ Only [] w w') := fun g w => by
        rw [ept]
        exact manPart_any 1 2 (s.size : Int) (1 + (i : Int)) (some ⟨g, 0, none⟩) n n RC HRL.out (x : Int) s w
      have C1 : Hid (∀ g w, Calls Try.prog 29 #[.agg (Value.int .i64 1 :: .int .i64 2 :: .int .i64 (s.size : Int) :: .int .i64 (1 + (i : Int)) :: .slice (some ⟨g, 0, none⟩) n n :: RC).toArray, .int .i64 (x : Int), .string (pt ++ ⟨#[120]⟩)] w fun e w' => e = .returned (.int .i64 5) ∧ Only [] w w') := fun g w =>
        manCheck_form 1 2 (s.size : Int) (1 + (i : Int)) (some ⟨g, 0, none⟩) n n RC HRL.out (x : Int) _ w hl0 (by rw [← hl1, ByteArray.size_append]; have : (⟨#[120]⟩ : ByteArray).size = 1 := rfl; omega)
      have C2 : Hid (∀ g w, Calls Try.prog 29 #[.agg (Value.int .i64 1 :: .int .i64 2 :: .int .i64 (s.size : Int) :: .int .i64 (1 + (i : Int)) :: .slice (some ⟨g, 0, none⟩) n n :: RC).toArray, .int .i64 (x : Int), .string (pt.extract 1 pt.size)] w fun e w' => e = .returned (.int .i64 5) ∧ Only [] w w') := fun g w =>
        manCheck_form 1 2 (s.size : Int) (1 + (i : Int)) (some ⟨g, 0, none⟩) n n RC HRL.out (x : Int) _ w hl0 (by rw [← hl1, ext_size _ _ _ hp1 (Nat.le_refl _)]; omega)
      have c0 : ∀ k : Nat, k ≠ n → cnt 1 2 (s.size : Int) (1 + (i : Int)) k = 0 := fun k hk => by unfold cnt; rw [HN.out, if_neg (by omega)]
      have GD : Hid (∀ ad k cp w, k ≠ n → Calls Try.prog 23 #[.agg (Value.int .i64 1 :: .int .i64 2 :: .int .i64 (s.size : Int) :: .int .i64 (1 + (i : Int)) :: .slice ad k cp :: RC).toArray] w fun e w' => e = .returned (.bool false) ∧ Only [] w w') := fun ad k cp w hk => by
        have := manGood_any 1 2 (s.size : Int) (1 + (i : Int)) ad k cp _ HRL.out w
        rw [c0 k hk] at this
        exact this
      have C3 : Hid (∀ ad k cp w, k ≠ n → Calls Try.prog 29 #[.agg (Value.int .i64 1 :: .int .i64 2 :: .int .i64 (s.size : Int) :: .int .i64 (1 + (i : Int)) :: .slice ad k cp :: RC).toArray, .int .i64 (x : Int), .string pt] w fun e w' => e = .returned (.int .i64 3) ∧ Only [] w w') := fun ad k cp w hk =>
        manCheck_range 1 2 (s.size : Int) (1 + (i : Int)) ad k cp RC HRL.out (x : Int) _ w (by unfold lenM; rw [c0 k hk, if_neg (by omega)])
      have HDC : Hid ((digCells (dsOf 1 2 (s.size : Int) (1 + (i : Int)) n s n)).length = n * 32) := by
        show _ = _
        rw [digCells_length _ (dsOf_wide _ _ _ _ _ _ _), dsOf_length]
      have HD1 : Hid (∀ u ∈ digCells (dsOf 1 2 (s.size : Int) (1 + (i : Int)) n s n), u.oneCell' = true) := fun u hu => digCells_one _ u hu
      generalize digCells (dsOf 1 2 (s.size : Int) (1 + (i : Int)) n s n) = DC at *
      have HA : Hid (0 < n ∧ n ≠ 0 ∧ n + 1 ≠ 0 ∧ n ≤ maxLen ∧ n + 1 ≤ maxLen ∧ n * 32 ≤ 140737488355328 ∧ (n + 1) * 32 ≤ 140737488355328) := by
        have e : maxLen = 9223372036854775807 := rfl
        show _ ∧ _
        rw [e]
        omega
      have HN1 : Hid (1 ≤ n) := hn1
      have HNK : Hid (n + 1 ≠ n ∧ n - 1 ≠ n) := ⟨by omega, by omega⟩
      have HCL : Hid (pt.size + (⟨#[120]⟩ : ByteArray).size ≤ 9223372036854775807) := by
        have : (⟨#[120]⟩ : ByteArray).size = 1 := rfl
        show _ ≤ _
        omega
      have n1 : (1 : Int) ≤ n := by omega
      have n0 : ((n : Int) == 0) = false := beq_eq_false_iff_ne.2 (by omega)
      have hz : (s.size : Int) = (sq : Int) := by omega
      have hz2 : ((sq : Int) == (s.size : Int)) = true := by rw [hz]; simp
      have hwn : IntKind.u64.wrap (n : Int) = (n : Int) := by unfold IntKind.wrap; simp [IntKind.signed, IntKind.bits]; omega
      have hpt : (pt.size : Int) ≤ 1000000 := by omega
      have hpt1 : (1 : Int) ≤ pt.size := by omega
      clear esq hl0 hl1 ept hcn hlt em c0 HQ hz hps
      go_wp2_with (first
        | ((with_reducible refine wpL_isLoad rfl ?_); first | (refine wpL_loadAtS hst rfl (ty := 50) rfl 0 rfl rfl (by kernel_rfl) 37 (by kernel_rfl) _ (HT.out _) (HL.out _) ?_) | (refine wpL_loadAtS hst rfl (ty := 50) rfl 1 rfl rfl (by kernel_rfl) 37 (by kernel_rfl) _ (HT.out _) (HL.out _) ?_) | (refine wpL_loadAtS hst rfl (ty := 50) rfl 2 rfl rfl (by kernel_rfl) 37 (by kernel_rfl) _ (HT.out _) (HL.out _) ?_) | (refine wpL_loadAtS hst rfl (ty := 50) rfl 3 rfl rfl (by kernel_rfl) 37 (by kernel_rfl) _ (HT.out _) (HL.out _) ?_))
        | ((with_reducible refine wpL_peel rfl ?_ ?_); focus (go_simp; done)) | ((with_reducible refine wpL_isLoad rfl ?_); first | (refine wpL_load1S hst rfl rfl 0 rfl rfl rfl (by kernel_rfl) ?_) | (refine wpL_load1S hst rfl rfl 1 rfl rfl rfl (by kernel_rfl) ?_) | (refine wpL_load1S hst rfl rfl 2 rfl rfl rfl (by kernel_rfl) ?_) | (refine wpL_load1S hst rfl rfl 3 rfl rfl rfl (by kernel_rfl) ?_))
        | ((with_reducible refine wpL_isAlloc rfl ?_); refine wpL_allocS hst rfl 50 rfl (.agg mfZ.toArray) mfZ (by kernel_rfl) rfl _ rfl ?_; clear hst; intro w1 b2 hb2 hst)
        | ((with_reducible refine wpL_isStore rfl ?_); refine wpL_storeS hst rfl (ty := 50) rfl 0 rfl rfl rfl (by kernel_rfl) (by kernel_rfl) (HLL.out _) (H1L.out _ _ _) ?_; clear hst; intro w1 hst; simp only [List.set] at hst)
        | (go_at_call 24; (with_reducible refine (CO.out _ _).mono ?_); rintro e1 w1 ⟨rfl, ho1⟩; replace hst := hst.keep ho1; clear ho1)
        | (go_at_call 27; (with_reducible refine (PT.out _ _).mono ?_); rintro e1 w1 ⟨rfl, ho1⟩; replace hst := hst.keep ho1; clear ho1))
      replace hst := hst.drew
      refine wp_region_ord2 [0, 3, 5] [1, 2, 4] [0, 3] 5 [6, 7, 8] (by kernel_rfl) (by kernel_rfl) (by kernel_rfl) ?_
      generalize World.drew _ = W at *
      refine Ord.cut 1 1 rfl rfl rfl rfl (by kernel_rfl) (by kernel_rfl) ?_; simp only [List.take_succ_cons, List.take_zero, List.drop_succ_cons, List.drop_zero, List.filterMap_cons, List.filterMap_nil, List.getElem?_cons_succ, List.getElem?_cons_zero]; go_wp2_with fail; refine TextQ.mk ⟨fun h => by simp at h, ?_⟩ rfl
      refine Ord.cut 1 2 rfl rfl rfl rfl (by kernel_rfl) (by kernel_rfl) ?_; simp only [List.take_succ_cons, List.take_zero, List.drop_succ_cons, List.drop_zero, List.filterMap_cons, List.filterMap_nil, List.getElem?_cons_succ, List.getElem?_cons_zero]; (try refine wpL_peel rfl rfl ?_); (first | (refine wpL_load1S hst rfl rfl 0 rfl rfl rfl (by kernel_rfl) ?_) | (refine wpL_load1S hst rfl rfl 1 rfl rfl rfl (by kernel_rfl) ?_) | (refine wpL_load1S hst rfl rfl 2 rfl rfl rfl (by kernel_rfl) ?_) | (refine wpL_load1S hst rfl rfl 3 rfl rfl rfl (by kernel_rfl) ?_)); refine TextQ.mk ⟨fun h => by simp at h, ?_⟩ rfl
      refine Ord.cut 1 4 rfl rfl rfl rfl (by kernel_rfl) (by kernel_rfl) ?_; simp only [List.take_succ_cons, List.take_zero, List.drop_succ_cons, List.drop_zero, List.filterMap_cons, List.filterMap_nil, List.getElem?_cons_succ, List.getElem?_cons_zero]
      refine wpL_loadAtS hst rfl (ty := 48) rfl 3 rfl rfl (by kernel_rfl) 32 (by kernel_rfl) _ HR0.out HRL.out ?_
      refine TextQ.mk ⟨fun h => by simp at h, ?_⟩ rfl
      refine Ord.done ?_
      refine And.intro ?_ ?_
      · show Ord _ _ _ _ [5, 0, 3, 6, 7, 8] _ _
        refine Ord.cut 1 5 rfl rfl rfl rfl (by kernel_rfl) (by kernel_rfl) ?_; simp only [List.take_succ_cons, List.take_zero, List.drop_succ_cons, List.drop_zero, List.filterMap_cons, List.filterMap_nil, List.getElem?_cons_succ, List.getElem?_cons_zero]
        refine wpL_slice_lit rfl 46 1 _ rfl Try.underlying46 digInfo3 (by decide) (by decide) [.agg RC.toArray] rfl rfl (by simp [Value.cells, HRL.out]) ?_
        intro w2 ho2 hs2 hB2
        simp [Value.cells] at hB2
        go_wp2_with fail
        refine TextQ.mk ⟨ho2, ?_⟩ rfl
        replace hst := hst.keep ho2
        clear ho2
        refine Ord.cut 1 0 rfl rfl rfl rfl (by kernel_rfl) (by kernel_rfl) ?_; simp only [List.take_succ_cons, List.take_zero, List.drop_succ_cons, List.drop_zero, List.filterMap_cons, List.filterMap_nil, List.getElem?_cons_succ, List.getElem?_cons_zero]
        refine wpL_slice0 rfl 46 rfl Try.underlying46 digInfo3 ?_
        intro w1 ho1 hB1
        go_wp2_with fail
        refine TextQ.mk ⟨ho1, ?_⟩ rfl
        replace hst := hst.keep ho1
        replace hB2 := hB2.keep ho1
        clear ho1 hB1
        refine Ord.cut 1 3 rfl rfl rfl rfl (by kernel_rfl) (by kernel_rfl) ?_; simp only [List.take_succ_cons, List.take_zero, List.drop_succ_cons, List.drop_zero, List.filterMap_cons, List.filterMap_nil, List.getElem?_cons_succ, List.getElem?_cons_zero]
        refine wpL_grow rfl _ _ _ rfl 48 Try.underlying46 digInfo3 (by decide) (by decide) ⟨_, rfl⟩ g 0 n n DC rfl HDC.out (fun j u hj => (hst.blk 2 rfl).cell (by rw [Nat.zero_add]; exact hj)) HD1.out HA.out.1 HA.out.2.2.2.1 HA.out.2.2.2.2.2.1 ?_
        intro v3 w3 hown ho3
        obtain ⟨g3, cp3, rfl, hcp3, hg3, hlt3⟩ := owns_form hown HA.out.2.1
        go_wp2_with fail
        have ha3 := Lib.hid (show Away _ g3 from fun x hx => Nat.ne_of_lt (Nat.lt_of_lt_of_le (hst.lt hx) hg3))
        have hb3 := Nat.le_trans hst.only.size hg3
        replace hown := owns_base hown hst.only.size
        refine TextQ.mk ⟨ho3, ?_⟩ rfl
        replace hst := hst.keep ho3
        replace hB2 := hB2.keep ho3
        clear ho3 hg3
        refine Ord.cut 1 6 rfl rfl rfl rfl (by kernel_rfl) (by kernel_rfl) ?_; simp only [List.take_succ_cons, List.take_zero, List.drop_succ_cons, List.drop_zero, List.filterMap_cons, List.filterMap_nil, List.getElem?_cons_succ, List.getElem?_cons_zero]
        refine wpL_append rfl _ _ _ rfl w.heap.size 48 Try.underlying46 digInfo3 (by decide) (by decide) _ n DC rfl hown ⟨_, 0, none⟩ 1 1 RC rfl (by rw [HRL.out]) (news_at hB2) (fun u hu => List.all_eq_true.1 HR1.out u hu) HA.out.2.2.2.2.1 HA.out.2.2.2.2.2.2 hst.only.size ?_
        intro v6 w6 hown6 hgr6 _ _
        obtain ⟨g6, cp6, rfl, hcp6, hg6, hlt6⟩ := owns_form hown6 HA.out.2.2.1
        go_wp2_with fail
        have ho6 : Only [g3] _ w6 := Only.of_grown hgr6
        refine TextQ.mk ?_ rfl
        replace hst := hst.other ho6 (.inr hb3) ha3.out
        clear ho6 hgr6 hown6 hown ha3 hB2 hcp6 hg6 hlt6
        refine Ord.cut 1 7 rfl rfl rfl rfl (by kernel_rfl) (by kernel_rfl) ?_; simp only [List.take_succ_cons, List.take_zero, List.drop_succ_cons, List.drop_zero, List.filterMap_cons, List.filterMap_nil, List.getElem?_cons_succ, List.getElem?_cons_zero]; go_wp2_with fail; refine TextQ.mk ⟨fun h => by simp at h, ?_⟩ rfl
        refine Ord.cut 1 8 rfl rfl rfl rfl (by kernel_rfl) (by kernel_rfl) ?_; simp only [List.take_succ_cons, List.take_zero, List.drop_succ_cons, List.drop_zero, List.filterMap_cons, List.filterMap_nil, List.getElem?_cons_succ, List.getElem?_cons_zero]
        refine wpL_store1S hst rfl rfl 0 rfl rfl rfl (v := .slice (some ⟨g6, 0, none⟩) (n + 1) cp6) rfl (by kernel_rfl) rfl ?_
        clear hst
        intro w8 hst
        simp only [List.set] at hst
        go_wp2_with fail
        refine TextQ.mk ?_ rfl
        refine Ord.done ?_
        go_wp2_with (first
          | ((with_reducible refine wpL_isLoad rfl ?_); first | (refine wpL_loadAtS hst rfl (ty := 50) rfl 0 rfl rfl (by kernel_rfl) 37 (by kernel_rfl) _ (HT.out _) (HL.out _) ?_) | (refine wpL_loadAtS hst rfl (ty := 50) rfl 1 rfl rfl (by kernel_rfl) 37 (by kernel_rfl) _ (HT.out _) (HL.out _) ?_) | (refine wpL_loadAtS hst rfl (ty := 50) rfl 2 rfl rfl (by kernel_rfl) 37 (by kernel_rfl) _ (HT.out _) (HL.out _) ?_) | (refine wpL_loadAtS hst rfl (ty := 50) rfl 3 rfl rfl (by kernel_rfl) 37 (by kernel_rfl) _ (HT.out _) (HL.out _) ?_) | (refine wpL_loadAtS hst rfl (ty := 50) rfl 4 rfl rfl (by kernel_rfl) 37 (by kernel_rfl) _ (HT.out _) (HL.out _) ?_))
          | ((with_reducible refine wpL_peel rfl ?_ ?_); focus (go_simp; done)) | ((with_reducible refine wpL_isLoad rfl ?_); first | (refine wpL_load1S hst rfl rfl 0 rfl rfl rfl (by kernel_rfl) ?_) | (refine wpL_load1S hst rfl rfl 1 rfl rfl rfl (by kernel_rfl) ?_) | (refine wpL_load1S hst rfl rfl 2 rfl rfl rfl (by kernel_rfl) ?_) | (refine wpL_load1S hst rfl rfl 3 rfl rfl rfl (by kernel_rfl) ?_))
          | ((with_reducible refine wpL_isAlloc rfl ?_); refine wpL_allocS hst rfl 50 rfl (.agg mfZ.toArray) mfZ (by kernel_rfl) rfl _ rfl ?_; clear hst; intro w1 b4 hb4 hst)
          | ((with_reducible refine wpL_isStore rfl ?_); refine wpL_storeS hst rfl (ty := 50) rfl 0 rfl rfl rfl (by kernel_rfl) (by kernel_rfl) (HLL.out _) (H1L.out _ _ _) ?_; clear hst; intro w1 hst; simp only [List.set] at hst)
          | ((with_reducible refine wpL_isStore rfl ?_); refine wpL_store1S hst rfl (ty := 46) rfl 0 rfl rfl rfl (v := .slice ad7 (n - 1) (n - 1)) rfl (by kernel_rfl) rfl ?_; clear hst; intro w1 hst; simp only [List.set] at hst)
          | ((with_reducible refine wpL_isCut rfl ?_); refine wpL_tail rfl 46 _ rfl Try.underlying46 (by kernel_rfl) _ n n rfl HN1.out ?_; intro ad7))
        replace hst := hst.drew
        refine wp_region_ord [9, 17, 22, 27, 34] [0, 1, 2, 3, 4, 5, 6, 7, 8, 9, 10, 11, 12, 13, 14, 15, 16, 17, 18, 19, 20, 21, 22, 23, 24, 25, 26, 27, 28, 29, 30, 31, 32, 33, 34, 35, 36, 37] (by kernel_rfl) (by kernel_rfl) ?_
        generalize World.drew _ = W2 at *
        refine Ord.cut 5 4 rfl rfl rfl rfl (by kernel_rfl) (by kernel_rfl) ?_; simp only [List.take_succ_cons, List.take_zero, List.drop_succ_cons, List.drop_zero, List.filterMap_cons, List.filterMap_nil, List.getElem?_cons_succ, List.getElem?_cons_zero]; go_wp2_with fail; refine TextQ.mk ⟨fun h => by simp at h, ?_⟩ rfl
        refine Ord.cut 1 5 rfl rfl rfl rfl (by kernel_rfl) (by kernel_rfl) ?_; simp only [List.take_succ_cons, List.take_zero, List.drop_succ_cons, List.drop_zero, List.filterMap_cons, List.filterMap_nil, List.getElem?_cons_succ, List.getElem?_cons_zero]
        refine wpL_peel rfl rfl ?_
        refine wpL_loadAtS hst rfl (ty := 50) rfl 2 rfl rfl (by kernel_rfl) 37 (by kernel_rfl) _ (HT.out _) (HL.out _) ?_
        refine TextQ.mk ⟨fun h => by simp at h, ?_⟩ rfl
        refine Ord.cut 2 7 rfl rfl rfl rfl (by kernel_rfl) (by kernel_rfl) ?_; simp only [List.take_succ_cons, List.take_zero, List.drop_succ_cons, List.drop_zero, List.filterMap_cons, List.filterMap_nil, List.getElem?_cons_succ, List.getElem?_cons_zero]; go_wp2_with fail; refine TextQ.mk ⟨fun h => by simp at h, ?_⟩ rfl
        refine Ord.cut 1 8 rfl rfl rfl rfl (by kernel_rfl) (by kernel_rfl) ?_; simp only [List.take_succ_cons, List.take_zero, List.drop_succ_cons, List.drop_zero, List.filterMap_cons, List.filterMap_nil, List.getElem?_cons_succ, List.getElem?_cons_zero]
        refine wpL_peel rfl rfl ?_
        refine wpL_catS rfl rfl pt ⟨#[120]⟩ _ rfl rfl rfl HCL.out ?_
        refine TextQ.mk ⟨fun h => by simp at h, ?_⟩ rfl
        refine Ord.cut 1 9 rfl rfl rfl rfl (by kernel_rfl) (by kernel_rfl) ?_; simp only [List.take_succ_cons, List.take_zero, List.drop_succ_cons, List.drop_zero, List.filterMap_cons, List.filterMap_nil, List.getElem?_cons_succ, List.getElem?_cons_zero]
        go_wp2_with (go_at_call 29; refine (C1.out _ _).mono ?_; rintro e1 w1 ⟨rfl, ho1⟩)
        refine TextQ.mk ⟨fun _ => ho1, ?_⟩ rfl
        replace hst := hst.keep ho1
        clear ho1
        refine Ord.cut 3 12 rfl rfl rfl rfl (by kernel_rfl) (by kernel_rfl) ?_; simp only [List.take_succ_cons, List.take_zero, List.drop_succ_cons, List.drop_zero, List.filterMap_cons, List.filterMap_nil, List.getElem?_cons_succ, List.getElem?_cons_zero]; go_wp2_with fail; refine TextQ.mk ⟨fun h => by simp at h, ?_⟩ rfl
        refine Ord.cut 1 13 rfl rfl rfl rfl (by kernel_rfl) (by kernel_rfl) ?_; simp only [List.take_succ_cons, List.take_zero, List.drop_succ_cons, List.drop_zero, List.filterMap_cons, List.filterMap_nil, List.getElem?_cons_succ, List.getElem?_cons_zero]
        refine wpL_peel rfl rfl ?_
        refine wpL_loadAtS hst rfl (ty := 50) rfl 2 rfl rfl (by kernel_rfl) 37 (by kernel_rfl) _ (HT.out _) (HL.out _) ?_
        refine TextQ.mk ⟨fun h => by simp at h, ?_⟩ rfl
        refine Ord.cut 3 16 rfl rfl rfl rfl (by kernel_rfl) (by kernel_rfl) ?_; simp only [List.take_succ_cons, List.take_zero, List.drop_succ_cons, List.drop_zero, List.filterMap_cons, List.filterMap_nil, List.getElem?_cons_succ, List.getElem?_cons_zero]; go_wp2_with fail; refine TextQ.mk ⟨fun h => by simp at h, ?_⟩ rfl
        refine Ord.cut 1 17 rfl rfl rfl rfl (by kernel_rfl) (by kernel_rfl) ?_; simp only [List.take_succ_cons, List.take_zero, List.drop_succ_cons, List.drop_zero, List.filterMap_cons, List.filterMap_nil, List.getElem?_cons_succ, List.getElem?_cons_zero]
        go_wp2_with (go_at_call 29; refine (C2.out _ _).mono ?_; rintro e1 w1 ⟨rfl, ho1⟩)
        refine TextQ.mk ⟨fun _ => ho1, ?_⟩ rfl
        replace hst := hst.keep ho1
        clear ho1
        refine Ord.cut 3 20 rfl rfl rfl rfl (by kernel_rfl) (by kernel_rfl) ?_; simp only [List.take_succ_cons, List.take_zero, List.drop_succ_cons, List.drop_zero, List.filterMap_cons, List.filterMap_nil, List.getElem?_cons_succ, List.getElem?_cons_zero]; go_wp2_with fail; refine TextQ.mk ⟨fun h => by simp at h, ?_⟩ rfl
        refine Ord.cut 1 21 rfl rfl rfl rfl (by kernel_rfl) (by kernel_rfl) ?_; simp only [List.take_succ_cons, List.take_zero, List.drop_succ_cons, List.drop_zero, List.filterMap_cons, List.filterMap_nil, List.getElem?_cons_succ, List.getElem?_cons_zero]
        refine wpL_peel rfl rfl ?_
        refine wpL_loadAtS hst rfl (ty := 50) rfl 1 rfl rfl (by kernel_rfl) 37 (by kernel_rfl) _ (HT.out _) (HL.out _) ?_
        refine TextQ.mk ⟨fun h => by simp at h, ?_⟩ rfl
        refine Ord.cut 1 22 rfl rfl rfl rfl (by kernel_rfl) (by kernel_rfl) ?_; simp only [List.take_succ_cons, List.take_zero, List.drop_succ_cons, List.drop_zero, List.filterMap_cons, List.filterMap_nil, List.getElem?_cons_succ, List.getElem?_cons_zero]
        go_wp2_with (go_at_call 23; refine (GD.out _ _ _ _ HNK.out.1).mono ?_; rintro e1 w1 ⟨rfl, ho1⟩)
        refine TextQ.mk ⟨fun _ => ho1, ?_⟩ rfl
        replace hst := hst.keep ho1
        clear ho1
        refine Ord.cut 3 25 rfl rfl rfl rfl (by kernel_rfl) (by kernel_rfl) ?_; simp only [List.take_succ_cons, List.take_zero, List.drop_succ_cons, List.drop_zero, List.filterMap_cons, List.filterMap_nil, List.getElem?_cons_succ, List.getElem?_cons_zero]; go_wp2_with fail; refine TextQ.mk ⟨fun h => by simp at h, ?_⟩ rfl
        refine Ord.cut 1 26 rfl rfl rfl rfl (by kernel_rfl) (by kernel_rfl) ?_; simp only [List.take_succ_cons, List.take_zero, List.drop_succ_cons, List.drop_zero, List.filterMap_cons, List.filterMap_nil, List.getElem?_cons_succ, List.getElem?_cons_zero]
        refine wpL_peel rfl rfl ?_
        refine wpL_loadAtS hst rfl (ty := 50) rfl 0 rfl rfl (by kernel_rfl) 37 (by kernel_rfl) _ (HT.out _) (HL.out _) ?_
        refine TextQ.mk ⟨fun h => by simp at h, ?_⟩ rfl
        refine Ord.cut 1 27 rfl rfl rfl rfl (by kernel_rfl) (by kernel_rfl) ?_; simp only [List.take_succ_cons, List.take_zero, List.drop_succ_cons, List.drop_zero, List.filterMap_cons, List.filterMap_nil, List.getElem?_cons_succ, List.getElem?_cons_zero]
        go_wp2_with (go_at_call 23; refine (GD.out _ _ _ _ HNK.out.2).mono ?_; rintro e1 w1 ⟨rfl, ho1⟩)
        refine TextQ.mk ⟨fun _ => ho1, ?_⟩ rfl
        replace hst := hst.keep ho1
        clear ho1
        refine Ord.cut 3 30 rfl rfl rfl rfl (by kernel_rfl) (by kernel_rfl) ?_; simp only [List.take_succ_cons, List.take_zero, List.drop_succ_cons, List.drop_zero, List.filterMap_cons, List.filterMap_nil, List.getElem?_cons_succ, List.getElem?_cons_zero]; go_wp2_with fail; refine TextQ.mk ⟨fun h => by simp at h, ?_⟩ rfl
        refine Ord.cut 1 31 rfl rfl rfl rfl (by kernel_rfl) (by kernel_rfl) ?_; simp only [List.take_succ_cons, List.take_zero, List.drop_succ_cons, List.drop_zero, List.filterMap_cons, List.filterMap_nil, List.getElem?_cons_succ, List.getElem?_cons_zero]
        refine wpL_peel rfl rfl ?_
        refine wpL_loadAtS hst rfl (ty := 50) rfl 1 rfl rfl (by kernel_rfl) 37 (by kernel_rfl) _ (HT.out _) (HL.out _) ?_
        refine TextQ.mk ⟨fun h => by simp at h, ?_⟩ rfl
        refine Ord.cut 2 33 rfl rfl rfl rfl (by kernel_rfl) (by kernel_rfl) ?_; simp only [List.take_succ_cons, List.take_zero, List.drop_succ_cons, List.drop_zero, List.filterMap_cons, List.filterMap_nil, List.getElem?_cons_succ, List.getElem?_cons_zero]; go_wp2_with fail; refine TextQ.mk ⟨fun h => by simp at h, ?_⟩ rfl
        refine Ord.cut 1 34 rfl rfl rfl rfl (by kernel_rfl) (by kernel_rfl) ?_; simp only [List.take_succ_cons, List.take_zero, List.drop_succ_cons, List.drop_zero, List.filterMap_cons, List.filterMap_nil, List.getElem?_cons_succ, List.getElem?_cons_zero]
        go_wp2_with (go_at_call 29; refine (C3.out _ _ _ _ HNK.out.1).mono ?_; rintro e1 w1 ⟨rfl, ho1⟩)
        refine TextQ.mk ⟨fun _ => ho1, ?_⟩ rfl
        replace hst := hst.keep ho1
        clear ho1
        refine Ord.cut 3 37 rfl rfl rfl rfl (by kernel_rfl) (by kernel_rfl) ?_; simp only [List.take_succ_cons, List.take_zero, List.drop_succ_cons, List.drop_zero, List.filterMap_cons, List.filterMap_nil, List.getElem?_cons_succ, List.getElem?_cons_zero]; go_wp2_with fail; refine TextQ.mk ⟨fun h => by simp at h, ?_⟩ rfl
        refine Ord.done ?_
        go_wp2_with fail
        go_ret
        exact ⟨rfl, hst.only⟩
      · show Ord _ _ _ _ [0] _ _
        refine Ord.cut 1 0 rfl rfl rfl rfl (by kernel_rfl) (by kernel_rfl) ?_; simp only [List.take_succ_cons, List.take_zero, List.drop_succ_cons, List.drop_zero, List.filterMap_cons, List.filterMap_nil, List.getElem?_cons_succ, List.getElem?_cons_zero]
        refine wpL_slice0 rfl 46 rfl Try.underlying46 digInfo3 ?_
        intro w1 ho1 hB1
        go_wp2_with fail
        refine TextQ.mk ⟨ho1, ?_⟩ rfl
        replace hst := hst.keep ho1
        clear ho1 hB1
        refine Ord.done ?_
        refine And.intro ?_ ?_
        · show Ord _ _ _ _ [5, 3, 6, 7, 8] _ _
          refine Ord.cut 1 5 rfl rfl rfl rfl (by kernel_rfl) (by kernel_rfl) ?_; simp only [List.take_succ_cons, List.take_zero, List.drop_succ_cons, List.drop_zero, List.filterMap_cons, List.filterMap_nil, List.getElem?_cons_succ, List.getElem?_cons_zero]
          refine wpL_slice_lit rfl 46 1 _ rfl Try.underlying46 digInfo3 (by decide) (by decide) [.agg RC.toArray] rfl rfl (by simp [Value.cells, HRL.out]) ?_
          intro w2 ho2 hs2 hB2
          simp [Value.cells] at hB2
          go_wp2_with fail
          refine TextQ.mk ⟨ho2, ?_⟩ rfl
          replace hst := hst.keep ho2
          clear ho2
          refine Ord.cut 1 3 rfl rfl rfl rfl (by kernel_rfl) (by kernel_rfl) ?_; simp only [List.take_succ_cons, List.take_zero, List.drop_succ_cons, List.drop_zero, List.filterMap_cons, List.filterMap_nil, List.getElem?_cons_succ, List.getElem?_cons_zero]
          refine wpL_grow rfl _ _ _ rfl 48 Try.underlying46 digInfo3 (by decide) (by decide) ⟨_, rfl⟩ g 0 n n DC rfl HDC.out (fun j u hj => (hst.blk 2 rfl).cell (by rw [Nat.zero_add]; exact hj)) HD1.out HA.out.1 HA.out.2.2.2.1 HA.out.2.2.2.2.2.1 ?_
          intro v3 w3 hown ho3
          obtain ⟨g3, cp3, rfl, hcp3, hg3, hlt3⟩ := owns_form hown HA.out.2.1
          go_wp2_with fail
          have ha3 := Lib.hid (show Away _ g3 from fun x hx => Nat.ne_of_lt (Nat.lt_of_lt_of_le (hst.lt hx) hg3))
          have hb3 := Nat.le_trans hst.only.size hg3
          replace hown := owns_base hown hst.only.size
          refine TextQ.mk ⟨ho3, ?_⟩ rfl
          replace hst := hst.keep ho3
          replace hB2 := hB2.keep ho3
          clear ho3 hg3
          refine Ord.cut 1 6 rfl rfl rfl rfl (by kernel_rfl) (by kernel_rfl) ?_; simp only [List.take_succ_cons, List.take_zero, List.drop_succ_cons, List.drop_zero, List.filterMap_cons, List.filterMap_nil, List.getElem?_cons_succ, List.getElem?_cons_zero]
          refine wpL_append rfl _ _ _ rfl w.heap.size 48 Try.underlying46 digInfo3 (by decide) (by decide) _ n DC rfl hown ⟨_, 0, none⟩ 1 1 RC rfl (by rw [HRL.out]) (news_at hB2) (fun u hu => List.all_eq_true.1 HR1.out u hu) HA.out.2.2.2.2.1 HA.out.2.2.2.2.2.2 hst.only.size ?_
          intro v6 w6 hown6 hgr6 _ _
          obtain ⟨g6, cp6, rfl, hcp6, hg6, hlt6⟩ := owns_form hown6 HA.out.2.2.1
          go_wp2_with fail
          have ho6 : Only [g3] _ w6 := Only.of_grown hgr6
          refine TextQ.mk ?_ rfl
          replace hst := hst.other ho6 (.inr hb3) ha3.out
          clear ho6 hgr6 hown6 hown ha3 hB2 hcp6 hg6 hlt6
          refine Ord.cut 1 7 rfl rfl rfl rfl (by kernel_rfl) (by kernel_rfl) ?_; simp only [List.take_succ_cons, List.take_zero, List.drop_succ_cons, List.drop_zero, List.filterMap_cons, List.filterMap_nil, List.getElem?_cons_succ, List.getElem?_cons_zero]; go_wp2_with fail; refine TextQ.mk ⟨fun h => by simp at h, ?_⟩ rfl
          refine Ord.cut 1 8 rfl rfl rfl rfl (by kernel_rfl) (by kernel_rfl) ?_; simp only [List.take_succ_cons, List.take_zero, List.drop_succ_cons, List.drop_zero, List.filterMap_cons, List.filterMap_nil, List.getElem?_cons_succ, List.getElem?_cons_zero]
          refine wpL_store1S hst rfl rfl 0 rfl rfl rfl (v := .slice (some ⟨g6, 0, none⟩) (n + 1) cp6) rfl (by kernel_rfl) rfl ?_
          clear hst
          intro w8 hst
          simp only [List.set] at hst
          go_wp2_with fail
          refine TextQ.mk ?_ rfl
          refine Ord.done ?_
          go_wp2_with (first
            | ((with_reducible refine wpL_isLoad rfl ?_); first | (refine wpL_loadAtS hst rfl (ty := 50) rfl 0 rfl rfl (by kernel_rfl) 37 (by kernel_rfl) _ (HT.out _) (HL.out _) ?_) | (refine wpL_loadAtS hst rfl (ty := 50) rfl 1 rfl rfl (by kernel_rfl) 37 (by kernel_rfl) _ (HT.out _) (HL.out _) ?_) | (refine wpL_loadAtS hst rfl (ty := 50) rfl 2 rfl rfl (by kernel_rfl) 37 (by kernel_rfl) _ (HT.out _) (HL.out _) ?_) | (refine wpL_loadAtS hst rfl (ty := 50) rfl 3 rfl rfl (by kernel_rfl) 37 (by kernel_rfl) _ (HT.out _) (HL.out _) ?_) | (refine wpL_loadAtS hst rfl (ty := 50) rfl 4 rfl rfl (by kernel_rfl) 37 (by kernel_rfl) _ (HT.out _) (HL.out _) ?_))
            | ((with_reducible refine wpL_peel rfl ?_ ?_); focus (go_simp; done)) | ((with_reducible refine wpL_isLoad rfl ?_); first | (refine wpL_load1S hst rfl rfl 0 rfl rfl rfl (by kernel_rfl) ?_) | (refine wpL_load1S hst rfl rfl 1 rfl rfl rfl (by kernel_rfl) ?_) | (refine wpL_load1S hst rfl rfl 2 rfl rfl rfl (by kernel_rfl) ?_) | (refine wpL_load1S hst rfl rfl 3 rfl rfl rfl (by kernel_rfl) ?_))
            | ((with_reducible refine wpL_isAlloc rfl ?_); refine wpL_allocS hst rfl 50 rfl (.agg mfZ.toArray) mfZ (by kernel_rfl) rfl _ rfl ?_; clear hst; intro w1 b4 hb4 hst)
            | ((with_reducible refine wpL_isStore rfl ?_); refine wpL_storeS hst rfl (ty := 50) rfl 0 rfl rfl rfl (by kernel_rfl) (by kernel_rfl) (HLL.out _) (H1L.out _ _ _) ?_; clear hst; intro w1 hst; simp only [List.set] at hst)
            | ((with_reducible refine wpL_isStore rfl ?_); refine wpL_store1S hst rfl (ty := 46) rfl 0 rfl rfl rfl (v := .slice ad7 (n - 1) (n - 1)) rfl (by kernel_rfl) rfl ?_; clear hst; intro w1 hst; simp only [List.set] at hst)
            | ((with_reducible refine wpL_isCut rfl ?_); refine wpL_tail rfl 46 _ rfl Try.underlying46 (by kernel_rfl) _ n n rfl HN1.out ?_; intro ad7))
          replace hst := hst.drew
          refine wp_region_ord [9, 17, 22, 27, 34] [0, 1, 2, 3, 4, 5, 6, 7, 8, 9, 10, 11, 12, 13, 14, 15, 16, 17, 18, 19, 20, 21, 22, 23, 24, 25, 26, 27, 28, 29, 30, 31, 32, 33, 34, 35, 36, 37] (by kernel_rfl) (by kernel_rfl) ?_
          generalize World.drew _ = W2 at *
          refine Ord.cut 5 4 rfl rfl rfl rfl (by kernel_rfl) (by kernel_rfl) ?_; simp only [List.take_succ_cons, List.take_zero, List.drop_succ_cons, List.drop_zero, List.filterMap_cons, List.filterMap_nil, List.getElem?_cons_succ, List.getElem?_cons_zero]; go_wp2_with fail; refine TextQ.mk ⟨fun h => by simp at h, ?_⟩ rfl
          refine Ord.cut 1 5 rfl rfl rfl rfl (by kernel_rfl) (by kernel_rfl) ?_; simp only [List.take_succ_cons, List.take_zero, List.drop_succ_cons, List.drop_zero, List.filterMap_cons, List.filterMap_nil, List.getElem?_cons_succ, List.getElem?_cons_zero]
          refine wpL_peel rfl rfl ?_
          refine wpL_loadAtS hst rfl (ty := 50) rfl 2 rfl rfl (by kernel_rfl) 37 (by kernel_rfl) _ (HT.out _) (HL.out _) ?_
          refine TextQ.mk ⟨fun h => by simp at h, ?_⟩ rfl
          refine Ord.cut 2 7 rfl rfl rfl rfl (by kernel_rfl) (by kernel_rfl) ?_; simp only [List.take_succ_cons, List.take_zero, List.drop_succ_cons, List.drop_zero, List.filterMap_cons, List.filterMap_nil, List.getElem?_cons_succ, List.getElem?_cons_zero]; go_wp2_with fail; refine TextQ.mk ⟨fun h => by simp at h, ?_⟩ rfl
          refine Ord.cut 1 8 rfl rfl rfl rfl (by kernel_rfl) (by kernel_rfl) ?_; simp only [List.take_succ_cons, List.take_zero, List.drop_succ_cons, List.drop_zero, List.filterMap_cons, List.filterMap_nil, List.getElem?_cons_succ, List.getElem?_cons_zero]
          refine wpL_peel rfl rfl ?_
          refine wpL_catS rfl rfl pt ⟨#[120]⟩ _ rfl rfl rfl HCL.out ?_
          refine TextQ.mk ⟨fun h => by simp at h, ?_⟩ rfl
          refine Ord.cut 1 9 rfl rfl rfl rfl (by kernel_rfl) (by kernel_rfl) ?_; simp only [List.take_succ_cons, List.take_zero, List.drop_succ_cons, List.drop_zero, List.filterMap_cons, List.filterMap_nil, List.getElem?_cons_succ, List.getElem?_cons_zero]
          go_wp2_with (go_at_call 29; refine (C1.out _ _).mono ?_; rintro e1 w1 ⟨rfl, ho1⟩)
          refine TextQ.mk ⟨fun _ => ho1, ?_⟩ rfl
          replace hst := hst.keep ho1
          clear ho1
          refine Ord.cut 3 12 rfl rfl rfl rfl (by kernel_rfl) (by kernel_rfl) ?_; simp only [List.take_succ_cons, List.take_zero, List.drop_succ_cons, List.drop_zero, List.filterMap_cons, List.filterMap_nil, List.getElem?_cons_succ, List.getElem?_cons_zero]; go_wp2_with fail; refine TextQ.mk ⟨fun h => by simp at h, ?_⟩ rfl
          refine Ord.cut 1 13 rfl rfl rfl rfl (by kernel_rfl) (by kernel_rfl) ?_; simp only [List.take_succ_cons, List.take_zero, List.drop_succ_cons, List.drop_zero, List.filterMap_cons, List.filterMap_nil, List.getElem?_cons_succ, List.getElem?_cons_zero]
          refine wpL_peel rfl rfl ?_
          refine wpL_loadAtS hst rfl (ty := 50) rfl 2 rfl rfl (by kernel_rfl) 37 (by kernel_rfl) _ (HT.out _) (HL.out _) ?_
          refine TextQ.mk ⟨fun h => by simp at h, ?_⟩ rfl
          refine Ord.cut 3 16 rfl rfl rfl rfl (by kernel_rfl) (by kernel_rfl) ?_; simp only [List.take_succ_cons, List.take_zero, List.drop_succ_cons, List.drop_zero, List.filterMap_cons, List.filterMap_nil, List.getElem?_cons_succ, List.getElem?_cons_zero]; go_wp2_with fail; refine TextQ.mk ⟨fun h => by simp at h, ?_⟩ rfl
          refine Ord.cut 1 17 rfl rfl rfl rfl (by kernel_rfl) (by kernel_rfl) ?_; simp only [List.take_succ_cons, List.take_zero, List.drop_succ_cons, List.drop_zero, List.filterMap_cons, List.filterMap_nil, List.getElem?_cons_succ, List.getElem?_cons_zero]
          go_wp2_with (go_at_call 29; refine (C2.out _ _).mono ?_; rintro e1 w1 ⟨rfl, ho1⟩)
          refine TextQ.mk ⟨fun _ => ho1, ?_⟩ rfl
          replace hst := hst.keep ho1
          clear ho1
          refine Ord.cut 3 20 rfl rfl rfl rfl (by kernel_rfl) (by kernel_rfl) ?_; simp only [List.take_succ_cons, List.take_zero, List.drop_succ_cons, List.drop_zero, List.filterMap_cons, List.filterMap_nil, List.getElem?_cons_succ, List.getElem?_cons_zero]; go_wp2_with fail; refine TextQ.mk ⟨fun h => by simp at h, ?_⟩ rfl
          refine Ord.cut 1 21 rfl rfl rfl rfl (by kernel_rfl) (by kernel_rfl) ?_; simp only [List.take_succ_cons, List.take_zero, List.drop_succ_cons, List.drop_zero, List.filterMap_cons, List.filterMap_nil, List.getElem?_cons_succ, List.getElem?_cons_zero]
          refine wpL_peel rfl rfl ?_
          refine wpL_loadAtS hst rfl (ty := 50) rfl 1 rfl rfl (by kernel_rfl) 37 (by kernel_rfl) _ (HT.out _) (HL.out _) ?_
          refine TextQ.mk ⟨fun h => by simp at h, ?_⟩ rfl
          refine Ord.cut 1 22 rfl rfl rfl rfl (by kernel_rfl) (by kernel_rfl) ?_; simp only [List.take_succ_cons, List.take_zero, List.drop_succ_cons, List.drop_zero, List.filterMap_cons, List.filterMap_nil, List.getElem?_cons_succ, List.getElem?_cons_zero]
          go_wp2_with (go_at_call 23; refine (GD.out _ _ _ _ HNK.out.1).mono ?_; rintro e1 w1 ⟨rfl, ho1⟩)
          refine TextQ.mk ⟨fun _ => ho1, ?_⟩ rfl
          replace hst := hst.keep ho1
          clear ho1
          refine Ord.cut 3 25 rfl rfl rfl rfl (by kernel_rfl) (by kernel_rfl) ?_; simp only [List.take_succ_cons, List.take_zero, List.drop_succ_cons, List.drop_zero, List.filterMap_cons, List.filterMap_nil, List.getElem?_cons_succ, List.getElem?_cons_zero]; go_wp2_with fail; refine TextQ.mk ⟨fun h => by simp at h, ?_⟩ rfl
          refine Ord.cut 1 26 rfl rfl rfl rfl (by kernel_rfl) (by kernel_rfl) ?_; simp only [List.take_succ_cons, List.take_zero, List.drop_succ_cons, List.drop_zero, List.filterMap_cons, List.filterMap_nil, List.getElem?_cons_succ, List.getElem?_cons_zero]
          refine wpL_peel rfl rfl ?_
          refine wpL_loadAtS hst rfl (ty := 50) rfl 0 rfl rfl (by kernel_rfl) 37 (by kernel_rfl) _ (HT.out _) (HL.out _) ?_
          refine TextQ.mk ⟨fun h => by simp at h, ?_⟩ rfl
          refine Ord.cut 1 27 rfl rfl rfl rfl (by kernel_rfl) (by kernel_rfl) ?_; simp only [List.take_succ_cons, List.take_zero, List.drop_succ_cons, List.drop_zero, List.filterMap_cons, List.filterMap_nil, List.getElem?_cons_succ, List.getElem?_cons_zero]
          go_wp2_with (go_at_call 23; refine (GD.out _ _ _ _ HNK.out.2).mono ?_; rintro e1 w1 ⟨rfl, ho1⟩)
          refine TextQ.mk ⟨fun _ => ho1, ?_⟩ rfl
          replace hst := hst.keep ho1
          clear ho1
          refine Ord.cut 3 30 rfl rfl rfl rfl (by kernel_rfl) (by kernel_rfl) ?_; simp only [List.take_succ_cons, List.take_zero, List.drop_succ_cons, List.drop_zero, List.filterMap_cons, List.filterMap_nil, List.getElem?_cons_succ, List.getElem?_cons_zero]; go_wp2_with fail; refine TextQ.mk ⟨fun h => by simp at h, ?_⟩ rfl
          refine Ord.cut 1 31 rfl rfl rfl rfl (by kernel_rfl) (by kernel_rfl) ?_; simp only [List.take_succ_cons, List.take_zero, List.drop_succ_cons, List.drop_zero, List.filterMap_cons, List.filterMap_nil, List.getElem?_cons_succ, List.getElem?_cons_zero]
          refine wpL_peel rfl rfl ?_
          refine wpL_loadAtS hst rfl (ty := 50) rfl 1 rfl rfl (by kernel_rfl) 37 (by kernel_rfl) _ (HT.out _) (HL.out _) ?_
          refine TextQ.mk ⟨fun h => by simp at h, ?_⟩ rfl
          refine Ord.cut 2 33 rfl rfl rfl rfl (by kernel_rfl) (by kernel_rfl) ?_; simp only [List.take_succ_cons, List.take_zero, List.drop_succ_cons, List.drop_zero, List.filterMap_cons, List.filterMap_nil, List.getElem?_cons_succ, List.getElem?_cons_zero]; go_wp2_with fail; refine TextQ.mk ⟨fun h => by simp at h, ?_⟩ rfl
          refine Ord.cut 1 34 rfl rfl rfl rfl (by kernel_rfl) (by kernel_rfl) ?_; simp only [List.take_succ_cons, List.take_zero, List.drop_succ_cons, List.drop_zero, List.filterMap_cons, List.filterMap_nil, List.getElem?_cons_succ, List.getElem?_cons_zero]
          go_wp2_with (go_at_call 29; refine (C3.out _ _ _ _ HNK.out.1).mono ?_; rintro e1 w1 ⟨rfl, ho1⟩)
          refine TextQ.mk ⟨fun _ => ho1, ?_⟩ rfl
          replace hst := hst.keep ho1
          clear ho1
          refine Ord.cut 3 37 rfl rfl rfl rfl (by kernel_rfl) (by kernel_rfl) ?_; simp only [List.take_succ_cons, List.take_zero, List.drop_succ_cons, List.drop_zero, List.filterMap_cons, List.filterMap_nil, List.getElem?_cons_succ, List.getElem?_cons_zero]; go_wp2_with fail; refine TextQ.mk ⟨fun h => by simp at h, ?_⟩ rfl
          refine Ord.done ?_
          go_wp2_with fail
          go_ret
          exact ⟨rfl, hst.only⟩
        · skip
          refine Ord.cut 1 3 rfl rfl rfl rfl (by kernel_rfl) (by kernel_rfl) ?_; simp only [List.take_succ_cons, List.take_zero, List.drop_succ_cons, List.drop_zero, List.filterMap_cons, List.filterMap_nil, List.getElem?_cons_succ, List.getElem?_cons_zero]
          refine wpL_grow rfl _ _ _ rfl 48 Try.underlying46 digInfo3 (by decide) (by decide) ⟨_, rfl⟩ g 0 n n DC rfl HDC.out (fun j u hj => (hst.blk 2 rfl).cell (by rw [Nat.zero_add]; exact hj)) HD1.out HA.out.1 HA.out.2.2.2.1 HA.out.2.2.2.2.2.1 ?_
          intro v3 w3 hown ho3
          obtain ⟨g3, cp3, rfl, hcp3, hg3, hlt3⟩ := owns_form hown HA.out.2.1
          go_wp2_with fail
          have ha3 := Lib.hid (show Away _ g3 from fun x hx => Nat.ne_of_lt (Nat.lt_of_lt_of_le (hst.lt hx) hg3))
          have hb3 := Nat.le_trans hst.only.size hg3
          replace hown := owns_base hown hst.only.size
          refine TextQ.mk ⟨ho3, ?_⟩ rfl
          replace hst := hst.keep ho3
          clear ho3 hg3
          refine Ord.done ?_
          show Ord _ _ _ _ [5, 6, 7, 8] _ _
          refine Ord.cut 1 5 rfl rfl rfl rfl (by kernel_rfl) (by kernel_rfl) ?_; simp only [List.take_succ_cons, List.take_zero, List.drop_succ_cons, List.drop_zero, List.filterMap_cons, List.filterMap_nil, List.getElem?_cons_succ, List.getElem?_cons_zero]
          refine wpL_slice_lit rfl 46 1 _ rfl Try.underlying46 digInfo3 (by decide) (by decide) [.agg RC.toArray] rfl rfl (by simp [Value.cells, HRL.out]) ?_
          intro w2 ho2 hs2 hB2
          simp [Value.cells] at hB2
          go_wp2_with fail
          refine TextQ.mk ⟨ho2, ?_⟩ rfl
          replace hst := hst.keep ho2
          replace hown := owns_keep hown ho2
          clear ho2
          refine Ord.cut 1 6 rfl rfl rfl rfl (by kernel_rfl) (by kernel_rfl) ?_; simp only [List.take_succ_cons, List.take_zero, List.drop_succ_cons, List.drop_zero, List.filterMap_cons, List.filterMap_nil, List.getElem?_cons_succ, List.getElem?_cons_zero]
          refine wpL_append rfl _ _ _ rfl w.heap.size 48 Try.underlying46 digInfo3 (by decide) (by decide) _ n DC rfl hown ⟨_, 0, none⟩ 1 1 RC rfl (by rw [HRL.out]) (news_at hB2) (fun u hu => List.all_eq_true.1 HR1.out u hu) HA.out.2.2.2.2.1 HA.out.2.2.2.2.2.2 hst.only.size ?_
          intro v6 w6 hown6 hgr6 _ _
          obtain ⟨g6, cp6, rfl, hcp6, hg6, hlt6⟩ := owns_form hown6 HA.out.2.2.1
          go_wp2_with fail
          have ho6 : Only [g3] _ w6 := Only.of_grown hgr6
          refine TextQ.mk ?_ rfl
          replace hst := hst.other ho6 (.inr hb3) ha3.out
          clear ho6 hgr6 hown6 hown ha3 hB2 hcp6 hg6 hlt6
          refine Ord.cut 1 7 rfl rfl rfl rfl (by kernel_rfl) (by kernel_rfl) ?_; simp only [List.take_succ_cons, List.take_zero, List.drop_succ_cons, List.drop_zero, List.filterMap_cons, List.filterMap_nil, List.getElem?_cons_succ, List.getElem?_cons_zero]; go_wp2_with fail; refine TextQ.mk ⟨fun h => by simp at h, ?_⟩ rfl
          refine Ord.cut 1 8 rfl rfl rfl rfl (by kernel_rfl) (by kernel_rfl) ?_; simp only [List.take_succ_cons, List.take_zero, List.drop_succ_cons, List.drop_zero, List.filterMap_cons, List.filterMap_nil, List.getElem?_cons_succ, List.getElem?_cons_zero]
          refine wpL_store1S hst rfl rfl 0 rfl rfl rfl (v := .slice (some ⟨g6, 0, none⟩) (n + 1) cp6) rfl (by kernel_rfl) rfl ?_
          clear hst
          intro w8 hst
          simp only [List.set] at hst
          go_wp2_with fail
          refine TextQ.mk ?_ rfl
          refine Ord.done ?_
          go_wp2_with (first
            | ((with_reducible refine wpL_isLoad rfl ?_); first | (refine wpL_loadAtS hst rfl (ty := 50) rfl 0 rfl rfl (by kernel_rfl) 37 (by kernel_rfl) _ (HT.out _) (HL.out _) ?_) | (refine wpL_loadAtS hst rfl (ty := 50) rfl 1 rfl rfl (by kernel_rfl) 37 (by kernel_rfl) _ (HT.out _) (HL.out _) ?_) | (refine wpL_loadAtS hst rfl (ty := 50) rfl 2 rfl rfl (by kernel_rfl) 37 (by kernel_rfl) _ (HT.out _) (HL.out _) ?_) | (refine wpL_loadAtS hst rfl (ty := 50) rfl 3 rfl rfl (by kernel_rfl) 37 (by kernel_rfl) _ (HT.out _) (HL.out _) ?_) | (refine wpL_loadAtS hst rfl (ty := 50) rfl 4 rfl rfl (by kernel_rfl) 37 (by kernel_rfl) _ (HT.out _) (HL.out _) ?_))
            | ((with_reducible refine wpL_peel rfl ?_ ?_); focus (go_simp; done)) | ((with_reducible refine wpL_isLoad rfl ?_); first | (refine wpL_load1S hst rfl rfl 0 rfl rfl rfl (by kernel_rfl) ?_) | (refine wpL_load1S hst rfl rfl 1 rfl rfl rfl (by kernel_rfl) ?_) | (refine wpL_load1S hst rfl rfl 2 rfl rfl rfl (by kernel_rfl) ?_) | (refine wpL_load1S hst rfl rfl 3 rfl rfl rfl (by kernel_rfl) ?_))
            | ((with_reducible refine wpL_isAlloc rfl ?_); refine wpL_allocS hst rfl 50 rfl (.agg mfZ.toArray) mfZ (by kernel_rfl) rfl _ rfl ?_; clear hst; intro w1 b4 hb4 hst)
            | ((with_reducible refine wpL_isStore rfl ?_); refine wpL_storeS hst rfl (ty := 50) rfl 0 rfl rfl rfl (by kernel_rfl) (by kernel_rfl) (HLL.out _) (H1L.out _ _ _) ?_; clear hst; intro w1 hst; simp only [List.set] at hst)
            | ((with_reducible refine wpL_isStore rfl ?_); refine wpL_store1S hst rfl (ty := 46) rfl 0 rfl rfl rfl (v := .slice ad7 (n - 1) (n - 1)) rfl (by kernel_rfl) rfl ?_; clear hst; intro w1 hst; simp only [List.set] at hst)
            | ((with_reducible refine wpL_isCut rfl ?_); refine wpL_tail rfl 46 _ rfl Try.underlying46 (by kernel_rfl) _ n n rfl HN1.out ?_; intro ad7))
          replace hst := hst.drew
          refine wp_region_ord [9, 17, 22, 27, 34] [0, 1, 2, 3, 4, 5, 6, 7, 8, 9, 10, 11, 12, 13, 14, 15, 16, 17, 18, 19, 20, 21, 22, 23, 24, 25, 26, 27, 28, 29, 30, 31, 32, 33, 34, 35, 36, 37] (by kernel_rfl) (by kernel_rfl) ?_
          generalize World.drew _ = W2 at *
          refine Ord.cut 5 4 rfl rfl rfl rfl (by kernel_rfl) (by kernel_rfl) ?_; simp only [List.take_succ_cons, List.take_zero, List.drop_succ_cons, List.drop_zero, List.filterMap_cons, List.filterMap_nil, List.getElem?_cons_succ, List.getElem?_cons_zero]; go_wp2_with fail; refine TextQ.mk ⟨fun h => by simp at h, ?_⟩ rfl
          refine Ord.cut 1 5 rfl rfl rfl rfl (by kernel_rfl) (by kernel_rfl) ?_; simp only [List.take_succ_cons, List.take_zero, List.drop_succ_cons, List.drop_zero, List.filterMap_cons, List.filterMap_nil, List.getElem?_cons_succ, List.getElem?_cons_zero]
          refine wpL_peel rfl rfl ?_
          refine wpL_loadAtS hst rfl (ty := 50) rfl 2 rfl rfl (by kernel_rfl) 37 (by kernel_rfl) _ (HT.out _) (HL.out _) ?_
          refine TextQ.mk ⟨fun h => by simp at h, ?_⟩ rfl
          refine Ord.cut 2 7 rfl rfl rfl rfl (by kernel_rfl) (by kernel_rfl) ?_; simp only [List.take_succ_cons, List.take_zero, List.drop_succ_cons, List.drop_zero, List.filterMap_cons, List.filterMap_nil, List.getElem?_cons_succ, List.getElem?_cons_zero]; go_wp2_with fail; refine TextQ.mk ⟨fun h => by simp at h, ?_⟩ rfl
          refine Ord.cut 1 8 rfl rfl rfl rfl (by kernel_rfl) (by kernel_rfl) ?_; simp only [List.take_succ_cons, List.take_zero, List.drop_succ_cons, List.drop_zero, List.filterMap_cons, List.filterMap_nil, List.getElem?_cons_succ, List.getElem?_cons_zero]
          refine wpL_peel rfl rfl ?_
          refine wpL_catS rfl rfl pt ⟨#[120]⟩ _ rfl rfl rfl HCL.out ?_
          refine TextQ.mk ⟨fun h => by simp at h, ?_⟩ rfl
          refine Ord.cut 1 9 rfl rfl rfl rfl (by kernel_rfl) (by kernel_rfl) ?_; simp only [List.take_succ_cons, List.take_zero, List.drop_succ_cons, List.drop_zero, List.filterMap_cons, List.filterMap_nil, List.getElem?_cons_succ, List.getElem?_cons_zero]
          go_wp2_with (go_at_call 29; refine (C1.out _ _).mono ?_; rintro e1 w1 ⟨rfl, ho1⟩)
          refine TextQ.mk ⟨fun _ => ho1, ?_⟩ rfl
          replace hst := hst.keep ho1
          clear ho1
          refine Ord.cut 3 12 rfl rfl rfl rfl (by kernel_rfl) (by kernel_rfl) ?_; simp only [List.take_succ_cons, List.take_zero, List.drop_succ_cons, List.drop_zero, List.filterMap_cons, List.filterMap_nil, List.getElem?_cons_succ, List.getElem?_cons_zero]; go_wp2_with fail; refine TextQ.mk ⟨fun h => by simp at h, ?_⟩ rfl
          refine Ord.cut 1 13 rfl rfl rfl rfl (by kernel_rfl) (by kernel_rfl) ?_; simp only [List.take_succ_cons, List.take_zero, List.drop_succ_cons, List.drop_zero, List.filterMap_cons, List.filterMap_nil, List.getElem?_cons_succ, List.getElem?_cons_zero]
          refine wpL_peel rfl rfl ?_
          refine wpL_loadAtS hst rfl (ty := 50) rfl 2 rfl rfl (by kernel_rfl) 37 (by kernel_rfl) _ (HT.out _) (HL.out _) ?_
          refine TextQ.mk ⟨fun h => by simp at h, ?_⟩ rfl
          refine Ord.cut 3 16 rfl rfl rfl rfl (by kernel_rfl) (by kernel_rfl) ?_; simp only [List.take_succ_cons, List.take_zero, List.drop_succ_cons, List.drop_zero, List.filterMap_cons, List.filterMap_nil, List.getElem?_cons_succ, List.getElem?_cons_zero]; go_wp2_with fail; refine TextQ.mk ⟨fun h => by simp at h, ?_⟩ rfl
          refine Ord.cut 1 17 rfl rfl rfl rfl (by kernel_rfl) (by kernel_rfl) ?_; simp only [List.take_succ_cons, List.take_zero, List.drop_succ_cons, List.drop_zero, List.filterMap_cons, List.filterMap_nil, List.getElem?_cons_succ, List.getElem?_cons_zero]
          go_wp2_with (go_at_call 29; refine (C2.out _ _).mono ?_; rintro e1 w1 ⟨rfl, ho1⟩)
          refine TextQ.mk ⟨fun _ => ho1, ?_⟩ rfl
          replace hst := hst.keep ho1
          clear ho1
          refine Ord.cut 3 20 rfl rfl rfl rfl (by kernel_rfl) (by kernel_rfl) ?_; simp only [List.take_succ_cons, List.take_zero, List.drop_succ_cons, List.drop_zero, List.filterMap_cons, List.filterMap_nil, List.getElem?_cons_succ, List.getElem?_cons_zero]; go_wp2_with fail; refine TextQ.mk ⟨fun h => by simp at h, ?_⟩ rfl
          refine Ord.cut 1 21 rfl rfl rfl rfl (by kernel_rfl) (by kernel_rfl) ?_; simp only [List.take_succ_cons, List.take_zero, List.drop_succ_cons, List.drop_zero, List.filterMap_cons, List.filterMap_nil, List.getElem?_cons_succ, List.getElem?_cons_zero]
          refine wpL_peel rfl rfl ?_
          refine wpL_loadAtS hst rfl (ty := 50) rfl 1 rfl rfl (by kernel_rfl) 37 (by kernel_rfl) _ (HT.out _) (HL.out _) ?_
          refine TextQ.mk ⟨fun h => by simp at h, ?_⟩ rfl
          refine Ord.cut 1 22 rfl rfl rfl rfl (by kernel_rfl) (by kernel_rfl) ?_; simp only [List.take_succ_cons, List.take_zero, List.drop_succ_cons, List.drop_zero, List.filterMap_cons, List.filterMap_nil, List.getElem?_cons_succ, List.getElem?_cons_zero]
          go_wp2_with (go_at_call 23; refine (GD.out _ _ _ _ HNK.out.1).mono ?_; rintro e1 w1 ⟨rfl, ho1⟩)
          refine TextQ.mk ⟨fun _ => ho1, ?_⟩ rfl
          replace hst := hst.keep ho1
          clear ho1
          refine Ord.cut 3 25 rfl rfl rfl rfl (by kernel_rfl) (by kernel_rfl) ?_; simp only [List.take_succ_cons, List.take_zero, List.drop_succ_cons, List.drop_zero, List.filterMap_cons, List.filterMap_nil, List.getElem?_cons_succ, List.getElem?_cons_zero]; go_wp2_with fail; refine TextQ.mk ⟨fun h => by simp at h, ?_⟩ rfl
          refine Ord.cut 1 26 rfl rfl rfl rfl (by kernel_rfl) (by kernel_rfl) ?_; simp only [List.take_succ_cons, List.take_zero, List.drop_succ_cons, List.drop_zero, List.filterMap_cons, List.filterMap_nil, List.getElem?_cons_succ, List.getElem?_cons_zero]
          refine wpL_peel rfl rfl ?_
          refine wpL_loadAtS hst rfl (ty := 50) rfl 0 rfl rfl (by kernel_rfl) 37 (by kernel_rfl) _ (HT.out _) (HL.out _) ?_
          refine TextQ.mk ⟨fun h => by simp at h, ?_⟩ rfl
          refine Ord.cut 1 27 rfl rfl rfl rfl (by kernel_rfl) (by kernel_rfl) ?_; simp only [List.take_succ_cons, List.take_zero, List.drop_succ_cons, List.drop_zero, List.filterMap_cons, List.filterMap_nil, List.getElem?_cons_succ, List.getElem?_cons_zero]
          go_wp2_with (go_at_call 23; refine (GD.out _ _ _ _ HNK.out.2).mono ?_; rintro e1 w1 ⟨rfl, ho1⟩)
          refine TextQ.mk ⟨fun _ => ho1, ?_⟩ rfl
          replace hst := hst.keep ho1
          clear ho1
          refine Ord.cut 3 30 rfl rfl rfl rfl (by kernel_rfl) (by kernel_rfl) ?_; simp only [List.take_succ_cons, List.take_zero, List.drop_succ_cons, List.drop_zero, List.filterMap_cons, List.filterMap_nil, List.getElem?_cons_succ, List.getElem?_cons_zero]; go_wp2_with fail; refine TextQ.mk ⟨fun h => by simp at h, ?_⟩ rfl
          refine Ord.cut 1 31 rfl rfl rfl rfl (by kernel_rfl) (by kernel_rfl) ?_; simp only [List.take_succ_cons, List.take_zero, List.drop_succ_cons, List.drop_zero, List.filterMap_cons, List.filterMap_nil, List.getElem?_cons_succ, List.getElem?_cons_zero]
          refine wpL_peel rfl rfl ?_
          refine wpL_loadAtS hst rfl (ty := 50) rfl 1 rfl rfl (by kernel_rfl) 37 (by kernel_rfl) _ (HT.out _) (HL.out _) ?_
          refine TextQ.mk ⟨fun h => by simp at h, ?_⟩ rfl
          refine Ord.cut 2 33 rfl rfl rfl rfl (by kernel_rfl) (by kernel_rfl) ?_; simp only [List.take_succ_cons, List.take_zero, List.drop_succ_cons, List.drop_zero, List.filterMap_cons, List.filterMap_nil, List.getElem?_cons_succ, List.getElem?_cons_zero]; go_wp2_with fail; refine TextQ.mk ⟨fun h => by simp at h, ?_⟩ rfl
          refine Ord.cut 1 34 rfl rfl rfl rfl (by kernel_rfl) (by kernel_rfl) ?_; simp only [List.take_succ_cons, List.take_zero, List.drop_succ_cons, List.drop_zero, List.filterMap_cons, List.filterMap_nil, List.getElem?_cons_succ, List.getElem?_cons_zero]
          go_wp2_with (go_at_call 29; refine (C3.out _ _ _ _ HNK.out.1).mono ?_; rintro e1 w1 ⟨rfl, ho1⟩)
          refine TextQ.mk ⟨fun _ => ho1, ?_⟩ rfl
          replace hst := hst.keep ho1
          clear ho1
          refine Ord.cut 3 37 rfl rfl rfl rfl (by kernel_rfl) (by kernel_rfl) ?_; simp only [List.take_succ_cons, List.take_zero, List.drop_succ_cons, List.drop_zero, List.filterMap_cons, List.filterMap_nil, List.getElem?_cons_succ, List.getElem?_cons_zero]; go_wp2_with fail; refine TextQ.mk ⟨fun h => by simp at h, ?_⟩ rfl
          refine Ord.done ?_
          go_wp2_with fail
          go_ret
          exact ⟨rfl, hst.only⟩

theorem manCuts_walk (s : ByteArray) (chunk at_ : Int) (r : List UInt8) (w : World) (hr : r.length = 32) :
    Calls Try.prog 7 #[.string s, .int .i64 chunk, .int .i64 at_, .agg (Lib.byteCells r).toArray] w fun e w' => e = .returned (.bool true) ∧ Only [] w w' := manCuts_any s chunk at_ r hr w

end Go.Proofs.Ytgdifegbpbnekaa
