/- The law ManifestChunks, walked. -/
import Derived.Test.YtgdifegbpbnekaaManP
namespace Go.Proofs.Ytgdifegbpbnekaa
open Go.RowKit

theorem dsOf_at (b v z k : Int) (n : Nat) (s : ByteArray) (j i : Nat) (h : i < j) : (dsOf b v z k n s j).getD i [] = Sha.sum (bl (partM b v z k n (i : Int) s)) := by
  simp [dsOf, List.getD_eq_getElem?_getD, h]
theorem part_at {b v k : Int} {n m : Nat} {s : ByteArray} (hcnt : cnt b v (s.size : Int) k n = (n : Int)) (hm : m < n) :
    lenM b v (s.size : Int) k n (m : Int) ≠ 0 ∧ ((partM b v (s.size : Int) k n (m : Int) s).size : Int) = lenM b v (s.size : Int) k n (m : Int) := by
  obtain ⟨hh, _, e1, e2⟩ := cnt_pos (by omega : 0 < cnt b v (s.size : Int) k n)
  have hl := lenM_at (b := b) (v := v) (z := (s.size : Int)) (k := k) (a := (m : Int)) (n := n) (by omega) (by omega)
  have el : lenM b v (s.size : Int) k n (m : Int) = min k ((s.size : Int) - (m : Int) * k) := by
    unfold lenM
    rw [if_pos ⟨by omega, by omega⟩]
  have hk1 : (1 : Int) ≤ k := by unfold HeadOk at hh; omega
  refine ⟨by omega, ?_⟩
  unfold partM
  rw [if_pos ⟨by omega, rfl⟩, ext_size _ _ _ (by omega) (by omega)]
  omega
theorem joinP_all {b v : Int} {k n : Nat} {s : ByteArray} (hcnt : cnt b v (s.size : Int) (k : Int) n = (n : Int)) (h1 : 1 ≤ n) : joinP k s n = s := by
  obtain ⟨hh, _, e1, e2⟩ := cnt_pos (by omega : 0 < cnt b v (s.size : Int) (k : Int) n)
  have hk1 : (1 : Int) ≤ k := by unfold HeadOk at hh; omega
  have h3 := Int.lt_ediv_add_one_mul_self ((s.size : Int) + k - 1) (by omega : (0 : Int) < k)
  rw [Int.add_mul, Int.one_mul] at h3
  rw [← e2, show (n : Int) * (k : Int) = ((n * k : Nat) : Int) by simp] at h3
  unfold joinP
  rw [Nat.min_eq_right (by omega)]
  refine bl_ext ?_
  rw [bl_extract, List.drop_zero]
  exact List.take_of_length_le (by rw [bl_length]; exact Nat.le_refl _)

set_option maxRecDepth 100000 in
set_option maxHeartbeats 16000000 in
theorem manChunks_any (s : ByteArray) (chunk base : Int) (r : List UInt8) (hr : r.length = 32) (w : World) :
    Calls Try.prog 6 #[.string s, .int .i64 chunk, .int .i64 base, .agg (Lib.byteCells r).toArray] w fun e w' => e = .returned (.bool true) ∧ Only [] w w' := by
  have hst := (St.start w []).box (Lib.byteCells r) 48
  have AW := Lib.hid awake20_any
  obtain ⟨i, hi, hi2⟩ := rem_idx chunk 40 (by decide)
  obtain ⟨j, hj, hj2⟩ := rem_idx base 1000 (by decide)
  have hi : (IntKind.u64.wrap chunk).tmod 40 = (i : Int) := hi
  have hj : (IntKind.u64.wrap base).tmod 1000 = (j : Int) := hj
  by_cases h3 : 300 < (s.size : Int)
  · have d3 : decide (300 < (s.size : Int)) = true := decide_eq_true h3
    go_enter Try.func6, Try.ntmps6
    go_wp2_with (first
      | (go_at_call 20; (with_reducible refine (AW.out _).mono ?_); rintro e1 w1 ⟨rfl, ho1⟩; replace hst := hst.keep ho1; clear ho1))
    go_ret
    exact ⟨rfl, hst.only⟩
  have d3 : decide (300 < (s.size : Int)) = false := decide_eq_false h3
  by_cases h4 : (s.size : Int) = 0
  · have d4 : ((s.size : Int) == 0) = true := by rw [h4]; rfl
    clear h4
    go_enter Try.func6, Try.ntmps6
    go_wp2_with (first
      | (go_at_call 20; (with_reducible refine (AW.out _).mono ?_); rintro e1 w1 ⟨rfl, ho1⟩; replace hst := hst.keep ho1; clear ho1))
    go_ret
    exact ⟨rfl, hst.only⟩
  have d4 : ((s.size : Int) == 0) = false := beq_eq_false_iff_ne.2 h4
  by_cases h5 : 64 < ((s.size : Int) + (1 + (i : Int)) - 1) / (1 + (i : Int))
  · have d5 : decide (64 < ((s.size : Int) + (1 + (i : Int)) - 1) / (1 + (i : Int))) = true := decide_eq_true h5
    clear h5
    go_enter Try.func6, Try.ntmps6
    go_wp2_with (first
      | (go_at_call 20; (with_reducible refine (AW.out _).mono ?_); rintro e1 w1 ⟨rfl, ho1⟩; replace hst := hst.keep ho1; clear ho1))
    go_ret
    exact ⟨rfl, hst.only⟩
  have d5 : decide (64 < ((s.size : Int) + (1 + (i : Int)) - 1) / (1 + (i : Int))) = false := decide_eq_false h5
  have hh : HeadOk (1 + (j : Int)) (1 + (j : Int) + 1) (s.size : Int) (1 + (i : Int)) := by unfold HeadOk; omega
  obtain ⟨n, hn⟩ : ∃ n : Nat, nch (1 + (j : Int)) (1 + (j : Int) + 1) (s.size : Int) (1 + (i : Int)) = (n : Int) := ⟨(nch (1 + (j : Int)) (1 + (j : Int) + 1) (s.size : Int) (1 + (i : Int))).toNat, by have := nch_bounds (1 + (j : Int)) (1 + (j : Int) + 1) (s.size : Int) (1 + (i : Int)); omega⟩
  have hRL := digLen r hr
  have HR1 := Lib.hid (digOne r)
  have MK0 := fun w => manMake_yes (1 + (j : Int)) (1 + (j : Int) + 1) (1 + (i : Int)) s r n w hr hh hn
  obtain ⟨RC, eRC⟩ : ∃ RC, RC = Lib.byteCells r := ⟨_, rfl⟩
  rw [← eRC] at hst hRL HR1 MK0 ⊢
  have HR0 : Hid ((RC.drop 0).take 32 = RC) := List.take_of_length_le (by simp [hRL])
  have HRL := Lib.hid hRL
  have MK := Lib.hid MK0
  have HT := Lib.hid (fun V => mfTake (1 + (j : Int)) (1 + (j : Int) + 1) (s.size : Int) (1 + (i : Int)) V RC hRL)
  have HL := Lib.hid (fun V => mfLen (1 + (j : Int)) (1 + (j : Int) + 1) (s.size : Int) (1 + (i : Int)) V RC hRL)
  have GD : Hid (∀ g w, Calls Try.prog 23 #[.agg (Value.int .i64 (1 + (j : Int)) :: .int .i64 (1 + (j : Int) + 1) :: .int .i64 (s.size : Int) :: .int .i64 (1 + (i : Int)) :: .slice (some ⟨g, 0, none⟩) n n :: RC).toArray] w fun e w' => e = .returned (.bool true) ∧ Only [] w w') := fun g w => by
    have := manGood_any (1 + (j : Int)) (1 + (j : Int) + 1) (s.size : Int) (1 + (i : Int)) (some ⟨g, 0, none⟩) n n _ hRL w
    rwa [decide_eq_true (by unfold cnt; rw [hn, if_pos rfl]; have := nch_yes hh; have := div_pos' (s.size : Int) (1 + (i : Int)) (by omega) (by omega); omega)] at this
  have H1L : Hid (∀ g c, (Value.int .i64 (1 + (j : Int)) :: .int .i64 (1 + (j : Int) + 1) :: .int .i64 (s.size : Int) :: .int .i64 (1 + (i : Int)) :: .slice (some ⟨g, 0, none⟩) n c :: RC).all (·.oneCell') = true) := fun g c => by simp only [List.all_cons, HR1.out]; rfl
  have HLL : Hid (∀ g c, (Value.int .i64 (1 + (j : Int)) :: .int .i64 (1 + (j : Int) + 1) :: .int .i64 (s.size : Int) :: .int .i64 (1 + (i : Int)) :: .slice (some ⟨g, 0, none⟩) n c :: RC).length = mfZ.length) := fun g c => by rw [HL.out]; rfl
  have HH := Lib.hid hh
  have HN := Lib.hid hn
  have HR := Lib.hid hr
  have ERC := Lib.hid eRC
  clear MK0 hRL hr hh hn eRC
  go_enter Try.func6, Try.ntmps6
  go_wp2_with (first
    | ((with_reducible refine wpL_peel rfl ?_ ?_); focus (go_simp; done))
    | ((with_reducible refine wpL_isLoad rfl ?_); first | (refine wpL_loadAtS hst rfl (ty := 50) rfl 0 rfl rfl (by kernel_rfl) 37 (by kernel_rfl) _ (HT.out _) (HL.out _) ?_) | (refine wpL_loadAtS hst rfl (ty := 48) rfl 0 rfl rfl (by kernel_rfl) 32 (by kernel_rfl) _ HR0.out HRL.out ?_))
    | ((with_reducible refine wpL_peel rfl ?_ ?_); focus (go_simp; done)) | ((with_reducible refine wpL_isLoad rfl ?_); first | (refine wpL_load1S hst rfl rfl 0 rfl rfl rfl (by kernel_rfl) ?_) | (refine wpL_load1S hst rfl rfl 1 rfl rfl rfl (by kernel_rfl) ?_) | (refine wpL_load1S hst rfl rfl 2 rfl rfl rfl (by kernel_rfl) ?_) | (refine wpL_load1S hst rfl rfl 3 rfl rfl rfl (by kernel_rfl) ?_))
    | ((with_reducible refine wpL_isAlloc rfl ?_); refine wpL_allocS hst rfl 50 rfl (.agg mfZ.toArray) mfZ (by kernel_rfl) rfl 11 rfl ?_; clear hst; intro w1 b1 hb1 hst)
    | ((with_reducible refine wpL_isStore rfl ?_); refine wpL_storeS hst rfl (ty := 50) rfl 0 rfl rfl rfl (by kernel_rfl) (by kernel_rfl) (HLL.out _ _) (H1L.out _ _) ?_; clear hst; intro w1 hst; simp only [List.set] at hst)
    | (go_at_call 20; (with_reducible refine (AW.out _).mono ?_); rintro e1 w1 ⟨rfl, ho1⟩; replace hst := hst.keep ho1; clear ho1)
    | (go_at_call 36; refine (MK.out _).mono ?_; rintro e1 w1 ⟨g, rfl, hg, hB, ho1⟩; replace hst := hst.new ho1 hB hg; clear ho1 hB)
    | (go_at_call 23; (with_reducible refine (GD.out _ _).mono ?_); rintro e1 w1 ⟨rfl, ho1⟩; replace hst := hst.keep ho1; clear ho1))
  go_loopw [13, 14] (fun al x wr => ∃ (m : Nat), m ≤ n ∧ x = .int .i64 (m : Int) ∧ al = .string (joinP (1 + i) s m) ∧ St w [] wr [⟨b1, (.int .i64 (1 + (j : Int)) :: .int .i64 (1 + (j : Int) + 1) :: .int .i64 (s.size : Int) :: .int .i64 (1 + (i : Int)) :: .slice (some ⟨g, 0, none⟩) n n :: RC), 50, true⟩, ⟨g, digCells (dsOf (1 + (j : Int)) (1 + (j : Int) + 1) (s.size : Int) (1 + (i : Int)) n s n), 48, true⟩, ⟨w.heap.size, RC, 48, true⟩]) (fun _ x _ => (n - intOf x).toNat)
  case atStart => exact ⟨0, by omega, rfl, by rw [joinP_0], hst⟩
  case round =>
    obtain ⟨m, hm, rfl, rfl, hst⟩ := hrel
    have hcn : cnt (1 + (j : Int)) (1 + (j : Int) + 1) (s.size : Int) (1 + (i : Int)) n = (n : Int) := by unfold cnt; rw [HN.out, if_pos rfl]
    have hnb := nch_bounds (1 + (j : Int)) (1 + (j : Int) + 1) (s.size : Int) (1 + (i : Int))
    rw [HN.out] at hnb
    have hn1 : 1 ≤ n := by
      have := nch_yes HH.out
      have := div_pos' (s.size : Int) (1 + (i : Int)) (by have := HH.out; unfold HeadOk at this; omega) (by omega)
      have := HN.out
      omega
    have CO : Hid (∀ g w, Calls Try.prog 24 #[.agg (Value.int .i64 (1 + (j : Int)) :: .int .i64 (1 + (j : Int) + 1) :: .int .i64 (s.size : Int) :: .int .i64 (1 + (i : Int)) :: .slice (some ⟨g, 0, none⟩) n n :: RC).toArray] w fun e w' => e = .returned (.int .i64 (n : Int)) ∧ Only [] w w') := fun g w => by
      have := manCount_any (1 + (j : Int)) (1 + (j : Int) + 1) (s.size : Int) (1 + (i : Int)) (some ⟨g, 0, none⟩) n n RC HRL.out w
      rwa [hcn] at this
    have hn64 : n ≤ 64 := by omega
    by_cases hlt : m < n
    · have m1 : (m : Int) < n := by omega
      have dlt : decide ((m : Int) < (n : Int)) = true := decide_eq_true m1
      obtain ⟨hl0, hl1⟩ := part_at hcn hlt
      have hs3 : (s.size : Int) ≤ 300 := by simpa using d3
      have hps := part_size (1 + (j : Int)) (1 + (j : Int) + 1) (s.size : Int) (1 + (i : Int)) n (m : Int) s (by omega)
      have hjs := joinP_step (1 + (j : Int)) (1 + (j : Int) + 1) (1 + i) n m s (by rw [show (((1 + i : Nat)) : Int) = 1 + (i : Int) by omega, hcn]; omega) hlt
      rw [show (((1 + i : Nat)) : Int) = 1 + (i : Int) by omega] at hjs
      have hda := dsOf_at (1 + (j : Int)) (1 + (j : Int) + 1) (s.size : Int) (1 + (i : Int)) n s n m hlt
      obtain ⟨pt, ept⟩ : ∃ pt, pt = partM (1 + (j : Int)) (1 + (j : Int) + 1) (s.size : Int) (1 + (i : Int)) n (m : Int) s := ⟨_, rfl⟩
      rw [← ept] at hl1 hps hjs hda
      have PT : Hid (∀ g w, Calls Try.prog 27 #[.agg (Value.int .i64 (1 + (j : Int)) :: .int .i64 (1 + (j : Int) + 1) :: .int .i64 (s.size : Int) :: .int .i64 (1 + (i : Int)) :: .slice (some ⟨g, 0, none⟩) n n :: RC).toArray, .int .i64 (m : Int), .string s] w fun e w' => e = .returned (.string pt) ∧ Only [] w w') := fun g w => by
        rw [ept]
        exact manPart_any (1 + (j : Int)) (1 + (j : Int) + 1) (s.size : Int) (1 + (i : Int)) (some ⟨g, 0, none⟩) n n RC HRL.out (m : Int) s w
      have CK : Hid (∀ g w, Blk w g (digCells (dsOf (1 + (j : Int)) (1 + (j : Int) + 1) (s.size : Int) (1 + (i : Int)) n s n)) 48 → Calls Try.prog 29 #[.agg (Value.int .i64 (1 + (j : Int)) :: .int .i64 (1 + (j : Int) + 1) :: .int .i64 (s.size : Int) :: .int .i64 (1 + (i : Int)) :: .slice (some ⟨g, 0, none⟩) n n :: RC).toArray, .int .i64 (m : Int), .string pt] w fun e w' => e = .returned (.int .i64 0) ∧ Only [] w w') := fun g w hb =>
        manCheck_ok (1 + (j : Int)) (1 + (j : Int) + 1) (s.size : Int) (1 + (i : Int)) (some ⟨g, 0, none⟩) n n RC _ HRL.out m pt w hl0 hl1 hps (dsOf_wide _ _ _ _ _ _ _) (dsOf_length _ _ _ _ _ _ _) hlt (by omega) (Digs.of_blk hb (dsOf_length _ _ _ _ _ _ _) (Nat.le_refl _)) hda
      have LN : Hid (∀ g w, Calls Try.prog 25 #[.agg (Value.int .i64 (1 + (j : Int)) :: .int .i64 (1 + (j : Int) + 1) :: .int .i64 (s.size : Int) :: .int .i64 (1 + (i : Int)) :: .slice (some ⟨g, 0, none⟩) n n :: RC).toArray, .int .i64 (m : Int)] w fun e w' => e = .returned (.int .i64 (pt.size : Int)) ∧ Only [] w w') := fun g w => by
        rw [hl1]
        exact manLength_any (1 + (j : Int)) (1 + (j : Int) + 1) (s.size : Int) (1 + (i : Int)) (some ⟨g, 0, none⟩) n n RC HRL.out (m : Int) w
      have HJ := Lib.hid hjs
      have HJL : Hid ((joinP (1 + i) s m).size + pt.size ≤ 9223372036854775807) := by
        have : (joinP (1 + i) s m).size ≤ s.size := by unfold joinP; rw [ext_size _ _ _ (Nat.zero_le _) (Nat.min_le_right _ _)]; omega
        show _ ≤ _
        omega
      clear hl0 hl1 hps hjs hda ept hcn hnb hn1
      go_wp2_with (first
        | ((with_reducible refine wpL_peel rfl ?_ ?_); focus (go_simp; done))
        | ((with_reducible refine wpL_isLoad rfl ?_); first | (refine wpL_loadAtS hst rfl (ty := 50) rfl 0 rfl rfl (by kernel_rfl) 37 (by kernel_rfl) _ (HT.out _) (HL.out _) ?_) | (refine wpL_loadAtS hst rfl (ty := 50) rfl 1 rfl rfl (by kernel_rfl) 37 (by kernel_rfl) _ (HT.out _) (HL.out _) ?_) | (refine wpL_loadAtS hst rfl (ty := 50) rfl 2 rfl rfl (by kernel_rfl) 37 (by kernel_rfl) _ (HT.out _) (HL.out _) ?_))
        | ((with_reducible refine wpL_isBin rfl ?_); refine wpL_catS rfl rfl _ _ _ rfl rfl HJ.out HJL.out ?_)
        | (go_at_call 24; (with_reducible refine (CO.out _ _).mono ?_); rintro e1 w1 ⟨rfl, ho1⟩; replace hst := hst.keep ho1; clear ho1)
        | (go_at_call 27; (with_reducible refine (PT.out _ _).mono ?_); rintro e1 w1 ⟨rfl, ho1⟩; replace hst := hst.keep ho1; clear ho1)
        | (go_at_call 29; (with_reducible refine (CK.out _ _ (hst.blk 1 rfl)).mono ?_); rintro e1 w1 ⟨rfl, ho1⟩; replace hst := hst.keep ho1; clear ho1)
        | (go_at_call 25; (with_reducible refine (LN.out _ _).mono ?_); rintro e1 w1 ⟨rfl, ho1⟩; replace hst := hst.keep ho1; clear ho1))
      exact ⟨⟨m + 1, by omega, by go_num, rfl, hst⟩, by simp [intOf]; omega⟩
    · have em : m = n := by omega
      have hlt' : ¬ (m : Int) < n := by omega
      have dlt : decide ((m : Int) < (n : Int)) = false := decide_eq_false hlt'
      have HDS := Lib.hid (dsOf_wide (1 + (j : Int)) (1 + (j : Int) + 1) (s.size : Int) (1 + (i : Int)) n s n)
      have HDL := Lib.hid (dsOf_length (1 + (j : Int)) (1 + (j : Int) + 1) (s.size : Int) (1 + (i : Int)) n s n)
      have hja : joinP (1 + i) s m = s := by
        rw [em]
        exact joinP_all (b := 1 + (j : Int)) (v := 1 + (j : Int) + 1) (by rw [show (((1 + i : Nat)) : Int) = 1 + (i : Int) by omega]; exact hcn) hn1
      have hcp : 0 < cnt (1 + (j : Int)) (1 + (j : Int) + 1) (s.size : Int) (1 + (i : Int)) n := by omega
      obtain ⟨ds, eds⟩ : ∃ ds, ds = dsOf (1 + (j : Int)) (1 + (j : Int) + 1) (s.size : Int) (1 + (i : Int)) n s n := ⟨_, rfl⟩
      rw [← eds] at hst HDS HDL
      obtain ⟨T, eT⟩ : ∃ T : ByteArray, T = ⟨(manB (1 + (j : Int)) (1 + (j : Int) + 1) (s.size : Int) (1 + (i : Int)) ds r).toArray⟩ := ⟨_, rfl⟩
      have BY : Hid (∀ g w, Blk w g (digCells ds) 48 → Calls Try.prog 34 #[.agg (Value.int .i64 (1 + (j : Int)) :: .int .i64 (1 + (j : Int) + 1) :: .int .i64 (s.size : Int) :: .int .i64 (1 + (i : Int)) :: .slice (some ⟨g, 0, none⟩) n n :: RC).toArray] w fun e w' => e = .returned (.tuple #[.string T, .int .i64 0]) ∧ Only [] w w') := fun g w hb => by
        rw [ERC.out, eT]
        exact manBytes_yes (1 + (j : Int)) (1 + (j : Int) + 1) (s.size : Int) (1 + (i : Int)) g 0 n n ds r w HR.out HDS.out HDL.out hcp (Nat.le_refl _) hb.lt (fun j u hu => hb.cell (by rw [Nat.zero_add]; exact hu))
      have PA : Hid (∀ w, Calls Try.prog 39 #[.string T] w fun e w' => ∃ g2 cp rest, e = .returned (.tuple #[.agg (Value.int .i64 (1 + (j : Int)) :: .int .i64 (1 + (j : Int) + 1) :: .int .i64 (s.size : Int) :: .int .i64 (1 + (i : Int)) :: .slice (some ⟨g2, 0, none⟩) n cp :: RC).toArray, .int .i64 0]) ∧ n ≤ cp ∧ w.heap.size ≤ g2 ∧ Blk w' g2 (digCells ds ++ rest) 48 ∧ Only [] w w') := fun w => by
        rw [ERC.out, eT]
        exact manParse_yes (1 + (j : Int)) (1 + (j : Int) + 1) (s.size : Int) (1 + (i : Int)) ds r n w HR.out HDS.out HDL.out hcp
      have DG : Hid (∀ g cp rest w, n ≤ cp → Blk w g (digCells ds ++ rest) 48 → Digs w (.slice (some ⟨g, 0, none⟩) n cp) ds) := fun g cp rest w hc hb => ⟨g, 0, cp, by rw [HDL.out], by rw [HDL.out]; exact hc, hb.lt, fun j u hu => hb.cell (by rw [Nat.zero_add, List.getElem?_append_left (List.getElem?_eq_some_iff.1 hu).1]; exact hu)⟩
      have DG0 : Hid (∀ g w, Blk w g (digCells ds) 48 → Digs w (.slice (some ⟨g, 0, none⟩) n n) ds) := fun g w hb => Digs.of_blk hb HDL.out (Nat.le_refl _)
      have SM : Hid (∀ g g2 cp rest w, n ≤ cp → Blk w g (digCells ds) 48 → Blk w g2 (digCells ds ++ rest) 48 → Calls Try.prog 33 #[.agg (Value.int .i64 (1 + (j : Int)) :: .int .i64 (1 + (j : Int) + 1) :: .int .i64 (s.size : Int) :: .int .i64 (1 + (i : Int)) :: .slice (some ⟨g, 0, none⟩) n n :: RC).toArray, .agg (Value.int .i64 (1 + (j : Int)) :: .int .i64 (1 + (j : Int) + 1) :: .int .i64 (s.size : Int) :: .int .i64 (1 + (i : Int)) :: .slice (some ⟨g2, 0, none⟩) n cp :: RC).toArray] w fun e w' => e = .returned (.bool true) ∧ Only [] w w') := fun g g2 cp rest w hc h1 h2 => by
        rw [ERC.out]
        exact manSame_yes (1 + (j : Int)) (1 + (j : Int) + 1) (s.size : Int) (1 + (i : Int)) _ _ n n cp r ds w HR.out (DG0.out _ _ h1) (DG.out _ _ _ _ hc h2) HDS.out (by rw [HDL.out]; omega)
      have SV : Hid (∀ V1 V2 w, Calls Try.prog 33 #[.agg (Value.int .i64 (1 + (j : Int)) :: .int .i64 (1 + (j : Int) + 1) :: .int .i64 (s.size : Int) :: .int .i64 (1 + (i : Int)) :: V1 :: RC).toArray, .agg (Value.int .i64 (1 + (j : Int)) :: .int .i64 (1 + (j : Int) + 1 + 1) :: .int .i64 (s.size : Int) :: .int .i64 (1 + (i : Int)) :: V2 :: RC).toArray] w fun e w' => e = .returned (.bool false) ∧ Only [] w w') := fun V1 V2 w => manSame_ver (1 + (j : Int)) (1 + (j : Int) + 1) (1 + (j : Int) + 1 + 1) (s.size : Int) (1 + (i : Int)) (s.size : Int) (1 + (i : Int)) V1 V2 RC RC w (by omega)
      have hne : ds ≠ [] := by intro e; have := HDL.out; rw [e] at this; simp at this; omega
      obtain ⟨tr, etr⟩ : ∃ tr, tr = Sha.tree ds := ⟨_, rfl⟩
      have HTR : Hid (tr.length = 32) := by rw [etr]; exact tree_wide _ ds (Nat.le_refl _) HDS.out
      have RT : Hid (∀ g cp rest w, n ≤ cp → Blk w g (digCells ds ++ rest) 48 → Calls Try.prog 31 #[.agg (Value.int .i64 (1 + (j : Int)) :: .int .i64 (1 + (j : Int) + 1) :: .int .i64 (s.size : Int) :: .int .i64 (1 + (i : Int)) :: .slice (some ⟨g, 0, none⟩) n cp :: RC).toArray] w fun e w' => e = .returned (.agg (Lib.byteCells tr).toArray) ∧ Only [] w w') := fun g cp rest w hc hb => by
        rw [etr]
        exact manRoot_any (1 + (j : Int)) (1 + (j : Int) + 1) (s.size : Int) (1 + (i : Int)) _ n cp RC ds w HDS.out (by rw [HDL.out]; omega) hne (DG.out _ _ _ _ hc hb)
      have RT0 : Hid (∀ g w, Blk w g (digCells ds) 48 → Calls Try.prog 31 #[.agg (Value.int .i64 (1 + (j : Int)) :: .int .i64 (1 + (j : Int) + 1) :: .int .i64 (s.size : Int) :: .int .i64 (1 + (i : Int)) :: .slice (some ⟨g, 0, none⟩) n n :: RC).toArray] w fun e w' => e = .returned (.agg (Lib.byteCells tr).toArray) ∧ Only [] w w') := fun g w hb => by
        rw [etr]
        exact manRoot_any (1 + (j : Int)) (1 + (j : Int) + 1) (s.size : Int) (1 + (i : Int)) _ n n RC ds w HDS.out (by rw [HDL.out]; omega) hne (DG0.out _ _ hb)
      have HL2 : Hid (∀ g c, (Value.int .i64 (1 + (j : Int)) :: .int .i64 (1 + (j : Int) + 1 + 1) :: .int .i64 (s.size : Int) :: .int .i64 (1 + (i : Int)) :: .slice (some ⟨g, 0, none⟩) n c :: RC).length = 37) := fun g c => by rw [← HL.out (.slice (some ⟨g, 0, none⟩) n c)]; rfl
      have HT2 : Hid (∀ g c, ((Value.int .i64 (1 + (j : Int)) :: .int .i64 (1 + (j : Int) + 1 + 1) :: .int .i64 (s.size : Int) :: .int .i64 (1 + (i : Int)) :: .slice (some ⟨g, 0, none⟩) n c :: RC).drop 0).take 37 = (Value.int .i64 (1 + (j : Int)) :: .int .i64 (1 + (j : Int) + 1 + 1) :: .int .i64 (s.size : Int) :: .int .i64 (1 + (i : Int)) :: .slice (some ⟨g, 0, none⟩) n c :: RC)) := fun g c => List.take_of_length_le (by rw [List.drop_zero, HL2.out]; exact Nat.le_refl _)
      rw [hja]
      clear hja hcn hnb hn1 hcp em eds eT etr hne hlt DG DG0
      go_wp2_with (first
        | ((with_reducible refine wpL_isLoad rfl ?_); first | (refine wpL_loadAtS hst rfl (ty := 50) rfl 0 rfl rfl (by kernel_rfl) 37 (by kernel_rfl) _ (HT.out _) (HL.out _) ?_) | (refine wpL_loadAtS hst rfl (ty := 50) rfl 1 rfl rfl (by kernel_rfl) 37 (by kernel_rfl) _ (HT.out _) (HL.out _) ?_) | (refine wpL_loadAtS hst rfl (ty := 50) rfl 2 rfl rfl (by kernel_rfl) 37 (by kernel_rfl) _ (HT.out _) (HL.out _) ?_) | (refine wpL_loadAtS hst rfl (ty := 50) rfl 3 rfl rfl (by kernel_rfl) 37 (by kernel_rfl) _ (HT.out _) (HL.out _) ?_))
        | ((with_reducible refine wpL_peel rfl ?_ ?_); focus (go_simp; done)) | ((with_reducible refine wpL_isLoad rfl ?_); first | (refine wpL_load1S hst rfl rfl 0 rfl rfl rfl (by kernel_rfl) ?_) | (refine wpL_load1S hst rfl rfl 1 rfl rfl rfl (by kernel_rfl) ?_) | (refine wpL_load1S hst rfl rfl 2 rfl rfl rfl (by kernel_rfl) ?_) | (refine wpL_load1S hst rfl rfl 3 rfl rfl rfl (by kernel_rfl) ?_))
        | ((with_reducible refine wpL_isAlloc rfl ?_); refine wpL_allocS hst rfl 50 rfl (.agg mfZ.toArray) mfZ (by kernel_rfl) rfl _ rfl ?_; clear hst; intro w1 b2 hb2 hst)
        | ((with_reducible refine wpL_isStore rfl ?_); refine wpL_storeS hst rfl (ty := 50) rfl 0 rfl rfl rfl (by kernel_rfl) (by kernel_rfl) (HLL.out _ _) (H1L.out _ _) ?_; clear hst; intro w1 hst; simp only [List.set] at hst)
        | ((with_reducible refine wpL_isStore rfl ?_); first | (refine wpL_store1S hst rfl rfl 0 rfl rfl rfl rfl (by kernel_rfl) rfl ?_; clear hst; intro w1 hst; simp only [List.set] at hst) | (refine wpL_store1S hst rfl rfl 1 rfl rfl rfl rfl (by kernel_rfl) rfl ?_; clear hst; intro w1 hst; simp only [List.set] at hst) | (refine wpL_store1S hst rfl rfl 2 rfl rfl rfl rfl (by kernel_rfl) rfl ?_; clear hst; intro w1 hst; simp only [List.set] at hst) | (refine wpL_store1S hst rfl rfl 3 rfl rfl rfl rfl (by kernel_rfl) rfl ?_; clear hst; intro w1 hst; simp only [List.set] at hst))
        | (go_at_call 24; (with_reducible refine (CO.out _ _).mono ?_); rintro e1 w1 ⟨rfl, ho1⟩; replace hst := hst.keep ho1; clear ho1)
        | (go_at_call 34; (with_reducible refine (BY.out _ _ (hst.blk 1 rfl)).mono ?_); rintro e1 w1 ⟨rfl, ho1⟩; replace hst := hst.keep ho1; clear ho1)
        | (go_at_call 39; refine (PA.out _).mono ?_; rintro e1 w1 ⟨g2, cp, rest, rfl, hcp, hg2, hB, ho1⟩; replace hst := hst.new ho1 hB hg2; clear ho1 hB; have HC := Lib.hid hcp; clear hcp))
      replace hst := hst.drew
      refine wp_region_ord [14, 19, 24, 26] [0, 1, 2, 3, 4, 5, 6, 7, 8, 9, 10, 11, 12, 13, 14, 15, 16, 17, 18, 19, 20, 21, 22, 23, 25, 24, 26, 27, 28, 29] (by kernel_rfl) (by kernel_rfl) ?_
      generalize World.drew _ = W at *
      refine Ord.cut 12 11 rfl rfl rfl rfl (by kernel_rfl) (by kernel_rfl) ?_; simp only [List.take_succ_cons, List.take_zero, List.drop_succ_cons, List.drop_zero, List.filterMap_cons, List.filterMap_nil, List.getElem?_cons_succ, List.getElem?_cons_zero]; go_wp2_with fail; refine TextQ.mk ⟨fun h => by simp at h, ?_⟩ rfl
      refine Ord.cut 1 12 rfl rfl rfl rfl (by kernel_rfl) (by kernel_rfl) ?_; simp only [List.take_succ_cons, List.take_zero, List.drop_succ_cons, List.drop_zero, List.filterMap_cons, List.filterMap_nil, List.getElem?_cons_succ, List.getElem?_cons_zero]
      refine wpL_peel rfl rfl ?_
      refine wpL_loadAtS hst rfl (ty := 50) rfl 3 rfl rfl (by kernel_rfl) 37 (by kernel_rfl) _ (HT.out _) (HL.out _) ?_
      refine TextQ.mk ⟨fun h => by simp at h, ?_⟩ rfl
      refine Ord.cut 1 13 rfl rfl rfl rfl (by kernel_rfl) (by kernel_rfl) ?_; simp only [List.take_succ_cons, List.take_zero, List.drop_succ_cons, List.drop_zero, List.filterMap_cons, List.filterMap_nil, List.getElem?_cons_succ, List.getElem?_cons_zero]
      refine wpL_peel rfl rfl ?_
      refine wpL_loadAtS hst rfl (ty := 50) rfl 1 rfl rfl (by kernel_rfl) 37 (by kernel_rfl) _ (HT.out _) (HL.out _) ?_
      refine TextQ.mk ⟨fun h => by simp at h, ?_⟩ rfl
      refine Ord.cut 1 14 rfl rfl rfl rfl (by kernel_rfl) (by kernel_rfl) ?_; simp only [List.take_succ_cons, List.take_zero, List.drop_succ_cons, List.drop_zero, List.filterMap_cons, List.filterMap_nil, List.getElem?_cons_succ, List.getElem?_cons_zero]
      go_wp2_with (go_at_call 33; refine (SM.out _ _ _ _ _ HC.out (hst.blk 4 rfl) (hst.blk 2 rfl)).mono ?_; rintro e1 w1 ⟨rfl, ho1⟩)
      refine TextQ.mk ⟨fun _ => ho1, ?_⟩ rfl
      replace hst := hst.keep ho1
      clear ho1
      refine Ord.cut 2 16 rfl rfl rfl rfl (by kernel_rfl) (by kernel_rfl) ?_; simp only [List.take_succ_cons, List.take_zero, List.drop_succ_cons, List.drop_zero, List.filterMap_cons, List.filterMap_nil, List.getElem?_cons_succ, List.getElem?_cons_zero]; go_wp2_with fail; refine TextQ.mk ⟨fun h => by simp at h, ?_⟩ rfl
      refine Ord.cut 1 17 rfl rfl rfl rfl (by kernel_rfl) (by kernel_rfl) ?_; simp only [List.take_succ_cons, List.take_zero, List.drop_succ_cons, List.drop_zero, List.filterMap_cons, List.filterMap_nil, List.getElem?_cons_succ, List.getElem?_cons_zero]
      refine wpL_peel rfl rfl ?_
      refine wpL_loadAtS hst rfl (ty := 50) rfl 3 rfl rfl (by kernel_rfl) 37 (by kernel_rfl) _ (HT.out _) (HL.out _) ?_
      refine TextQ.mk ⟨fun h => by simp at h, ?_⟩ rfl
      refine Ord.cut 1 18 rfl rfl rfl rfl (by kernel_rfl) (by kernel_rfl) ?_; simp only [List.take_succ_cons, List.take_zero, List.drop_succ_cons, List.drop_zero, List.filterMap_cons, List.filterMap_nil, List.getElem?_cons_succ, List.getElem?_cons_zero]
      refine wpL_peel rfl rfl ?_
      refine wpL_loadAtS hst rfl (ty := 50) rfl 0 rfl rfl (by kernel_rfl) 37 (by kernel_rfl) _ (HT2.out _ _) (HL2.out _ _) ?_
      refine TextQ.mk ⟨fun h => by simp at h, ?_⟩ rfl
      refine Ord.cut 1 19 rfl rfl rfl rfl (by kernel_rfl) (by kernel_rfl) ?_; simp only [List.take_succ_cons, List.take_zero, List.drop_succ_cons, List.drop_zero, List.filterMap_cons, List.filterMap_nil, List.getElem?_cons_succ, List.getElem?_cons_zero]
      go_wp2_with (go_at_call 33; refine (SV.out _ _ _).mono ?_; rintro e1 w1 ⟨rfl, ho1⟩)
      refine TextQ.mk ⟨fun _ => ho1, ?_⟩ rfl
      replace hst := hst.keep ho1
      clear ho1
      refine Ord.cut 3 22 rfl rfl rfl rfl (by kernel_rfl) (by kernel_rfl) ?_; simp only [List.take_succ_cons, List.take_zero, List.drop_succ_cons, List.drop_zero, List.filterMap_cons, List.filterMap_nil, List.getElem?_cons_succ, List.getElem?_cons_zero]; go_wp2_with fail; refine TextQ.mk ⟨fun h => by simp at h, ?_⟩ rfl
      refine Ord.cut 1 23 rfl rfl rfl rfl (by kernel_rfl) (by kernel_rfl) ?_; simp only [List.take_succ_cons, List.take_zero, List.drop_succ_cons, List.drop_zero, List.filterMap_cons, List.filterMap_nil, List.getElem?_cons_succ, List.getElem?_cons_zero]
      refine wpL_peel rfl rfl ?_
      refine wpL_loadAtS hst rfl (ty := 50) rfl 1 rfl rfl (by kernel_rfl) 37 (by kernel_rfl) _ (HT.out _) (HL.out _) ?_
      refine TextQ.mk ⟨fun h => by simp at h, ?_⟩ rfl
      refine Ord.cut 1 25 rfl rfl rfl rfl (by kernel_rfl) (by kernel_rfl) ?_; simp only [List.take_succ_cons, List.take_zero, List.drop_succ_cons, List.drop_zero, List.filterMap_cons, List.filterMap_nil, List.getElem?_cons_succ, List.getElem?_cons_zero]
      refine wpL_peel rfl rfl ?_
      refine wpL_loadAtS hst rfl (ty := 50) rfl 3 rfl rfl (by kernel_rfl) 37 (by kernel_rfl) _ (HT.out _) (HL.out _) ?_
      refine TextQ.mk ⟨fun h => by simp at h, ?_⟩ rfl
      refine Ord.cut 1 24 rfl rfl rfl rfl (by kernel_rfl) (by kernel_rfl) ?_; simp only [List.take_succ_cons, List.take_zero, List.drop_succ_cons, List.drop_zero, List.filterMap_cons, List.filterMap_nil, List.getElem?_cons_succ, List.getElem?_cons_zero]
      go_wp2_with (go_at_call 31; refine (RT.out _ _ _ _ HC.out (hst.blk 2 rfl)).mono ?_; rintro e1 w1 ⟨rfl, ho1⟩)
      refine TextQ.mk ⟨fun _ => ho1, ?_⟩ rfl
      replace hst := hst.keep ho1
      clear ho1
      refine Ord.cut 1 26 rfl rfl rfl rfl (by kernel_rfl) (by kernel_rfl) ?_; simp only [List.take_succ_cons, List.take_zero, List.drop_succ_cons, List.drop_zero, List.filterMap_cons, List.filterMap_nil, List.getElem?_cons_succ, List.getElem?_cons_zero]
      go_wp2_with (go_at_call 31; refine (RT0.out _ _ (hst.blk 4 rfl)).mono ?_; rintro e1 w1 ⟨rfl, ho1⟩)
      refine TextQ.mk ⟨fun _ => ho1, ?_⟩ rfl
      replace hst := hst.keep ho1
      clear ho1
      refine Ord.cut 1 27 rfl rfl rfl rfl (by kernel_rfl) (by kernel_rfl) ?_; simp only [List.take_succ_cons, List.take_zero, List.drop_succ_cons, List.drop_zero, List.filterMap_cons, List.filterMap_nil, List.getElem?_cons_succ, List.getElem?_cons_zero]
      refine wpL_peel rfl rfl ?_
      refine wpL_eql_bytes rfl 48 _ _ _ rfl 5 32 Try.underlying48 Try.underlying5 (by kernel_rfl) (by kernel_rfl) tr tr rfl rfl HTR.out HTR.out true (by simp) ?_
      refine TextQ.mk ⟨fun h => by simp at h, ?_⟩ ?_
      case refine_2 => repeat' (first | exact rfl | exact fine_bytes rfl rfl rfl | refine fine_cons ?_ ?_)
      refine Ord.cut 2 29 rfl rfl rfl rfl (by kernel_rfl) (by kernel_rfl) ?_; simp only [List.take_succ_cons, List.take_zero, List.drop_succ_cons, List.drop_zero, List.filterMap_cons, List.filterMap_nil, List.getElem?_cons_succ, List.getElem?_cons_zero]; go_wp2_with fail; refine TextQ.mk ⟨fun h => by simp at h, ?_⟩ rfl
      refine Ord.done ?_
      go_wp2_with fail
      go_ret
      exact ⟨rfl, hst.only⟩

theorem manChunks_walk (s : ByteArray) (chunk base : Int) (r : List UInt8) (w : World) (hr : r.length = 32) :
    Calls Try.prog 6 #[.string s, .int .i64 chunk, .int .i64 base, .agg (Lib.byteCells r).toArray] w fun e w' => e = .returned (.bool true) ∧ Only [] w w' := manChunks_any s chunk base r hr w

end Go.Proofs.Ytgdifegbpbnekaa
