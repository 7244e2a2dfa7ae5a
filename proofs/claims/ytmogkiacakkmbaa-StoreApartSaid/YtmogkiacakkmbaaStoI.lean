/- The law StoreApart, walked. Printed by mksto.py. -/
import Derived.Test.YtmogkiacakkmbaaStoG
import Derived.Test.YtmogkiacakkmbaaStoR
import Derived.Test.YtmogkiacakkmbaaSlotC
namespace Go.Proofs.Ytmogkiacakkmbaa
open Go.RowKit

theorem layBuilt (r s c : Int) : Try.prog.built 84 [(0, .int .i64 r), (1, .int .i64 s), (2, .int .i64 c)] = some ([Value.int .i64 r, .int .i64 s, .int .i64 c]).toArray := by kernel_rfl
theorem strs_sliceP {w : World} {V : Value} {l : List ByteArray} (h : Strs w V l) : ∃ ad cp, V = .slice ad l.length cp := by
  rcases h with ⟨⟨a, c, rfl⟩, rfl⟩ | ⟨bk, o, c, rfl, _⟩
  · exact ⟨a, c, rfl⟩
  · exact ⟨_, _, rfl⟩
theorem cellP {w w' : World} {b k : Nat} {u : Value} (h : w.cell? ⟨b, k, none⟩ = some u) (ho : Only [] w w') : w'.cell? ⟨b, k, none⟩ = some u := by
  have hlt : b < w.heap.size := by
    rcases Nat.lt_or_ge b w.heap.size with hl | hl
    · exact hl
    · simp [World.cell?, Array.getElem?_eq_none hl] at h
  rw [ho.cellAt _ _ hlt (by simp)]
  exact h
theorem strs_atP {w : World} {ad : Option Addr} {cp : Nat} {l : List ByteArray} (h : Strs w (.slice ad l.length cp) l) (j : Nat) (hj : j < l.length) : ∃ bk o, ad = some ⟨bk, o, none⟩ ∧ ∀ wr, Only [] w wr → wr.cell? ⟨bk, o + j, none⟩ = some (.string (l.getD j ⟨#[]⟩)) := by
  rcases h with ⟨_, e⟩ | ⟨bk, o, c, hv, h1, h2, h3⟩
  · rw [e] at hj; simp at hj
  · injection hv with e1 e2 e3
    exact ⟨bk, o, e1, fun wr ho => cellP (h1 j _ (by rw [List.getD_eq_getElem?_getD, List.getElem?_eq_getElem hj]; rfl)) ho⟩
/-- What the law's loop hands on. -/
def ApI (m : DM) (n j : Nat) (tx : ByteArray) (g : Int) (κ : Nat) (hv : List ByteArray) : Prop := ApT m n tx g κ hv ∧ m.loose.length ≤ 40 * j ∧ 1 ≤ g ∧ g ≤ 1 + (j : Int)
theorem stR_few (m : DM) (R Z C N : Nat) (s : ByteArray) (h : (stR m R Z C N s).2 = 0) (ho : On (stP m R Z C N s).1) : (stR m R Z C N s).1.loose = [] := by
  unfold stR at h ⊢
  split
  · rename_i h1
    rw [if_pos h1] at h
    exact absurd h h1
  · split
    · rename_i h1 h2
      rw [if_neg h1, if_pos h2] at h
      exact absurd h h2
    · split
      · rename_i h1 h2 h3
        rw [if_neg h1, if_neg h2, if_pos h3] at h
        exact absurd h h3
      · exact (sync_free ho).2.1.lo

set_option maxRecDepth 100000 in
set_option maxHeartbeats 32000000 in
theorem storeApart_walk (V : Value) (l : List ByteArray) (ch : Int) (w : World) (hV : Strs w V l) :
    Calls Try.prog 11 #[V, .int .i64 ch] w fun e w' => e = .returned (.bool true) ∧ Only [] w w' := by
  have hst := Sd.start w []
  have AW := Lib.hid awake10_any
  obtain ⟨ad, cp, rfl⟩ := strs_sliceP hV
  have HV := Lib.hid hV
  obtain ⟨i, hi, hi2⟩ := rem_idx ch 5 (by decide)
  have hi : (IntKind.u64.wrap ch).tmod 5 = (i : Int) := hi
  obtain ⟨n, hn⟩ : ∃ n : Nat, 1 + (i : Int) = (n : Int) := ⟨1 + i, by omega⟩
  have h1 : 1 ≤ n := by omega
  have h5 : n ≤ 5 := by omega
  have hn5 : (n : Int) ≤ 5 := by omega
  have hi4 : (i : Int) ≤ 4 := by omega
  have hg := good620 n h1 h5
  have hN := need620 n
  obtain ⟨a1, a2⟩ := ApT.start n h1 h5
  have hfl : (DM.fresh (11 + n * 4)).len = 11 + n * 4 := by unfold DM.len DM.fresh; exact List.length_replicate
  have e20 : n * secsOf 20 = n * 2 := by rw [show secsOf 20 = 2 from by decide]
  have s20 : ((secsOf 20 : Nat) : Int) = 2 := by decide
  have ND : Hid (∀ w, Calls Try.prog 53 #[.agg #[.int .i64 6, .int .i64 20, .int .i64 (n : Int)]] w fun e w' => e = .returned (.int .i64 ((8 + n * 4 : Nat) : Int)) ∧ Only [] w w') := fun w => by
    have := storeNeed_any (6 : Nat) (20 : Nat) n w
    rw [hg.need, hN] at this
    exact this
  obtain ⟨N, eN⟩ : ∃ N, N = 8 + n * 4 := ⟨_, rfl⟩
  have hN3 : (N : Int) + 3 = ((11 + n * 4 : Nat) : Int) := by omega
  have DN : Hid (∀ w, Calls Try.prog 14 #[.int .i64 ((N : Int) + 3)] w fun e w' => ∃ d F, e = .returned (.pointer (some ⟨d, 0, none⟩)) ∧ DiskAt w' d (DM.fresh (11 + n * 4)) F ∧ Only [] w w' ∧ (∀ b ∈ F, w.heap.size ≤ b)) := fun w => by
    rw [hN3]
    exact dskNew_any (11 + n * 4) w (by omega)
  obtain ⟨M0, eM0⟩ : ∃ M0, M0 = (stR (DM.fresh (11 + n * 4)) 6 20 n (8 + n * 4) ⟨#[]⟩).1 := ⟨_, rfl⟩
  have FM : Hid (∀ d F w, DiskAt w d (DM.fresh (11 + n * 4)) F → Calls Try.prog 54 #[.pointer (some ⟨d, 0, none⟩), .agg #[.int .i64 6, .int .i64 20, .int .i64 (n : Int)], .string ⟨#[]⟩] w fun e w' => ∃ t zr p z0 a0 z1 a1 F', e = .returned (.tuple #[.pointer (some ⟨p, 0, none⟩), .int .i64 0]) ∧ (storeR d M0 F' 6 20 n (n * 2) ⟨#[]⟩ 1 0 false t zr p z0 a0 z1 a1).p w' ∧ Turn F (storeR d M0 F' 6 20 n (n * 2) ⟨#[]⟩ 1 0 false t zr p z0 a0 z1 a1).F w w') := fun d F w h => by
    have := storeFormat_yes d 6 20 n (DM.fresh (11 + n * 4)) F ⟨#[]⟩ w h hg (by rw [hN, hfl]; omega) (Nat.zero_le _) (by decide) (by rw [hN]; exact a1)
    rw [hN, ← eM0, e20] at this
    exact this
  have hM0 : M0.loose = [] := by
    rw [eM0]
    refine stR_few _ _ _ _ _ _ a1 ?_
    have on0 := (Rest.fresh (11 + n * 4) (by omega)).on
    obtain ⟨b1, b2, b3, b4⟩ := fill_free on0 0 (8 + n * 4) (by rw [hfl]; omega)
    change On (stA (DM.fresh (11 + n * 4)) (8 + n * 4)).1 at b2
    change (stA (DM.fresh (11 + n * 4)) (8 + n * 4)).1.len = _ at b3
    obtain ⟨c1, c2, c3, c4⟩ := fmt_free b2 2 6 ⟨#[]⟩ (by rw [b3, hfl]; omega) (by decide) (by decide)
    exact (put_free c2.on 0 (8 + n * 4) 0 1 (superB 6 20 n) (by rw [c3, b3, hfl]; omega) (superLay 6 20 n) (by rw [superSecs]; omega)).2.1
  have HI0 : Hid (ApI M0 n 0 ⟨#[]⟩ 1 0 (List.replicate 10 ⟨#[]⟩)) := ⟨by rw [eM0]; exact a2, by rw [hM0]; exact Nat.zero_le _, by decide, by decide⟩
  have PTG : Hid (∀ (k : Nat) a z d m F w (p : Nat) (x : ByteArray), k < 2 → Blk w a (slcells z 20) 80 → Blk w z (zcells d (slotAt n k) (n * 2)) 34 → DiskAt w d m F → a ≠ z → a ∉ F → z ∉ F → m.loose.length ≤ 700000 → p < n → x.size ≤ 20 → 0 < m.len → (putR m (slotAt n k) (n * 2) ((p : Int) * 2) 7 x).2 = 0 → Calls Try.prog 46 #[.pointer (some ⟨a, 0, none⟩), .int .i64 (p : Int), .int .i64 7, .string x] w fun e w' => ∃ F', e = .returned (.int .i64 0) ∧ DiskAt w' d (putR m (slotAt n k) (n * 2) ((p : Int) * 2) 7 x).1 F' ∧ Turn F F' w w') := fun k a z d m F w p x hk h1' h2' h3' h4' h5' h6' h7' h8' h9' h10' h11' => by
    have hcn : p < chunksN (n * 2) 20 := by unfold chunksN; rw [show secsOf 20 = 2 from by decide]; omega
    have := slotPut_yes a z d (slotAt n k) (n * 2) 20 m F w h1' h2' h3' h4' h5' h6' (by unfold slotAt; rcases (by omega : k = 0 ∨ k = 1) with e | e <;> subst e <;> omega) (by omega) (by decide) (by decide) h7' p hcn 7 x h9' h10'
    rw [s20, h11'] at this
    exact this
  have GTG : Hid (∀ (k : Nat) a z d m F w (p : Nat), k < 2 → Blk w a (slcells z 20) 80 → Blk w z (zcells d (slotAt n k) (n * 2)) 34 → DiskAt w d m F → a ≠ z → a ∉ F → z ∉ F → m.loose.length ≤ 700000 → p < n → Calls Try.prog 51 #[.pointer (some ⟨a, 0, none⟩), .int .i64 (p : Int)] w fun e w' => e = .returned (.tuple #[.string (slotG 20 (getR m (slotAt n k) (n * 2) ((p : Int) * 2))).1, .int .i64 (slotG 20 (getR m (slotAt n k) (n * 2) ((p : Int) * 2))).2.1, .int .i64 (slotG 20 (getR m (slotAt n k) (n * 2) ((p : Int) * 2))).2.2]) ∧ Only [] w w') := fun k a z d m F w p hk h1' h2' h3' h4' h5' h6' h7' h8' => by
    have hcn : p < chunksN (n * 2) 20 := by unfold chunksN; rw [show secsOf 20 = 2 from by decide]; omega
    have := slotGet_yes a z d (slotAt n k) (n * 2) 20 m F w h1' h2' h3' h4' h5' h6' (by unfold slotAt; rcases (by omega : k = 0 ∨ k = 1) with e | e <;> subst e <;> omega) (by omega) (by decide) (by decide) h7' p hcn
    rw [s20] at this
    exact this
  have SL0 : Hid (∀ s t a0 a1 w, Blk w s (stcells t 6 20 n (.pointer (some ⟨a0, 0, none⟩)) (.pointer (some ⟨a1, 0, none⟩))) 91 → Calls Try.prog 58 #[.pointer (some ⟨s, 0, none⟩), .int .i64 0] w fun e w' => e = .returned (.pointer (some ⟨a0, 0, none⟩)) ∧ w = w') := fun s t a0 a1 w h => storeSlot0 s t 6 20 n _ _ w h
  have SL1 : Hid (∀ s t a0 a1 w, Blk w s (stcells t 6 20 n (.pointer (some ⟨a0, 0, none⟩)) (.pointer (some ⟨a1, 0, none⟩))) 91 → Calls Try.prog 58 #[.pointer (some ⟨s, 0, none⟩), .int .i64 1] w fun e w' => e = .returned (.pointer (some ⟨a1, 0, none⟩)) ∧ w = w') := fun s t a0 a1 w h => storeSlot1 s t 6 20 n _ _ w h
  have LY : Hid (∀ s t a0 a1 w, Blk w s (stcells t 6 20 n (.pointer (some ⟨a0, 0, none⟩)) (.pointer (some ⟨a1, 0, none⟩))) 91 → Calls Try.prog 57 #[.pointer (some ⟨s, 0, none⟩)] w fun e w' => e = .returned (.agg #[.int .i64 6, .int .i64 20, .int .i64 (n : Int)]) ∧ Only [] w w') := fun s t a0 a1 w h => storeLayout_any s t 6 20 n _ _ w h
  have TX : Hid (∀ t z tx g k w, Blk w t (tcells z tx g k false) 98 → Calls Try.prog 35 #[.pointer (some ⟨t, 0, none⟩)] w fun e w' => e = .returned (.string tx) ∧ w = w') := fun t z tx g k w h => twinText_any t z _ _ _ _ w h
  have SVG : Hid (∀ (m : DM) (κ : Nat) (tx x : ByteArray) (g : Int) t z d F w, (pairR t (tcells z tx g (κ : Int) false) 98 (diskR d m F)).p w → Blk w z (zcells d 2 6) 34 → t ≠ z → z ∉ F → 8 ≤ m.len → m.loose.length ≤ 700000 → κ ≤ 1 → 1 ≤ g → g < 2147483647 → x.size ≤ 20 → (layR m (2 + (1 - κ) * 3) 3 g x).2 = 0 → Calls Try.prog 38 #[.pointer (some ⟨t, 0, none⟩), .string x] w fun e w' => ∃ F', e = .returned (.int .i64 0) ∧ (pairR t (tcells z x (g + 1) ((1 - κ : Nat) : Int) false) 98 (diskR d (layR m (2 + (1 - κ) * 3) 3 g x).1 F')).p w' ∧ Turn (t :: F) (t :: F') w w') := fun m κ tx x g t z d F w h1' h2' h3' h4' h5' h6' h7' h8' h9' h10' h11' =>
    twinSave_yes t z d 2 6 m F tx g x w κ h1' h2' h3' h4' (by decide) (by decide) (by decide) (by omega) h6' h7' (by omega) h9' (fits_iff.2 ⟨by omega, by rw [secsOf_short h10']; decide⟩) h11'
  obtain ⟨D0, eD0⟩ : ∃ D0, D0 = DM.fresh (11 + n * 4) := ⟨_, rfl⟩
  rw [← eN] at ND
  rw [← eD0] at DN FM
  have hNi : (N : Int) ≤ 4096 := by omega
  have n0 : ((n : Int) == 0) = false := beq_eq_false_iff_ne.2 (by omega)
  have H1 := Lib.hid h1
  have H5 := Lib.hid h5
  clear hV hi2 hg hN a1 a2 hfl e20 s20 eN hN3 eM0 hM0 eD0 h1 h5
  go_enter Try.func11, Try.ntmps11
  go_wp2_with (first
    | ((with_reducible refine wpL_skipS rfl ?_ ?_); focus (go_simp; done)) | ((with_reducible refine wpL_peel rfl ?_ ?_); focus (go_simp; done)) | (go_at_call 52; (with_reducible refine (AW.out _).mono ?_); rintro e1 w1 ⟨rfl, ho1⟩; replace hst := hst.keep ho1; clear ho1) | ((with_reducible refine wpL_isBuildD rfl ?_); refine wpL_build3 rfl 84 rfl rfl rfl rfl _ (layBuilt _ _ _) ?_) | ((with_reducible refine wpL_isAlloc rfl ?_); refine wpL_allocD hst rfl 84 rfl (.agg #[.int .i64 0, .int .i64 0, .int .i64 0]) [.int .i64 0, .int .i64 0, .int .i64 0] (by kernel_rfl) rfl _ rfl ?_; clear hst; intro w1 b1 hb1 hst) | ((with_reducible refine wpL_isAlloc rfl ?_); refine wpL_allocD hst rfl 95 rfl (.agg #[.string ⟨#[]⟩, .string ⟨#[]⟩, .string ⟨#[]⟩, .string ⟨#[]⟩, .string ⟨#[]⟩, .string ⟨#[]⟩, .string ⟨#[]⟩, .string ⟨#[]⟩, .string ⟨#[]⟩, .string ⟨#[]⟩]) [.string ⟨#[]⟩, .string ⟨#[]⟩, .string ⟨#[]⟩, .string ⟨#[]⟩, .string ⟨#[]⟩, .string ⟨#[]⟩, .string ⟨#[]⟩, .string ⟨#[]⟩, .string ⟨#[]⟩, .string ⟨#[]⟩] (by kernel_rfl) rfl _ rfl ?_; clear hst; intro w1 bh hbh hst) | ((with_reducible refine wpL_isStore rfl ?_); first | (refine wpL_storeD hst rfl (ty := 84) rfl 0 rfl rfl rfl (by kernel_rfl) (by kernel_rfl) rfl rfl ?_; clear hst; intro w1 hst; simp only [List.set] at hst) | (refine wpL_storeD hst rfl (ty := 95) rfl 0 rfl rfl rfl (by kernel_rfl) (by kernel_rfl) rfl rfl ?_; clear hst; intro w1 hst; simp only [List.set] at hst) | (refine wpL_store1D hst rfl rfl 0 rfl rfl rfl rfl (by kernel_rfl) rfl ?_; clear hst; intro w1 hst; simp only [List.set] at hst)) | ((with_reducible refine wpL_isLoad rfl ?_); refine wpL_loadAtS hst.st rfl (ty := 84) rfl 0 rfl rfl (by kernel_rfl) 3 (by kernel_rfl) [_, _, _] rfl rfl ?_) | (go_at_call 53; (with_reducible refine (ND.out _).mono ?_); rintro e1 w1 ⟨rfl, ho1⟩; replace hst := hst.keep ho1; clear ho1) | (go_at_call 14; (with_reducible refine (DN.out _).mono ?_); rintro e1 w1 ⟨d, F, rfl, hd1, ho1, hg1⟩; replace hst := hst.add ho1 (r := diskR d _ F) hd1 hg1; clear hd1 ho1 hg1) | (go_at_call 54; (with_reducible refine (FM.out _ _ _ (hst.rs 0 rfl)).mono ?_); rintro e1 w1 ⟨t, zr, p, z0, a0, z1, a1, F1, rfl, hp1, hT1⟩; replace hst := hst.act 0 rfl (storeR _ _ F1 _ _ _ _ _ _ _ _ t zr p z0 a0 z1 a1) rfl hT1 hp1; clear hp1 hT1; simp only [List.set] at hst; unfold storeR at hst; replace hst := hst.split.split.split.split.split.split.split))
  replace hst := (hst.front 2 rfl)
  simp only [List.eraseIdx] at hst
  replace hst := (hst.front 2 rfl)
  simp only [List.eraseIdx] at hst
  replace hst := (hst.front 4 rfl)
  simp only [List.eraseIdx] at hst
  replace hst := (hst.front 4 rfl)
  simp only [List.eraseIdx] at hst
  replace hst := (hst.front 5 rfl)
  simp only [List.eraseIdx] at hst
  replace hst := (hst.front 7 rfl)
  simp only [List.eraseIdx] at hst
  replace hst := (hst.front 7 rfl)
  simp only [List.eraseIdx] at hst
  obtain ⟨lb, rfl⟩ : ∃ x : Nat, x = b1 := ⟨_, rfl⟩
  go_loopw [12, 10] (fun i rec wr => ∃ (j : Nat) (m : DM) (F1 : List Nat) (tx : ByteArray) (g : Int) (κ : Nat) (hv : List ByteArray), j ≤ l.length ∧ j ≤ 20 ∧ i = .int .i64 (j : Int) ∧ rec = .string tx ∧ Hid (ApI m n j tx g κ hv) ∧ Sd w [] wr [⟨t, tcells zr tx g (κ : Int) false, 98, true⟩, ⟨zr, zcells d 2 6, 34, true⟩, ⟨p, stcells t 6 20 n (.pointer (some ⟨a0, 0, none⟩)) (.pointer (some ⟨a1, 0, none⟩)), 91, true⟩, ⟨a0, slcells z0 20, 80, true⟩, ⟨z0, zcells d (2 + 6) (n * 2), 34, true⟩, ⟨a1, slcells z1 20, 80, true⟩, ⟨z1, zcells d (2 + 6 + n * 2) (n * 2), 34, true⟩, ⟨bh, hv.map Value.string, 95, true⟩, ⟨lb, [.int .i64 6, .int .i64 20, .int .i64 (n : Int)], 84, true⟩] [diskR d m F1])
    (fun i _ _ => (20 - intOf i).toNat)
  case atStart => exact ⟨0, M0, F1, ⟨#[]⟩, 1, 0, List.replicate 10 ⟨#[]⟩, by omega, by omega, rfl, rfl, HI0, hst⟩
  case round =>
    clear hst HI0 FM DN ND
    obtain ⟨j, m, F1, tx, g, κ, hv, hj, hj20, rfl, rfl, HI, hst⟩ := hrel
    have sA0 : slotAt n 0 = 2 + 6 := by unfold slotAt; omega
    have sA1 : slotAt n 1 = 2 + 6 + n * 2 := by unfold slotAt; omega
    by_cases hcont : j < l.length ∧ j < 20
    · as_aux_lemma =>
      obtain ⟨hlt, hlt3⟩ := hcont
      have j1 : (j : Int) < l.length := by omega
      have j3 : (j : Int) < 20 := by omega
      have HJ : Hid (j + 1 ≤ l.length ∧ j + 1 ≤ 20) := ⟨hlt, hlt3⟩
      obtain ⟨bk, o, rfl, hcl⟩ := strs_atP HV.out j hlt
      have HC := Lib.hid hcl
      clear hcl
      generalize l.getD j ⟨#[]⟩ = x at *
      by_cases x1 : 20 < (x.size : Int)
      · have e1 : decide (20 < (x.size : Int)) = true := decide_eq_true x1
        clear x1 HI sA0 sA1
        go_wp2_with (first | ((with_reducible refine wpL_skipS rfl ?_ ?_); focus (go_simp; done)) | ((with_reducible refine wpL_peel rfl ?_ ?_); focus (go_simp; done)) | ((with_reducible refine wpL_isLoad rfl ?_); refine wpL_load1C rfl rfl rfl (HC.out _ hst.only) (by kernel_rfl) ?_))
        go_ret
        exact ⟨rfl, hst.only⟩
      have e1 : decide (20 < (x.size : Int)) = false := decide_eq_false x1
      by_cases x2 : (x.size : Int) = 0
      · have e2 : ((x.size : Int) == 0) = true := by rw [x2]; rfl
        clear x1 x2 HI sA0 sA1
        go_wp2_with (first | ((with_reducible refine wpL_skipS rfl ?_ ?_); focus (go_simp; done)) | ((with_reducible refine wpL_peel rfl ?_ ?_); focus (go_simp; done)) | ((with_reducible refine wpL_isLoad rfl ?_); refine wpL_load1C rfl rfl rfl (HC.out _ hst.only) (by kernel_rfl) ?_))
        go_ret
        exact ⟨rfl, hst.only⟩
      have e2 : ((x.size : Int) == 0) = false := beq_eq_false_iff_ne.2 x2
      have f1 : 1 ≤ x.size := by omega
      have f2 : x.size ≤ 20 := by omega
      obtain ⟨I1, I2, I3, I4⟩ := HI.out
      have mlen := I1.len
      have hside := I1.side
      rcases (show j % 3 = 0 ∨ j % 3 = 1 ∨ j % 3 = 2 by omega) with hk | hk | hk
      · as_aux_lemma =>
        have hk3 : (j : Int) % 3 = 0 := by omega
        obtain ⟨q, hq⟩ : ∃ q, q = j * 5 % n := ⟨_, rfl⟩
        have hqn : q < n := by rw [hq]; exact Nat.mod_lt _ H1.out
        have hq2 : (j : Int) * 5 % (n : Int) = (q : Int) := by rw [hq, Int.natCast_emod, Int.natCast_mul]; rfl
        obtain ⟨p1, p2⟩ := I1.put H1.out H5.out 0 q (by decide) hqn x f1 f2
        have pfew := putR_few m (slotAt n 0) (n * 2) ((q : Int) * 2) 7 x (by omega)
        rw [sA0] at p1 p2 pfew
        rw [show 0 * 5 + q = q by omega] at p2
        have PT : Hid (∀ F w, Blk w a0 (slcells z0 20) 80 → Blk w z0 (zcells d (2 + 6) (n * 2)) 34 → DiskAt w d m F → a0 ≠ z0 → a0 ∉ F → z0 ∉ F → Calls Try.prog 46 #[.pointer (some ⟨a0, 0, none⟩), .int .i64 (q : Int), .int .i64 7, .string x] w fun e w' => ∃ F', e = .returned (.int .i64 0) ∧ DiskAt w' d (putR m (2 + 6) (n * 2) ((q : Int) * 2) 7 x).1 F' ∧ Turn F F' w w') := fun F w h1 h2 h3 h4 h5 h6 => by
          have := PTG.out 0 a0 z0 d m F w q x (by decide) h1 (by rw [sA0]; exact h2) h3 h4 h5 h6 (by omega) hqn f2 (by omega) (by rw [sA0]; exact p1)
          rw [sA0] at this
          exact this
        generalize (putR m (2 + 6) (n * 2) ((q : Int) * 2) 7 x).1 = m2 at *
        have NI : Hid (ApI m2 n (j + 1) tx g κ (hv.set (q) x)) := ⟨p2, by omega, I3, by omega⟩
        have HLT : Hid (Nat.ble (q + 1) (hv.map Value.string).length = true) := by show Nat.ble _ _ = true; rw [List.length_map, I1.hl]; exact Nat.ble_eq_true_of_le (by have := H5.out; omega)
        have hq5 : (q : Int) < 5 := by have := H5.out; omega
        clear x1 x2 f1 f2 HI I1 I2 I3 I4 mlen hside p1 p2 pfew hq hk sA0 sA1 hqn
        go_wp2_with (first
          | ((with_reducible refine wpL_skipS rfl ?_ ?_); focus (go_simp; done)) | ((with_reducible refine wpL_peel rfl ?_ ?_); focus (go_simp; done)) | ((with_reducible refine wpL_isLoad rfl ?_); refine wpL_load1C rfl rfl rfl (HC.out _ hst.only) (by kernel_rfl) ?_) | ((with_reducible refine wpL_isLoad rfl ?_); refine wpL_load1S hst.st rfl rfl 2 rfl rfl rfl (by kernel_rfl) ?_)
          | (go_at_call 58; (with_reducible refine (SL0.out _ _ _ _ _ (hst.blk 2 rfl)).mono ?_); rintro e1 w1 ⟨rfl, rfl⟩)
          | (go_at_call 46; (with_reducible refine (PT.out _ _ (hst.blk 3 rfl) (hst.blk 4 rfl) (hst.rs 0 rfl) (hst.st.neq 3 4 rfl rfl (by decide)) (hst.away 3 0 rfl rfl) (hst.away 4 0 rfl rfl)).mono ?_); rintro e1 w1 ⟨F1, rfl, hd1, ht1⟩; replace hst := hst.act 0 rfl (diskR _ _ F1) rfl ht1 hd1; simp only [List.set] at hst; clear hd1 ht1)
          | ((with_reducible refine wpL_isStore rfl ?_); refine wpL_store1D hst rfl rfl 7 rfl rfl HLT.out (v := .string x) rfl rfl rfl ?_; clear hst; intro w1 hst; simp only [List.set] at hst) | (go_at_call 35; (with_reducible refine (TX.out _ _ _ _ _ _ (hst.blk 0 rfl)).mono ?_); rintro e1 w1 ⟨rfl, rfl⟩) | ((with_reducible refine wpL_isBin rfl ?_); (refine wpL_neqStrT rfl rfl _ _ rfl rfl true (decide_eq_true rfl) ?_)))
        go_roundw
        case rel => exact ⟨j + 1, m2, _, tx, g, κ, _, HJ.out.1, HJ.out.2, by go_num, rfl, NI, by rw [List.map_set]; exact hst⟩
        case measure => simp [intOf]; omega
      · as_aux_lemma =>
        have hk3 : (j : Int) % 3 = 1 := by omega
        obtain ⟨q, hq⟩ : ∃ q, q = j * 5 % n := ⟨_, rfl⟩
        have hqn : q < n := by rw [hq]; exact Nat.mod_lt _ H1.out
        have hq2 : (j : Int) * 5 % (n : Int) = (q : Int) := by rw [hq, Int.natCast_emod, Int.natCast_mul]; rfl
        obtain ⟨p1, p2⟩ := I1.put H1.out H5.out 1 q (by decide) hqn x f1 f2
        have pfew := putR_few m (slotAt n 1) (n * 2) ((q : Int) * 2) 7 x (by omega)
        rw [sA1] at p1 p2 pfew
        rw [show 1 * 5 + q = 5 + q by omega] at p2
        have PT : Hid (∀ F w, Blk w a1 (slcells z1 20) 80 → Blk w z1 (zcells d (2 + 6 + n * 2) (n * 2)) 34 → DiskAt w d m F → a1 ≠ z1 → a1 ∉ F → z1 ∉ F → Calls Try.prog 46 #[.pointer (some ⟨a1, 0, none⟩), .int .i64 (q : Int), .int .i64 7, .string x] w fun e w' => ∃ F', e = .returned (.int .i64 0) ∧ DiskAt w' d (putR m (2 + 6 + n * 2) (n * 2) ((q : Int) * 2) 7 x).1 F' ∧ Turn F F' w w') := fun F w h1 h2 h3 h4 h5 h6 => by
          have := PTG.out 1 a1 z1 d m F w q x (by decide) h1 (by rw [sA1]; exact h2) h3 h4 h5 h6 (by omega) hqn f2 (by omega) (by rw [sA1]; exact p1)
          rw [sA1] at this
          exact this
        generalize (putR m (2 + 6 + n * 2) (n * 2) ((q : Int) * 2) 7 x).1 = m2 at *
        have NI : Hid (ApI m2 n (j + 1) tx g κ (hv.set (5 + q) x)) := ⟨p2, by omega, I3, by omega⟩
        have HLT : Hid (Nat.ble (5 + q + 1) (hv.map Value.string).length = true) := by show Nat.ble _ _ = true; rw [List.length_map, I1.hl]; exact Nat.ble_eq_true_of_le (by have := H5.out; omega)
        have hq5 : (q : Int) < 5 := by have := H5.out; omega
        clear x1 x2 f1 f2 HI I1 I2 I3 I4 mlen hside p1 p2 pfew hq hk sA0 sA1 hqn
        go_wp2_with (first
          | ((with_reducible refine wpL_skipS rfl ?_ ?_); focus (go_simp; done)) | ((with_reducible refine wpL_peel rfl ?_ ?_); focus (go_simp; done)) | ((with_reducible refine wpL_isLoad rfl ?_); refine wpL_load1C rfl rfl rfl (HC.out _ hst.only) (by kernel_rfl) ?_) | ((with_reducible refine wpL_isLoad rfl ?_); refine wpL_load1S hst.st rfl rfl 2 rfl rfl rfl (by kernel_rfl) ?_)
          | (go_at_call 58; (with_reducible refine (SL1.out _ _ _ _ _ (hst.blk 2 rfl)).mono ?_); rintro e1 w1 ⟨rfl, rfl⟩)
          | (go_at_call 46; (with_reducible refine (PT.out _ _ (hst.blk 5 rfl) (hst.blk 6 rfl) (hst.rs 0 rfl) (hst.st.neq 5 6 rfl rfl (by decide)) (hst.away 5 0 rfl rfl) (hst.away 6 0 rfl rfl)).mono ?_); rintro e1 w1 ⟨F1, rfl, hd1, ht1⟩; replace hst := hst.act 0 rfl (diskR _ _ F1) rfl ht1 hd1; simp only [List.set] at hst; clear hd1 ht1)
          | ((with_reducible refine wpL_isStore rfl ?_); refine wpL_store1D hst rfl rfl 7 rfl rfl HLT.out (v := .string x) rfl rfl rfl ?_; clear hst; intro w1 hst; simp only [List.set] at hst) | (go_at_call 35; (with_reducible refine (TX.out _ _ _ _ _ _ (hst.blk 0 rfl)).mono ?_); rintro e1 w1 ⟨rfl, rfl⟩) | ((with_reducible refine wpL_isBin rfl ?_); (refine wpL_neqStrT rfl rfl _ _ rfl rfl true (decide_eq_true rfl) ?_)))
        go_roundw
        case rel => exact ⟨j + 1, m2, _, tx, g, κ, _, HJ.out.1, HJ.out.2, by go_num, rfl, NI, by rw [List.map_set]; exact hst⟩
        case measure => simp [intOf]; omega
      · as_aux_lemma =>
        have hk3 : (j : Int) % 3 = 2 := by omega
        obtain ⟨p1, p2, p3⟩ := I1.save H1.out H5.out I3 (by omega) x f2
        have SV : Hid (∀ F w, (pairR t (tcells zr tx g (κ : Int) false) 98 (diskR d m F)).p w → Blk w zr (zcells d 2 6) 34 → t ≠ zr → zr ∉ F → Calls Try.prog 38 #[.pointer (some ⟨t, 0, none⟩), .string x] w fun e w' => ∃ F', e = .returned (.int .i64 0) ∧ (pairR t (tcells zr x (g + 1) ((1 - κ : Nat) : Int) false) 98 (diskR d (layR m (2 + (1 - κ) * 3) 3 g x).1 F')).p w' ∧ Turn (t :: F) (t :: F') w w') := fun F w h1 h2 h3 h4 => SVG.out m κ tx x g t zr d F w h1 h2 h3 h4 (by omega) (by omega) hside I3 (by omega) f2 p1
        generalize (layR m (2 + (1 - κ) * 3) 3 g x).1 = m2 at *
        have NI : Hid (ApI m2 n (j + 1) x (g + 1) (1 - κ) hv) := ⟨p3, by rw [p2]; exact Nat.zero_le _, by omega, by omega⟩
        clear x1 x2 f1 f2 HI I1 I2 I3 I4 mlen hside p1 p2 p3 hk sA0 sA1
        go_wp2_with (first | ((with_reducible refine wpL_skipS rfl ?_ ?_); focus (go_simp; done)) | ((with_reducible refine wpL_peel rfl ?_ ?_); focus (go_simp; done)) | ((with_reducible refine wpL_isLoad rfl ?_); refine wpL_load1C rfl rfl rfl (HC.out _ hst.only) (by kernel_rfl) ?_) | ((with_reducible refine wpL_isLoad rfl ?_); refine wpL_load1S hst.st rfl rfl 2 rfl rfl rfl (by kernel_rfl) ?_) | (go_at_call 38; (with_reducible refine (SV.out _ _ (pair_mk (hst.blk 0 rfl) (hst.rs 0 rfl) (hst.away 0 0 rfl rfl)) (hst.blk 1 rfl) (hst.neq 0 1 rfl rfl (by decide)) (hst.away 1 0 rfl rfl)).mono ?_); rintro e1 w1 ⟨F3, rfl, hp1, hT1⟩; replace hst := ((hst.join rfl).act 0 rfl (pairR _ _ _ (diskR _ _ F3)) rfl hT1 hp1); simp only [List.set] at hst; replace hst := hst.split; clear hp1 hT1) | (go_at_call 35; (with_reducible refine (TX.out _ _ _ _ _ _ (hst.blk 0 rfl)).mono ?_); rintro e1 w1 ⟨rfl, rfl⟩) | ((with_reducible refine wpL_isBin rfl ?_); (refine wpL_neqStrT rfl rfl _ _ rfl rfl true (decide_eq_true rfl) ?_)))
        go_roundw
        case rel => exact ⟨j + 1, m2, _, x, g + 1, 1 - κ, hv, HJ.out.1, HJ.out.2, by go_num, rfl, NI, hst⟩
        case measure => simp [intOf]; omega
    · obtain ⟨I1, I2, I3, I4⟩ := HI.out
      have mlen := I1.len
      obtain ⟨s1, s2, s3⟩ := I1.sync H1.out H5.out
      obtain ⟨r1, r2⟩ := s3.image H1.out H5.out
      have hg := good620 n H1.out H5.out
      have hN := need620 n
      have e20 : n * secsOf 20 = n * 2 := by rw [show secsOf 20 = 2 from by decide]
      obtain ⟨ms, ems⟩ : ∃ ms, ms = m.sync := ⟨_, rfl⟩
      have SY : Hid (∀ F w, DiskAt w d m F → Calls Try.prog 17 #[.pointer (some ⟨d, 0, none⟩)] w fun e w' => ∃ F', e = .returned (.int .i64 0) ∧ DiskAt w' d ms F' ∧ Turn F F' w w') := fun F w h => by
        have := dskSync_any d m F w h (by omega) (by omega)
        rw [s1, ← ems] at this
        exact this
      rw [← ems] at s2 s3 r1 r2
      obtain ⟨B, eB⟩ : ∃ B, B = joinB ms.safe := ⟨_, rfl⟩
      have hBs : B.size ≤ 1000000 := by
        rw [eB, joinB_size _ s2.ok.full]
        have := s3.len
        unfold DM.len at this
        have := H5.out
        omega
      rw [s2.now, ← eB] at r1 r2
      have IM : Hid (∀ F w, DiskAt w d ms F → Calls Try.prog 29 #[.pointer (some ⟨d, 0, none⟩)] w fun e w' => e = .returned (.string B) ∧ Only [] w w') := fun F w h => by
        have := dskImage_any d ms F w h
        rw [← eB] at this
        exact this
      obtain ⟨M3, eM3⟩ : ∃ M3, M3 = DM.of B := ⟨_, rfl⟩
      rw [← eM3] at r1 r2
      have OF : Hid (∀ w, Calls Try.prog 26 #[.string B] w fun e w' => ∃ d F, e = .returned (.pointer (some ⟨d, 0, none⟩)) ∧ DiskAt w' d M3 F ∧ Only [] w w' ∧ (∀ b ∈ F, w.heap.size ≤ b)) := fun w => by
        rw [eM3]
        exact dskOf_any B w hBs
      have l3 := r2.len
      have OP : Hid (∀ d F w, DiskAt w d M3 F → Calls Try.prog 56 #[.pointer (some ⟨d, 0, none⟩)] w fun e w' => ∃ t zr p z0 a0 z1 a1, e = .returned (.tuple #[.pointer (some ⟨p, 0, none⟩), .int .i64 0]) ∧ News w w' (openN d 6 20 n (n * 2) tx g (κ : Int) t zr p z0 a0 z1 a1)) := fun d F w h => by
        have := storeOpen_yes d M3 F w h (by rw [r1.lo]; exact Nat.zero_le _) r1.aw 6 20 n tx g (κ : Int) hg (by rw [hN, l3]; omega) r2.super r2.tw (by omega)
        rw [e20] at this
        exact this
      have few3 : M3.loose.length ≤ 700000 := by rw [r1.lo]; exact Nat.zero_le _
      have GTL : Hid (∀ (k : Nat) a z d F w (p : Nat), k < 2 → Blk w a (slcells z 20) 80 → Blk w z (zcells d (slotAt n k) (n * 2)) 34 → DiskAt w d M3 F → a ≠ z → a ∉ F → z ∉ F → p < n → Calls Try.prog 51 #[.pointer (some ⟨a, 0, none⟩), .int .i64 (p : Int)] w fun e w' => (hv.getD (k * 5 + p) ⟨#[]⟩ = ⟨#[]⟩ → e = .returned (.tuple #[.string ⟨#[]⟩, .int .i64 0, .int .i64 5])) ∧ (hv.getD (k * 5 + p) ⟨#[]⟩ ≠ ⟨#[]⟩ → e = .returned (.tuple #[.string (hv.getD (k * 5 + p) ⟨#[]⟩), .int .i64 7, .int .i64 0])) ∧ Only [] w w') := fun k a z d F w p hk h1' h2' h3' h4' h5' h6' h7' => by
        refine (GTG.out k a z d M3 F w p hk h1' h2' h3' h4' h5' h6' few3 h7').mono ?_
        rintro e w' ⟨he, ho⟩
        obtain ⟨g1, g2⟩ := r2.get H1.out H5.out k p hk h7'
        refine ⟨fun hz => ?_, fun hz => ?_, ho⟩
        · rw [he, g1 hz]
          rfl
        · rw [he, g2 hz]
          have hs := r2.sz (k * 5 + p)
          unfold slotG
          rw [if_neg (fun h => by have := h.2; simp only at this; omega)]
      have HLV := Lib.hid I1.hl
      have hcase : (¬ (j : Int) < l.length ∧ True) ∨ ((j : Int) < l.length ∧ ¬ (j : Int) < 20) := by
        rcases Nat.lt_or_ge j l.length with c1 | c1
        · exact .inr ⟨by omega, by omega⟩
        · exact .inl ⟨by omega, trivial⟩
      clear HI I1 I2 I3 I4 mlen s1 s2 s3 r1 r2 hg hN e20 ems eB hBs eM3 l3 few3 hcont PTG GTG SVG HV
      rcases hcase with ⟨j1, j3⟩ | ⟨j1, j3⟩
      all_goals
        as_aux_lemma =>
        go_wp2_with (first
          | ((with_reducible refine wpL_skipS rfl ?_ ?_); focus (go_simp; done)) | ((with_reducible refine wpL_peel rfl ?_ ?_); focus (go_simp; done)) | ((with_reducible refine wpL_isLoad rfl ?_); first | (refine wpL_load1S hst.st rfl rfl 0 rfl rfl rfl (by kernel_rfl) ?_) | (refine wpL_load1S hst.st rfl rfl 1 rfl rfl rfl (by kernel_rfl) ?_) | (refine wpL_load1S hst.st rfl rfl 2 rfl rfl rfl (by kernel_rfl) ?_))
          | (go_at_call 17; (with_reducible refine (SY.out _ _ (hst.rs 0 rfl)).mono ?_); rintro e1 w1 ⟨F1, rfl, hd1, ht1⟩; replace hst := hst.act 0 rfl (diskR _ _ F1) rfl ht1 hd1; simp only [List.set] at hst; clear hd1 ht1)
          | (go_at_call 29; (with_reducible refine (IM.out _ _ (hst.rs 0 rfl)).mono ?_); rintro e1 w1 ⟨rfl, ho1⟩; replace hst := hst.keep ho1; clear ho1)
          | (go_at_call 26; (with_reducible refine (OF.out _).mono ?_); rintro e1 w1 ⟨d2, F2, rfl, hd1, ho1, hg1⟩; replace hst := hst.add ho1 (r := diskR d2 _ F2) hd1 hg1; clear hd1 ho1 hg1)
          | (go_at_call 56; (with_reducible refine (OP.out _ _ _ (hst.rs 0 rfl)).mono ?_); rintro e1 w1 ⟨u, zu, q, y0, b0, y1, b1, rfl, hn1⟩; replace hst := hst.news hn1; clear hn1; simp only [openN, madeN, List.cons_append, List.nil_append] at hst))
        replace hst := hst.drew
        refine wp_region_ord [7, 13] [0, 1, 2, 3, 4, 5, 6, 7, 8, 9, 10, 11, 12, 14, 13, 15, 16] (by kernel_rfl) (by kernel_rfl) ?_
        generalize World.drew _ = W at *
        refine Ord.cut 3 2 rfl rfl rfl rfl (by kernel_rfl) (by kernel_rfl) ?_; simp only [List.take_succ_cons, List.take_zero, List.drop_succ_cons, List.drop_zero, List.filterMap_cons, List.filterMap_nil, List.getElem?_cons_succ, List.getElem?_cons_zero]; go_wp2_with fail; refine TextQ.mk ⟨fun h => by simp at h, ?_⟩ rfl
        refine Ord.cut 3 5 rfl rfl rfl rfl (by kernel_rfl) (by kernel_rfl) ?_; simp only [List.take_succ_cons, List.take_zero, List.drop_succ_cons, List.drop_zero, List.filterMap_cons, List.filterMap_nil, List.getElem?_cons_succ, List.getElem?_cons_zero]; go_wp2_with fail; refine TextQ.mk ⟨fun h => by simp at h, ?_⟩ rfl
        refine Ord.cut 1 6 rfl rfl rfl rfl (by kernel_rfl) (by kernel_rfl) ?_; simp only [List.take_succ_cons, List.take_zero, List.drop_succ_cons, List.drop_zero, List.filterMap_cons, List.filterMap_nil, List.getElem?_cons_succ, List.getElem?_cons_zero]
        (try refine wpL_peel rfl rfl ?_)
        refine wpL_load1S hst.st rfl rfl 4 rfl rfl rfl (by kernel_rfl) ?_
        refine TextQ.mk ⟨fun h => by simp at h, ?_⟩ rfl
        refine Ord.cut 1 7 rfl rfl rfl rfl (by kernel_rfl) (by kernel_rfl) ?_; simp only [List.take_succ_cons, List.take_zero, List.drop_succ_cons, List.drop_zero, List.filterMap_cons, List.filterMap_nil, List.getElem?_cons_succ, List.getElem?_cons_zero]
        (try refine wpL_peel rfl rfl ?_)
        go_wp2_with (go_at_call 35; (with_reducible refine (TX.out _ _ _ _ _ _ (hst.blk 5 rfl)).mono ?_); rintro e1 w1 ⟨rfl, rfl⟩)
        refine TextQ.mk ⟨fun _ => Only.refl _ _, ?_⟩ rfl
        refine Ord.cut 1 8 rfl rfl rfl rfl (by kernel_rfl) (by kernel_rfl) ?_; simp only [List.take_succ_cons, List.take_zero, List.drop_succ_cons, List.drop_zero, List.filterMap_cons, List.filterMap_nil, List.getElem?_cons_succ, List.getElem?_cons_zero]; go_wp2_with fail; refine TextQ.mk ⟨fun h => by simp at h, ?_⟩ rfl
        refine Ord.cut 1 9 rfl rfl rfl rfl (by kernel_rfl) (by kernel_rfl) ?_; simp only [List.take_succ_cons, List.take_zero, List.drop_succ_cons, List.drop_zero, List.filterMap_cons, List.filterMap_nil, List.getElem?_cons_succ, List.getElem?_cons_zero]
        (try refine wpL_peel rfl rfl ?_)
        refine wpL_neqStrT rfl rfl _ _ rfl rfl true (decide_eq_true rfl) ?_
        refine TextQ.mk ⟨fun h => by simp at h, ?_⟩ rfl
        refine Ord.cut 3 12 rfl rfl rfl rfl (by kernel_rfl) (by kernel_rfl) ?_; simp only [List.take_succ_cons, List.take_zero, List.drop_succ_cons, List.drop_zero, List.filterMap_cons, List.filterMap_nil, List.getElem?_cons_succ, List.getElem?_cons_zero]; go_wp2_with fail; refine TextQ.mk ⟨fun h => by simp at h, ?_⟩ rfl
        refine Ord.cut 1 14 rfl rfl rfl rfl (by kernel_rfl) (by kernel_rfl) ?_; simp only [List.take_succ_cons, List.take_zero, List.drop_succ_cons, List.drop_zero, List.filterMap_cons, List.filterMap_nil, List.getElem?_cons_succ, List.getElem?_cons_zero]
        (try refine wpL_peel rfl rfl ?_)
        refine wpL_loadAtS hst.st rfl (ty := 84) rfl 15 rfl rfl (by kernel_rfl) 3 (by kernel_rfl) [_, _, _] rfl rfl ?_
        refine TextQ.mk ⟨fun h => by simp at h, ?_⟩ rfl
        refine Ord.cut 1 13 rfl rfl rfl rfl (by kernel_rfl) (by kernel_rfl) ?_; simp only [List.take_succ_cons, List.take_zero, List.drop_succ_cons, List.drop_zero, List.filterMap_cons, List.filterMap_nil, List.getElem?_cons_succ, List.getElem?_cons_zero]
        (try refine wpL_peel rfl rfl ?_)
        go_wp2_with (go_at_call 57; (with_reducible refine (LY.out _ _ _ _ _ (hst.blk 4 rfl)).mono ?_); rintro e1 w1 ⟨rfl, ho1⟩)
        refine TextQ.mk ⟨fun _ => ho1, ?_⟩ rfl
        replace hst := hst.keep ho1
        clear ho1
        refine Ord.cut 1 15 rfl rfl rfl rfl (by kernel_rfl) (by kernel_rfl) ?_; simp only [List.take_succ_cons, List.take_zero, List.drop_succ_cons, List.drop_zero, List.filterMap_cons, List.filterMap_nil, List.getElem?_cons_succ, List.getElem?_cons_zero]
        (try refine wpL_peel rfl rfl ?_)
        refine wpL_neq_lay rfl _ _ _ rfl _ _ _ rfl rfl ?_
        refine TextQ.mk ⟨fun h => by simp at h, ?_⟩ ?fine
        case fine => repeat' (first | exact rfl | exact fine_lay _ _ _ rfl rfl rfl | refine fine_cons ?_ ?_)
        refine Ord.cut 1 16 rfl rfl rfl rfl (by kernel_rfl) (by kernel_rfl) ?_; simp only [List.take_succ_cons, List.take_zero, List.drop_succ_cons, List.drop_zero, List.filterMap_cons, List.filterMap_nil, List.getElem?_cons_succ, List.getElem?_cons_zero]; go_wp2_with fail; refine TextQ.mk ⟨fun h => by simp at h, ?_⟩ rfl
        refine Ord.done ?_
        replace hst := ((((((hst.front 14 rfl).front 5 rfl).front 5 rfl).front 5 rfl).front 5 rfl).front 5 rfl)
        simp only [List.eraseIdx] at hst
        replace hst := hst.weak (M := [⟨b1, slcells y1 20, 80, true⟩, ⟨y1, zcells d2 (2 + 6 + n * 2) (n * 2), 34, true⟩, ⟨b0, slcells y0 20, 80, true⟩, ⟨y0, zcells d2 (2 + 6) (n * 2), 34, true⟩, ⟨q, stcells u 6 20 n (.pointer (some ⟨b0, 0, none⟩)) (.pointer (some ⟨b1, 0, none⟩)), 91, true⟩, ⟨bh, hv.map Value.string, 95, true⟩]) (List.Sublist.cons_cons _ (List.Sublist.cons_cons _ (List.Sublist.cons_cons _ (List.Sublist.cons_cons _ (List.Sublist.cons_cons _ (List.Sublist.cons_cons _ (List.nil_sublist _)))))))
        clear OP OF IM SY LY TX
        go_wp2_with fail
        go_loopw [18] (fun i wr => ∃ (k : Nat), k ≤ 2 ∧ i = .int .i64 (k : Int) ∧ Sd w [] wr [⟨b1, slcells y1 20, 80, true⟩, ⟨y1, zcells d2 (2 + 6 + n * 2) (n * 2), 34, true⟩, ⟨b0, slcells y0 20, 80, true⟩, ⟨y0, zcells d2 (2 + 6) (n * 2), 34, true⟩, ⟨q, stcells u 6 20 n (.pointer (some ⟨b0, 0, none⟩)) (.pointer (some ⟨b1, 0, none⟩)), 91, true⟩, ⟨bh, hv.map Value.string, 95, true⟩] [diskR d2 M3 F2, diskR d ms F1]) (fun i _ => (2 - intOf i).toNat)
        case atStart => exact ⟨0, by omega, rfl, hst⟩
        case round =>
          clear hst
          obtain ⟨k, hk, rfl, hst⟩ := hrel
          by_cases hk2 : k < 2
          · have k1 : (k : Int) < 2 := by omega
            have HK : Hid (k + 1 ≤ 2) := hk2
            have SLK : ∃ a z f, (∀ w, Blk w q (stcells u 6 20 n (.pointer (some ⟨b0, 0, none⟩)) (.pointer (some ⟨b1, 0, none⟩))) 91 → Calls Try.prog 58 #[.pointer (some ⟨q, 0, none⟩), .int .i64 (k : Int)] w fun e w' => e = .returned (.pointer (some ⟨a, 0, none⟩)) ∧ w = w') ∧ slotAt n k = f ∧
                ((a = b0 ∧ z = y0 ∧ f = 2 + 6) ∨ (a = b1 ∧ z = y1 ∧ f = 2 + 6 + n * 2)) := by
              rcases (by omega : k = 0 ∨ k = 1) with e | e
              · refine ⟨b0, y0, 2 + 6, fun w h => ?_, by rw [e]; exact sA0, .inl ⟨rfl, rfl, rfl⟩⟩
                rw [show (k : Int) = 0 by omega]
                exact SL0.out q u b0 b1 w h
              · refine ⟨b1, y1, 2 + 6 + n * 2, fun w h => ?_, by rw [e]; exact sA1, .inr ⟨rfl, rfl, rfl⟩⟩
                rw [show (k : Int) = 1 by omega]
                exact SL1.out q u b0 b1 w h
            obtain ⟨a, z, f, SL', sAk, hwhich⟩ := SLK
            have SL := Lib.hid SL'
            have GTK : Hid (∀ F w (p : Nat), Blk w a (slcells z 20) 80 → Blk w z (zcells d2 f (n * 2)) 34 → DiskAt w d2 M3 F → a ≠ z → a ∉ F → z ∉ F → p < n → Calls Try.prog 51 #[.pointer (some ⟨a, 0, none⟩), .int .i64 (p : Int)] w fun e w' => (hv.getD (k * 5 + p) ⟨#[]⟩ = ⟨#[]⟩ → e = .returned (.tuple #[.string ⟨#[]⟩, .int .i64 0, .int .i64 5])) ∧ (hv.getD (k * 5 + p) ⟨#[]⟩ ≠ ⟨#[]⟩ → e = .returned (.tuple #[.string (hv.getD (k * 5 + p) ⟨#[]⟩), .int .i64 7, .int .i64 0])) ∧ Only [] w w') := fun F w p h1 h2 h3 h4 h5 h6 h7 => GTL.out k a z d2 F w p hk2 h1 (by rw [sAk]; exact h2) h3 h4 h5 h6 h7
            clear SL' sAk sA0 sA1
            go_wp2_with fail
            go_loopw [19] (fun i wr => ∃ (c : Nat), c ≤ n ∧ i = .int .i64 (c : Int) ∧ Sd w [] wr [⟨b1, slcells y1 20, 80, true⟩, ⟨y1, zcells d2 (2 + 6 + n * 2) (n * 2), 34, true⟩, ⟨b0, slcells y0 20, 80, true⟩, ⟨y0, zcells d2 (2 + 6) (n * 2), 34, true⟩, ⟨q, stcells u 6 20 n (.pointer (some ⟨b0, 0, none⟩)) (.pointer (some ⟨b1, 0, none⟩)), 91, true⟩, ⟨bh, hv.map Value.string, 95, true⟩] [diskR d2 M3 F2, diskR d ms F1]) (fun i _ => (n - intOf i).toNat)
            case atStart => exact ⟨0, by omega, rfl, hst⟩
            case round =>
              clear hst
              obtain ⟨c, hc, rfl, hst⟩ := hrel
              by_cases hcn : c < n
              · have c1 : (c : Int) < (n : Int) := by omega
                have HCN : Hid (c + 1 ≤ n) := hcn
                have c5 : (c : Int) < 5 := by omega
                have SC : Hid (∀ wr, Blk wr bh (hv.map Value.string) 95 → wr.cell? ⟨bh, k * 5 + c, none⟩ = some (.string (hv.getD (k * 5 + c) ⟨#[]⟩))) := fun wr h => h.cell (by
                  rw [List.getElem?_map, List.getD_eq_getElem?_getD, List.getElem?_eq_getElem (by have := HLV.out; have := H5.out; omega)]; rfl)
                have GT : Hid (∀ F w, Blk w a (slcells z 20) 80 → Blk w z (zcells d2 f (n * 2)) 34 → DiskAt w d2 M3 F → a ≠ z → a ∉ F → z ∉ F → Calls Try.prog 51 #[.pointer (some ⟨a, 0, none⟩), .int .i64 (c : Int)] w fun e w' => (hv.getD (k * 5 + c) ⟨#[]⟩ = ⟨#[]⟩ → e = .returned (.tuple #[.string ⟨#[]⟩, .int .i64 0, .int .i64 5])) ∧ (hv.getD (k * 5 + c) ⟨#[]⟩ ≠ ⟨#[]⟩ → e = .returned (.tuple #[.string (hv.getD (k * 5 + c) ⟨#[]⟩), .int .i64 7, .int .i64 0])) ∧ Only [] w w') := fun F w h1 h2 h3 h4 h5 h6 => GTK.out F w c h1 h2 h3 h4 h5 h6 hcn
                generalize hv.getD (k * 5 + c) ⟨#[]⟩ = x at *
                clear GTK
                by_cases hx : x = ⟨#[]⟩
                · subst hx
                  have G0 : Hid (∀ F w, Blk w a (slcells z 20) 80 → Blk w z (zcells d2 f (n * 2)) 34 → DiskAt w d2 M3 F → a ≠ z → a ∉ F → z ∉ F → Calls Try.prog 51 #[.pointer (some ⟨a, 0, none⟩), .int .i64 (c : Int)] w fun e w' => e = .returned (.tuple #[.string ⟨#[]⟩, .int .i64 0, .int .i64 5]) ∧ Only [] w w') := fun F w h1 h2 h3 h4 h5 h6 => (GT.out F w h1 h2 h3 h4 h5 h6).mono fun e w' h => ⟨h.1 rfl, h.2.2⟩
                  clear GT
                  rcases hwhich with ⟨rfl, rfl, rfl⟩ | ⟨rfl, rfl, rfl⟩
                  all_goals
                    go_wp2_with (first | ((with_reducible refine wpL_skipS rfl ?_ ?_); focus (go_simp; done)) | ((with_reducible refine wpL_peel rfl ?_ ?_); focus (go_simp; done)) | (go_at_call 58; (with_reducible refine (SL.out _ (hst.blk 4 rfl)).mono ?_); rintro e1 w1 ⟨rfl, rfl⟩) | (go_at_call 51; (with_reducible refine (G0.out _ _ (hst.blk 2 rfl) (hst.blk 3 rfl) (hst.rs 0 rfl) (hst.st.neq 2 3 rfl rfl (by decide)) (hst.away 2 0 rfl rfl) (hst.away 3 0 rfl rfl)).mono ?_); rintro e1 w1 ⟨rfl, ho1⟩; replace hst := hst.keep ho1; clear ho1) | (go_at_call 51; (with_reducible refine (G0.out _ _ (hst.blk 0 rfl) (hst.blk 1 rfl) (hst.rs 0 rfl) (hst.st.neq 0 1 rfl rfl (by decide)) (hst.away 0 0 rfl rfl) (hst.away 1 0 rfl rfl)).mono ?_); rintro e1 w1 ⟨rfl, ho1⟩; replace hst := hst.keep ho1; clear ho1) | ((with_reducible refine wpL_isLoad rfl ?_); refine wpL_load1C rfl rfl rfl (SC.out _ (hst.blk 5 rfl)) (by kernel_rfl) ?_) | ((with_reducible refine wpL_isBin rfl ?_); (refine wpL_neqStrT rfl rfl _ _ rfl rfl true (decide_eq_true rfl) ?_)))
                    go_roundw
                    case rel => exact ⟨c + 1, HCN.out, by go_num, hst⟩
                    case measure => simp [intOf]; omega
                · have EE : Hid (decide (x = (⟨#[]⟩ : ByteArray)) = false) := decide_eq_false hx
                  have EX : Hid (decide (x = x) = true) := decide_eq_true rfl
                  have G0 : Hid (∀ F w, Blk w a (slcells z 20) 80 → Blk w z (zcells d2 f (n * 2)) 34 → DiskAt w d2 M3 F → a ≠ z → a ∉ F → z ∉ F → Calls Try.prog 51 #[.pointer (some ⟨a, 0, none⟩), .int .i64 (c : Int)] w fun e w' => e = .returned (.tuple #[.string x, .int .i64 7, .int .i64 0]) ∧ Only [] w w') := fun F w h1 h2 h3 h4 h5 h6 => (GT.out F w h1 h2 h3 h4 h5 h6).mono fun e w' h => ⟨h.2.1 hx, h.2.2⟩
                  clear GT hx
                  rcases hwhich with ⟨rfl, rfl, rfl⟩ | ⟨rfl, rfl, rfl⟩
                  all_goals
                    go_wp2_with (first | ((with_reducible refine wpL_skipS rfl ?_ ?_); focus (go_simp; done)) | ((with_reducible refine wpL_peel rfl ?_ ?_); focus (go_simp; done)) | (go_at_call 58; (with_reducible refine (SL.out _ (hst.blk 4 rfl)).mono ?_); rintro e1 w1 ⟨rfl, rfl⟩) | (go_at_call 51; (with_reducible refine (G0.out _ _ (hst.blk 2 rfl) (hst.blk 3 rfl) (hst.rs 0 rfl) (hst.st.neq 2 3 rfl rfl (by decide)) (hst.away 2 0 rfl rfl) (hst.away 3 0 rfl rfl)).mono ?_); rintro e1 w1 ⟨rfl, ho1⟩; replace hst := hst.keep ho1; clear ho1) | (go_at_call 51; (with_reducible refine (G0.out _ _ (hst.blk 0 rfl) (hst.blk 1 rfl) (hst.rs 0 rfl) (hst.st.neq 0 1 rfl rfl (by decide)) (hst.away 0 0 rfl rfl) (hst.away 1 0 rfl rfl)).mono ?_); rintro e1 w1 ⟨rfl, ho1⟩; replace hst := hst.keep ho1; clear ho1) | ((with_reducible refine wpL_isLoad rfl ?_); refine wpL_load1C rfl rfl rfl (SC.out _ (hst.blk 5 rfl)) (by kernel_rfl) ?_) | ((with_reducible refine wpL_isBin rfl ?_); first | (refine wpL_neqStrT rfl rfl x ⟨#[]⟩ rfl rfl false EE.out ?_) | (refine wpL_neqStrT rfl rfl x x rfl rfl true EX.out ?_)))
                    go_roundw
                    case rel => exact ⟨c + 1, HCN.out, by go_num, hst⟩
                    case measure => simp [intOf]; omega
              · obtain rfl : c = n := by omega
                have c1 : ¬ (c : Int) < (c : Int) := by omega
                go_wp2_with (first | ((with_reducible refine wpL_peel rfl ?_ ?_); focus (go_simp; done)))
                go_roundw
                case rel => exact ⟨k + 1, HK.out, by go_num, hst⟩
                case measure => simp [intOf]; omega
          · obtain rfl : k = 2 := by omega
            have k1 : ¬ ((2 : Nat) : Int) < 2 := by omega
            go_wp2_with (first | ((with_reducible refine wpL_peel rfl ?_ ?_); focus (go_simp; done)))
            go_ret
            exact ⟨rfl, hst.only⟩
end Go.Proofs.Ytmogkiacakkmbaa
