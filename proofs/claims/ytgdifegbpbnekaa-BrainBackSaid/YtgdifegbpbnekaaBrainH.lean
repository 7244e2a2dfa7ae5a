/- BrainTables, walked: all tables of a model, one behind the other, are its weights. -/
import Derived.Test.YtgdifegbpbnekaaBrainG
namespace Go.Proofs.Ytgdifegbpbnekaa
open Go.RowKit

set_option maxRecDepth 100000 in
set_option maxHeartbeats 8000000 in
theorem tables_no (c : Cfg) (s : ByteArray) (at' : Int) (by' : Nat) (w : World) (h : ¬ (CanBe c ∧ (s.size : Int) = c.all)) :
    Calls Try.prog 3 #[.agg #[.int .i64 c.V, .int .i64 c.D, .int .i64 c.H, .int .i64 c.B, .int .i64 c.F, .int .i64 c.C], .string s, .int .i64 at', .int .u8 (by' : Int)] w fun e w' => e = .returned (.bool true) ∧ Only [] w w' := by
  have hst := (St.start w []).box [.int .i64 c.V, .int .i64 c.D, .int .i64 c.H, .int .i64 c.B, .int .i64 c.F, .int .i64 c.C] 23
  have OF : Hid (∀ w, Calls Try.prog 14 #[.agg #[.int .i64 c.V, .int .i64 c.D, .int .i64 c.H, .int .i64 c.B, .int .i64 c.F, .int .i64 c.C], .string s] w fun e w' => ∃ k : Int, e = .returned (.tuple #[.pointer none, .int .i64 k]) ∧ (k != 0) = true ∧ Only [] w w') := fun w => by
    by_cases h1 : CanBe c
    · refine (brainOf_len c s h1 (fun h2 => h ⟨h1, h2⟩) w).mono ?_
      rintro e w' ⟨rfl, ho⟩
      exact ⟨5, rfl, rfl, ho⟩
    · refine (brainOf_bad c s h1 w).mono ?_
      rintro e w' ⟨rfl, ho⟩
      exact ⟨1, rfl, rfl, ho⟩
  have AW := Lib.hid awake16_any
  generalize c.V = V at *
  generalize c.D = D at *
  generalize c.H = H at *
  generalize c.B = B at *
  generalize c.F = F at *
  generalize c.C = C at *
  clear h
  go_enter Try.func3, Try.ntmps3
  go_wp2_with (first
    | ((with_reducible refine wpL_peel rfl ?_ ?_); focus (go_simp; done)) | ((with_reducible refine wpL_isLoad rfl ?_); first | (refine wpL_loadAtS hst rfl (ty := 23) rfl 0 rfl rfl (by kernel_rfl) 6 (by kernel_rfl) [_, _, _, _, _, _] rfl rfl ?_) | (refine wpL_loadAtS hst rfl (ty := 23) rfl 1 rfl rfl (by kernel_rfl) 6 (by kernel_rfl) [_, _, _, _, _, _] rfl rfl ?_) | (refine wpL_loadAtS hst rfl (ty := 23) rfl 2 rfl rfl (by kernel_rfl) 6 (by kernel_rfl) [_, _, _, _, _, _] rfl rfl ?_) | (refine wpL_loadAtS hst rfl (ty := 23) rfl 3 rfl rfl (by kernel_rfl) 6 (by kernel_rfl) [_, _, _, _, _, _] rfl rfl ?_) | (refine wpL_load1S hst rfl rfl 0 rfl rfl rfl (by kernel_rfl) ?_) | (refine wpL_load1S hst rfl rfl 1 rfl rfl rfl (by kernel_rfl) ?_) | (refine wpL_load1S hst rfl rfl 2 rfl rfl rfl (by kernel_rfl) ?_) | (refine wpL_load1S hst rfl rfl 3 rfl rfl rfl (by kernel_rfl) ?_))
    | (go_at_call 13; (with_reducible refine (AW.out _).mono ?_); rintro e1 w1 ⟨rfl, ho1⟩; replace hst := hst.keep ho1; clear ho1)
    | (go_at_call 14; refine (OF.out _).mono ?_; rintro e1 w1 ⟨k, rfl, hk, ho1⟩; replace hst := hst.keep ho1; clear ho1))
  go_ret
  exact ⟨rfl, hst.only⟩

theorem rem_idx (z : Int) (n : Nat) (h : 0 < n) : ∃ i : Nat, (IntKind.u64.wrap z).tmod (n : Int) = (i : Int) ∧ i < n := by
  have h0 : 0 ≤ IntKind.u64.wrap z := by
    unfold IntKind.wrap
    simp [IntKind.signed, IntKind.bits]
    omega
  refine ⟨((IntKind.u64.wrap z) % (n : Int)).toNat, ?_, ?_⟩
  · rw [Int.tmod_eq_emod_of_nonneg h0]
    have := Int.emod_nonneg (IntKind.u64.wrap z) (b := (n : Int)) (by omega)
    omega
  · have := Int.emod_lt_of_pos (IntKind.u64.wrap z) (b := (n : Int)) (by omega)
    have := Int.emod_nonneg (IntKind.u64.wrap z) (b := (n : Int)) (by omega)
    omega

theorem inR_lead {c : Cfg} (h : Fit c) (p : Nat) (hp : p < 2) : inR c p 0 = true := by
  have := h.b0
  unfold inR has
  simp
  omega
theorem inR_mid {c : Cfg} (n : Nat) (hn : n ≤ 8) (k : Nat) (hk : (k : Int) < c.B) : inR c ((n : Int) + 2) k = true := by
  unfold inR has
  simp
  omega
theorem inR_last {c : Cfg} (h : Fit c) : inR c 11 0 = true := by
  have := h.b0
  unfold inR has
  simp
  omega

set_option maxRecDepth 100000 in
set_option maxHeartbeats 16000000 in
theorem tables_yes (c : Cfg) (s : ByteArray) (at' : Int) (by' : Nat) (w : World) (h : CanBe c) (hs : (s.size : Int) = c.all) (hby : by' < 256) :
    Calls Try.prog 3 #[.agg #[.int .i64 c.V, .int .i64 c.D, .int .i64 c.H, .int .i64 c.B, .int .i64 c.F, .int .i64 c.C], .string s, .int .i64 at', .int .u8 (by' : Int)] w fun e w' => e = .returned (.bool true) ∧ Only [] w w' := by
  have hst := (St.start w []).box [.int .i64 c.V, .int .i64 c.D, .int .i64 c.H, .int .i64 c.B, .int .i64 c.F, .int .i64 c.C] 23
  have AW := Lib.hid awake16_any
  have hall := h.all
  have hs8 : s.size ≤ 8192 := by omega
  have hs8' : (s.size : Int) ≤ 8192 := by omega
  have OF : Hid (∀ u w, (u.size : Int) = c.all → Calls Try.prog 14 #[.agg #[.int .i64 c.V, .int .i64 c.D, .int .i64 c.H, .int .i64 c.B, .int .i64 c.F, .int .i64 c.C], .string u] w fun e w' => ∃ b, e = .returned (.tuple #[.pointer (some ⟨b, 0, none⟩), .int .i64 0]) ∧ w.heap.size ≤ b ∧ Blk w' b (.int .i64 c.V :: .int .i64 c.D :: .int .i64 c.H :: .int .i64 c.B :: .int .i64 c.F :: .int .i64 c.C :: [.string u]) 38 ∧ Only [] w w') := fun u w hu => brainOf_yes c u h hu w
  have TB : Hid (∀ b p k w, Blk w b (.int .i64 c.V :: .int .i64 c.D :: .int .i64 c.H :: .int .i64 c.B :: .int .i64 c.F :: .int .i64 c.C :: [.string s]) 38 → inR c p k = true → Calls Try.prog 15 #[.pointer (some ⟨b, 0, none⟩), .int .i64 p, .int .i64 k] w fun e w' => ∃ g cp rest, e = .returned (.tuple #[.agg #[.int .i64 (c.side p).1, .int .i64 (c.side p).2, .slice (some ⟨g, 0, none⟩) (tabS c s p k).size cp], .bool true]) ∧ (tabS c s p k).size ≤ cp ∧ w.heap.size ≤ g ∧ Blk w' g (i8s (bl (tabS c s p k)) ++ rest) 142 ∧ Only [] w w') := fun b p k w hb hi => brainTable_yes b c s p k h hs hi w hb
  have TS : Hid (∀ p k, (tabS c s p k).size ≤ 8192) := fun p k => by unfold tabS; rw [← bl_length, bl_extract, List.length_drop, List.length_take, bl_length]; omega
  have US : Hid (∀ n, (upW s n).size ≤ 8192) := fun n => by unfold upW; rw [← bl_length, bl_extract, List.length_drop, List.length_take, bl_length]; omega
  have VB : Hid (∀ x y g cp (t : ByteArray) rest w, Blk w g (i8s (bl t) ++ rest) 142 → t.size ≤ 8192 → Calls Try.prog 16 #[.agg #[.int .i64 x, .int .i64 y, .slice (some ⟨g, 0, none⟩) t.size cp]] w fun e w' => e = .returned (.string t) ∧ Only [] w w') := fun x y g cp t rest w hb ht => vecsBytes_row x y g cp t rest w hb (by omega)
  have SD : Hid (∀ p w, Calls Try.prog 17 #[.agg #[.int .i64 c.V, .int .i64 c.D, .int .i64 c.H, .int .i64 c.B, .int .i64 c.F, .int .i64 c.C], .int .i64 p] w fun e w' => e = .returned (.tuple #[.int .i64 (c.side p).1, .int .i64 (c.side p).2]) ∧ Only [] w w') := fun p w => side_yes c p h w
  have SZ : Hid (∀ w, Calls Try.prog 18 #[.agg #[.int .i64 c.V, .int .i64 c.D, .int .i64 c.H, .int .i64 c.B, .int .i64 c.F, .int .i64 c.C]] w fun e w' => e = .returned (.int .i64 (s.size : Int)) ∧ Only [] w w') := fun w => by rw [hs]; exact size_yes c h w
  have SY : Hid (∀ b1 b2 w, Blk w b1 (.int .i64 c.V :: .int .i64 c.D :: .int .i64 c.H :: .int .i64 c.B :: .int .i64 c.F :: .int .i64 c.C :: [.string s]) 38 → Blk w b2 (.int .i64 c.V :: .int .i64 c.D :: .int .i64 c.H :: .int .i64 c.B :: .int .i64 c.F :: .int .i64 c.C :: [.string s]) 38 → Calls Try.prog 19 #[.pointer (some ⟨b1, 0, none⟩), .pointer (some ⟨b2, 0, none⟩)] w fun e w' => e = .returned (.bool true) ∧ Only [] w w') := fun b1 b2 w h1 h2 => brainSame_yes b1 b2 c s w h1 h2 (by omega)
  have FT := Lib.hid h.fit
  have TSTEP := Lib.hid (tail_step c h.fit s hs)
  have HSTEP := Lib.hid (head_step c h.fit s)
  have MSTEP := Lib.hid (mids_step c h.fit s)
  obtain ⟨bn, hbn⟩ : ∃ bn : Nat, c.B = (bn : Int) := ⟨c.B.toNat, by have := h.fit.b0; omega⟩
  have HBN := Lib.hid hbn
  have hb3 : (bn : Int) ≤ 3 := by have := h.fit.b1; omega
  rw [hbn] at hst OF TB SD SZ SY TSTEP
  have U0 : Hid (upW s (c.span 0 (0 : Nat)) = ⟨#[]⟩) := by show _ = _; exact upW_zero s
  have B0 := Lib.hid (base_zero c)
  have BN := Lib.hid (base_next c)
  clear hbn
  generalize eV : c.V = V at OF TB SD SZ SY hst ⊢
  generalize eD : c.D = D at OF TB SD SZ SY hst ⊢
  generalize eH : c.H = H at OF TB SD SZ SY hst ⊢
  generalize eF : c.F = F at OF TB SD SZ SY hst ⊢
  generalize eC : c.C = C at OF TB SD SZ SY hst ⊢
  rw [HBN.out]
  clear eV eD eH eF eC
  obtain ⟨i, hi, hlt0⟩ := rem_idx at' s.size (by have := (sz_bounds h.fit 11); have := inR_place h.fit (inR_last h.fit); have := h.fit.d0; have e : c.sz 11 = 1 * c.D := rfl; omega)
  have hltI : (i : Int) < s.size := by omega
  have hi0 : (0 : Int) ≤ i := by omega
  have HS := Lib.hid hs
  have HH := Lib.hid h
  clear hs h hall
  go_enter Try.func3, Try.ntmps3
  go_wp2_with (first
    | ((with_reducible refine wpL_peel rfl ?_ ?_); focus (go_simp; done)) | ((with_reducible refine wpL_isLoad rfl ?_); first | (refine wpL_loadAtS hst rfl (ty := 23) rfl 0 rfl rfl (by kernel_rfl) 6 (by kernel_rfl) [_, _, _, _, _, _] rfl rfl ?_) | (refine wpL_loadAtS hst rfl (ty := 23) rfl 1 rfl rfl (by kernel_rfl) 6 (by kernel_rfl) [_, _, _, _, _, _] rfl rfl ?_) | (refine wpL_loadAtS hst rfl (ty := 23) rfl 2 rfl rfl (by kernel_rfl) 6 (by kernel_rfl) [_, _, _, _, _, _] rfl rfl ?_) | (refine wpL_loadAtS hst rfl (ty := 23) rfl 3 rfl rfl (by kernel_rfl) 6 (by kernel_rfl) [_, _, _, _, _, _] rfl rfl ?_) | (refine wpL_load1S hst rfl rfl 0 rfl rfl rfl (by kernel_rfl) ?_) | (refine wpL_load1S hst rfl rfl 1 rfl rfl rfl (by kernel_rfl) ?_) | (refine wpL_load1S hst rfl rfl 2 rfl rfl rfl (by kernel_rfl) ?_) | (refine wpL_load1S hst rfl rfl 3 rfl rfl rfl (by kernel_rfl) ?_))
    | (go_at_call 13; (with_reducible refine (AW.out _).mono ?_); rintro e1 w1 ⟨rfl, ho1⟩; replace hst := hst.keep ho1; clear ho1)
    | (go_at_call 14; refine (OF.out s _ HS.out).mono ?_; rintro e1 w1 ⟨b, rfl, hb, hB, ho1⟩; replace hst := hst.new ho1 hB hb; clear ho1 hB))
  go_loopw [11, 12] (fun u p wr => ∃ (j : Nat), j ≤ 2 ∧ p = .int .i64 (j : Int) ∧ u = .string (upW s (c.span 0 j)) ∧ St w [] wr [⟨b, .int .i64 V :: .int .i64 D :: .int .i64 H :: .int .i64 (bn : Int) :: .int .i64 F :: .int .i64 C :: [.string s], 38, true⟩, ⟨w.heap.size, [.int .i64 V, .int .i64 D, .int .i64 H, .int .i64 (bn : Int), .int .i64 F, .int .i64 C], 23, true⟩]) (fun _ p _ => (2 - intOf p).toNat)
  case atStart => exact ⟨0, by omega, rfl, by rw [U0.out], hst⟩
  case round =>
    obtain ⟨j, hj, rfl, rfl, hst⟩ := hrel
    by_cases hlt : j < 2
    · have j1 : (j : Int) ≤ 1 := by omega
      have TJ := Lib.hid (fun w hw => TB.out b (j : Int) 0 w hw (inR_lead FT.out j hlt))
      have ST := HSTEP.out j hlt
      have z1 := TS.out (j : Int) 0
      have z2 := US.out (c.span 0 j)
      generalize tabS c s (j : Int) 0 = t at TJ ST z1
      generalize (c.side (j : Int)).1 = x at TJ
      generalize (c.side (j : Int)).2 = y at TJ
      have STH := Lib.hid ST
      clear ST
      go_wp2_with (first
        | ((with_reducible refine wpL_peel rfl ?_ ?_); focus (go_simp; done)) | ((with_reducible refine wpL_isLoad rfl ?_); first | (refine wpL_loadAtS hst rfl (ty := 31) rfl 0 rfl rfl (by kernel_rfl) 3 (by kernel_rfl) [_, _, _] rfl rfl ?_) | (refine wpL_loadAtS hst rfl (ty := 31) rfl 1 rfl rfl (by kernel_rfl) 3 (by kernel_rfl) [_, _, _] rfl rfl ?_) | (refine wpL_loadAtS hst rfl (ty := 31) rfl 2 rfl rfl (by kernel_rfl) 3 (by kernel_rfl) [_, _, _] rfl rfl ?_) | (refine wpL_loadAtS hst rfl (ty := 31) rfl 3 rfl rfl (by kernel_rfl) 3 (by kernel_rfl) [_, _, _] rfl rfl ?_) | (refine wpL_load1S hst rfl rfl 0 rfl rfl rfl (by kernel_rfl) ?_) | (refine wpL_load1S hst rfl rfl 1 rfl rfl rfl (by kernel_rfl) ?_) | (refine wpL_load1S hst rfl rfl 2 rfl rfl rfl (by kernel_rfl) ?_) | (refine wpL_load1S hst rfl rfl 3 rfl rfl rfl (by kernel_rfl) ?_))
        | ((with_reducible refine wpL_isStore rfl ?_); first | (refine wpL_storeS hst rfl (ty := 31) rfl 0 rfl rfl rfl (by kernel_rfl) (by kernel_rfl) rfl rfl ?_; clear hst; intro w1 hst; simp only [List.set] at hst) | (refine wpL_storeS hst rfl (ty := 31) rfl 1 rfl rfl rfl (by kernel_rfl) (by kernel_rfl) rfl rfl ?_; clear hst; intro w1 hst; simp only [List.set] at hst) | (refine wpL_storeS hst rfl (ty := 31) rfl 2 rfl rfl rfl (by kernel_rfl) (by kernel_rfl) rfl rfl ?_; clear hst; intro w1 hst; simp only [List.set] at hst) | (refine wpL_storeS hst rfl (ty := 31) rfl 3 rfl rfl rfl (by kernel_rfl) (by kernel_rfl) rfl rfl ?_; clear hst; intro w1 hst; simp only [List.set] at hst) | (refine wpL_store1S hst rfl rfl 0 rfl rfl rfl rfl (by kernel_rfl) rfl ?_; clear hst; intro w1 hst; simp only [List.set] at hst) | (refine wpL_store1S hst rfl rfl 1 rfl rfl rfl rfl (by kernel_rfl) rfl ?_; clear hst; intro w1 hst; simp only [List.set] at hst) | (refine wpL_store1S hst rfl rfl 2 rfl rfl rfl rfl (by kernel_rfl) rfl ?_; clear hst; intro w1 hst; simp only [List.set] at hst) | (refine wpL_store1S hst rfl rfl 3 rfl rfl rfl rfl (by kernel_rfl) rfl ?_; clear hst; intro w1 hst; simp only [List.set] at hst))
        | ((with_reducible refine wpL_isAlloc rfl ?_); refine wpL_allocS hst rfl 31 rfl (.agg #[.int .i64 0, .int .i64 0, .slice none 0 0]) [.int .i64 0, .int .i64 0, .slice none 0 0] (by kernel_rfl) rfl _ rfl ?_; clear hst; intro w1 b1 hb1 hst)
        | (go_at_call 15; refine (TJ.out _ (hst.blk 0 rfl)).mono ?_; rintro e1 w1 ⟨g, cp, rest, rfl, hcp, hg, hV, ho1⟩; replace hst := hst.new ho1 hV hg; clear ho1 hV)
        | (go_at_call 16; (with_reducible refine (VB.out _ _ _ _ t _ _ (hst.blk 1 rfl) z1).mono ?_); rintro e1 w1 ⟨rfl, ho1⟩; replace hst := hst.keep ho1; clear ho1)
        | (refine wpL_catS rfl rfl _ _ _ rfl rfl STH.out (by omega) ?_))
      exact ⟨⟨j + 1, by omega, by go_num, rfl, hst.dropN 2⟩, by simp [intOf]; omega⟩
    · have j2 : ¬ (j : Int) ≤ 1 := by omega
      have HU : Hid (upW s (c.span 0 j) = upW s (c.base (0 : Nat))) := by show _ = _; rw [show j = 2 by omega, ← B0.out]; rfl
      rw [HU.out]
      go_wp2_with fail
      go_loopw [11, 15] (fun u p wr => ∃ (k : Nat), k ≤ bn ∧ p = .int .i64 (k : Int) ∧ u = .string (upW s (c.base (k : Int))) ∧ St w [] wr [⟨b, .int .i64 V :: .int .i64 D :: .int .i64 H :: .int .i64 (bn : Int) :: .int .i64 F :: .int .i64 C :: [.string s], 38, true⟩, ⟨w.heap.size, [.int .i64 V, .int .i64 D, .int .i64 H, .int .i64 (bn : Int), .int .i64 F, .int .i64 C], 23, true⟩]) (fun _ p _ => (bn - intOf p).toNat)
      case atStart => exact ⟨0, by omega, rfl, rfl, hst⟩
      case round =>
        obtain ⟨k, hk, rfl, rfl, hst⟩ := hrel
        by_cases hlk : k < bn
        · have k1 : (k : Int) < bn := by omega
          go_wp2_with (first | ((with_reducible refine wpL_peel rfl ?_ ?_); focus (go_simp; done)) | ((with_reducible refine wpL_isLoad rfl ?_); first | (refine wpL_load1S hst rfl rfl 0 rfl rfl rfl (by kernel_rfl) ?_) | (refine wpL_load1S hst rfl rfl 1 rfl rfl rfl (by kernel_rfl) ?_) | (refine wpL_load1S hst rfl rfl 2 rfl rfl rfl (by kernel_rfl) ?_) | (refine wpL_load1S hst rfl rfl 3 rfl rfl rfl (by kernel_rfl) ?_)))
          go_loopw [11, 16] (fun u p wr => ∃ (n : Nat), n ≤ 9 ∧ p = .int .i64 ((n : Int) + 2) ∧ u = .string (upW s (c.base (k : Int) + c.span 2 n)) ∧ St w [] wr [⟨b, .int .i64 V :: .int .i64 D :: .int .i64 H :: .int .i64 (bn : Int) :: .int .i64 F :: .int .i64 C :: [.string s], 38, true⟩, ⟨w.heap.size, [.int .i64 V, .int .i64 D, .int .i64 H, .int .i64 (bn : Int), .int .i64 F, .int .i64 C], 23, true⟩]) (fun _ p _ => (11 - intOf p).toNat)
          case atStart => exact ⟨0, by omega, rfl, by rw [show c.base (k : Int) + c.span 2 0 = c.base (k : Int) by show c.base (k : Int) + 0 = _; omega], hst⟩
          case round =>
            obtain ⟨n, hn, rfl, rfl, hst⟩ := hrel
            by_cases hln : n < 9
            · have n1 : (n : Int) + 2 ≤ 10 := by omega
              have kB : (k : Int) < c.B := by rw [HBN.out]; exact k1
              have TJ := Lib.hid (fun w hw => TB.out b ((n : Int) + 2) (k : Int) w hw (inR_mid n (by omega) k kB))
              have SJ := Lib.hid (SD.out ((n : Int) + 2))
              have ST := MSTEP.out n (by omega) (k : Int) (by omega) kB
              have z1 := TS.out ((n : Int) + 2) (k : Int)
              have z2 := US.out (c.base (k : Int) + c.span 2 n)
              generalize tabS c s ((n : Int) + 2) (k : Int) = t at TJ ST z1
              generalize (c.side ((n : Int) + 2)).1 = x at TJ SJ
              generalize (c.side ((n : Int) + 2)).2 = y at TJ SJ
              have STH := Lib.hid ST
              have n0 : (n : Int) ≤ 8 := by omega
              clear ST kB n1
              go_wp2_with (first
                | ((with_reducible refine wpL_peel rfl ?_ ?_); focus (go_simp; done)) | ((with_reducible refine wpL_isLoad rfl ?_); first | (refine wpL_loadAtS hst rfl (ty := 31) rfl 0 rfl rfl (by kernel_rfl) 3 (by kernel_rfl) [_, _, _] rfl rfl ?_) | (refine wpL_loadAtS hst rfl (ty := 31) rfl 1 rfl rfl (by kernel_rfl) 3 (by kernel_rfl) [_, _, _] rfl rfl ?_) | (refine wpL_loadAtS hst rfl (ty := 31) rfl 2 rfl rfl (by kernel_rfl) 3 (by kernel_rfl) [_, _, _] rfl rfl ?_) | (refine wpL_loadAtS hst rfl (ty := 31) rfl 3 rfl rfl (by kernel_rfl) 3 (by kernel_rfl) [_, _, _] rfl rfl ?_) | (refine wpL_loadAtS hst rfl (ty := 36) rfl 0 rfl rfl (by kernel_rfl) 6 (by kernel_rfl) [_, _, _, _, _, _] rfl rfl ?_) | (refine wpL_loadAtS hst rfl (ty := 36) rfl 1 rfl rfl (by kernel_rfl) 6 (by kernel_rfl) [_, _, _, _, _, _] rfl rfl ?_) | (refine wpL_loadAtS hst rfl (ty := 36) rfl 2 rfl rfl (by kernel_rfl) 6 (by kernel_rfl) [_, _, _, _, _, _] rfl rfl ?_) | (refine wpL_loadAtS hst rfl (ty := 36) rfl 3 rfl rfl (by kernel_rfl) 6 (by kernel_rfl) [_, _, _, _, _, _] rfl rfl ?_) | (refine wpL_load1S hst rfl rfl 0 rfl rfl rfl (by kernel_rfl) ?_) | (refine wpL_load1S hst rfl rfl 1 rfl rfl rfl (by kernel_rfl) ?_) | (refine wpL_load1S hst rfl rfl 2 rfl rfl rfl (by kernel_rfl) ?_) | (refine wpL_load1S hst rfl rfl 3 rfl rfl rfl (by kernel_rfl) ?_))
                | ((with_reducible refine wpL_isStore rfl ?_); first | (refine wpL_storeS hst rfl (ty := 31) rfl 0 rfl rfl rfl (by kernel_rfl) (by kernel_rfl) rfl rfl ?_; clear hst; intro w1 hst; simp only [List.set] at hst) | (refine wpL_storeS hst rfl (ty := 31) rfl 1 rfl rfl rfl (by kernel_rfl) (by kernel_rfl) rfl rfl ?_; clear hst; intro w1 hst; simp only [List.set] at hst) | (refine wpL_storeS hst rfl (ty := 31) rfl 2 rfl rfl rfl (by kernel_rfl) (by kernel_rfl) rfl rfl ?_; clear hst; intro w1 hst; simp only [List.set] at hst) | (refine wpL_storeS hst rfl (ty := 31) rfl 3 rfl rfl rfl (by kernel_rfl) (by kernel_rfl) rfl rfl ?_; clear hst; intro w1 hst; simp only [List.set] at hst) | (refine wpL_store1S hst rfl rfl 0 rfl rfl rfl rfl (by kernel_rfl) rfl ?_; clear hst; intro w1 hst; simp only [List.set] at hst) | (refine wpL_store1S hst rfl rfl 1 rfl rfl rfl rfl (by kernel_rfl) rfl ?_; clear hst; intro w1 hst; simp only [List.set] at hst) | (refine wpL_store1S hst rfl rfl 2 rfl rfl rfl rfl (by kernel_rfl) rfl ?_; clear hst; intro w1 hst; simp only [List.set] at hst) | (refine wpL_store1S hst rfl rfl 3 rfl rfl rfl rfl (by kernel_rfl) rfl ?_; clear hst; intro w1 hst; simp only [List.set] at hst))
                | ((with_reducible refine wpL_isAlloc rfl ?_); refine wpL_allocS hst rfl 31 rfl (.agg #[.int .i64 0, .int .i64 0, .slice none 0 0]) [.int .i64 0, .int .i64 0, .slice none 0 0] (by kernel_rfl) rfl _ rfl ?_; clear hst; intro w1 b1 hb1 hst)
                | (go_at_call 15; refine (TJ.out _ (hst.blk 0 rfl)).mono ?_; rintro e1 w1 ⟨g, cp, rest, rfl, hcp, hg, hV, ho1⟩; replace hst := hst.new ho1 hV hg; clear ho1 hV)
                | (go_at_call 17; (with_reducible refine (SJ.out _).mono ?_); rintro e1 w1 ⟨rfl, ho1⟩; replace hst := hst.keep ho1; clear ho1)
                | (go_at_call 16; (with_reducible refine (VB.out _ _ _ _ t _ _ (hst.blk 1 rfl) z1).mono ?_); rintro e1 w1 ⟨rfl, ho1⟩; replace hst := hst.keep ho1; clear ho1)
                | (refine wpL_catS rfl rfl _ _ _ rfl rfl STH.out (by omega) ?_))
              exact ⟨⟨n + 1, by omega, congrArg (Value.int .i64) (by omega), rfl, hst.dropN 2⟩, by simp [intOf]; omega⟩
            · have n2 : ¬ (n : Int) + 2 ≤ 10 := by omega
              have HU : Hid (upW s (c.base (k : Int) + c.span 2 n) = upW s (c.base ((k + 1 : Nat) : Int))) := by show _ = _; rw [show n = 9 by omega, BN.out k]
              rw [HU.out]
              go_wp2_with fail
              exact ⟨⟨k + 1, by omega, by go_num, rfl, hst⟩, by simp [intOf]; omega⟩
        · obtain rfl : k = bn := by omega
          have TJ := Lib.hid (fun w hw => TB.out b 11 0 w hw (inR_last FT.out))
          have z1 := TS.out 11 0
          have z2 := US.out (c.base (k : Int))
          generalize tabS c s 11 0 = t at TJ TSTEP z1
          generalize (c.side 11).1 = x at TJ
          generalize (c.side 11).2 = y at TJ
          clear SD MSTEP HSTEP TB
          go_wp2_with (first
            | ((with_reducible refine wpL_peel rfl ?_ ?_); focus (go_simp; done)) | ((with_reducible refine wpL_isLoad rfl ?_); first | (refine wpL_loadAtS hst rfl (ty := 31) rfl 0 rfl rfl (by kernel_rfl) 3 (by kernel_rfl) [_, _, _] rfl rfl ?_) | (refine wpL_loadAtS hst rfl (ty := 31) rfl 1 rfl rfl (by kernel_rfl) 3 (by kernel_rfl) [_, _, _] rfl rfl ?_) | (refine wpL_loadAtS hst rfl (ty := 31) rfl 2 rfl rfl (by kernel_rfl) 3 (by kernel_rfl) [_, _, _] rfl rfl ?_) | (refine wpL_loadAtS hst rfl (ty := 31) rfl 3 rfl rfl (by kernel_rfl) 3 (by kernel_rfl) [_, _, _] rfl rfl ?_) | (refine wpL_loadAtS hst rfl (ty := 36) rfl 0 rfl rfl (by kernel_rfl) 6 (by kernel_rfl) [_, _, _, _, _, _] rfl rfl ?_) | (refine wpL_loadAtS hst rfl (ty := 36) rfl 1 rfl rfl (by kernel_rfl) 6 (by kernel_rfl) [_, _, _, _, _, _] rfl rfl ?_) | (refine wpL_loadAtS hst rfl (ty := 36) rfl 2 rfl rfl (by kernel_rfl) 6 (by kernel_rfl) [_, _, _, _, _, _] rfl rfl ?_) | (refine wpL_loadAtS hst rfl (ty := 36) rfl 3 rfl rfl (by kernel_rfl) 6 (by kernel_rfl) [_, _, _, _, _, _] rfl rfl ?_) | (refine wpL_load1S hst rfl rfl 0 rfl rfl rfl (by kernel_rfl) ?_) | (refine wpL_load1S hst rfl rfl 1 rfl rfl rfl (by kernel_rfl) ?_) | (refine wpL_load1S hst rfl rfl 2 rfl rfl rfl (by kernel_rfl) ?_) | (refine wpL_load1S hst rfl rfl 3 rfl rfl rfl (by kernel_rfl) ?_))
            | ((with_reducible refine wpL_isStore rfl ?_); first | (refine wpL_storeS hst rfl (ty := 31) rfl 0 rfl rfl rfl (by kernel_rfl) (by kernel_rfl) rfl rfl ?_; clear hst; intro w1 hst; simp only [List.set] at hst) | (refine wpL_storeS hst rfl (ty := 31) rfl 1 rfl rfl rfl (by kernel_rfl) (by kernel_rfl) rfl rfl ?_; clear hst; intro w1 hst; simp only [List.set] at hst) | (refine wpL_storeS hst rfl (ty := 31) rfl 2 rfl rfl rfl (by kernel_rfl) (by kernel_rfl) rfl rfl ?_; clear hst; intro w1 hst; simp only [List.set] at hst) | (refine wpL_storeS hst rfl (ty := 31) rfl 3 rfl rfl rfl (by kernel_rfl) (by kernel_rfl) rfl rfl ?_; clear hst; intro w1 hst; simp only [List.set] at hst) | (refine wpL_store1S hst rfl rfl 0 rfl rfl rfl rfl (by kernel_rfl) rfl ?_; clear hst; intro w1 hst; simp only [List.set] at hst) | (refine wpL_store1S hst rfl rfl 1 rfl rfl rfl rfl (by kernel_rfl) rfl ?_; clear hst; intro w1 hst; simp only [List.set] at hst) | (refine wpL_store1S hst rfl rfl 2 rfl rfl rfl rfl (by kernel_rfl) rfl ?_; clear hst; intro w1 hst; simp only [List.set] at hst) | (refine wpL_store1S hst rfl rfl 3 rfl rfl rfl rfl (by kernel_rfl) rfl ?_; clear hst; intro w1 hst; simp only [List.set] at hst))
            | ((with_reducible refine wpL_isAlloc rfl ?_); refine wpL_allocS hst rfl 31 rfl (.agg #[.int .i64 0, .int .i64 0, .slice none 0 0]) [.int .i64 0, .int .i64 0, .slice none 0 0] (by kernel_rfl) rfl _ rfl ?_; clear hst; intro w1 b1 hb1 hst)
            | (go_at_call 15; refine (TJ.out _ (hst.blk 0 rfl)).mono ?_; rintro e1 w1 ⟨g, cp, rest, rfl, hcp, hg, hV, ho1⟩; replace hst := hst.new ho1 hV hg; clear ho1 hV)
            | (go_at_call 18; (with_reducible refine (SZ.out _).mono ?_); rintro e1 w1 ⟨rfl, ho1⟩; replace hst := hst.keep ho1; clear ho1)
            | (go_at_call 16; (with_reducible refine (VB.out _ _ _ _ t _ _ (hst.blk 1 rfl) z1).mono ?_); rintro e1 w1 ⟨rfl, ho1⟩; replace hst := hst.keep ho1; clear ho1)
            | (refine wpL_catS rfl rfl _ _ _ rfl rfl TSTEP.out (by omega) ?_)
            | (refine wpL_bytesF hst rfl 9 43 5 _ rfl s rfl Try.underlying9 Try.underlying43 Try.underlying5 ?_))
          clear hst
          intro cap w1 xb hcap hxb hxn hst hcells
          obtain ⟨hc, hf⟩ := hcells.out i hlt0
          have hlt256 := byteAt_lt s i
          have TB1 := Lib.hid (turnB_size s i by')
          obtain ⟨a, ea⟩ : ∃ a, a = byteAt s i := ⟨_, rfl⟩
          have EA := Lib.hid ea
          rw [← ea] at hc hlt256
          have hxor := xor_u8 a by' (by omega) hby
          have hxlt := xor_lt a by' (by omega) hby
          obtain ⟨z, ez⟩ : ∃ z, z = a ^^^ by' := ⟨_, rfl⟩
          rw [← ez] at hxor hxlt
          have EZ := Lib.hid ez
          clear ea ez
          have hcapI : (s.size : Int) ≤ cap := by omega
          go_wp2_with (refine wpL_store1C rfl rfl rfl rfl hc hf (by kernel_rfl) rfl ?_)
          intro w2 ho2 hc2 hk2
          replace hst := hst.other ho2 (.inr hxb) hxn.out
          have HCS : Hid (∀ k, k < (bl (turnB s i by')).length → w2.cell? ⟨xb, k, none⟩ = some (.int .u8 (((bl (turnB s i by')).getD k 0).toNat : Int))) := fun k hk => by
            have hlen : (bl (turnB s i by')).length = s.size := by rw [bl_length, TB1.out]
            rw [hlen] at hk
            have hd : bl (turnB s i by') = (bl s).set i (UInt8.ofNat (byteAt s i ^^^ by')) := rfl
            rw [hd, List.getD_eq_getElem?_getD, List.getElem?_set]
            by_cases e : i = k
            · subst e
              rw [if_pos rfl, if_pos (by rw [bl_length]; exact hk), hc2.out, EZ.out, EA.out]
              have hz256 := xor_lt (byteAt s i) by' (byteAt_lt s i) hby
              show some (Value.int .u8 ((byteAt s i ^^^ by' : Nat) : Int)) = some (Value.int .u8 (((UInt8.ofNat (byteAt s i ^^^ by')).toNat : Nat) : Int))
              rw [UInt8.toNat_ofNat', Nat.mod_eq_of_lt (by omega)]
            · rw [if_neg e, hk2.out k (fun h => e h.symm), (hcells.out k hk).1]
              unfold byteAt
              rw [List.getD_eq_getElem?_getD]
          have HTS : Hid ((bl (turnB s i by')).length = s.size) := by show _ = _; rw [bl_length, TB1.out]
          have OT := Lib.hid (fun w => OF.out (turnB s i by') w (by rw [TB1.out]; exact HS.out))
          have HC2 : Hid (∀ k, k < (bl (turnB s i by')).length → w2.cell? ((⟨xb, 0, none⟩ : Addr).add k) = some (.int .u8 (((bl (turnB s i by')).getD k 0).toNat : Int))) := fun k hk => by rw [show (⟨xb, 0, none⟩ : Addr).add k = ⟨xb, k, none⟩ by unfold Addr.add; split <;> simp_all]; exact HCS.out k hk
          obtain ⟨β, hβ⟩ : ∃ β, ((by' : Int) == 0) = β := ⟨_, rfl⟩
          have SN : Hid (∀ b1 b2 w, Blk w b1 (.int .i64 V :: .int .i64 D :: .int .i64 H :: .int .i64 (k : Int) :: .int .i64 F :: .int .i64 C :: [.string s]) 38 → Blk w b2 (.int .i64 V :: .int .i64 D :: .int .i64 H :: .int .i64 (k : Int) :: .int .i64 F :: .int .i64 C :: [.string (turnB s i by')]) 38 → Calls Try.prog 19 #[.pointer (some ⟨b1, 0, none⟩), .pointer (some ⟨b2, 0, none⟩)] w fun e w' => e = .returned (.bool β) ∧ Only [] w w') := fun b1 b2 w h1 h2 => by
            by_cases hz : by' = 0
            · have e := (turnB_eq s i by' hlt0 hby).2 hz
              rw [← e] at h2
              have hb : β = true := by rw [← hβ, hz]; rfl
              rw [hb]
              exact SY.out b1 b2 w h1 h2
            · have hb : β = false := by rw [← hβ, beq_eq_false_iff_ne]; omega
              rw [hb]
              exact brainSame_no b1 b2 ⟨V, D, H, k, F, C⟩ ⟨V, D, H, k, F, C⟩ s (turnB s i by') w h1 h2 (by omega) (by rw [TB1.out]; omega) (fun e => hz ((turnB_eq s i by' hlt0 hby).1 ((app_left_inj _ _ _).1 e)))
          generalize turnB s i by' = T at HC2 HTS OT SN
          clear HCS hc hf hc2 hk2 ho2 hcells hxn TB1 EA EZ hxor
          go_wp2_with (first
            | ((with_reducible refine wpL_peel rfl ?_ ?_); focus (go_simp; done)) | ((with_reducible refine wpL_isLoad rfl ?_); first | (refine wpL_loadAtS hst rfl (ty := 23) rfl 0 rfl rfl (by kernel_rfl) 6 (by kernel_rfl) [_, _, _, _, _, _] rfl rfl ?_) | (refine wpL_loadAtS hst rfl (ty := 23) rfl 1 rfl rfl (by kernel_rfl) 6 (by kernel_rfl) [_, _, _, _, _, _] rfl rfl ?_) | (refine wpL_loadAtS hst rfl (ty := 23) rfl 2 rfl rfl (by kernel_rfl) 6 (by kernel_rfl) [_, _, _, _, _, _] rfl rfl ?_) | (refine wpL_loadAtS hst rfl (ty := 23) rfl 3 rfl rfl (by kernel_rfl) 6 (by kernel_rfl) [_, _, _, _, _, _] rfl rfl ?_) | (refine wpL_load1S hst rfl rfl 0 rfl rfl rfl (by kernel_rfl) ?_) | (refine wpL_load1S hst rfl rfl 1 rfl rfl rfl (by kernel_rfl) ?_) | (refine wpL_load1S hst rfl rfl 2 rfl rfl rfl (by kernel_rfl) ?_) | (refine wpL_load1S hst rfl rfl 3 rfl rfl rfl (by kernel_rfl) ?_))
            | (refine wpL_str rfl 43 9 5 _ rfl ⟨xb, 0, none⟩ (bl T) s.size cap rfl HTS.out Try.underlying43 Try.underlying5 Try.underlying9 HC2.out ?_)
            | (go_at_call 14; refine (OT.out _).mono ?_; rintro e1 w1 ⟨bo, rfl, hb, hB, ho1⟩; replace hst := hst.new ho1 hB hb; clear ho1 hB)
            | (go_at_call 19; have hq1 := hst.blk 3 rfl; have hq2 := hst.blk 0 rfl; (with_reducible refine (SN.out b bo _ hq1 hq2).mono ?_); rintro e1 w1 ⟨rfl, ho1⟩; replace hst := hst.keep ho1; clear ho1)
            | (go_at_call 19; have hq1 := hst.blk 3 rfl; (with_reducible refine (SY.out b b _ hq1 hq1).mono ?_); rintro e1 w1 ⟨rfl, ho1⟩; replace hst := hst.keep ho1; clear ho1))
          go_ret
          exact ⟨rfl, hst.only⟩

theorem tables_any (c : Cfg) (s : ByteArray) (at' by' : Int) (w : World) (h0 : 0 ≤ by') (h1 : by' < 256) :
    Calls Try.prog 3 #[.agg c.cells.toArray, .string s, .int .i64 at', .int .u8 by'] w fun e w' => e = .returned (.bool true) ∧ Only [] w w' := by
  obtain ⟨n, rfl⟩ : ∃ n : Nat, by' = (n : Int) := ⟨by'.toNat, by omega⟩
  by_cases h : CanBe c ∧ (s.size : Int) = c.all
  · exact tables_yes c s at' n w h.1 h.2 (by omega)
  · exact tables_no c s at' n w h

end Go.Proofs.Ytgdifegbpbnekaa
