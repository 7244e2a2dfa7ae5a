/- Twins: what they say; opened. -/
import Derived.Test.YtmogkiacakkmbaaTwinB
import Derived.Test.YtmogkiacakkmbaaDskF
namespace Go.Proofs.Ytmogkiacakkmbaa
open Go.RowKit

set_option maxRecDepth 100000 in
set_option maxHeartbeats 16000000 in
theorem twinFormat_yes (z d f n : Nat) (m : DM) (F : List Nat) (s : ByteArray) (w : World) (hz : Blk w z (zcells d f n) 34) (hd : DiskAt w d m F) (hzF : z ∉ F) (hf : f ≤ 4096) (hn : n ≤ 4096) (h0 : 0 < m.len) (few : m.loose.length ≤ 800000) (hzo : zoneOk n = true) (hft : fits (n / 2) s = true) (hok : (fmtR m f n s).2 = 0) :
    Calls Try.prog 33 #[.pointer (some ⟨z, 0, none⟩), .string s] w fun e w' => ∃ t F', e = .returned (.tuple #[.pointer (some ⟨t, 0, none⟩), .int .i64 0]) ∧ w.heap.size ≤ t ∧ Blk w' t (tcells z s 1 0 false) 98 ∧ DiskAt w' d (fmtR m f n s).1 F' ∧ Turn F F' w w' ∧ t ∉ F' := by
  have hst := (Sd.with (diskR d m F) hd).read hz (by simp) (fun r hr => by simp only [List.mem_singleton] at hr; subst hr; exact hzF)
  have a0 : (layA m f n).2 = 0 := Classical.byContradiction fun h => by unfold fmtR at hok; rw [if_pos h] at hok; exact h hok
  have c0 : (fmtC m f n s).2 = 0 := Classical.byContradiction fun h => by unfold fmtR at hok; rw [if_neg (by rw [a0]; simp), if_pos h] at hok; exact h hok
  have eR : fmtR m f n s = ((fmtC m f n s).1.sync, (fmtC m f n s).1.syncE) := by unfold fmtR; rw [if_neg (by rw [a0]; simp), if_neg (by rw [c0]; simp)]
  rw [eR] at hok ⊢
  simp only at hok ⊢
  obtain ⟨f1, f2⟩ := fits_iff.1 hft
  have IZ : Hid (∀ w, Blk w z (zcells d f n) 34 → Calls Try.prog 97 #[.pointer (some ⟨z, 0, none⟩)] w fun e w' => e = .returned (.bool true) ∧ w = w') := fun w h => by have := isZone_any z d f n w h; rw [hzo] at this; exact this
  have IT : Hid (∀ w, Blk w z (zcells d f n) 34 → Calls Try.prog 98 #[.pointer (some ⟨z, 0, none⟩), .string s] w fun e w' => e = .returned (.bool true) ∧ w = w') := fun w h => by have := isText_any z d f n s w h hn; rw [hft] at this; exact this
  have hA := fillJ_few m f n (zeroS 32) n
  change (layA m f n).1.loose.length ≤ _ at hA
  have hAl : (layA m f n).1.len = m.len := fillJ_len m f n (zeroS 32) n
  have FL : Hid (∀ F w, Blk w z (zcells d f n) 34 → DiskAt w d m F → z ∉ F → Calls Try.prog 99 #[.pointer (some ⟨z, 0, none⟩), .int .u8 0] w fun e w' => ∃ F', e = .returned (.int .i64 0) ∧ DiskAt w' d (layA m f n).1 F' ∧ Turn F F' w w') := fun F w h1 h2 h3 => by
    have := zonFill_any z d f n m F w h1 h2 h3 hf hn h0 (by omega)
    change Calls _ _ _ _ fun e w' => ∃ F', e = .returned (.int .i64 (layA m f n).2) ∧ DiskAt w' d (layA m f n).1 F' ∧ Turn F F' w w' at this
    rw [a0] at this
    exact this
  have hC := putR_few (layA m f n).1 f n 0 1 s f1
  change (fmtC m f n s).1.loose.length ≤ _ at hC
  have hCl : (fmtC m f n s).1.len = m.len := (putR_len (layA m f n).1 f n 0 1 s).trans hAl
  have PT : Hid (∀ F w, Blk w z (zcells d f n) 34 → DiskAt w d (layA m f n).1 F → z ∉ F → Calls Try.prog 16 #[.pointer (some ⟨z, 0, none⟩), .int .i64 0, .int .i64 1, .string s] w fun e w' => ∃ F', e = .returned (.int .i64 0) ∧ DiskAt w' d (fmtC m f n s).1 F' ∧ Turn F F' w w') := fun F w h1 h2 h3 => by
    have := sealPut_any z d f n (layA m f n).1 F 0 1 s w h1 h2 h3 hf hn (by omega) (by omega)
    change Calls _ _ _ _ fun e w' => ∃ F', e = .returned (.int .i64 (fmtC m f n s).2) ∧ DiskAt w' d (fmtC m f n s).1 F' ∧ Turn F F' w w' at this
    rw [c0] at this
    exact this
  have SY : Hid (∀ F w, DiskAt w d (fmtC m f n s).1 F → Calls Try.prog 17 #[.pointer (some ⟨d, 0, none⟩)] w fun e w' => ∃ F', e = .returned (.int .i64 0) ∧ DiskAt w' d (fmtC m f n s).1.sync F' ∧ Turn F F' w w') := fun F w h => by
    have := dskSync_any d (fmtC m f n s).1 F w h (by omega) (by omega)
    rw [hok] at this
    exact this
  obtain ⟨m1, e1⟩ : ∃ x, x = (layA m f n).1 := ⟨_, rfl⟩
  obtain ⟨m2, e2⟩ : ∃ x, x = (fmtC m f n s).1 := ⟨_, rfl⟩
  obtain ⟨m3, e3⟩ : ∃ x, x = (fmtC m f n s).1.sync := ⟨_, rfl⟩
  rw [← e3] at SY ⊢
  rw [← e1] at FL PT
  rw [← e2] at PT SY
  clear hd hz hzF e1 e2 e3 eR a0 c0 hok hA hAl hC hCl
  go_enter Try.func33, Try.ntmps33
  go_wp2_with (first
    | ((with_reducible refine wpL_peel rfl ?_ ?_); focus (go_simp; done)) | (go_at_call 97; (with_reducible refine (IZ.out _ (hst.blk 0 rfl)).mono ?_); rintro e1 w1 ⟨rfl, rfl⟩) | (go_at_call 98; (with_reducible refine (IT.out _ (hst.blk 0 rfl)).mono ?_); rintro e1 w1 ⟨rfl, rfl⟩)
    | (go_at_call 99; (with_reducible refine (FL.out _ _ (hst.blk 0 rfl) (hst.rs 0 rfl) (hst.away 0 0 rfl rfl)).mono ?_); rintro e1 w1 ⟨F1, rfl, hd1, ht1⟩; replace hst := hst.act 0 rfl (diskR _ _ F1) rfl ht1 hd1; simp only [List.set] at hst; clear hd1 ht1)
    | (go_at_call 16; (with_reducible refine (PT.out _ _ (hst.blk 0 rfl) (hst.rs 0 rfl) (hst.away 0 0 rfl rfl)).mono ?_); rintro e1 w1 ⟨F1, rfl, hd1, ht1⟩; replace hst := hst.act 0 rfl (diskR _ _ F1) rfl ht1 hd1; simp only [List.set] at hst; clear hd1 ht1)
    | (go_at_call 17; (with_reducible refine (SY.out _ _ (hst.rs 0 rfl)).mono ?_); rintro e1 w1 ⟨F1, rfl, hd1, ht1⟩; replace hst := hst.act 0 rfl (diskR _ _ F1) rfl ht1 hd1; simp only [List.set] at hst; clear hd1 ht1)
    | ((with_reducible refine wpL_peel rfl ?_ ?_); focus (go_simp; done)) | ((with_reducible refine wpL_isLoad rfl ?_); first | (refine wpL_load1S hst.st rfl rfl 0 rfl rfl rfl (by kernel_rfl) ?_))
    | ((with_reducible refine wpL_isBuildD rfl ?_); refine wpL_build3 rfl 98 rfl rfl rfl rfl _ (twinBuilt3 _ _) ?_)
    | ((with_reducible refine wpL_isBoxD rfl ?_); refine wpL_boxD hst rfl 98 rfl rfl ?_; have hsz := Lib.hid hst.only.size; clear hst; intro w1 t ht hst))
  go_ret2
  exact ⟨_, _, rfl, Nat.le_trans hsz.out ht, hst.blk 0 rfl, hst.rs 0 rfl, hst.turn 0 rfl rfl, hst.away 0 0 rfl rfl⟩
end Go.Proofs.Ytmogkiacakkmbaa

namespace Go.Proofs.Ytmogkiacakkmbaa
open Go.RowKit

set_option maxRecDepth 100000 in
set_option maxHeartbeats 4000000 in
theorem twinText_any (t z : Nat) (s : ByteArray) (g k : Int) (dn : Bool) (w : World) (h : Blk w t (tcells z s g k dn) 98) :
    Calls Try.prog 35 #[.pointer (some ⟨t, 0, none⟩)] w fun e w' => e = .returned (.string s) ∧ w = w' := by
  have hst := Sd.of (St.with (S := []) h)
  unfold tcells at hst
  clear h
  go_enter Try.func35, Try.ntmps35
  go_wp2_with (first | ((with_reducible refine wpL_peel rfl ?_ ?_); focus (go_simp; done)) | ((with_reducible refine wpL_isLoad rfl ?_); first | (refine wpL_load1S hst.st rfl rfl 0 rfl rfl rfl (by kernel_rfl) ?_)))
  go_ret
  exact ⟨rfl, rfl⟩
set_option maxRecDepth 100000 in
set_option maxHeartbeats 4000000 in
theorem twinGen_any (t z : Nat) (s : ByteArray) (g k : Int) (dn : Bool) (w : World) (h : Blk w t (tcells z s g k dn) 98) :
    Calls Try.prog 36 #[.pointer (some ⟨t, 0, none⟩)] w fun e w' => e = .returned (.int .i64 g) ∧ w = w' := by
  have hst := Sd.of (St.with (S := []) h)
  unfold tcells at hst
  clear h
  go_enter Try.func36, Try.ntmps36
  go_wp2_with (first | ((with_reducible refine wpL_peel rfl ?_ ?_); focus (go_simp; done)) | ((with_reducible refine wpL_isLoad rfl ?_); first | (refine wpL_load1S hst.st rfl rfl 0 rfl rfl rfl (by kernel_rfl) ?_)))
  go_ret
  exact ⟨rfl, rfl⟩
set_option maxRecDepth 100000 in
set_option maxHeartbeats 4000000 in
theorem twinSide_any (t z : Nat) (s : ByteArray) (g k : Int) (dn : Bool) (w : World) (h : Blk w t (tcells z s g k dn) 98) :
    Calls Try.prog 37 #[.pointer (some ⟨t, 0, none⟩)] w fun e w' => e = .returned (.int .i64 k) ∧ w = w' := by
  have hst := Sd.of (St.with (S := []) h)
  unfold tcells at hst
  clear h
  go_enter Try.func37, Try.ntmps37
  go_wp2_with (first | ((with_reducible refine wpL_peel rfl ?_ ?_); focus (go_simp; done)) | ((with_reducible refine wpL_isLoad rfl ?_); first | (refine wpL_load1S hst.st rfl rfl 0 rfl rfl rfl (by kernel_rfl) ?_)))
  go_ret
  exact ⟨rfl, rfl⟩

theorem zreadE_on (m : DM) (f n : Nat) (a : Int) (haw : m.away = false) : zreadE m f n a ≠ 4 := by
  unfold zreadE DM.check
  rw [haw]
  split
  · split
    · decide
    · decide
  · decide
theorem rowJ_on (m : DM) (f n : Nat) (a : Int) (haw : m.away = false) : ∀ j, (rowJ m f n a j).2.2 ≠ 4
  | 0 => by simp [rowJ]
  | j + 1 => by
    have ih := rowJ_on m f n a haw j
    unfold rowJ
    split
    · exact ih
    · split
      · simp
      · split
        · exact zreadE_on m f n _ haw
        · split
          · simp
          · simp
theorem getR_on (m : DM) (f n : Nat) (a : Int) (haw : m.away = false) : (getR m f n a).2.2 ≠ 4 := by
  unfold getR
  split
  · exact zreadE_on m f n a haw
  · split
    · exact rowJ_on m f n a haw 2
    · split
      · simp
      · split
        · exact rowJ_on m f n a haw _
        · split
          · simp
          · simp

set_option maxRecDepth 100000 in
set_option maxHeartbeats 16000000 in
theorem twinOpen_any (z d f n : Nat) (m : DM) (F : List Nat) (w : World) (hz : Blk w z (zcells d f n) 34) (hd : DiskAt w d m F) (hzF : z ∉ F) (hf : f ≤ 4096) (hn : n ≤ 4096) (few : m.loose.length ≤ 1000000) (haw : m.away = false) (hzo : zoneOk n = true) :
    Calls Try.prog 32 #[.pointer (some ⟨z, 0, none⟩)] w fun e w' => ((openR m f n).2.1 = 0 ∧ e = .returned (.tuple #[.pointer none, .int .i64 5]) ∧ Only [] w w') ∨
      ((openR m f n).2.1 ≠ 0 ∧ ∃ t, e = .returned (.tuple #[.pointer (some ⟨t, 0, none⟩), .int .i64 0]) ∧ w.heap.size ≤ t ∧ Blk w' t (tcells z (openR m f n).1 (openR m f n).2.1 (openR m f n).2.2 false) 98 ∧ Only [] w w') := by
  have hst := (Sd.withQ [] (diskQ d m F) hd rfl).read hz (by simp) (fun r hr => by simp only [List.mem_singleton] at hr; subst hr; exact hzF)
  have LN : Hid (∀ w, Blk w z (zcells d f n) 34 → Calls Try.prog 80 #[.pointer (some ⟨z, 0, none⟩)] w fun e w' => e = .returned (.int .i64 (n : Int)) ∧ w = w') := fun w h => zonLen_any z d f n w h
  have IZ : Hid (∀ w, Blk w z (zcells d f n) 34 → Calls Try.prog 97 #[.pointer (some ⟨z, 0, none⟩)] w fun e w' => e = .returned (.bool true) ∧ w = w') := fun w h => by have := isZone_any z d f n w h; rw [hzo] at this; exact this
  have IT : Hid (∀ s w, Blk w z (zcells d f n) 34 → Calls Try.prog 98 #[.pointer (some ⟨z, 0, none⟩), .string s] w fun e w' => e = .returned (.bool (fits (n / 2) s)) ∧ w = w') := fun s w h => isText_any z d f n s w h hn
  have GT : Hid (∀ (j : Nat) w, Blk w z (zcells d f n) 34 → DiskAt w d m F → Calls Try.prog 21 #[.pointer (some ⟨z, 0, none⟩), .int .i64 ((j : Int) * (n : Int) / 2)] w fun e w' => e = .returned (.tuple #[.string (getR m f n ((j * n / 2 : Nat) : Int)).1, .int .i64 (getR m f n ((j * n / 2 : Nat) : Int)).2.1, .int .i64 (getR m f n ((j * n / 2 : Nat) : Int)).2.2]) ∧ Only [] w w') := fun j w h1 h2 => by
    have := sealGet_any z d f n m F ((j * n / 2 : Nat) : Int) w h1 h2 hzF hf hn few
    rw [show ((j : Int) * (n : Int) / 2) = ((j * n / 2 : Nat) : Int) by rw [Int.natCast_ediv, Int.natCast_mul]; rfl]
    exact this
  have GO := Lib.hid (fun a => getR_on m f n a haw)
  have hn' : (n : Int) ≤ 4096 := by omega
  clear hd hz hzF hzo haw
  go_enter Try.func32, Try.ntmps32
  go_wp2_with (first
    | ((with_reducible refine wpL_peel rfl ?_ ?_); focus (go_simp; done)) | (go_at_call 97; (with_reducible refine (IZ.out _ (hst.blk 0 rfl)).mono ?_); rintro e1 w1 ⟨rfl, rfl⟩)
    | ((with_reducible refine wpL_isBuildD rfl ?_); refine wpL_build1 rfl 98 rfl rfl _ (twinBuilt1 _) ?_)
    | ((with_reducible refine wpL_isBoxD rfl ?_); refine wpL_boxD hst rfl 98 rfl rfl ?_; have hsz := Lib.hid hst.only.size; clear hst; intro w1 t ht hst))
  go_loopw [19] (fun i wr => ∃ (j : Nat), j ≤ 2 ∧ i = .int .i64 (j : Int) ∧ Sd w [] wr [⟨t, tcells z (openJ m f n j).1 (openJ m f n j).2.1 (openJ m f n j).2.2 false, 98, true⟩, ⟨z, zcells d f n, 34, false⟩] [diskQ d m F])
    (fun i _ => (2 - intOf i).toNat)
  case atStart => exact ⟨0, by omega, rfl, hst⟩
  case round =>
    obtain ⟨j, hj, rfl, hst⟩ := hrel
    by_cases hlt : j < 2
    · have j1 : (j : Int) < 2 := by omega
      have hP0 : 0 ≤ (j : Int) * (n : Int) := Int.mul_nonneg (by omega) (by omega)
      have hP1 : (j : Int) * (n : Int) ≤ 4096 := by
        have : (j : Int) * (n : Int) ≤ 1 * (n : Int) := Int.mul_le_mul_of_nonneg_right (by omega) (by omega)
        omega
      have HJ : Hid (j + 1 ≤ 2) := hlt
      have GJ := Lib.hid (GT.out j)
      have PJ : openJ m f n (j + 1) = openStep (n / 2) (openJ m f n j) (j : Int) (getR m f n ((j * n / 2 : Nat) : Int)) := rfl
      have GE := GO.out ((j * n / 2 : Nat) : Int)
      rcases hG : getR m f n ((j * n / 2 : Nat) : Int) with ⟨tx, k, er⟩
      rcases hS : openJ m f n j with ⟨ts, g, sd⟩
      rw [hG] at GJ GE PJ
      rw [hS] at hst PJ
      unfold tcells at hst
      simp only at GJ GE PJ hst
      have c4 : (er == 4) = false := by simpa using GE
      have IX := Lib.hid (IT.out tx)
      have I0 := Lib.hid hj
      clear GE hG hS GT IT GO
      have fin : ∀ (wr : World), openJ m f n (j + 1) = (ts, g, sd) → Sd w [] wr [⟨t, [.pointer (some ⟨z, 0, none⟩), .string ts, .int .i64 g, .int .i64 sd, .bool false], 98, true⟩, ⟨z, zcells d f n, 34, false⟩] [diskQ d m F] →
          Sd w [] wr [⟨t, tcells z (openJ m f n (j + 1)).1 (openJ m f n (j + 1)).2.1 (openJ m f n (j + 1)).2.2 false, 98, true⟩, ⟨z, zcells d f n, 34, false⟩] [diskQ d m F] := fun _ e h => by rw [e]; exact h
      have FIN := Lib.hid fin
      clear fin
      by_cases c0 : er = 0
      · subst c0
        cases hfit : fits (n / 2) tx
        · rw [hfit] at IX
          have E := Lib.hid (PJ.trans (if_neg (fun h => by rw [hfit] at h; cases h.2.1)))
          clear PJ hfit
          go_wp2_with (first
            | ((with_reducible refine wpL_peel rfl ?_ ?_); focus (go_simp; done)) | (go_at_call 80; (with_reducible refine (LN.out _ (hst.blk 1 rfl)).mono ?_); rintro e1 w1 ⟨rfl, rfl⟩) | (go_at_call 21; (with_reducible refine (GJ.out _ (hst.blk 1 rfl) (hst.rs 0 rfl)).mono ?_); rintro e1 w1 ⟨rfl, ho1⟩; replace hst := hst.keep ho1; clear ho1)
            | (go_at_call 98; (with_reducible refine (IX.out _ (hst.blk 1 rfl)).mono ?_); rintro e1 w1 ⟨rfl, rfl⟩))
          go_roundw
          case rel => exact ⟨j + 1, HJ.out, by go_num, FIN.out _ E.out hst⟩
          case measure => simp [intOf]; omega
        · rw [hfit] at IX
          by_cases cg : g < k
          · have E := Lib.hid (PJ.trans (if_pos ⟨rfl, hfit, cg⟩))
            clear PJ hfit FIN
            go_wp2_with (first
              | ((with_reducible refine wpL_peel rfl ?_ ?_); focus (go_simp; done)) | (go_at_call 80; (with_reducible refine (LN.out _ (hst.blk 1 rfl)).mono ?_); rintro e1 w1 ⟨rfl, rfl⟩) | (go_at_call 21; (with_reducible refine (GJ.out _ (hst.blk 1 rfl) (hst.rs 0 rfl)).mono ?_); rintro e1 w1 ⟨rfl, ho1⟩; replace hst := hst.keep ho1; clear ho1)
              | (go_at_call 98; (with_reducible refine (IX.out _ (hst.blk 1 rfl)).mono ?_); rintro e1 w1 ⟨rfl, rfl⟩)
              | ((with_reducible refine wpL_peel rfl ?_ ?_); focus (go_simp; done)) | ((with_reducible refine wpL_isLoad rfl ?_); first | (refine wpL_load1S hst.st rfl rfl 0 rfl rfl rfl (by kernel_rfl) ?_) | (refine wpL_load1S hst.st rfl rfl 1 rfl rfl rfl (by kernel_rfl) ?_)) | ((with_reducible refine wpL_isStore rfl ?_); first | (refine wpL_store1D hst rfl rfl 0 rfl rfl rfl rfl (by kernel_rfl) rfl ?_; clear hst; intro w1 hst; simp only [List.set] at hst) | (refine wpL_store1D hst rfl rfl 1 rfl rfl rfl rfl (by kernel_rfl) rfl ?_; clear hst; intro w1 hst; simp only [List.set] at hst) | (refine wpL_store1D hst rfl rfl 2 rfl rfl rfl rfl (by kernel_rfl) rfl ?_; clear hst; intro w1 hst; simp only [List.set] at hst) | (refine wpL_store1D hst rfl rfl 3 rfl rfl rfl rfl (by kernel_rfl) rfl ?_; clear hst; intro w1 hst; simp only [List.set] at hst)))
            go_roundw
            case rel => exact ⟨j + 1, HJ.out, by go_num, by rw [E.out]; exact hst⟩
            case measure => simp [intOf]; omega
          · have E := Lib.hid (PJ.trans (if_neg (fun h => cg h.2.2)))
            clear PJ hfit
            go_wp2_with (first
              | ((with_reducible refine wpL_peel rfl ?_ ?_); focus (go_simp; done)) | (go_at_call 80; (with_reducible refine (LN.out _ (hst.blk 1 rfl)).mono ?_); rintro e1 w1 ⟨rfl, rfl⟩) | (go_at_call 21; (with_reducible refine (GJ.out _ (hst.blk 1 rfl) (hst.rs 0 rfl)).mono ?_); rintro e1 w1 ⟨rfl, ho1⟩; replace hst := hst.keep ho1; clear ho1)
              | (go_at_call 98; (with_reducible refine (IX.out _ (hst.blk 1 rfl)).mono ?_); rintro e1 w1 ⟨rfl, rfl⟩)
              | ((with_reducible refine wpL_peel rfl ?_ ?_); focus (go_simp; done)) | ((with_reducible refine wpL_isLoad rfl ?_); first | (refine wpL_load1S hst.st rfl rfl 0 rfl rfl rfl (by kernel_rfl) ?_) | (refine wpL_load1S hst.st rfl rfl 1 rfl rfl rfl (by kernel_rfl) ?_)))
            go_roundw
            case rel => exact ⟨j + 1, HJ.out, by go_num, FIN.out _ E.out hst⟩
            case measure => simp [intOf]; omega
      · have E := Lib.hid (PJ.trans (if_neg (fun h => c0 h.1)))
        have d0 : (er == 0) = false := by simpa using c0
        clear PJ c0
        go_wp2_with (first
          | ((with_reducible refine wpL_peel rfl ?_ ?_); focus (go_simp; done)) | (go_at_call 80; (with_reducible refine (LN.out _ (hst.blk 1 rfl)).mono ?_); rintro e1 w1 ⟨rfl, rfl⟩) | (go_at_call 21; (with_reducible refine (GJ.out _ (hst.blk 1 rfl) (hst.rs 0 rfl)).mono ?_); rintro e1 w1 ⟨rfl, ho1⟩; replace hst := hst.keep ho1; clear ho1))
        go_roundw
        case rel => exact ⟨j + 1, HJ.out, by go_num, FIN.out _ E.out hst⟩
        case measure => simp [intOf]; omega
    · obtain rfl : j = 2 := by omega
      have j1 : ¬ ((2 : Nat) : Int) < 2 := by omega
      change Sd _ _ _ [⟨t, tcells z (openR m f n).1 (openR m f n).2.1 (openR m f n).2.2 false, 98, true⟩, ⟨z, zcells d f n, 34, false⟩] _ at hst
      rcases hS : openR m f n with ⟨ts, g, sd⟩
      rw [hS] at hst
      unfold tcells at hst
      simp only at hst ⊢
      have ES := Lib.hid hS
      clear hS
      by_cases cg : g = 0
      · subst cg
        go_wp2_with (first | ((with_reducible refine wpL_peel rfl ?_ ?_); focus (go_simp; done)) | ((with_reducible refine wpL_isLoad rfl ?_); first | (refine wpL_load1S hst.st rfl rfl 0 rfl rfl rfl (by kernel_rfl) ?_) | (refine wpL_load1S hst.st rfl rfl 1 rfl rfl rfl (by kernel_rfl) ?_)))
        go_ret2
        exact .inl ⟨by rw [ES.out], rfl, hst.only⟩
      · have cg2 : (g == 0) = false := by simpa using cg
        go_wp2_with (first | ((with_reducible refine wpL_peel rfl ?_ ?_); focus (go_simp; done)) | ((with_reducible refine wpL_isLoad rfl ?_); first | (refine wpL_load1S hst.st rfl rfl 0 rfl rfl rfl (by kernel_rfl) ?_) | (refine wpL_load1S hst.st rfl rfl 1 rfl rfl rfl (by kernel_rfl) ?_)))
        go_ret2
        exact .inr ⟨by rw [ES.out]; exact cg, t, rfl, Nat.le_trans hsz.out ht, by rw [ES.out]; exact hst.blk 0 rfl, hst.only⟩
end Go.Proofs.Ytmogkiacakkmbaa
