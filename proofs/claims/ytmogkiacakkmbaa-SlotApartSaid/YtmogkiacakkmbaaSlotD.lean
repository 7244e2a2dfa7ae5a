/- Slots: whether there may be so many chunks; all of them. -/
import Derived.Test.YtmogkiacakkmbaaSlotC
namespace Go.Proofs.Ytmogkiacakkmbaa
open Go.RowKit

set_option maxRecDepth 100000 in
set_option maxHeartbeats 8000000 in
theorem slotMany_yes (a z d f n size : Nat) (m : DM) (F : List Nat) (w : World) (ha : Blk w a (slcells z size) 80) (hz : Blk w z (zcells d f n) 34) (hd : DiskAt w d m F) (haz : a ≠ z) (haF : a ∉ F) (hzF : z ∉ F) (hn : n ≤ 4096) (h1 : 1 ≤ size) (h2 : size ≤ 256) (haw : m.away = false) (c : Nat) (hc1 : 1 ≤ c) (hc : c ≤ chunksN n size) :
    Calls Try.prog 108 #[.pointer (some ⟨a, 0, none⟩), .int .i64 (c : Int)] w fun e w' => e = .returned (.int .i64 0) ∧ Only [] w w' := by
  have hst := ((Sd.withQ [] (diskQ d m F) hd rfl).read ha (by simp) (fun r hr => by simp only [List.mem_singleton] at hr; subst hr; exact haF)).read hz (fun x hx => by simp only [List.mem_singleton] at hx; subst hx; exact haz) (fun r hr => by simp only [List.mem_singleton] at hr; subst hr; exact hzF)
  have CH : Hid (∀ w, Blk w a (slcells z size) 80 → Blk w z (zcells d f n) 34 → Calls Try.prog 45 #[.pointer (some ⟨a, 0, none⟩)] w fun e w' => e = .returned (.int .i64 (chunksN n size : Int)) ∧ Only [] w w') := fun w h3 h4 => slotChunks_any a z d f n size w h3 h4 haz hn h1 h2
  have ION : Hid (∀ w, DiskAt w d m F → Calls Try.prog 55 #[.pointer (some ⟨d, 0, none⟩)] w fun e w' => e = .returned (.bool true) ∧ Only [] w w') := fun w h => by
    have := dskIsOn_any d m F w h
    rw [haw] at this
    exact this
  have hci : ¬ (chunksN n size : Int) < (c : Int) := by omega
  have hc0 : ¬ (c : Int) < 1 := by omega
  generalize chunksN n size = k at *
  unfold slcells zcells at hst
  clear ha hz hd haz haF hzF hn h1 h2 haw hc1 hc
  go_enter Try.func108, Try.ntmps108
  go_wp2_with (first | ((with_reducible refine wpL_peel rfl ?_ ?_); focus (go_simp; done)) | (go_at_call 45; (with_reducible refine (CH.out _ (hst.blk 1 rfl) (hst.blk 0 rfl)).mono ?_); rintro e1 w1 ⟨rfl, ho1⟩; replace hst := hst.keep ho1; clear ho1) | (go_at_call 55; (with_reducible refine (ION.out _ (hst.rs 0 rfl)).mono ?_); rintro e1 w1 ⟨rfl, ho1⟩; replace hst := hst.keep ho1; clear ho1) | ((with_reducible refine wpL_peel rfl ?_ ?_); focus (go_simp; done)) | ((with_reducible refine wpL_isLoad rfl ?_); first | (refine wpL_load1S hst.st rfl rfl 0 rfl rfl rfl (by kernel_rfl) ?_) | (refine wpL_load1S hst.st rfl rfl 1 rfl rfl rfl (by kernel_rfl) ?_)))
  go_ret
  exact ⟨rfl, hst.only⟩

theorem getR_text9 (m : DM) (f n : Nat) (a : Int) : (getR m f n a).1.size ≤ 1024 := by
  have hl2 : ∀ l l', (txtOf l (lenOf l').toNat).size ≤ 1024 := fun l l' => by
    have := (eyeNum_range 1024 (by decide) ((⟨l'.toArray⟩ : ByteArray).extract 32 56) false).2
    unfold txtOf
    rw [← bl_length, bl_extract]
    simp only [List.length_drop, List.length_take]
    unfold lenOf
    omega
  unfold getR
  split
  · exact Nat.zero_le _
  · split
    · exact Nat.zero_le _
    · split
      · exact Nat.zero_le _
      · split
        · exact Nat.zero_le _
        · split
          · exact Nat.zero_le _
          · exact hl2 _ _
theorem slotG_text (size : Nat) (m : DM) (f n : Nat) (a : Int) : (slotG size (getR m f n a)).1.size ≤ 1024 := by
  unfold slotG
  split
  · exact Nat.zero_le _
  · exact getR_text9 _ _ _ _
/-- So many chunks, one behind the other; none: one is missing, or of another number. -/
def gotJ (m : DM) (f n size : Nat) (num : Int) : Nat → Option (List UInt8)
  | 0 => some []
  | j + 1 => match gotJ m f n size num j with
    | none => none
    | some l => if (slotG size (getR m f n ((j : Int) * (secsOf size : Int)))).2.2 = 0 ∧ (slotG size (getR m f n ((j : Int) * (secsOf size : Int)))).2.1 = num then some (l ++ bl (slotG size (getR m f n ((j : Int) * (secsOf size : Int)))).1) else none
theorem gotJ_len (m : DM) (f n size : Nat) (num : Int) : ∀ j l, gotJ m f n size num j = some l → l.length ≤ 1024 * j
  | 0, l, h => by simp [gotJ] at h; subst h; simp
  | j + 1, l, h => by
    unfold gotJ at h
    cases hg : gotJ m f n size num j with
    | none => rw [hg] at h; cases h
    | some l' =>
      rw [hg] at h
      simp only at h
      split at h
      · have := gotJ_len m f n size num j l' hg
        have h2 := slotG_text size m f n ((j : Int) * (secsOf size : Int))
        cases h
        rw [List.length_append, bl_length]
        omega
      · cases h
theorem gotJ_stuck (m : DM) (f n size : Nat) (num : Int) (j K : Nat) (h : gotJ m f n size num j = none) (hk : j ≤ K) : gotJ m f n size num K = none := by
  obtain ⟨k, rfl⟩ : ∃ k, K = j + k := ⟨K - j, by omega⟩
  clear hk
  induction k with
  | zero => exact h
  | succ k ih =>
    rw [← Nat.add_assoc, gotJ, ih]

set_option maxRecDepth 100000 in
set_option maxHeartbeats 16000000 in
theorem slotAll_any (a z d f n size : Nat) (m : DM) (F : List Nat) (w : World) (ha : Blk w a (slcells z size) 80) (hz : Blk w z (zcells d f n) 34) (hd : DiskAt w d m F) (haz : a ≠ z) (haF : a ∉ F) (hzF : z ∉ F) (hf : f ≤ 4096) (hn : n ≤ 4096) (h1 : 1 ≤ size) (h2 : size ≤ 256) (few : m.loose.length ≤ 700000) (haw : m.away = false) (c : Nat) (hc1 : 1 ≤ c) (hc : c ≤ chunksN n size) (num : Int) :
    Calls Try.prog 49 #[.pointer (some ⟨a, 0, none⟩), .int .i64 num, .int .i64 (c : Int)] w fun e w' => (∀ l, gotJ m f n size num c = some l → e = .returned (.tuple #[.string ⟨l.toArray⟩, .int .i64 0])) ∧ (gotJ m f n size num c = none → e = .returned (.tuple #[.string ⟨#[]⟩, .int .i64 5])) ∧ Only [] w w' := by
  have hst := ((Sd.withQ [] (diskQ d m F) hd rfl).read ha (by simp) (fun r hr => by simp only [List.mem_singleton] at hr; subst hr; exact haF)).read hz (fun x hx => by simp only [List.mem_singleton] at hx; subst hx; exact haz) (fun r hr => by simp only [List.mem_singleton] at hr; subst hr; exact hzF)
  have MY : Hid (∀ w, Blk w a (slcells z size) 80 → Blk w z (zcells d f n) 34 → DiskAt w d m F → Calls Try.prog 108 #[.pointer (some ⟨a, 0, none⟩), .int .i64 (c : Int)] w fun e w' => e = .returned (.int .i64 0) ∧ Only [] w w') := fun w h3 h4 h5 => slotMany_yes a z d f n size m F w h3 h4 h5 haz haF hzF hn h1 h2 haw c hc1 hc
  have GT : Hid (∀ (j : Nat) w, j < c → Blk w a (slcells z size) 80 → Blk w z (zcells d f n) 34 → DiskAt w d m F → Calls Try.prog 51 #[.pointer (some ⟨a, 0, none⟩), .int .i64 (j : Int)] w fun e w' => e = .returned (.tuple #[.string (slotG size (getR m f n ((j : Int) * (secsOf size : Int)))).1, .int .i64 (slotG size (getR m f n ((j : Int) * (secsOf size : Int)))).2.1, .int .i64 (slotG size (getR m f n ((j : Int) * (secsOf size : Int)))).2.2]) ∧ Only [] w w') := fun j w hj h3 h4 h5 => slotGet_yes a z d f n size m F w h3 h4 h5 haz haF hzF hf hn h1 h2 few j (by omega)
  have ST := Lib.hid (gotJ_stuck m f n size num)
  have GL := Lib.hid (gotJ_len m f n size num)
  have TS := Lib.hid (slotG_text size m f n)
  have hci : (c : Int) ≤ 64 := by unfold chunksN at hc; omega
  clear ha hz hd haz haF hzF hf hn h1 h2 few haw hc1 hc
  go_enter Try.func49, Try.ntmps49
  go_wp2_with (first
    | (go_at_call 108; (with_reducible refine (MY.out _ (hst.blk 1 rfl) (hst.blk 0 rfl) (hst.rs 0 rfl)).mono ?_); rintro e1 w1 ⟨rfl, ho1⟩; replace hst := hst.keep ho1; clear ho1)
    | ((with_reducible refine wpL_isAlloc rfl ?_); refine wpL_allocBld hst rfl rfl (by kernel_rfl) 9 rfl ?_; clear hst; intro w1 b hb hst))
  go_loopw [21] (fun i wr => ∃ (j : Nat) (l : List UInt8) (Fb : List Nat), j ≤ c ∧ i = .int .i64 (j : Int) ∧ Hid (gotJ m f n size num j = some l) ∧ Sd w [] wr [⟨z, zcells d f n, 34, false⟩, ⟨a, slcells z size, 80, false⟩] [bldR b l Fb, diskQ d m F])
    (fun i _ => (c - intOf i).toNat)
  case atStart => exact ⟨0, [], [b], by omega, rfl, rfl, hst⟩
  case round =>
    obtain ⟨j, l, Fb, hj, rfl, HG, hst⟩ := hrel
    by_cases hlt : j < c
    · have j1 : (j : Int) < c := by omega
      have HJ : Hid (j + 1 ≤ c) := hlt
      have GJ := Lib.hid (fun w => GT.out j w hlt)
      have NX : gotJ m f n size num (j + 1) = if (slotG size (getR m f n ((j : Int) * (secsOf size : Int)))).2.2 = 0 ∧ (slotG size (getR m f n ((j : Int) * (secsOf size : Int)))).2.1 = num then some (l ++ bl (slotG size (getR m f n ((j : Int) * (secsOf size : Int)))).1) else none := by rw [gotJ, HG.out]
      have TJ := TS.out ((j : Int) * (secsOf size : Int))
      have LJ := GL.out j l HG.out
      rcases hS : slotG size (getR m f n ((j : Int) * (secsOf size : Int))) with ⟨tx, k, er⟩
      rw [hS] at GJ NX TJ
      simp only at GJ NX TJ
      have hbw : Hid (l.length + tx.size ≤ 140737488355328) := by show _ ≤ _; omega
      clear hS TJ LJ
      by_cases c0 : er = 0
      · subst c0
        by_cases ck : k = num
        · subst ck
          rw [if_pos ⟨rfl, rfl⟩] at NX
          have NX2 : Hid (gotJ m f n size k (j + 1) = some (l ++ bl tx)) := NX
          have BW : Hid (∀ w, BldT w b l Fb → Calls Try.prog 111 #[.pointer (some ⟨b, 0, none⟩), .string tx] w fun e w' => ∃ F', e = .returned (.tuple #[.int .i64 (tx.size : Int), .nilIface]) ∧ BldT w' b (l ++ bl tx) F' ∧ Turn Fb F' w w') := fun w h => bldWriteT b l Fb _ w h hbw.out
          clear NX
          go_wp2_with (first
            | ((with_reducible refine wpL_peel rfl ?_ ?_); focus (go_simp; done)) | (go_at_call 51; (with_reducible refine (GJ.out _ (hst.blk 1 rfl) (hst.blk 0 rfl) (hst.rs 1 rfl)).mono ?_); rintro e1 w1 ⟨rfl, ho1⟩; replace hst := hst.keep ho1; clear ho1)
            | (go_at_call 111; (with_reducible refine (BW.out _ (hst.rs 0 rfl)).mono ?_); rintro e1 w2 ⟨F2, rfl, hd2, ht2⟩; replace hst := hst.act 0 rfl (bldR b (l ++ bl tx) F2) rfl ht2 hd2; simp only [List.set] at hst; clear ht2 hd2))
          go_roundw
          case rel => exact ⟨j + 1, l ++ bl tx, F2, HJ.out, by go_num, NX2, hst⟩
          case measure => simp [intOf]; omega
        · rw [if_neg (fun h => ck h.2)] at NX
          have SK := Lib.hid (ST.out (j + 1) c NX HJ.out)
          have ck2 : (k != num) = true := by simpa using ck
          clear NX ck
          go_wp2_with (first
            | ((with_reducible refine wpL_peel rfl ?_ ?_); focus (go_simp; done)) | (go_at_call 51; (with_reducible refine (GJ.out _ (hst.blk 1 rfl) (hst.blk 0 rfl) (hst.rs 1 rfl)).mono ?_); rintro e1 w1 ⟨rfl, ho1⟩; replace hst := hst.keep ho1; clear ho1))
          go_ret2
          exact ⟨fun l h => (by rw [SK.out] at h; cases h), fun _ => rfl, hst.only⟩
      · rw [if_neg (fun h => c0 h.1)] at NX
        have SK := Lib.hid (ST.out (j + 1) c NX HJ.out)
        have d0 : (er != 0) = true := by simpa using c0
        clear NX c0
        go_wp2_with (first
          | ((with_reducible refine wpL_peel rfl ?_ ?_); focus (go_simp; done)) | (go_at_call 51; (with_reducible refine (GJ.out _ (hst.blk 1 rfl) (hst.blk 0 rfl) (hst.rs 1 rfl)).mono ?_); rintro e1 w1 ⟨rfl, ho1⟩; replace hst := hst.keep ho1; clear ho1))
        go_ret2
        exact ⟨fun l h => (by rw [SK.out] at h; cases h), fun _ => rfl, hst.only⟩
    · obtain rfl : j = c := by omega
      have j1 : ¬ (j : Int) < j := by omega
      have BS : Hid (∀ w, BldT w b l Fb → Calls Try.prog 112 #[.pointer (some ⟨b, 0, none⟩)] w fun e w' => e = .returned (.string ⟨l.toArray⟩) ∧ Only Fb w w') := fun w h => bldStringT b _ Fb w h
      go_wp2_with (first
        | (go_at_call 112; (with_reducible refine (BS.out _ (hst.rs 0 rfl)).mono ?_); rintro e1 w2 ⟨rfl, ho2⟩))
      go_ret2
      refine ⟨fun l' h => ?_, fun h => (by rw [HG.out] at h; cases h), hst.only.step ho2 (fun k hk => (hst.turn 0 rfl rfl).2 k hk)⟩
      rw [HG.out] at h
      cases h
      rfl
end Go.Proofs.Ytmogkiacakkmbaa
