/- The law TwinExact, walked: its cases, joined. -/
import Derived.Test.YtmogkiacakkmbaaTwinZ
namespace Go.Proofs.Ytmogkiacakkmbaa
open Go.RowKit

set_option maxRecDepth 100000 in
set_option maxHeartbeats 4000000 in
theorem twinOpen_bad (z d f n : Nat) (w : World) (hz : Blk w z (zcells d f n) 34) (h : zoneOk n = false) :
    Calls Try.prog 32 #[.pointer (some ⟨z, 0, none⟩)] w fun e w' => e = .returned (.tuple #[.pointer none, .int .i64 1]) ∧ Only [] w w' := by
  have hst := Sd.of (St.with (S := []) hz)
  have IZ : Hid (∀ w, Blk w z (zcells d f n) 34 → Calls Try.prog 97 #[.pointer (some ⟨z, 0, none⟩)] w fun e w' => e = .returned (.bool false) ∧ w = w') := fun w h1 => by have := isZone_any z d f n w h1; rw [h] at this; exact this
  clear hz h
  go_enter Try.func32, Try.ntmps32
  go_wp2_with (first | ((with_reducible refine wpL_peel rfl ?_ ?_); focus (go_simp; done)) | (go_at_call 97; (with_reducible refine (IZ.out _ (hst.blk 0 rfl)).mono ?_); rintro e1 w1 ⟨rfl, rfl⟩))
  go_ret2
  exact ⟨rfl, hst.only⟩

set_option maxRecDepth 100000 in
set_option maxHeartbeats 8000000 in
theorem twinExact_far (image : ByteArray) (v : Value) (xs : List ByteArray) (w : World) (h : Strs w v xs) (hs : 768 < (image.size : Int) ∨ ((image.size : Int) ≤ 768 ∧ 10 < (xs.length : Int))) :
    Calls Try.prog 5 #[.string image, v] w fun e w' => e = .returned (.bool true) ∧ Only [] w w' := by
  have hst := Sd.start w []
  obtain ⟨ad, cap, rfl⟩ : ∃ ad cap, v = .slice ad xs.length cap := by
    rcases h with ⟨⟨a, c, rfl⟩, rfl⟩ | ⟨bk, o, c, rfl, _⟩
    · exact ⟨a, c, rfl⟩
    · exact ⟨_, _, rfl⟩
  clear h
  have AW := Lib.hid awake07_any
  rcases hs with hs | ⟨hs, hx⟩
  all_goals
    go_enter Try.func5, Try.ntmps5
    go_wp2_with (first | ((with_reducible refine wpL_peel rfl ?_ ?_); focus (go_simp; done)) | (go_at_call 31; (with_reducible refine (AW.out _).mono ?_); rintro e1 w1 ⟨rfl, ho1⟩; replace hst := hst.keep ho1; clear ho1))
    go_ret
    exact ⟨rfl, hst.only⟩

section
variable (image : ByteArray) (v : Value) (xs : List ByteArray) (w : World) (h : Strs w v xs) (hs : (image.size : Int) ≤ 768) (hx : (xs.length : Int) ≤ 10)
include h hs hx
set_option maxRecDepth 100000 in
set_option maxHeartbeats 8000000 in
theorem twinExact_empty (hl : (DM.of image).len = 0) :
    Calls Try.prog 5 #[.string image, v] w fun e w' => e = .returned (.bool true) ∧ Only [] w w' := by
  have hst := Sd.start w []
  obtain ⟨ad, cap, rfl⟩ : ∃ ad cap, v = .slice ad xs.length cap := by
    rcases h with ⟨⟨a, c, rfl⟩, rfl⟩ | ⟨bk, o, c, rfl, _⟩
    · exact ⟨a, c, rfl⟩
    · exact ⟨_, _, rfl⟩
  clear h
  have AW := Lib.hid awake07_any
  obtain ⟨M, eM⟩ : ∃ M, M = DM.of image := ⟨_, rfl⟩
  rw [← eM] at hl
  have DN : Hid (∀ w, Calls Try.prog 26 #[.string image] w fun e w' => ∃ d F, e = .returned (.pointer (some ⟨d, 0, none⟩)) ∧ DiskAt w' d M F ∧ Only [] w w' ∧ (∀ b ∈ F, w.heap.size ≤ b)) := fun w => by rw [eM]; exact dskOf_any image w (by omega)
  have LN : Hid (∀ d F w, DiskAt w d M F → Calls Try.prog 27 #[.pointer (some ⟨d, 0, none⟩)] w fun e w' => e = .returned (.int .i64 0) ∧ Only [] w w') := fun d F w h => by
    have := dskLen_any d M F w h
    rw [hl] at this
    exact this
  have ZN : Hid (∀ d F w, DiskAt w d M F → Calls Try.prog 15 #[.pointer (some ⟨d, 0, none⟩), .int .i64 0, .int .i64 0] w fun e w' => e = .returned (.tuple #[.pointer none, .int .i64 1]) ∧ Only [] w w') := fun d F w h => zonNew_no d 0 0 M F w h (by rw [hl]; decide)
  clear hl eM
  go_enter Try.func5, Try.ntmps5
  go_wp2_with (first | ((with_reducible refine wpL_peel rfl ?_ ?_); focus (go_simp; done)) | (go_at_call 31; (with_reducible refine (AW.out _).mono ?_); rintro e1 w1 ⟨rfl, ho1⟩; replace hst := hst.keep ho1; clear ho1) | (go_at_call 26; (with_reducible refine (DN.out _).mono ?_); rintro e1 w1 ⟨d, F, rfl, hd1, ho1, hg1⟩; replace hst := hst.add ho1 (r := diskR d _ F) hd1 hg1; clear hd1 ho1 hg1) | (go_at_call 27; (with_reducible refine (LN.out _ _ _ (hst.rs 0 rfl)).mono ?_); rintro e1 w1 ⟨rfl, ho1⟩; replace hst := hst.keep ho1; clear ho1) | (go_at_call 15; (with_reducible refine (ZN.out _ _ _ (hst.rs 0 rfl)).mono ?_); rintro e1 w1 ⟨rfl, ho1⟩; replace hst := hst.keep ho1; clear ho1))
  go_ret
  exact ⟨rfl, hst.only⟩

set_option maxRecDepth 100000 in
set_option maxHeartbeats 8000000 in
theorem twinExact_bad (n : Nat) (hl : (DM.of image).len = n) (hn : 1 ≤ n) (hn2 : n ≤ 4096) (hzo : zoneOk n = false) :
    Calls Try.prog 5 #[.string image, v] w fun e w' => e = .returned (.bool true) ∧ Only [] w w' := by
  have hst := Sd.start w []
  obtain ⟨ad, cap, rfl⟩ : ∃ ad cap, v = .slice ad xs.length cap := by
    rcases h with ⟨⟨a, c, rfl⟩, rfl⟩ | ⟨bk, o, c, rfl, _⟩
    · exact ⟨a, c, rfl⟩
    · exact ⟨_, _, rfl⟩
  clear h
  have AW := Lib.hid awake07_any
  obtain ⟨M, eM⟩ : ∃ M, M = DM.of image := ⟨_, rfl⟩
  rw [← eM] at hl
  have DN : Hid (∀ w, Calls Try.prog 26 #[.string image] w fun e w' => ∃ d F, e = .returned (.pointer (some ⟨d, 0, none⟩)) ∧ DiskAt w' d M F ∧ Only [] w w' ∧ (∀ b ∈ F, w.heap.size ≤ b)) := fun w => by rw [eM]; exact dskOf_any image w (by omega)
  have LN : Hid (∀ d F w, DiskAt w d M F → Calls Try.prog 27 #[.pointer (some ⟨d, 0, none⟩)] w fun e w' => e = .returned (.int .i64 (n : Int)) ∧ Only [] w w') := fun d F w h => by rw [← hl]; exact dskLen_any d M F w h
  have ZN : Hid (∀ d F w, DiskAt w d M F → Calls Try.prog 15 #[.pointer (some ⟨d, 0, none⟩), .int .i64 0, .int .i64 (n : Int)] w fun e w' => ∃ z, e = .returned (.tuple #[.pointer (some ⟨z, 0, none⟩), .int .i64 0]) ∧ w.heap.size ≤ z ∧ Blk w' z (zcells d 0 n) 34 ∧ Only [] w w') := fun d F w h => zonNew_yes d 0 n _ F w h (by unfold partOk; simp; omega)
  obtain ⟨X0, eX0⟩ : ∃ X0, X0 = joinB M.safe := ⟨_, rfl⟩
  have IM : Hid (∀ d F w, DiskAt w d M F → Calls Try.prog 29 #[.pointer (some ⟨d, 0, none⟩)] w fun e w' => e = .returned (.string X0) ∧ Only [] w w') := fun d F w h => by rw [eX0]; exact dskImage_any d M F w h
  have OP : Hid (∀ z d w, Blk w z (zcells d 0 n) 34 → Calls Try.prog 32 #[.pointer (some ⟨z, 0, none⟩)] w fun e w' => e = .returned (.tuple #[.pointer none, .int .i64 1]) ∧ Only [] w w') := fun z d w h => twinOpen_bad z d 0 n w h hzo
  have FM : Hid (∀ z d w, Blk w z (zcells d 0 n) 34 → Calls Try.prog 33 #[.pointer (some ⟨z, 0, none⟩), .string ⟨#[]⟩] w fun e w' => e = .returned (.tuple #[.pointer none, .int .i64 1]) ∧ Only [] w w') := fun z d w h => twinFormat_bad z d 0 n ⟨#[]⟩ w h hn2 (.inl hzo)
  have hni : (n : Int) ≤ 4096 := by omega
  by_cases c4 : n < 4
  · have c4' : (n : Int) < 4 := by omega
    clear hl eM eX0 hzo hn hn2
    go_enter Try.func5, Try.ntmps5
    go_wp2_with (first | ((with_reducible refine wpL_peel rfl ?_ ?_); focus (go_simp; done)) | (go_at_call 31; (with_reducible refine (AW.out _).mono ?_); rintro e1 w1 ⟨rfl, ho1⟩; replace hst := hst.keep ho1; clear ho1) | (go_at_call 26; (with_reducible refine (DN.out _).mono ?_); rintro e1 w1 ⟨d, F, rfl, hd1, ho1, hg1⟩; replace hst := hst.add ho1 (r := diskR d _ F) hd1 hg1; clear hd1 ho1 hg1) | (go_at_call 27; (with_reducible refine (LN.out _ _ _ (hst.rs 0 rfl)).mono ?_); rintro e1 w1 ⟨rfl, ho1⟩; replace hst := hst.keep ho1; clear ho1) | (go_at_call 15; (with_reducible refine (ZN.out _ _ _ (hst.rs 0 rfl)).mono ?_); rintro e1 w1 ⟨z, rfl, hg1, hz1, ho1⟩; replace hst := hst.new ho1 hz1 hg1; clear hg1 hz1 ho1) | (go_at_call 29; (with_reducible refine (IM.out _ _ _ (hst.rs 0 rfl)).mono ?_); rintro e1 w1 ⟨rfl, ho1⟩; replace hst := hst.keep ho1; clear ho1) | (go_at_call 32; (with_reducible refine (OP.out _ _ _ (hst.blk 0 rfl)).mono ?_); rintro e1 w1 ⟨rfl, ho1⟩; replace hst := hst.keep ho1; clear ho1) | (go_at_call 33; (with_reducible refine (FM.out _ _ _ (hst.blk 0 rfl)).mono ?_); rintro e1 w1 ⟨rfl, ho1⟩; replace hst := hst.keep ho1; clear ho1))
    go_ret
    exact ⟨rfl, hst.only⟩
  · have c4' : ¬ (n : Int) < 4 := by omega
    have hodd : ((n : Int) % 2 != 0) = true := by
      have : n % 2 ≠ 0 := fun h => by rw [zoneOk_iff.2 ⟨by omega, h⟩] at hzo; cases hzo
      simp
      omega
    clear hl eM eX0 hzo hn hn2
    go_enter Try.func5, Try.ntmps5
    go_wp2_with (first | ((with_reducible refine wpL_peel rfl ?_ ?_); focus (go_simp; done)) | (go_at_call 31; (with_reducible refine (AW.out _).mono ?_); rintro e1 w1 ⟨rfl, ho1⟩; replace hst := hst.keep ho1; clear ho1) | (go_at_call 26; (with_reducible refine (DN.out _).mono ?_); rintro e1 w1 ⟨d, F, rfl, hd1, ho1, hg1⟩; replace hst := hst.add ho1 (r := diskR d _ F) hd1 hg1; clear hd1 ho1 hg1) | (go_at_call 27; (with_reducible refine (LN.out _ _ _ (hst.rs 0 rfl)).mono ?_); rintro e1 w1 ⟨rfl, ho1⟩; replace hst := hst.keep ho1; clear ho1) | (go_at_call 15; (with_reducible refine (ZN.out _ _ _ (hst.rs 0 rfl)).mono ?_); rintro e1 w1 ⟨z, rfl, hg1, hz1, ho1⟩; replace hst := hst.new ho1 hz1 hg1; clear hg1 hz1 ho1) | (go_at_call 29; (with_reducible refine (IM.out _ _ _ (hst.rs 0 rfl)).mono ?_); rintro e1 w1 ⟨rfl, ho1⟩; replace hst := hst.keep ho1; clear ho1) | (go_at_call 32; (with_reducible refine (OP.out _ _ _ (hst.blk 0 rfl)).mono ?_); rintro e1 w1 ⟨rfl, ho1⟩; replace hst := hst.keep ho1; clear ho1) | (go_at_call 33; (with_reducible refine (FM.out _ _ _ (hst.blk 0 rfl)).mono ?_); rintro e1 w1 ⟨rfl, ho1⟩; replace hst := hst.keep ho1; clear ho1))
    go_ret
    exact ⟨rfl, hst.only⟩
end

theorem twinExact_walk (image : ByteArray) (v : Value) (xs : List ByteArray) (w : World) (h : Strs w v xs) (_hm : xs.length ≤ maxLen) :
    Calls Try.prog 5 #[.string image, v] w fun e w' => e = .returned (.bool true) ∧ Only [] w w' := by
  by_cases h1 : (image.size : Int) ≤ 768
  · by_cases h2 : (xs.length : Int) ≤ 10
    · have hl : (DM.of image).len = image.size / 32 := by
        unfold DM.len DM.of
        simp only [secsD_length]
        unfold secsN
        omega
      by_cases h0 : (DM.of image).len = 0
      · exact twinExact_empty image v xs w h h1 h2 h0
      · cases hzo : zoneOk (DM.of image).len
        · exact twinExact_bad image v xs w h h1 h2 _ rfl (by omega) (by omega) hzo
        · obtain ⟨z1, z2⟩ := zoneOk_iff.1 hzo
          have hH : (DM.of image).len = 2 * ((DM.of image).len / 2) := by omega
          by_cases hO : (openR (DM.of image) 0 (2 * ((DM.of image).len / 2))).2.1 = 0
          · exact twinExact_none image v xs w h h1 (by omega) _ (by omega) (by omega) hH hO
          · exact twinExact_some image v xs w h h1 (by omega) _ (by omega) (by omega) hH hO
    · exact twinExact_far image v xs w h (.inr ⟨h1, by omega⟩)
  · exact twinExact_far image v xs w h (.inl (by omega))
end Go.Proofs.Ytmogkiacakkmbaa
