/- The law SealExact, walked: of a text that can be laid. -/
import Derived.Test.YtmogkiacakkmbaaSealN
import Derived.Test.YtmogkiacakkmbaaDskF
namespace Go.Proofs.Ytmogkiacakkmbaa
open Go.RowKit

set_option maxRecDepth 100000 in
set_option maxHeartbeats 16000000 in
theorem sealExact_far (n : Int) (s image : ByteArray) (p : Int) (w : World) (h : 1100 < (s.size : Int) ∨ ((s.size : Int) ≤ 1100 ∧ 640 < (image.size : Int)) ∨ ((s.size : Int) ≤ 1100 ∧ (image.size : Int) ≤ 640 ∧ (image.size : Int) < 32)) :
    Calls Try.prog 4 #[.int .i64 n, .string s, .string image, .int .i64 p] w fun e w' => e = .returned (.bool true) ∧ Only [] w w' := by
  have hst := Sd.start w []
  have AW := Lib.hid awake06_any
  rcases h with h | ⟨h1, h⟩ | ⟨h1, h2, h⟩
  all_goals
    go_enter Try.func4, Try.ntmps4
    go_wp2_with (first | (go_at_call 13; (with_reducible refine (AW.out _).mono ?_); rintro e1 w1 ⟨rfl, ho1⟩; replace hst := hst.keep ho1; clear ho1))
    go_ret
    exact ⟨rfl, hst.only⟩

set_option maxRecDepth 100000 in
set_option maxHeartbeats 16000000 in
/-- A text or a number that can't be. -/
theorem sealExact_noOut (n : Int) (s image : ByteArray) (p : Int) (w : World) (h1 : (s.size : Int) ≤ 1100) (h2 : (image.size : Int) ≤ 640) (h3 : 32 ≤ (image.size : Int)) (hc : canLay n s = false) (hp : p < 0 ∨ ((image.size / 32 : Nat) : Int) ≤ p) :
    Calls Try.prog 4 #[.int .i64 n, .string s, .string image, .int .i64 p] w fun e w' => e = .returned (.bool true) ∧ Only [] w w' := by
  have hst := Sd.start w []
  have AW := Lib.hid awake06_any
  obtain ⟨M, eM⟩ : ∃ M, M = DM.of image := ⟨_, rfl⟩
  have hok : M.Ok := by rw [eM]; exact DM.of_ok image
  have hlo : M.loose = [] := by rw [eM]; rfl
  have haw : M.away = false := by rw [eM]; rfl
  obtain ⟨L, eL⟩ : ∃ L, L = M.len := ⟨_, rfl⟩
  have hLi : L = image.size / 32 := by
    rw [eL, eM]
    unfold DM.len DM.of
    simp only [secsD_length]
    unfold secsN
    omega
  rw [← hLi] at hp
  clear hLi
  have hL : 1 ≤ L ∧ L ≤ 20 := by
    have : M.len = secsN image := by rw [eM]; unfold DM.len DM.of; simp only; exact secsD_length _ _
    rw [eL, this]
    unfold secsN
    omega
  obtain ⟨K, eK⟩ : ∃ K, K = secsOf s.size := ⟨_, rfl⟩
  have LY : Hid (∀ w, Calls Try.prog 22 #[.int .i64 n, .string s] w fun e w' => e = .returned (.tuple #[.slice none 0 0, .int .i64 1]) ∧ Only [] w w') := fun w => sealLay_no n s w hc
  have RB : Hid (∀ w, Calls Try.prog 23 #[.int .i64 n, .string s] w fun e w' => e = .returned (.tuple #[.string ⟨#[]⟩, .bool false]) ∧ Only [] w w') := fun w => refBytes_no n s w hc
  have JN : Hid (∀ w, Calls Try.prog 24 #[.slice none 0 0] w fun e w' => e = .returned (.string ⟨#[]⟩) ∧ Only [] w w') := fun w => joinedRow_any [] none 0 w (World.ownsRow_nil _ _ _ _) (by simp) (by decide)
  have S1 : Hid (∀ w, Calls Try.prog 18 #[.string s] w fun e w' => e = .returned (.int .i64 (K : Int)) ∧ w = w') := fun w => by rw [eK]; exact sealSize_any s w (by omega)
  have S2 : Hid (∀ w, Calls Try.prog 25 #[.string s] w fun e w' => e = .returned (.int .i64 (K : Int)) ∧ w = w') := fun w => by rw [eK]; exact refSizeT s w (by omega)
  have DN : Hid (∀ w, Calls Try.prog 26 #[.string image] w fun e w' => ∃ d F, e = .returned (.pointer (some ⟨d, 0, none⟩)) ∧ DiskAt w' d M F ∧ Only [] w w' ∧ (∀ b ∈ F, w.heap.size ≤ b)) := fun w => by rw [eM]; exact dskOf_any image w (by omega)
  have LN : Hid (∀ d F w, DiskAt w d M F → Calls Try.prog 27 #[.pointer (some ⟨d, 0, none⟩)] w fun e w' => e = .returned (.int .i64 (L : Int)) ∧ Only [] w w') := fun d F w h => by rw [eL]; exact dskLen_any d M F w h
  have ZN : Hid (∀ d F w, DiskAt w d M F → Calls Try.prog 15 #[.pointer (some ⟨d, 0, none⟩), .int .i64 0, .int .i64 (L : Int)] w fun e w' => ∃ z, e = .returned (.tuple #[.pointer (some ⟨z, 0, none⟩), .int .i64 0]) ∧ w.heap.size ≤ z ∧ Blk w' z (zcells d 0 L) 34 ∧ Only [] w w') := fun d F w h => zonNew_yes d 0 L _ F w h (by unfold partOk; simp; omega)
  have IM : Hid (∀ d F w, DiskAt w d M F → Calls Try.prog 29 #[.pointer (some ⟨d, 0, none⟩)] w fun e w' => e = .returned (.string (joinB M.safe)) ∧ Only [] w w') := fun d F w h => dskImage_any d M F w h
  have PT : Hid (∀ z d F w, Blk w z (zcells d 0 L) 34 → DiskAt w d M F → z ∉ F → Calls Try.prog 16 #[.pointer (some ⟨z, 0, none⟩), .int .i64 p, .int .i64 n, .string s] w fun e w' => ∃ F', e = .returned (.int .i64 1) ∧ DiskAt w' d M F' ∧ Turn F F' w w') := fun z d F w h1 h2 h3 => by
    have := sealPut_any z d 0 L M F p n s w h1 h2 h3 (by decide) (by omega) (by omega) (by rw [hlo]; decide)
    have e : putR M 0 L p n s = (M, 1) := by unfold putR; rw [if_pos hc]
    rw [e] at this
    exact this
  have GT : Hid (∀ z d F w, Blk w z (zcells d 0 L) 34 → DiskAt w d M F → z ∉ F → Calls Try.prog 21 #[.pointer (some ⟨z, 0, none⟩), .int .i64 p] w fun e w' => e = .returned (.tuple #[.string (getR M 0 L p).1, .int .i64 (getR M 0 L p).2.1, .int .i64 (getR M 0 L p).2.2]) ∧ Only [] w w') := fun z d F w h1 h2 h3 => sealGet_any z d 0 L M F p w h1 h2 h3 (by decide) (by omega) (by rw [hlo]; decide)
  obtain ⟨l1, l2⟩ := hL
  have hz := zreadE_out M 0 L p hp
  have hG : getR M 0 L p = (⟨#[]⟩, 0, 3) := by rw [getR_err _ _ _ _ (by rw [hz]; decide), hz]
  rw [hG] at GT
  have hp' : p < 0 ∨ (0 ≤ p ∧ (L : Int) ≤ p) := by omega
  clear hG hz hp eK eL eM hok hlo haw hc
  rcases hp' with hp | ⟨hp0, hp⟩
  all_goals
    go_enter Try.func4, Try.ntmps4
    go_wp2_with (first
      | ((with_reducible refine wpL_peel rfl ?_ ?_); focus (go_simp; done)) | (go_at_call 13; (with_reducible refine (AW.out _).mono ?_); rintro e1 w1 ⟨rfl, ho1⟩; replace hst := hst.keep ho1; clear ho1) | (go_at_call 22; (with_reducible refine (LY.out _).mono ?_); rintro e1 w1 ⟨rfl, ho1⟩; replace hst := hst.keep ho1; clear ho1) | (go_at_call 23; (with_reducible refine (RB.out _).mono ?_); rintro e1 w1 ⟨rfl, ho1⟩; replace hst := hst.keep ho1; clear ho1) | (go_at_call 24; (with_reducible refine (JN.out _).mono ?_); rintro e1 w1 ⟨rfl, ho1⟩; replace hst := hst.keep ho1; clear ho1)
      | (go_at_call 18; (with_reducible refine (S1.out _).mono ?_); rintro e1 w1 ⟨rfl, rfl⟩) | (go_at_call 25; (with_reducible refine (S2.out _).mono ?_); rintro e1 w1 ⟨rfl, rfl⟩) | (go_at_call 26; (with_reducible refine (DN.out _).mono ?_); rintro e1 w1 ⟨d, F, rfl, hd1, ho1, hg1⟩; replace hst := hst.add ho1 (r := diskR d _ F) hd1 hg1; clear hd1 ho1 hg1) | (go_at_call 27; (with_reducible refine (LN.out _ _ _ (hst.rs 0 rfl)).mono ?_); rintro e1 w1 ⟨rfl, ho1⟩; replace hst := hst.keep ho1; clear ho1) | (go_at_call 15; (with_reducible refine (ZN.out _ _ _ (hst.rs 0 rfl)).mono ?_); rintro e1 w1 ⟨z, rfl, hg1, hz1, ho1⟩; replace hst := hst.new ho1 hz1 hg1; unfold zcells at hst; clear hg1 hz1 ho1)
      | (go_at_call 21; (with_reducible refine (GT.out _ _ _ _ (hst.blk 0 rfl) (hst.rs 0 rfl) (hst.away 0 0 rfl rfl)).mono ?_); rintro e1 w1 ⟨rfl, ho1⟩; replace hst := hst.keep ho1; clear ho1)
      | ((with_reducible refine wpL_isBin rfl ?_); first | (refine wpL_neqStrT rfl rfl _ _ rfl rfl true (decide_eq_true rfl) ?_) | (refine wpL_eql_same rfl 9 _ _ _ rfl _ rfl rfl ?_)))
    go_ret
    exact ⟨rfl, hst.only⟩

set_option maxRecDepth 100000 in
set_option maxHeartbeats 16000000 in
/-- A text or a number that can't be, at a place within. -/
theorem sealExact_noIn (n : Int) (s image : ByteArray) (p : Int) (w : World) (h1 : (s.size : Int) ≤ 1100) (h2 : (image.size : Int) ≤ 640) (h3 : 32 ≤ (image.size : Int)) (hc : canLay n s = false) (hp : ¬ (p < 0 ∨ ((image.size / 32 : Nat) : Int) ≤ p)) :
    Calls Try.prog 4 #[.int .i64 n, .string s, .string image, .int .i64 p] w fun e w' => e = .returned (.bool true) ∧ Only [] w w' := by
  have hst := Sd.start w []
  have AW := Lib.hid awake06_any
  obtain ⟨M, eM⟩ : ∃ M, M = DM.of image := ⟨_, rfl⟩
  have hok : M.Ok := by rw [eM]; exact DM.of_ok image
  have hlo : M.loose = [] := by rw [eM]; rfl
  have haw : M.away = false := by rw [eM]; rfl
  obtain ⟨L, eL⟩ : ∃ L, L = M.len := ⟨_, rfl⟩
  have hLi : L = image.size / 32 := by
    rw [eL, eM]
    unfold DM.len DM.of
    simp only [secsD_length]
    unfold secsN
    omega
  rw [← hLi] at hp
  clear hLi
  have hL : 1 ≤ L ∧ L ≤ 20 := by
    have : M.len = secsN image := by rw [eM]; unfold DM.len DM.of; simp only; exact secsD_length _ _
    rw [eL, this]
    unfold secsN
    omega
  obtain ⟨K, eK⟩ : ∃ K, K = secsOf s.size := ⟨_, rfl⟩
  have LY : Hid (∀ w, Calls Try.prog 22 #[.int .i64 n, .string s] w fun e w' => e = .returned (.tuple #[.slice none 0 0, .int .i64 1]) ∧ Only [] w w') := fun w => sealLay_no n s w hc
  have RB : Hid (∀ w, Calls Try.prog 23 #[.int .i64 n, .string s] w fun e w' => e = .returned (.tuple #[.string ⟨#[]⟩, .bool false]) ∧ Only [] w w') := fun w => refBytes_no n s w hc
  have JN : Hid (∀ w, Calls Try.prog 24 #[.slice none 0 0] w fun e w' => e = .returned (.string ⟨#[]⟩) ∧ Only [] w w') := fun w => joinedRow_any [] none 0 w (World.ownsRow_nil _ _ _ _) (by simp) (by decide)
  have S1 : Hid (∀ w, Calls Try.prog 18 #[.string s] w fun e w' => e = .returned (.int .i64 (K : Int)) ∧ w = w') := fun w => by rw [eK]; exact sealSize_any s w (by omega)
  have S2 : Hid (∀ w, Calls Try.prog 25 #[.string s] w fun e w' => e = .returned (.int .i64 (K : Int)) ∧ w = w') := fun w => by rw [eK]; exact refSizeT s w (by omega)
  have DN : Hid (∀ w, Calls Try.prog 26 #[.string image] w fun e w' => ∃ d F, e = .returned (.pointer (some ⟨d, 0, none⟩)) ∧ DiskAt w' d M F ∧ Only [] w w' ∧ (∀ b ∈ F, w.heap.size ≤ b)) := fun w => by rw [eM]; exact dskOf_any image w (by omega)
  have LN : Hid (∀ d F w, DiskAt w d M F → Calls Try.prog 27 #[.pointer (some ⟨d, 0, none⟩)] w fun e w' => e = .returned (.int .i64 (L : Int)) ∧ Only [] w w') := fun d F w h => by rw [eL]; exact dskLen_any d M F w h
  have ZN : Hid (∀ d F w, DiskAt w d M F → Calls Try.prog 15 #[.pointer (some ⟨d, 0, none⟩), .int .i64 0, .int .i64 (L : Int)] w fun e w' => ∃ z, e = .returned (.tuple #[.pointer (some ⟨z, 0, none⟩), .int .i64 0]) ∧ w.heap.size ≤ z ∧ Blk w' z (zcells d 0 L) 34 ∧ Only [] w w') := fun d F w h => zonNew_yes d 0 L _ F w h (by unfold partOk; simp; omega)
  have IM : Hid (∀ d F w, DiskAt w d M F → Calls Try.prog 29 #[.pointer (some ⟨d, 0, none⟩)] w fun e w' => e = .returned (.string (joinB M.safe)) ∧ Only [] w w') := fun d F w h => dskImage_any d M F w h
  have PT : Hid (∀ z d F w, Blk w z (zcells d 0 L) 34 → DiskAt w d M F → z ∉ F → Calls Try.prog 16 #[.pointer (some ⟨z, 0, none⟩), .int .i64 p, .int .i64 n, .string s] w fun e w' => ∃ F', e = .returned (.int .i64 1) ∧ DiskAt w' d M F' ∧ Turn F F' w w') := fun z d F w h1 h2 h3 => by
    have := sealPut_any z d 0 L M F p n s w h1 h2 h3 (by decide) (by omega) (by omega) (by rw [hlo]; decide)
    have e : putR M 0 L p n s = (M, 1) := by unfold putR; rw [if_pos hc]
    rw [e] at this
    exact this
  have GT : Hid (∀ z d F w, Blk w z (zcells d 0 L) 34 → DiskAt w d M F → z ∉ F → Calls Try.prog 21 #[.pointer (some ⟨z, 0, none⟩), .int .i64 p] w fun e w' => e = .returned (.tuple #[.string (getR M 0 L p).1, .int .i64 (getR M 0 L p).2.1, .int .i64 (getR M 0 L p).2.2]) ∧ Only [] w w') := fun z d F w h1 h2 h3 => sealGet_any z d 0 L M F p w h1 h2 h3 (by decide) (by omega) (by rw [hlo]; decide)
  obtain ⟨l1, l2⟩ := hL
  obtain ⟨a, rfl⟩ : ∃ a : Nat, p = (a : Int) := ⟨p.toNat, by omega⟩
  have ha : a < L := by omega
  obtain ⟨X, eX⟩ : ∃ X, X = joinB M.safe := ⟨_, rfl⟩
  have hX : X.size = 32 * L := by rw [eX, joinB_size _ hok.full, eL]; rfl
  have hG : refG (X.extract (32 * a) X.size) = getR M 0 L (a : Int) := by rw [eX, eL]; exact getR_image M hok haw hlo a (by omega)
  have RG : Hid (∀ w, Calls Try.prog 28 #[.string (X.extract (a * 32) (32 * L))] w fun e w' => e = .returned (.tuple #[.string (getR M 0 L (a : Int)).1, .int .i64 (getR M 0 L (a : Int)).2.1, .int .i64 (getR M 0 L (a : Int)).2.2]) ∧ Only [] w w') := fun w => by
    rw [Nat.mul_comm a 32, ← hG, ← hX]
    exact refGet_any _ w (by rw [ext_len _ _ _ (Nat.le_refl _) (by omega)]; omega)
  rw [← eX] at IM
  generalize getR M 0 L (a : Int) = G at *
  obtain ⟨t, k, g⟩ := G
  have ha' : (a : Int) < L := by omega
  have hX' : (X.size : Int) = 32 * (L : Int) := by omega
  have hX2 : (a : Int) * 32 ≤ X.size := by omega
  clear hG hp eK eL eM hok hlo haw hc eX
  go_enter Try.func4, Try.ntmps4
  go_wp2_with (first
    | ((with_reducible refine wpL_peel rfl ?_ ?_); focus (go_simp; done)) | (go_at_call 13; (with_reducible refine (AW.out _).mono ?_); rintro e1 w1 ⟨rfl, ho1⟩; replace hst := hst.keep ho1; clear ho1) | (go_at_call 22; (with_reducible refine (LY.out _).mono ?_); rintro e1 w1 ⟨rfl, ho1⟩; replace hst := hst.keep ho1; clear ho1) | (go_at_call 23; (with_reducible refine (RB.out _).mono ?_); rintro e1 w1 ⟨rfl, ho1⟩; replace hst := hst.keep ho1; clear ho1) | (go_at_call 24; (with_reducible refine (JN.out _).mono ?_); rintro e1 w1 ⟨rfl, ho1⟩; replace hst := hst.keep ho1; clear ho1)
    | (go_at_call 18; (with_reducible refine (S1.out _).mono ?_); rintro e1 w1 ⟨rfl, rfl⟩) | (go_at_call 25; (with_reducible refine (S2.out _).mono ?_); rintro e1 w1 ⟨rfl, rfl⟩) | (go_at_call 26; (with_reducible refine (DN.out _).mono ?_); rintro e1 w1 ⟨d, F, rfl, hd1, ho1, hg1⟩; replace hst := hst.add ho1 (r := diskR d _ F) hd1 hg1; clear hd1 ho1 hg1) | (go_at_call 27; (with_reducible refine (LN.out _ _ _ (hst.rs 0 rfl)).mono ?_); rintro e1 w1 ⟨rfl, ho1⟩; replace hst := hst.keep ho1; clear ho1) | (go_at_call 15; (with_reducible refine (ZN.out _ _ _ (hst.rs 0 rfl)).mono ?_); rintro e1 w1 ⟨z, rfl, hg1, hz1, ho1⟩; replace hst := hst.new ho1 hz1 hg1; unfold zcells at hst; clear hg1 hz1 ho1)
    | (go_at_call 21; (with_reducible refine (GT.out _ _ _ _ (hst.blk 0 rfl) (hst.rs 0 rfl) (hst.away 0 0 rfl rfl)).mono ?_); rintro e1 w1 ⟨rfl, ho1⟩; replace hst := hst.keep ho1; clear ho1)
    | (go_at_call 29; (with_reducible refine (IM.out _ _ _ (hst.rs 0 rfl)).mono ?_); rintro e1 w1 ⟨rfl, ho1⟩; replace hst := hst.keep ho1; clear ho1)
    | (go_at_call 28; (with_reducible refine (RG.out _).mono ?_); rintro e1 w1 ⟨rfl, ho1⟩; replace hst := hst.keep ho1; clear ho1)
    | (go_at_call 16; (with_reducible refine (PT.out _ _ _ _ (hst.blk 0 rfl) (hst.rs 0 rfl) (hst.away 0 0 rfl rfl)).mono ?_); rintro e1 w1 ⟨F1, rfl, hd1, ht1⟩; replace hst := hst.act 0 rfl (diskR _ _ F1) rfl ht1 hd1; simp only [List.set] at hst; clear hd1 ht1)
    | ((with_reducible refine wpL_isBin rfl ?_); first | (refine wpL_neqStrT rfl rfl _ _ rfl rfl true (decide_eq_true rfl) ?_) | (refine wpL_eql_same rfl 9 _ _ _ rfl _ rfl rfl ?_)))
  go_ret
  exact ⟨rfl, hst.only⟩

theorem sealExact_no (n : Int) (s image : ByteArray) (p : Int) (w : World) (h1 : (s.size : Int) ≤ 1100) (h2 : (image.size : Int) ≤ 640) (h3 : 32 ≤ (image.size : Int)) (hc : canLay n s = false) :
    Calls Try.prog 4 #[.int .i64 n, .string s, .string image, .int .i64 p] w fun e w' => e = .returned (.bool true) ∧ Only [] w w' := by
  by_cases hp : p < 0 ∨ ((image.size / 32 : Nat) : Int) ≤ p
  · exact sealExact_noOut n s image p w h1 h2 h3 hc hp
  · exact sealExact_noIn n s image p w h1 h2 h3 hc hp
end Go.Proofs.Ytmogkiacakkmbaa

namespace Go.Proofs.Ytmogkiacakkmbaa
open Go.RowKit

set_option maxRecDepth 100000 in
set_option maxHeartbeats 16000000 in
/-- A text that can be laid, where there is no room. -/
theorem sealExact_noroom (n : Int) (s image : ByteArray) (p : Int) (w : World) (h1 : (s.size : Int) ≤ 1100) (h2 : (image.size : Int) ≤ 640) (h3 : 32 ≤ (image.size : Int)) (hc : canLay n s = true) (hr : p < 0 ∨ (image.size / 32 : Nat) ≤ p ∨ ((image.size / 32 : Nat) : Int) - p < (secsOf s.size : Int)) :
    Calls Try.prog 4 #[.int .i64 n, .string s, .string image, .int .i64 p] w fun e w' => e = .returned (.bool true) ∧ Only [] w w' := by
  have hst := Sd.start w []
  have AW := Lib.hid awake06_any
  obtain ⟨M, eM⟩ : ∃ M, M = DM.of image := ⟨_, rfl⟩
  have hok : M.Ok := by rw [eM]; exact DM.of_ok image
  have hlo : M.loose = [] := by rw [eM]; rfl
  have haw : M.away = false := by rw [eM]; rfl
  obtain ⟨L, eL⟩ : ∃ L, L = M.len := ⟨_, rfl⟩
  have hLi : L = image.size / 32 := by
    rw [eL, eM]
    unfold DM.len DM.of
    simp only [secsD_length]
    unfold secsN
    omega
  rw [← hLi] at hr
  have hL : 1 ≤ L ∧ L ≤ 20 := by
    have : M.len = secsN image := by rw [eM]; unfold DM.len DM.of; simp only; exact secsD_length _ _
    rw [eL, this]
    unfold secsN
    omega
  obtain ⟨K, eK⟩ : ∃ K, K = secsOf s.size := ⟨_, rfl⟩
  have LY : Hid (∀ w, Calls Try.prog 22 #[.int .i64 n, .string s] w fun e w' => ∃ ad cp, e = .returned (.tuple #[.slice ad K cp, .int .i64 0]) ∧ w'.ownsRow 0 9 1 (.slice ad K cp) K (scells (layS n s K)) ∧ (∀ b ∈ (Value.slice ad K cp).ownBlock.toList, w.heap.size ≤ b) ∧ Only [] w w') := fun w => by rw [eK]; exact sealLay_yes n s w hc
  have RB : Hid (∀ w, Calls Try.prog 23 #[.int .i64 n, .string s] w fun e w' => e = .returned (.tuple #[.string (catS n s K), .bool true]) ∧ Only [] w w') := fun w => by rw [eK]; exact refBytes_yes n s w hc
  have hK40 : K ≤ 40 := by
    have := (canLay_iff.1 hc).2
    rw [eK]
    unfold secsOf
    omega
  have JN : Hid (∀ ad cp w, World.ownsRow w 0 9 1 (.slice ad K cp) K (scells (layS n s K)) → Calls Try.prog 24 #[.slice ad K cp] w fun e w' => e = .returned (.string (catS n s K)) ∧ Only [] w w') := fun ad cp w h => by
    have hl : (layS n s K).length = K := layS_length n s K
    have := joinedRow_any (layS n s K) ad cp w (by rw [hl]; exact h) (fun t ht => by
      simp only [layS, List.mem_map, List.mem_range] at ht
      obtain ⟨i, hi, rfl⟩ := ht
      rw [laySec_size n s i (by omega)]
      exact Nat.le_refl _) (by omega)
    rw [hl] at this
    exact this
  have S1 : Hid (∀ w, Calls Try.prog 18 #[.string s] w fun e w' => e = .returned (.int .i64 (K : Int)) ∧ w = w') := fun w => by rw [eK]; exact sealSize_any s w (by omega)
  have S2 : Hid (∀ w, Calls Try.prog 25 #[.string s] w fun e w' => e = .returned (.int .i64 (K : Int)) ∧ w = w') := fun w => by rw [eK]; exact refSizeT s w (by omega)
  have DN : Hid (∀ w, Calls Try.prog 26 #[.string image] w fun e w' => ∃ d F, e = .returned (.pointer (some ⟨d, 0, none⟩)) ∧ DiskAt w' d M F ∧ Only [] w w' ∧ (∀ b ∈ F, w.heap.size ≤ b)) := fun w => by rw [eM]; exact dskOf_any image w (by omega)
  have LN : Hid (∀ d F w, DiskAt w d M F → Calls Try.prog 27 #[.pointer (some ⟨d, 0, none⟩)] w fun e w' => e = .returned (.int .i64 (L : Int)) ∧ Only [] w w') := fun d F w h => by rw [eL]; exact dskLen_any d M F w h
  have ZN : Hid (∀ d F w, DiskAt w d M F → Calls Try.prog 15 #[.pointer (some ⟨d, 0, none⟩), .int .i64 0, .int .i64 (L : Int)] w fun e w' => ∃ z, e = .returned (.tuple #[.pointer (some ⟨z, 0, none⟩), .int .i64 0]) ∧ w.heap.size ≤ z ∧ Blk w' z (zcells d 0 L) 34 ∧ Only [] w w') := fun d F w h => zonNew_yes d 0 L _ F w h (by unfold partOk; simp; omega)
  have IM : Hid (∀ d F w, DiskAt w d M F → Calls Try.prog 29 #[.pointer (some ⟨d, 0, none⟩)] w fun e w' => e = .returned (.string (joinB M.safe)) ∧ Only [] w w') := fun d F w h => dskImage_any d M F w h
  have GT : Hid (∀ z d F w, Blk w z (zcells d 0 L) 34 → DiskAt w d M F → z ∉ F → Calls Try.prog 21 #[.pointer (some ⟨z, 0, none⟩), .int .i64 p] w fun e w' => e = .returned (.tuple #[.string (getR M 0 L p).1, .int .i64 (getR M 0 L p).2.1, .int .i64 (getR M 0 L p).2.2]) ∧ Only [] w w') := fun z d F w h1 h2 h3 => sealGet_any z d 0 L M F p w h1 h2 h3 (by decide) (by omega) (by rw [hlo]; decide)
  obtain ⟨l1, l2⟩ := hL
  by_cases hp : p < 0 ∨ (L : Int) ≤ p
  · have hz := zreadE_out M 0 L p hp
    have hG : getR M 0 L p = (⟨#[]⟩, 0, 3) := by rw [getR_err _ _ _ _ (by rw [hz]; decide), hz]
    rw [hG] at GT
    have hp' : p < 0 ∨ (0 ≤ p ∧ (L : Int) ≤ p) := by omega
    clear hG hz hp eK eL eM hok hlo haw hc hr hLi
    rcases hp' with hp | ⟨hp0, hp⟩
    all_goals
      go_enter Try.func4, Try.ntmps4
      go_wp2_with (first
        | ((with_reducible refine wpL_peel rfl ?_ ?_); focus (go_simp; done)) | (go_at_call 13; (with_reducible refine (AW.out _).mono ?_); rintro e1 w1 ⟨rfl, ho1⟩; replace hst := hst.keep ho1; clear ho1) | (go_at_call 22; (with_reducible refine (LY.out _).mono ?_); rintro e1 w1 ⟨ad, cp, rfl, hown, hge, ho1⟩; replace hst := hst.add ho1 (r := rowR (.slice ad K cp) 9 1 K (scells (layS n s K))) hown hge; clear ho1 hge hown) | (go_at_call 23; (with_reducible refine (RB.out _).mono ?_); rintro e1 w1 ⟨rfl, ho1⟩; replace hst := hst.keep ho1; clear ho1) | (go_at_call 24; (with_reducible refine (JN.out _ _ _ (hst.rs 0 rfl)).mono ?_); rintro e1 w1 ⟨rfl, ho1⟩; replace hst := hst.keep ho1; clear ho1)
        | (go_at_call 18; (with_reducible refine (S1.out _).mono ?_); rintro e1 w1 ⟨rfl, rfl⟩) | (go_at_call 25; (with_reducible refine (S2.out _).mono ?_); rintro e1 w1 ⟨rfl, rfl⟩) | (go_at_call 26; (with_reducible refine (DN.out _).mono ?_); rintro e1 w1 ⟨d, F, rfl, hd1, ho1, hg1⟩; replace hst := hst.add ho1 (r := diskR d _ F) hd1 hg1; clear hd1 ho1 hg1) | (go_at_call 27; (with_reducible refine (LN.out _ _ _ (hst.rs 0 rfl)).mono ?_); rintro e1 w1 ⟨rfl, ho1⟩; replace hst := hst.keep ho1; clear ho1) | (go_at_call 15; (with_reducible refine (ZN.out _ _ _ (hst.rs 0 rfl)).mono ?_); rintro e1 w1 ⟨z, rfl, hg1, hz1, ho1⟩; replace hst := hst.new ho1 hz1 hg1; unfold zcells at hst; clear hg1 hz1 ho1)
        | (go_at_call 21; (with_reducible refine (GT.out _ _ _ _ (hst.blk 0 rfl) (hst.rs 0 rfl) (hst.away 0 0 rfl rfl)).mono ?_); rintro e1 w1 ⟨rfl, ho1⟩; replace hst := hst.keep ho1; clear ho1)
        | ((with_reducible refine wpL_isBin rfl ?_); first | (refine wpL_neqStrT rfl rfl _ _ rfl rfl true (decide_eq_true rfl) ?_) | (refine wpL_eql_same rfl 9 _ _ _ rfl _ rfl rfl ?_)))
      go_ret
      exact ⟨rfl, hst.only⟩
  · obtain ⟨a, rfl⟩ : ∃ a : Nat, p = (a : Int) := ⟨p.toNat, by omega⟩
    have ha : a < L := by omega
    obtain ⟨X, eX⟩ : ∃ X, X = joinB M.safe := ⟨_, rfl⟩
    have hX : X.size = 32 * L := by rw [eX, joinB_size _ hok.full, eL]; rfl
    have hG : refG (X.extract (32 * a) X.size) = getR M 0 L (a : Int) := by rw [eX, eL]; exact getR_image M hok haw hlo a (by omega)
    have RG : Hid (∀ w, Calls Try.prog 28 #[.string (X.extract (a * 32) (32 * L))] w fun e w' => e = .returned (.tuple #[.string (getR M 0 L (a : Int)).1, .int .i64 (getR M 0 L (a : Int)).2.1, .int .i64 (getR M 0 L (a : Int)).2.2]) ∧ Only [] w w') := fun w => by
      rw [Nat.mul_comm a 32, ← hG, ← hX]
      exact refGet_any _ w (by rw [ext_len _ _ _ (Nat.le_refl _) (by omega)]; omega)
    rw [← eX] at IM
    generalize getR M 0 L (a : Int) = G at *
    obtain ⟨t, k, g⟩ := G
    have ha' : (a : Int) < L := by omega
    have hX' : (X.size : Int) = 32 * (L : Int) := by omega
    have hX2 : (a : Int) * 32 ≤ X.size := by omega
    have hno : (L : Int) - (a : Int) < (K : Int) := by rw [eK]; omega
    have PT : Hid (∀ z d F w, Blk w z (zcells d 0 L) 34 → DiskAt w d M F → z ∉ F → Calls Try.prog 16 #[.pointer (some ⟨z, 0, none⟩), .int .i64 (a : Int), .int .i64 n, .string s] w fun e w' => ∃ F', e = .returned (.int .i64 3) ∧ DiskAt w' d M F' ∧ Turn F F' w w') := fun z d F w h1 h2 h3 => by
      have := sealPut_any z d 0 L M F (a : Int) n s w h1 h2 h3 (by decide) (by omega) (by omega) (by rw [hlo]; decide)
      have e : putR M 0 L (a : Int) n s = (M, 3) := by
        unfold putR
        rw [if_neg (by rw [hc]; simp), if_pos (by unfold putIn; simp; omega)]
      rw [e] at this
      exact this
    have LO : Hid (∀ d F w, DiskAt w d M F → Calls Try.prog 30 #[.pointer (some ⟨d, 0, none⟩)] w fun e w' => e = .returned (.int .i64 0) ∧ Only [] w w') := fun d F w h => by
      have := dskLoose_any d M F w h
      rw [hlo] at this
      exact this
    clear hG hp eK eL eM hok hlo haw hc eX hr hLi
    go_enter Try.func4, Try.ntmps4
    go_wp2_with (first
      | ((with_reducible refine wpL_peel rfl ?_ ?_); focus (go_simp; done)) | (go_at_call 13; (with_reducible refine (AW.out _).mono ?_); rintro e1 w1 ⟨rfl, ho1⟩; replace hst := hst.keep ho1; clear ho1) | (go_at_call 22; (with_reducible refine (LY.out _).mono ?_); rintro e1 w1 ⟨ad, cp, rfl, hown, hge, ho1⟩; replace hst := hst.add ho1 (r := rowR (.slice ad K cp) 9 1 K (scells (layS n s K))) hown hge; clear ho1 hge hown) | (go_at_call 23; (with_reducible refine (RB.out _).mono ?_); rintro e1 w1 ⟨rfl, ho1⟩; replace hst := hst.keep ho1; clear ho1) | (go_at_call 24; (with_reducible refine (JN.out _ _ _ (hst.rs 0 rfl)).mono ?_); rintro e1 w1 ⟨rfl, ho1⟩; replace hst := hst.keep ho1; clear ho1)
      | (go_at_call 18; (with_reducible refine (S1.out _).mono ?_); rintro e1 w1 ⟨rfl, rfl⟩) | (go_at_call 25; (with_reducible refine (S2.out _).mono ?_); rintro e1 w1 ⟨rfl, rfl⟩) | (go_at_call 26; (with_reducible refine (DN.out _).mono ?_); rintro e1 w1 ⟨d, F, rfl, hd1, ho1, hg1⟩; replace hst := hst.add ho1 (r := diskR d _ F) hd1 hg1; clear hd1 ho1 hg1) | (go_at_call 27; (with_reducible refine (LN.out _ _ _ (hst.rs 0 rfl)).mono ?_); rintro e1 w1 ⟨rfl, ho1⟩; replace hst := hst.keep ho1; clear ho1) | (go_at_call 15; (with_reducible refine (ZN.out _ _ _ (hst.rs 0 rfl)).mono ?_); rintro e1 w1 ⟨z, rfl, hg1, hz1, ho1⟩; replace hst := hst.new ho1 hz1 hg1; unfold zcells at hst; clear hg1 hz1 ho1)
      | ((with_reducible refine wpL_peel rfl ?_ ?_); focus (go_simp; done)) | ((with_reducible refine wpL_isLoad rfl ?_); first | (refine wpL_load1S hst.st rfl rfl 0 rfl rfl rfl (by kernel_rfl) ?_) | (refine wpL_load1S hst.st rfl rfl 1 rfl rfl rfl (by kernel_rfl) ?_) | (refine wpL_load1S hst.st rfl rfl 2 rfl rfl rfl (by kernel_rfl) ?_) | (refine wpL_load1S hst.st rfl rfl 3 rfl rfl rfl (by kernel_rfl) ?_))
      | (go_at_call 21; (with_reducible refine (GT.out _ _ _ _ (hst.blk 0 rfl) (hst.rs 0 rfl) (hst.away 0 0 rfl rfl)).mono ?_); rintro e1 w1 ⟨rfl, ho1⟩; replace hst := hst.keep ho1; clear ho1)
      | (go_at_call 29; (with_reducible refine (IM.out _ _ _ (hst.rs 0 rfl)).mono ?_); rintro e1 w1 ⟨rfl, ho1⟩; replace hst := hst.keep ho1; clear ho1)
      | (go_at_call 30; (with_reducible refine (LO.out _ _ _ (hst.rs 0 rfl)).mono ?_); rintro e1 w1 ⟨rfl, ho1⟩; replace hst := hst.keep ho1; clear ho1)
      | (go_at_call 28; (with_reducible refine (RG.out _).mono ?_); rintro e1 w1 ⟨rfl, ho1⟩; replace hst := hst.keep ho1; clear ho1)
      | (go_at_call 16; (with_reducible refine (PT.out _ _ _ _ (hst.blk 0 rfl) (hst.rs 0 rfl) (hst.away 0 0 rfl rfl)).mono ?_); rintro e1 w1 ⟨F1, rfl, hd1, ht1⟩; replace hst := hst.act 0 rfl (diskR _ _ F1) rfl ht1 hd1; simp only [List.set] at hst; clear hd1 ht1)
      | ((with_reducible refine wpL_isBin rfl ?_); first | (refine wpL_neqStrT rfl rfl _ _ rfl rfl true (decide_eq_true rfl) ?_) | (refine wpL_eql_same rfl 9 _ _ _ rfl _ rfl rfl ?_)))
    go_ret
    exact ⟨rfl, hst.only⟩
end Go.Proofs.Ytmogkiacakkmbaa
