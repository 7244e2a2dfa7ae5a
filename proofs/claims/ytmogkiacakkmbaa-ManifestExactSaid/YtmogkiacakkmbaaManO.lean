/- Manifests: what the laws of manifests hold fast. -/
import Derived.Test.YtmogkiacakkmbaaManN
namespace Go.Proofs.Ytmogkiacakkmbaa
open Go.RowKit

def strT : ByteArray := ⟨#[48, 49, 50, 51, 52, 53, 54, 55, 56, 57]⟩
def resT : List UInt8 := Sha.sum (bl ⟨#[114]⟩)
theorem headT : HeadOk 1 2 10 4 := by unfold HeadOk; decide
theorem nchT : nch 1 2 10 4 = ((3 : Nat) : Int) := by rw [nch_yes headT]; decide
theorem cntT : cnt 1 2 10 4 3 = 3 := by unfold cnt; rw [nchT, if_pos rfl]; rfl
theorem lenT2 : lenM 1 2 10 4 3 2 = 2 := by unfold lenM; rw [cntT]; decide
theorem lenT3 : lenM 1 2 10 4 3 3 = 0 := by unfold lenM; rw [cntT]; decide
theorem sizT : (strT.size : Int) = 10 := by decide
theorem partT : partM 1 2 10 4 3 2 strT = ⟨#[56, 57]⟩ := by
  unfold partM
  simp only [lenT2]
  decide +kernel

def dsT : List (List UInt8) := dsOf 1 2 10 4 3 strT 3
theorem resT_len : resT.length = 32 := Sha.sum_length _
theorem dsT_wide : Wide dsT := dsOf_wide _ _ _ _ _ _ _
theorem dsT_len : dsT.length = 3 := dsOf_length _ _ _ _ _ _ _
theorem dsT_at : dsT.getD 2 [] = Sha.sum (bl ⟨#[56, 57]⟩) := by
  have : dsT.getD 2 [] = Sha.sum (bl (partM 1 2 10 4 3 ((2 : Nat) : Int) strT)) := rfl
  rw [this, show ((2 : Nat) : Int) = 2 from rfl, partT]
theorem manT_size : (⟨(manB 1 2 10 4 dsT resT).toArray⟩ : ByteArray).size = 176 := by
  rw [manB_sumT, ← bl_length, bl_mk, List.length_append, nums_length]
  have := sumT_size dsT resT dsT_wide resT_len (tree_wide _ dsT (Nat.le_refl _) dsT_wide)
  rw [← bl_length, bl_mk, dsT_len] at this
  rw [this]
  rfl

set_option maxRecDepth 100000 in
set_option maxHeartbeats 8000000 in
theorem awake20_any (w : World) : Calls Try.prog 59 #[] w fun e w' => e = .returned (.bool true) ∧ Only [] w w' := by
  have hst := St.start w []
  have HRL := digLen resT resT_len
  obtain ⟨RC, eRC⟩ : ∃ RC, RC = Lib.byteCells resT := ⟨_, rfl⟩
  obtain ⟨M0, eM⟩ : ∃ M : ByteArray, M = ⟨(manB 1 2 10 4 dsT resT).toArray⟩ := ⟨_, rfl⟩
  have hT : ((M0.size : Int) == 176) = true := by rw [eM, manT_size]; rfl
  have OO : Hid (∀ b w, Blk w b [.string ⟨#[114]⟩] 9 → Calls Try.prog 121 #[.slice (some ⟨b, 0, none⟩) 1 1] w fun e w' => e = .returned (.agg RC.toArray) ∧ Only [] w w') := fun b w h => by rw [eRC]; exact of_one b _ w _ h (by decide)
  obtain ⟨D, eD⟩ : ∃ D, D = digCells dsT := ⟨_, rfl⟩
  have MK : Hid (∀ w, Calls Try.prog 75 #[.int .i64 1, .int .i64 2, .int .i64 4, .string ⟨#[48, 49, 50, 51, 52, 53, 54, 55, 56, 57]⟩, .agg RC.toArray] w fun e w' => ∃ g, e = .returned (.tuple #[.agg (Value.int .i64 1 :: .int .i64 2 :: .int .i64 10 :: .int .i64 4 :: .slice (some ⟨g, 0, none⟩) 3 3 :: RC).toArray, .int .i64 0]) ∧ w.heap.size ≤ g ∧ Blk w' g D 102 ∧ Only [] w w') := fun w => by
    have := manMake_yes 1 2 4 strT resT 3 w resT_len (by rw [sizT]; exact headT) (by rw [sizT]; exact nchT)
    rw [sizT] at this
    rw [eRC, eD]
    exact this
  have BY : Hid (∀ g w, Blk w g D 102 → Calls Try.prog 73 #[.agg (Value.int .i64 1 :: .int .i64 2 :: .int .i64 10 :: .int .i64 4 :: .slice (some ⟨g, 0, none⟩) 3 3 :: RC).toArray] w fun e w' => e = .returned (.tuple #[.string M0, .int .i64 0]) ∧ Only [] w w') := fun g w hb => by
    rw [eRC, eM]
    rw [eD] at hb
    exact manBytes_yes 1 2 10 4 g 0 3 3 dsT resT w resT_len dsT_wide dsT_len (by rw [cntT]; decide) (by decide) hb.lt (fun j u hu => hb.cell (by rw [Nat.zero_add]; exact hu))
  have PA : Hid (∀ w, Calls Try.prog 122 #[.string M0] w fun e w' => ∃ g2 cp rest, e = .returned (.tuple #[.agg (Value.int .i64 1 :: .int .i64 2 :: .int .i64 10 :: .int .i64 4 :: .slice (some ⟨g2, 0, none⟩) 3 cp :: RC).toArray, .int .i64 0]) ∧ 3 ≤ cp ∧ w.heap.size ≤ g2 ∧ Blk w' g2 (D ++ rest) 102 ∧ Only [] w w') := fun w => by
    rw [eRC, eM, eD]
    exact manParse_yes 1 2 10 4 dsT resT 3 w resT_len dsT_wide dsT_len (by rw [cntT]; decide)
  have DG : Hid (∀ g cp rest w, 3 ≤ cp → Blk w g (D ++ rest) 102 → Digs w (.slice (some ⟨g, 0, none⟩) 3 cp) dsT) := fun g cp rest w hc hb => ⟨g, 0, cp, by rw [dsT_len], by rw [dsT_len]; exact hc, hb.lt, fun j u hu => hb.cell (by rw [Nat.zero_add, List.getElem?_append_left (by rw [eD]; exact (List.getElem?_eq_some_iff.1 hu).1), eD]; exact hu)⟩
  have DG0 : Hid (∀ g w, Blk w g D 102 → Digs w (.slice (some ⟨g, 0, none⟩) 3 3) dsT) := fun g w hb => Digs.of_blk (by rw [eD] at hb; exact hb) dsT_len (by decide)
  have SM : Hid (∀ g g2 cp rest w, 3 ≤ cp → Blk w g D 102 → Blk w g2 (D ++ rest) 102 → Calls Try.prog 72 #[.agg (Value.int .i64 1 :: .int .i64 2 :: .int .i64 10 :: .int .i64 4 :: .slice (some ⟨g, 0, none⟩) 3 3 :: RC).toArray, .agg (Value.int .i64 1 :: .int .i64 2 :: .int .i64 10 :: .int .i64 4 :: .slice (some ⟨g2, 0, none⟩) 3 cp :: RC).toArray] w fun e w' => e = .returned (.bool true) ∧ Only [] w w') := fun g g2 cp rest w hc h1 h2 => by
    rw [eRC]
    exact manSame_yes 1 2 10 4 _ _ 3 3 cp resT dsT w resT_len (DG0.out _ _ h1) (DG.out _ _ _ _ hc h2) dsT_wide (by rw [dsT_len]; decide)
  have CO : Hid (∀ g w, Calls Try.prog 63 #[.agg (Value.int .i64 1 :: .int .i64 2 :: .int .i64 10 :: .int .i64 4 :: .slice (some ⟨g, 0, none⟩) 3 3 :: RC).toArray] w fun e w' => e = .returned (.int .i64 3) ∧ Only [] w w') := fun g w => by
    have := manCount_any 1 2 10 4 (some ⟨g, 0, none⟩) 3 3 RC (by rw [eRC]; exact HRL) w
    rwa [cntT] at this
  have LN : Hid (∀ g w, Calls Try.prog 64 #[.agg (Value.int .i64 1 :: .int .i64 2 :: .int .i64 10 :: .int .i64 4 :: .slice (some ⟨g, 0, none⟩) 3 3 :: RC).toArray, .int .i64 2] w fun e w' => e = .returned (.int .i64 2) ∧ Only [] w w') := fun g w => by
    have := manLength_any 1 2 10 4 (some ⟨g, 0, none⟩) 3 3 RC (by rw [eRC]; exact HRL) 2 w
    rwa [lenT2] at this
  have PT : Hid (∀ g w, Calls Try.prog 66 #[.agg (Value.int .i64 1 :: .int .i64 2 :: .int .i64 10 :: .int .i64 4 :: .slice (some ⟨g, 0, none⟩) 3 3 :: RC).toArray, .int .i64 2, .string ⟨#[48, 49, 50, 51, 52, 53, 54, 55, 56, 57]⟩] w fun e w' => e = .returned (.string ⟨#[56, 57]⟩) ∧ Only [] w w') := fun g w => by
    have := manPart_any 1 2 10 4 (some ⟨g, 0, none⟩) 3 3 RC (by rw [eRC]; exact HRL) 2 strT w
    rwa [partT] at this
  have C0 : Hid (∀ g w, Blk w g D 102 → Calls Try.prog 68 #[.agg (Value.int .i64 1 :: .int .i64 2 :: .int .i64 10 :: .int .i64 4 :: .slice (some ⟨g, 0, none⟩) 3 3 :: RC).toArray, .int .i64 2, .string ⟨#[56, 57]⟩] w fun e w' => e = .returned (.int .i64 0) ∧ Only [] w w') := fun g w hb => manCheck_ok 1 2 10 4 _ 3 3 RC dsT (by rw [eRC]; exact HRL) 2 ⟨#[56, 57]⟩ w (by rw [show ((2 : Nat) : Int) = 2 from rfl, lenT2]; decide) (by rw [show ((2 : Nat) : Int) = 2 from rfl, lenT2]; decide) (by decide) dsT_wide dsT_len (by decide) (by decide) (DG0.out _ _ hb) dsT_at
  have C5 : Hid (∀ g w, Calls Try.prog 68 #[.agg (Value.int .i64 1 :: .int .i64 2 :: .int .i64 10 :: .int .i64 4 :: .slice (some ⟨g, 0, none⟩) 3 3 :: RC).toArray, .int .i64 2, .string ⟨#[56]⟩] w fun e w' => e = .returned (.int .i64 5) ∧ Only [] w w') := fun g w => manCheck_form 1 2 10 4 _ 3 3 RC (by rw [eRC]; exact HRL) 2 ⟨#[56]⟩ w (by rw [lenT2]; decide) (by rw [lenT2]; decide)
  have C3 : Hid (∀ g w, Calls Try.prog 68 #[.agg (Value.int .i64 1 :: .int .i64 2 :: .int .i64 10 :: .int .i64 4 :: .slice (some ⟨g, 0, none⟩) 3 3 :: RC).toArray, .int .i64 3, .string ⟨#[]⟩] w fun e w' => e = .returned (.int .i64 3) ∧ Only [] w w') := fun g w => manCheck_range 1 2 10 4 _ 3 3 RC (by rw [eRC]; exact HRL) 3 ⟨#[]⟩ w lenT3
  have HR : RC.length = 32 := by rw [eRC]; exact HRL
  have HR1 : RC.all (·.oneCell') = true := by rw [eRC]; exact digOne _
  have HT := Lib.hid (fun V => mfTake 1 2 10 4 V RC HR)
  have HL := Lib.hid (fun V => mfLen 1 2 10 4 V RC HR)
  have H1L : Hid (∀ g c, (Value.int .i64 1 :: .int .i64 2 :: .int .i64 10 :: .int .i64 4 :: .slice (some ⟨g, 0, none⟩) 3 c :: RC).all (·.oneCell') = true) := fun g c => by simp only [List.all_cons, HR1]; rfl
  have HLL : Hid (∀ g c, (Value.int .i64 1 :: .int .i64 2 :: .int .i64 10 :: .int .i64 4 :: .slice (some ⟨g, 0, none⟩) 3 c :: RC).length = mfZ.length) := fun g c => by rw [HL.out]; rfl
  clear eRC eM eD HRL HR HR1 DG DG0
  go_enter Try.func59, Try.ntmps59
  go_wp2_with (first
    | ((with_reducible refine wpL_peel rfl ?_ ?_); focus (go_simp; done))
    | ((with_reducible refine wpL_isAlloc rfl ?_); refine wpL_allocS hst rfl 104 rfl (.agg mfZ.toArray) mfZ (by kernel_rfl) rfl _ rfl ?_; clear hst; intro w1 b1 hb1 hst)
    | ((with_reducible refine wpL_isSlice rfl ?_); refine wpL_slice_lit rfl 40 1 _ rfl Try.underlying40 strInfo (by decide) (by decide) [.string ⟨#[114]⟩] rfl rfl (by simp [Value.cells]) ?_; intro w1 ho1 hs1 hB1; replace hst := hst.new ho1 hB1 (Nat.le_refl _); clear ho1 hs1 hB1)
    | (go_at_call 121; refine (OO.out _ _ (hst.blk 0 rfl)).mono ?_; rintro e1 w1 ⟨rfl, ho1⟩; replace hst := hst.keep ho1; clear ho1)
    | (go_at_call 75; refine (MK.out _).mono ?_; rintro e1 w1 ⟨g, rfl, hg, hB, ho1⟩; replace hst := hst.new ho1 hB hg; clear ho1 hB)
    | (go_at_call 73; refine (BY.out _ _ (hst.blk 1 rfl)).mono ?_; rintro e1 w1 ⟨rfl, ho1⟩; replace hst := hst.keep ho1; clear ho1)
    | (go_at_call 122; refine (PA.out _).mono ?_; rintro e1 w1 ⟨g2, cp, rest, rfl, hcp, hg2, hB, ho1⟩; replace hst := hst.new ho1 hB hg2; clear ho1 hB; have HC := Lib.hid hcp; clear hcp)
    | ((with_reducible refine wpL_isLoad rfl ?_); first | (refine wpL_loadAtS hst rfl (ty := 104) rfl 0 rfl rfl (by kernel_rfl) 37 (by kernel_rfl) _ (HT.out _) (HL.out _) ?_) | (refine wpL_loadAtS hst rfl (ty := 104) rfl 2 rfl rfl (by kernel_rfl) 37 (by kernel_rfl) _ (HT.out _) (HL.out _) ?_))
    | ((with_reducible refine wpL_isStore rfl ?_); refine wpL_storeS hst rfl (ty := 104) rfl 0 rfl rfl rfl (by kernel_rfl) (by kernel_rfl) (HLL.out _ _) (H1L.out _ _) ?_; clear hst; intro w1 hst; simp only [List.set] at hst)
    | (go_at_call 72; refine (SM.out _ _ _ _ _ HC.out (hst.blk 3 rfl) (hst.blk 1 rfl)).mono ?_; rintro e1 w1 ⟨rfl, ho1⟩; replace hst := hst.keep ho1; clear ho1)
    | (go_at_call 63; (with_reducible refine (CO.out _ _).mono ?_); rintro e1 w1 ⟨rfl, ho1⟩; replace hst := hst.keep ho1; clear ho1)
    | (go_at_call 64; (with_reducible refine (LN.out _ _).mono ?_); rintro e1 w1 ⟨rfl, ho1⟩; replace hst := hst.keep ho1; clear ho1)
    | (go_at_call 66; (with_reducible refine (PT.out _ _).mono ?_); rintro e1 w1 ⟨rfl, ho1⟩; replace hst := hst.keep ho1; clear ho1)
    | (go_at_call 68; (first | (with_reducible refine (C0.out _ _ (hst.blk 3 rfl)).mono ?_) | (with_reducible refine (C5.out _ _).mono ?_) | (with_reducible refine (C3.out _ _).mono ?_)); rintro e1 w1 ⟨rfl, ho1⟩; replace hst := hst.keep ho1; clear ho1))
  go_ret
  exact ⟨rfl, hst.only⟩

end Go.Proofs.Ytmogkiacakkmbaa
