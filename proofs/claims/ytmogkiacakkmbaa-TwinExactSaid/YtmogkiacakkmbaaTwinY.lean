/- The law TwinExact, walked: where a text stands. -/
import Derived.Test.YtmogkiacakkmbaaRsg
namespace Go.Proofs.Ytmogkiacakkmbaa
open Go.RowKit

/-- A twin's text stands on a disk at rest, all whose bytes are X. -/
structure ExAt (m : DM) (H : Nat) (tx : ByteArray) (g : Int) (κ : Nat) (X : ByteArray) : Prop where
  rest : Rest m
  len : m.len = 2 * H
  side : κ ≤ 1
  opens : openR m 0 (2 * H) = (tx, g, (κ : Int))
  num : isNum g = true
  all : X = joinB m.safe
section
variable {m : DM} {H : Nat} {tx : ByteArray} {g : Int} {κ : Nat} {X : ByteArray} (h : ExAt m H tx g κ X)
include h
theorem ExAt.range : 1 ≤ g ∧ g ≤ 2147483647 := by
  have := h.num
  unfold isNum at this
  simpa using this
theorem ExAt.lastJ (h5 : H ≤ 12) : lastJ m H 2 = (tx, g, (κ : Int)) := by
  have := h.range
  rw [lastJ_open m H h5, h.opens, if_neg (by simp only; omega)]
theorem ExAt.last (h4 : 2 ≤ H) (h5 : H ≤ 12) (w : World) : Calls Try.prog 34 #[.string (joinB m.safe)] w fun e w' => e = .returned (.tuple #[.string tx, .int .i64 g, .int .i64 (κ : Int)]) ∧ Only [] w w' := by
  have := refLast_any m h.rest H h.len h4 h5 w
  rw [h.lastJ h5] at this
  exact this
theorem ExAt.save_no (h4 : 2 ≤ H) (h5 : H ≤ 12) (x : ByteArray) (_hx : x.size ≤ 300) (w : World) (hn : g = 2147483647 ∨ fits H x = false) :
    Calls Try.prog 39 #[.string (joinB m.safe), .string x] w fun e w' => e = .returned (.tuple #[.string (joinB m.safe), .bool false]) ∧ Only [] w w' := by
  obtain ⟨r1, r2⟩ := h.range
  refine refSave_no m h.rest H h.len h4 h5 x tx g (κ : Int) (h.lastJ h5) (by omega) r2 w ?_
  rcases hn with rfl | hn
  · left
    unfold canLay isNum
    simp
  · right
    have h1 : ¬ secsOf x.size ≤ H := fun h => by rw [(fits_small H h5 x).2 h] at hn; cases hn
    omega
theorem ExAt.save_yes (h4 : 2 ≤ H) (h5 : H ≤ 12) (x : ByteArray) (hx : x.size ≤ 300) (hg : g < 2147483647) (hft : fits H x = true) :
    ∃ m' X', ExAt m' H x (g + 1) (1 - κ) X' ∧
      (∀ t z d F w, (pairR t (tcells z tx g (κ : Int) false) 98 (diskR d m F)).p w → Blk w z (zcells d 0 (2 * H)) 34 → t ≠ z → z ∉ F → Calls Try.prog 38 #[.pointer (some ⟨t, 0, none⟩), .string x] w fun e w' => ∃ F', e = .returned (.int .i64 0) ∧ (pairR t (tcells z x (g + 1) ((1 - κ : Nat) : Int) false) 98 (diskR d m' F')).p w' ∧ Turn (t :: F) (t :: F') w w') ∧
      ∀ w, Calls Try.prog 39 #[.string X, .string x] w fun e w' => e = .returned (.tuple #[.string X', .bool true]) ∧ Only [] w w' := by
  obtain ⟨r1, r2⟩ := h.range
  have e2 : 2 * H / 2 = H := by omega
  have hO : OpenAt m 0 (2 * H) (tx, g, (κ : Int)) := by
    have := open_at m 0 (2 * H) (by rw [h.opens]; simp only; omega)
    rw [h.opens] at this
    exact this
  have hc : canLay (g + 1) x = true := canLay_iff.2 ⟨by unfold isNum; simp; omega, by omega⟩
  have hK : secsOf x.size ≤ H := (fits_iff.1 hft).2
  have hl := h.len
  obtain ⟨l1, l2, l3, l4, l5⟩ := save_open h.rest 0 (2 * H) tx x g κ (by omega) (zoneOk_iff.2 ⟨by omega, by omega⟩) h.side hO hc (by rw [e2]; exact hft)
  have hsl : m.len = m.safe.length := rfl
  have hsl' : (layR m (0 + (1 - κ) * (2 * H / 2)) (2 * H / 2) g x).1.len = (layR m (0 + (1 - κ) * (2 * H / 2)) (2 * H / 2) g x).1.safe.length := rfl
  have hκ := h.side
  have hσ : (1 - κ) * H + H ≤ 2 * H := by rcases (by omega : κ = 0 ∨ κ = 1) with e | e <;> subst e <;> omega
  have hJ := joinB_lay m.safe (layR m (0 + (1 - κ) * (2 * H / 2)) (2 * H / 2) g x).1.safe h.rest.ok.full ((1 - κ) * H) H (g + 1) x (by omega) (by omega) hK (fun q => by rw [l4 q, e2, Nat.zero_add])
  refine ⟨(layR m (0 + (1 - κ) * (2 * H / 2)) (2 * H / 2) g x).1, joinB (layR m (0 + (1 - κ) * (2 * H / 2)) (2 * H / 2) g x).1.safe, ⟨l2, by rw [l3]; exact h.len, by omega, l5, (canLay_iff.1 hc).1, rfl⟩, fun t z d F w h1 h2 h3 h4' => ?_, fun w => ?_⟩
  · exact twinSave_yes t z d 0 (2 * H) m F tx g x w κ h1 h2 h3 h4' (by omega) (by omega) (by omega) (by omega) (by rw [h.rest.lo]; exact Nat.zero_le _) h.side (by omega) hg (by rw [e2]; exact hft) l1
  · rw [h.all, hJ]
    rcases (by omega : κ = 0 ∨ κ = 1) with e | e
    · subst e
      have := refSave_yes0 m h.rest H h.len h4 h5 x tx g ((0 : Nat) : Int) (h.lastJ h5) (by omega) r2 w hc hK rfl
      simp only [Nat.sub_zero, Nat.one_mul] at this ⊢
      exact this
    · subst e
      have := refSave_yes1 m h.rest H h.len h4 h5 x tx g ((1 : Nat) : Int) (h.lastJ h5) (by omega) r2 w hc hK rfl
      simp only [Nat.sub_self, Nat.zero_mul] at this ⊢
      exact this
end

set_option maxRecDepth 100000 in
set_option maxHeartbeats 32000000 in
theorem twinExact_some (image : ByteArray) (v : Value) (xs : List ByteArray) (w : World) (h : Strs w v xs) (hs : (image.size : Int) ≤ 768) (hx : xs.length ≤ 10) (H : Nat) (h4 : 2 ≤ H) (h5 : H ≤ 12) (hl : (DM.of image).len = 2 * H) (hO : (openR (DM.of image) 0 (2 * H)).2.1 ≠ 0) :
    Calls Try.prog 5 #[.string image, v] w fun e w' => e = .returned (.bool true) ∧ Only [] w w' := by
  have hst := Sd.start w []
  have HH := Lib.hid h
  obtain ⟨ad, cap, rfl⟩ : ∃ ad cap, v = .slice ad xs.length cap := by
    rcases h with ⟨⟨a, c, rfl⟩, rfl⟩ | ⟨bk, o, c, rfl, _⟩
    · exact ⟨a, c, rfl⟩
    · exact ⟨_, _, rfl⟩
  clear h
  have AW := Lib.hid awake07_any
  obtain ⟨M, eM⟩ : ∃ M, M = DM.of image := ⟨_, rfl⟩
  rw [← eM] at hl hO
  have hR : Rest M := by rw [eM]; exact Rest.of image
  obtain ⟨n, eN⟩ : ∃ n, n = 2 * H := ⟨_, rfl⟩
  have EH : Hid (2 ≤ H ∧ (H ≤ 12)) := ⟨h4, h5⟩
  have DN : Hid (∀ w, Calls Try.prog 26 #[.string image] w fun e w' => ∃ d F, e = .returned (.pointer (some ⟨d, 0, none⟩)) ∧ DiskAt w' d M F ∧ Only [] w w' ∧ (∀ b ∈ F, w.heap.size ≤ b)) := fun w => by rw [eM]; exact dskOf_any image w (by omega)
  have LN : Hid (∀ d F w, DiskAt w d M F → Calls Try.prog 27 #[.pointer (some ⟨d, 0, none⟩)] w fun e w' => e = .returned (.int .i64 (n : Int)) ∧ Only [] w w') := fun d F w h => by rw [eN, ← hl]; exact dskLen_any d M F w h
  have ZN : Hid (∀ d F w, DiskAt w d M F → Calls Try.prog 15 #[.pointer (some ⟨d, 0, none⟩), .int .i64 0, .int .i64 (n : Int)] w fun e w' => ∃ z, e = .returned (.tuple #[.pointer (some ⟨z, 0, none⟩), .int .i64 0]) ∧ w.heap.size ≤ z ∧ Blk w' z (zcells d 0 n) 34 ∧ Only [] w w') := fun d F w h => zonNew_yes d 0 n _ F w h (by unfold partOk; simp; omega)
  obtain ⟨X0, eX0⟩ : ∃ X0, X0 = joinB M.safe := ⟨_, rfl⟩
  have IM : Hid (∀ d F w, DiskAt w d M F → Calls Try.prog 29 #[.pointer (some ⟨d, 0, none⟩)] w fun e w' => e = .returned (.string X0) ∧ Only [] w w') := fun d F w h => by rw [eX0]; exact dskImage_any d M F w h
  have hX0 : X0.size = 64 * H := by rw [eX0, joinB_size _ hR.ok.full]; have : M.len = M.safe.length := rfl; omega
  have hzo : zoneOk n = true := zoneOk_iff.2 ⟨by omega, by omega⟩
  have OPA := fun z d F w h1 h2 h3 => twinOpen_any z d 0 n M F w h1 h2 h3 (by decide) (by omega) (by rw [hR.lo]; exact Nat.zero_le _) hR.aw hzo
  rw [eN] at OPA
  rw [← eN] at OPA
  obtain ⟨tx0, g0, κ0, hex⟩ : ∃ tx g κ, ExAt M H tx g κ X0 := by
    have ho := open_at M 0 (2 * H) hO
    obtain ⟨o1, o2, o3⟩ := ho
    rcases hS : openR M 0 (2 * H) with ⟨tx, g, sd⟩
    rw [hS] at o1 o3
    simp only at o1 o3
    obtain ⟨κ, hκ, hκ1⟩ : ∃ κ : Nat, (κ : Int) = sd ∧ κ ≤ 1 := by
      rcases o3 with ⟨h, _⟩ | ⟨h, _⟩
      · exact ⟨0, by omega, by omega⟩
      · exact ⟨1, by omega, by omega⟩
    exact ⟨tx, g, κ, hR, hl, hκ1, by rw [hS, hκ], o1, eX0⟩
  have OP : Hid (∀ z d F w, Blk w z (zcells d 0 n) 34 → DiskAt w d M F → z ∉ F → Calls Try.prog 32 #[.pointer (some ⟨z, 0, none⟩)] w fun e w' => ∃ t, e = .returned (.tuple #[.pointer (some ⟨t, 0, none⟩), .int .i64 0]) ∧ w.heap.size ≤ t ∧ Blk w' t (tcells z tx0 g0 (κ0 : Int) false) 98 ∧ Only [] w w') := fun z d F w h1 h2 h3 => by
    refine (OPA z d F w h1 h2 h3).mono ?_
    intro e w' h
    rw [eN, hex.opens] at h
    rcases h with ⟨h, _⟩ | ⟨_, h⟩
    · have := hex.range
      simp only at h
      omega
    · exact h
  have LS : Hid (∀ w, Calls Try.prog 34 #[.string X0] w fun e w' => e = .returned (.tuple #[.string tx0, .int .i64 g0, .int .i64 (κ0 : Int)]) ∧ Only [] w w') := fun w => by rw [eX0]; exact hex.last h4 h5 w
  have A0 := Lib.hid hex
  have EN := Lib.hid eN
  have hn4 : ¬ (n : Int) < 4 := by omega
  have hn2 : ((n : Int) % 2 != 0) = false := by simp; omega
  have hx' : (xs.length : Int) ≤ 10 := by omega
  have EH : Hid (2 ≤ H ∧ H ≤ 12) := ⟨h4, h5⟩
  clear hO hR eM eX0 hX0 hzo OPA hex eN hl h4 h5 hx
  go_enter Try.func5, Try.ntmps5
  go_wp2_with (first
    | ((with_reducible refine wpL_peel rfl ?_ ?_); focus (go_simp; done)) | (go_at_call 31; (with_reducible refine (AW.out _).mono ?_); rintro e1 w1 ⟨rfl, ho1⟩; replace hst := hst.keep ho1; clear ho1) | (go_at_call 26; (with_reducible refine (DN.out _).mono ?_); rintro e1 w1 ⟨d, F, rfl, hd1, ho1, hg1⟩; replace hst := hst.add ho1 (r := diskR d _ F) hd1 hg1; clear hd1 ho1 hg1) | (go_at_call 27; (with_reducible refine (LN.out _ _ _ (hst.rs 0 rfl)).mono ?_); rintro e1 w1 ⟨rfl, ho1⟩; replace hst := hst.keep ho1; clear ho1) | (go_at_call 15; (with_reducible refine (ZN.out _ _ _ (hst.rs 0 rfl)).mono ?_); rintro e1 w1 ⟨z, rfl, hg1, hz1, ho1⟩; replace hst := hst.new ho1 hz1 hg1; clear hg1 hz1 ho1) | (go_at_call 34; (with_reducible refine (LS.out _).mono ?_); rintro e1 w1 ⟨rfl, ho1⟩; replace hst := hst.keep ho1; clear ho1)
    | (go_at_call 29; (with_reducible refine (IM.out _ _ _ (hst.rs 0 rfl)).mono ?_); rintro e1 w1 ⟨rfl, ho1⟩; replace hst := hst.keep ho1; clear ho1)
    | (go_at_call 32; (with_reducible refine (OP.out _ _ _ _ (hst.blk 0 rfl) (hst.rs 0 rfl) (hst.away 0 0 rfl rfl)).mono ?_); rintro e1 w1 ⟨t, rfl, hg1, ht1, ho1⟩; replace hst := hst.new ho1 ht1 hg1; clear hg1 ht1 ho1))
  clear IM LS
  go_loopw [8, 18] (fun al i wr => ∃ (j : Nat) (m : DM) (tx : ByteArray) (g : Int) (κ : Nat) (X : ByteArray) (F2 : List Nat), j ≤ xs.length ∧ al = .string X ∧ i = .int .i64 (j : Int) ∧ Hid (ExAt m H tx g κ X) ∧
      Sd w [] wr [⟨t, tcells z tx g (κ : Int) false, 98, true⟩, ⟨z, zcells d 0 n, 34, true⟩] [diskR d m F2])
    (fun _ i _ => (11 - intOf i).toNat)
  case atStart => exact ⟨0, M, tx0, g0, κ0, X0, F, by omega, rfl, rfl, A0, hst⟩
  case round =>
    obtain ⟨j, m, tx, g, κ, X, F2, hj, rfl, rfl, HI, hst⟩ := hrel
    clear A0
    have hex := HI.out
    have IM : Hid (∀ F w, DiskAt w d m F → Calls Try.prog 29 #[.pointer (some ⟨d, 0, none⟩)] w fun e w' => e = .returned (.string X) ∧ Only [] w w') := fun F w h => by rw [hex.all]; exact dskImage_any d m F w h
    have LS : Hid (∀ w, Calls Try.prog 34 #[.string X] w fun e w' => e = .returned (.tuple #[.string tx, .int .i64 g, .int .i64 (κ : Int)]) ∧ Only [] w w') := fun w => by rw [hex.all]; exact hex.last EH.out.1 EH.out.2 w
    have TX : Hid (∀ w, Blk w t (tcells z tx g (κ : Int) false) 98 → Calls Try.prog 35 #[.pointer (some ⟨t, 0, none⟩)] w fun e w' => e = .returned (.string tx) ∧ w = w') := fun w h => twinText_any t z _ _ _ _ w h
    have TG : Hid (∀ w, Blk w t (tcells z tx g (κ : Int) false) 98 → Calls Try.prog 36 #[.pointer (some ⟨t, 0, none⟩)] w fun e w' => e = .returned (.int .i64 g) ∧ w = w') := fun w h => twinGen_any t z _ _ _ _ w h
    have TS : Hid (∀ w, Blk w t (tcells z tx g (κ : Int) false) 98 → Calls Try.prog 37 #[.pointer (some ⟨t, 0, none⟩)] w fun e w' => e = .returned (.int .i64 (κ : Int)) ∧ w = w') := fun w h => twinSide_any t z _ _ _ _ w h
    have ST : Hid (decide (tx = tx) = true) := decide_eq_true rfl
    have SX : Hid (decide (X = X) = true) := decide_eq_true rfl
    obtain ⟨hg1, hg2⟩ := hex.range
    clear hex
    by_cases hlt : j < xs.length
    · have j1 : (j : Int) < xs.length := by omega
      have j2 : ((j : Int) == (xs.length : Int)) = false := by simp; omega
      have HJ : Hid (j + 1 ≤ xs.length) := hlt
      obtain ⟨bk, o, rfl, hcell⟩ : ∃ bk o, ad = some ⟨bk, o, none⟩ ∧ ∀ wr, Only [] w wr → wr.cell? ⟨bk, o + j, none⟩ = some (.string (xs.getD j ⟨#[]⟩)) := by
        rcases HH.out with ⟨_, e⟩ | ⟨bk, o, c, hv, h1, h2, h3⟩
        · rw [e] at hlt; simp at hlt
        · injection hv with e1 e2 e3
          refine ⟨bk, o, e1, fun wr ho => ?_⟩
          rw [ho.cellAt _ _ h2 (by simp)]
          exact h1 j _ (by rw [List.getD_eq_getElem?_getD, List.getElem?_eq_getElem hlt]; rfl)
      have HC := Lib.hid hcell
      clear hcell
      obtain ⟨s, es⟩ : ∃ s, s = xs.getD j ⟨#[]⟩ := ⟨_, rfl⟩
      rw [← es] at HC
      by_cases hsz : 300 < s.size
      · have hsz' : (300 : Int) < s.size := by omega
        clear es
        go_wp2_with (first
          | ((with_reducible refine wpL_peel rfl ?_ ?_); focus (go_simp; done)) | (go_at_call 34; (with_reducible refine (LS.out _).mono ?_); rintro e1 w1 ⟨rfl, ho1⟩; replace hst := hst.keep ho1; clear ho1) | (go_at_call 35; (with_reducible refine (TX.out _ (hst.blk 0 rfl)).mono ?_); rintro e1 w1 ⟨rfl, rfl⟩) | (go_at_call 36; (with_reducible refine (TG.out _ (hst.blk 0 rfl)).mono ?_); rintro e1 w1 ⟨rfl, rfl⟩) | (go_at_call 37; (with_reducible refine (TS.out _ (hst.blk 0 rfl)).mono ?_); rintro e1 w1 ⟨rfl, rfl⟩) | (go_at_call 29; (with_reducible refine (IM.out _ _ (hst.rs 0 rfl)).mono ?_); rintro e1 w1 ⟨rfl, ho1⟩; replace hst := hst.keep ho1; clear ho1) | ((with_reducible refine wpL_isBin rfl ?_); first | (refine wpL_neqStrT rfl rfl tx tx rfl rfl true ST.out ?_) | (refine wpL_neqStrT rfl rfl X X rfl rfl true SX.out ?_)) | ((with_reducible refine wpL_isLoad rfl ?_); refine wpL_load1C rfl rfl rfl (HC.out _ hst.only) (by kernel_rfl) ?_))
        go_ret
        exact ⟨rfl, hst.only⟩
      · have hsz' : ¬ (300 : Int) < s.size := by omega
        clear es
        have eH2 : n / 2 = H := (by have := EN.out; omega)
        cases hft : fits H s
        · have SV : Hid (∀ w, Blk w t (tcells z tx g (κ : Int) false) 98 → Blk w z (zcells d 0 n) 34 → t ≠ z → Calls Try.prog 38 #[.pointer (some ⟨t, 0, none⟩), .string s] w fun e w' => e = .returned (.int .i64 1) ∧ Only [] w w') := fun w h1 h2 h3 => twinSave_no t z d 0 n tx g (κ : Int) s w false h1 h2 h3 (by have := EH.out; have := EN.out; omega) 1 (.inl ⟨by rw [eH2]; exact hft, rfl⟩)
          have RS : Hid (∀ w, Calls Try.prog 39 #[.string X, .string s] w fun e w' => e = .returned (.tuple #[.string X, .bool false]) ∧ Only [] w w') := fun w => by
            have hex := HI.out
            rw [hex.all]
            exact hex.save_no EH.out.1 EH.out.2 s (by omega) w (.inr hft)
          clear hft eH2
          go_wp2_with (first
            | ((with_reducible refine wpL_peel rfl ?_ ?_); focus (go_simp; done)) | (go_at_call 34; (with_reducible refine (LS.out _).mono ?_); rintro e1 w1 ⟨rfl, ho1⟩; replace hst := hst.keep ho1; clear ho1) | (go_at_call 35; (with_reducible refine (TX.out _ (hst.blk 0 rfl)).mono ?_); rintro e1 w1 ⟨rfl, rfl⟩) | (go_at_call 36; (with_reducible refine (TG.out _ (hst.blk 0 rfl)).mono ?_); rintro e1 w1 ⟨rfl, rfl⟩) | (go_at_call 37; (with_reducible refine (TS.out _ (hst.blk 0 rfl)).mono ?_); rintro e1 w1 ⟨rfl, rfl⟩) | (go_at_call 29; (with_reducible refine (IM.out _ _ (hst.rs 0 rfl)).mono ?_); rintro e1 w1 ⟨rfl, ho1⟩; replace hst := hst.keep ho1; clear ho1) | ((with_reducible refine wpL_isBin rfl ?_); first | (refine wpL_neqStrT rfl rfl tx tx rfl rfl true ST.out ?_) | (refine wpL_neqStrT rfl rfl X X rfl rfl true SX.out ?_)) | ((with_reducible refine wpL_isLoad rfl ?_); refine wpL_load1C rfl rfl rfl (HC.out _ hst.only) (by kernel_rfl) ?_)
            | (go_at_call 38; (with_reducible refine (SV.out _ (hst.blk 0 rfl) (hst.blk 1 rfl) (hst.neq 0 1 rfl rfl (by decide))).mono ?_); rintro e1 w1 ⟨rfl, ho1⟩; replace hst := hst.keep ho1; clear ho1)
            | (go_at_call 39; (with_reducible refine (RS.out _).mono ?_); rintro e1 w1 ⟨rfl, ho1⟩; replace hst := hst.keep ho1; clear ho1))
          go_roundw
          case rel => exact ⟨j + 1, m, tx, g, κ, X, F2, HJ.out, rfl, by go_num, HI, hst⟩
          case measure => simp [intOf]; omega
        · by_cases hgm : g < 2147483647
          · obtain ⟨m', X', k1, k2, k3⟩ := HI.out.save_yes EH.out.1 EH.out.2 s (by omega) hgm hft
            have SV : Hid (∀ t z d F w, (pairR t (tcells z tx g (κ : Int) false) 98 (diskR d m F)).p w → Blk w z (zcells d 0 n) 34 → t ≠ z → z ∉ F → Calls Try.prog 38 #[.pointer (some ⟨t, 0, none⟩), .string s] w fun e w' => ∃ F', e = .returned (.int .i64 0) ∧ (pairR t (tcells z s (g + 1) ((1 - κ : Nat) : Int) false) 98 (diskR d m' F')).p w' ∧ Turn (t :: F) (t :: F') w w') := fun t z d F w h1 h2 h3 h4 => k2 t z d F w h1 (by rw [← EN.out]; exact h2) h3 h4
            have RS : Hid (∀ w, Calls Try.prog 39 #[.string X, .string s] w fun e w' => e = .returned (.tuple #[.string X', .bool true]) ∧ Only [] w w') := k3
            have K1 := Lib.hid k1
            clear k1 k2 k3 hft eH2
            go_wp2_with (first
              | ((with_reducible refine wpL_peel rfl ?_ ?_); focus (go_simp; done)) | (go_at_call 34; (with_reducible refine (LS.out _).mono ?_); rintro e1 w1 ⟨rfl, ho1⟩; replace hst := hst.keep ho1; clear ho1) | (go_at_call 35; (with_reducible refine (TX.out _ (hst.blk 0 rfl)).mono ?_); rintro e1 w1 ⟨rfl, rfl⟩) | (go_at_call 36; (with_reducible refine (TG.out _ (hst.blk 0 rfl)).mono ?_); rintro e1 w1 ⟨rfl, rfl⟩) | (go_at_call 37; (with_reducible refine (TS.out _ (hst.blk 0 rfl)).mono ?_); rintro e1 w1 ⟨rfl, rfl⟩) | (go_at_call 29; (with_reducible refine (IM.out _ _ (hst.rs 0 rfl)).mono ?_); rintro e1 w1 ⟨rfl, ho1⟩; replace hst := hst.keep ho1; clear ho1) | ((with_reducible refine wpL_isBin rfl ?_); first | (refine wpL_neqStrT rfl rfl tx tx rfl rfl true ST.out ?_) | (refine wpL_neqStrT rfl rfl X X rfl rfl true SX.out ?_)) | ((with_reducible refine wpL_isLoad rfl ?_); refine wpL_load1C rfl rfl rfl (HC.out _ hst.only) (by kernel_rfl) ?_)
              | (go_at_call 38; (with_reducible refine (SV.out _ _ _ _ _ (pair_mk (hst.blk 0 rfl) (hst.rs 0 rfl) (hst.away 0 0 rfl rfl)) (hst.blk 1 rfl) (hst.neq 0 1 rfl rfl (by decide)) (hst.away 1 0 rfl rfl)).mono ?_); rintro e1 w1 ⟨F3, rfl, hp1, hT1⟩; replace hst := ((hst.join rfl).act 0 rfl (pairR _ _ _ (diskR _ _ F3)) rfl hT1 hp1); simp only [List.set] at hst; replace hst := hst.split; clear hp1 hT1)
              | (go_at_call 39; (with_reducible refine (RS.out _).mono ?_); rintro e1 w1 ⟨rfl, ho1⟩; replace hst := hst.keep ho1; clear ho1))
            go_roundw
            case rel => exact ⟨j + 1, m', s, g + 1, 1 - κ, X', _, HJ.out, rfl, by go_num, K1, hst⟩
            case measure => simp [intOf]; omega
          · obtain rfl : g = 2147483647 := by omega
            have SV : Hid (∀ w, Blk w t (tcells z tx 2147483647 (κ : Int) false) 98 → Blk w z (zcells d 0 n) 34 → t ≠ z → Calls Try.prog 38 #[.pointer (some ⟨t, 0, none⟩), .string s] w fun e w' => e = .returned (.int .i64 10) ∧ Only [] w w') := fun w h1 h2 h3 => twinSave_no t z d 0 n tx 2147483647 (κ : Int) s w false h1 h2 h3 (by have := EH.out; have := EN.out; omega) 10 (.inr (.inl ⟨by rw [eH2]; exact hft, by omega, rfl⟩))
            have RS : Hid (∀ w, Calls Try.prog 39 #[.string X, .string s] w fun e w' => e = .returned (.tuple #[.string X, .bool false]) ∧ Only [] w w') := fun w => by
              have hex := HI.out
              rw [hex.all]
              exact hex.save_no EH.out.1 EH.out.2 s (by omega) w (.inl rfl)
            clear hft eH2
            go_wp2_with (first
              | ((with_reducible refine wpL_peel rfl ?_ ?_); focus (go_simp; done)) | (go_at_call 34; (with_reducible refine (LS.out _).mono ?_); rintro e1 w1 ⟨rfl, ho1⟩; replace hst := hst.keep ho1; clear ho1) | (go_at_call 35; (with_reducible refine (TX.out _ (hst.blk 0 rfl)).mono ?_); rintro e1 w1 ⟨rfl, rfl⟩) | (go_at_call 36; (with_reducible refine (TG.out _ (hst.blk 0 rfl)).mono ?_); rintro e1 w1 ⟨rfl, rfl⟩) | (go_at_call 37; (with_reducible refine (TS.out _ (hst.blk 0 rfl)).mono ?_); rintro e1 w1 ⟨rfl, rfl⟩) | (go_at_call 29; (with_reducible refine (IM.out _ _ (hst.rs 0 rfl)).mono ?_); rintro e1 w1 ⟨rfl, ho1⟩; replace hst := hst.keep ho1; clear ho1) | ((with_reducible refine wpL_isBin rfl ?_); first | (refine wpL_neqStrT rfl rfl tx tx rfl rfl true ST.out ?_) | (refine wpL_neqStrT rfl rfl X X rfl rfl true SX.out ?_)) | ((with_reducible refine wpL_isLoad rfl ?_); refine wpL_load1C rfl rfl rfl (HC.out _ hst.only) (by kernel_rfl) ?_)
              | (go_at_call 38; (with_reducible refine (SV.out _ (hst.blk 0 rfl) (hst.blk 1 rfl) (hst.neq 0 1 rfl rfl (by decide))).mono ?_); rintro e1 w1 ⟨rfl, ho1⟩; replace hst := hst.keep ho1; clear ho1)
              | (go_at_call 39; (with_reducible refine (RS.out _).mono ?_); rintro e1 w1 ⟨rfl, ho1⟩; replace hst := hst.keep ho1; clear ho1))
            go_roundw
            case rel => exact ⟨j + 1, m, tx, 2147483647, κ, X, F2, HJ.out, rfl, by go_num, HI, hst⟩
            case measure => simp [intOf]; omega
    · obtain rfl : j = xs.length := by omega
      have SVN : Hid (∀ w, Calls Try.prog 38 #[.pointer none, .string ⟨#[]⟩] w fun e w' => e = .returned (.int .i64 2) ∧ Only [] w w') := fun w => (twinNil w ⟨#[]⟩).1
      have TXN : Hid (∀ w, Calls Try.prog 35 #[.pointer none] w fun e w' => e = .returned (.string ⟨#[]⟩) ∧ Only [] w w') := fun w => (twinNil w ⟨#[]⟩).2.1
      have TGN : Hid (∀ w, Calls Try.prog 36 #[.pointer none] w fun e w' => e = .returned (.int .i64 0) ∧ Only [] w w') := fun w => (twinNil w ⟨#[]⟩).2.2.1
      have TSN : Hid (∀ w, Calls Try.prog 37 #[.pointer none] w fun e w' => e = .returned (.int .i64 0) ∧ Only [] w w') := fun w => (twinNil w ⟨#[]⟩).2.2.2.1
      have OPN : Hid (∀ w, Calls Try.prog 32 #[.pointer none] w fun e w' => e = .returned (.tuple #[.pointer none, .int .i64 2]) ∧ Only [] w w') := fun w => (twinNil w ⟨#[]⟩).2.2.2.2.1
      have FMN : Hid (∀ w, Calls Try.prog 33 #[.pointer none, .string ⟨#[]⟩] w fun e w' => e = .returned (.tuple #[.pointer none, .int .i64 2]) ∧ Only [] w w') := fun w => (twinNil w ⟨#[]⟩).2.2.2.2.2
      clear HI
      go_wp2_with (first
        | ((with_reducible refine wpL_peel rfl ?_ ?_); focus (go_simp; done)) | (go_at_call 34; (with_reducible refine (LS.out _).mono ?_); rintro e1 w1 ⟨rfl, ho1⟩; replace hst := hst.keep ho1; clear ho1) | (go_at_call 35; (with_reducible refine (TX.out _ (hst.blk 0 rfl)).mono ?_); rintro e1 w1 ⟨rfl, rfl⟩) | (go_at_call 36; (with_reducible refine (TG.out _ (hst.blk 0 rfl)).mono ?_); rintro e1 w1 ⟨rfl, rfl⟩) | (go_at_call 37; (with_reducible refine (TS.out _ (hst.blk 0 rfl)).mono ?_); rintro e1 w1 ⟨rfl, rfl⟩) | (go_at_call 29; (with_reducible refine (IM.out _ _ (hst.rs 0 rfl)).mono ?_); rintro e1 w1 ⟨rfl, ho1⟩; replace hst := hst.keep ho1; clear ho1) | ((with_reducible refine wpL_isBin rfl ?_); first | (refine wpL_neqStrT rfl rfl tx tx rfl rfl true ST.out ?_) | (refine wpL_neqStrT rfl rfl X X rfl rfl true SX.out ?_))
        | (go_at_call 38; (with_reducible refine (SVN.out _).mono ?_); rintro e1 w1 ⟨rfl, ho1⟩; replace hst := hst.keep ho1; clear ho1) | (go_at_call 35; (with_reducible refine (TXN.out _).mono ?_); rintro e1 w1 ⟨rfl, ho1⟩; replace hst := hst.keep ho1; clear ho1) | (go_at_call 36; (with_reducible refine (TGN.out _).mono ?_); rintro e1 w1 ⟨rfl, ho1⟩; replace hst := hst.keep ho1; clear ho1) | (go_at_call 37; (with_reducible refine (TSN.out _).mono ?_); rintro e1 w1 ⟨rfl, ho1⟩; replace hst := hst.keep ho1; clear ho1)
        | (go_at_call 32; (with_reducible refine (OPN.out _).mono ?_); rintro e1 w1 ⟨rfl, ho1⟩; replace hst := hst.keep ho1; clear ho1) | (go_at_call 33; (with_reducible refine (FMN.out _).mono ?_); rintro e1 w1 ⟨rfl, ho1⟩; replace hst := hst.keep ho1; clear ho1)
        | ((with_reducible refine wpL_isBin rfl ?_); refine wpL_eql_same rfl 9 _ _ _ rfl _ rfl rfl ?_))
      go_ret
      exact ⟨rfl, hst.only⟩
end Go.Proofs.Ytmogkiacakkmbaa
