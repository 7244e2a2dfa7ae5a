/- The law TwinTurns, walked. -/
import Derived.Test.YtmogkiacakkmbaaTwinH
import Derived.Test.YtmogkiacakkmbaaJoinP
import Derived.Test.YtmogkiacakkmbaaManS
import Derived.Test.YtmogkiacakkmbaaOrdE
namespace Go.Proofs.Ytmogkiacakkmbaa
open Go.RowKit

/-- Of two copies, one of whose first sectors is taken away, the other is opened. -/
theorem turns_open {m my : DM} (h : Rest m) (h' : Rest my ∨ my.away = false) (H : Nat) (tx s : ByteArray) (g : Int) (κ : Nat) (hκ : κ ≤ 1) (h2 : 2 ≤ H) (hlen : m.len = 2 * H) (hlen' : my.len = 2 * H) (hst : OpenAt m 0 (2 * H) (tx, g, (κ : Int)))
    (hq : ∀ q, my.now.getD q ⟨#[]⟩ = if q = (1 - κ) * H then zeroS 32 else layL m.safe ((1 - κ) * H) H (g + 1) s q) : openR my 0 (2 * H) = (tx, g, (κ : Int)) := by
  have haw' : my.away = false := by rcases h' with h' | h'; exact h'.aw; exact h'
  obtain ⟨o1, o2, o3⟩ := hst
  have e2 : 2 * H / 2 = H := by omega
  simp only at o1 o2 o3
  rw [e2] at o2 o3
  obtain ⟨f1, f2⟩ := fits_iff.1 o2
  have hN : 1 ≤ g := by
    unfold isNum at o1
    simp at o1
    omega
  have hb := open_both my 0 (2 * H) tx tx g g (by rw [e2]; exact o2) (by omega)
  rw [e2] at hb
  rcases o3 with ⟨s0, g0⟩ | ⟨s1, g1⟩
  · have hκ0 : κ = 0 := by omega
    subst hκ0
    have k0 : getR my 0 (2 * H) ((0 : Nat) : Int) = getR m 0 (2 * H) ((0 : Nat) : Int) := getR_same m my h.ok 0 (2 * H) 0 H h.aw haw' (by omega) (by omega) (by omega) h2 (fun i hi => by
      rw [hq, if_neg (by omega), h.now]
      unfold layL
      rw [if_neg (by omega)]) (by rw [show ((0 : Nat) : Int) = 0 from rfl, g0]) (by rw [show ((0 : Nat) : Int) = 0 from rfl, g0]; exact f2)
    rw [show ((0 : Nat) : Int) = 0 from rfl, g0] at k0
    obtain ⟨r1, r2⟩ := zread_free my 0 (2 * H) H haw' (by omega) (by omega)
    have k1 := getR_none my 0 (2 * H) (H : Int) r1 (by rw [r2, hq, if_pos (by omega)])
    exact (hb.1 k0).2.2 (by rw [k1]; decide)
  · have hκ1 : κ = 1 := by omega
    subst hκ1
    have k1 : getR my 0 (2 * H) ((H : Nat) : Int) = getR m 0 (2 * H) ((H : Nat) : Int) := getR_same m my h.ok 0 (2 * H) H H h.aw haw' (by omega) (by omega) (by omega) h2 (fun i hi => by
      rw [hq, if_neg (by omega), h.now]
      unfold layL
      rw [if_neg (by omega)]) (by rw [g1]) (by rw [g1]; exact f2)
    rw [g1] at k1
    obtain ⟨r1, r2⟩ := zread_free my 0 (2 * H) 0 haw' (by omega) (by omega)
    have k0 := getR_none my 0 (2 * H) ((0 : Nat) : Int) r1 (by rw [r2, hq, if_pos (by omega)])
    rw [show ((0 : Nat) : Int) = 0 from rfl] at k0
    exact (hb.2 k1).2.2 (by rw [k0]; decide)

/-- All that a round of the law asks, plain. -/
theorem turns_round {m : DM} (h : Rest m) (hlen : m.len = 12) (j : Nat) (hj : j < 20) (tx s : ByteArray) (hs : s.size ≤ 60) (κ : Nat) (hκ : κ ≤ 1) (hst : OpenAt m 0 12 (tx, (j : Int) + 1, (κ : Int))) :
    ∃ m' my, (layR m (0 + (1 - κ) * (12 / 2)) (12 / 2) ((j : Int) + 1) s).2 = 0 ∧ (layR m (0 + (1 - κ) * (12 / 2)) (12 / 2) ((j : Int) + 1) s).1 = m' ∧ Rest m' ∧ m'.len = 12 ∧ OpenAt m' 0 12 (s, (j : Int) + 1 + 1, ((1 - κ : Nat) : Int)) ∧
      zwriteE (DM.of (joinB m'.safe)) 0 12 (6 * ((1 - κ : Nat) : Int)) (zeroS 32) = 0 ∧ zwrite (DM.of (joinB m'.safe)) 0 12 (6 * ((1 - κ : Nat) : Int)) (zeroS 32) = my ∧ my.away = false ∧ my.loose.length ≤ 1 ∧ openR my 0 12 = (tx, (j : Int) + 1, (κ : Int)) := by
  have hc : canLay ((j : Int) + 1 + 1) s = true := canLay_iff.2 ⟨by unfold isNum; simp; omega, by omega⟩
  have hft : fits (12 / 2) s = true := fits_iff.2 ⟨by omega, by unfold secsOf; omega⟩
  obtain ⟨l1, l2, l3, l4, l5⟩ := save_open h 0 12 tx s ((j : Int) + 1) κ (by omega) (by decide) hκ hst hc hft
  generalize layR m (0 + (1 - κ) * (12 / 2)) (12 / 2) ((j : Int) + 1) s = R at *
  obtain ⟨m', er⟩ := R
  simp only at l1 l2 l3 l4 l5
  have a1 := open_at m' 0 12 (by rw [l5]; simp only; omega)
  rw [l5] at a1
  have hX := DM.of_join m'.safe l2.ok.full l2.ok.few
  have hXl : m'.safe.length = 12 := by have : m'.len = m'.safe.length := rfl; omega
  have hz : zIn 12 (6 * ((1 - κ : Nat) : Int)) = true := zIn_iff.2 (by omega)
  have hck : DM.check ⟨false, -1, [], m'.safe, [], 0⟩ (((0 : Nat) : Int) + 6 * ((1 - κ : Nat) : Int)) = 0 := by
    unfold DM.check DM.len
    simp only
    rw [if_neg (by omega), if_neg (by simp)]
  have eW : zwrite ⟨false, -1, [], m'.safe, [], 0⟩ 0 12 (6 * ((1 - κ : Nat) : Int)) (zeroS 32) = ⟨false, -1, [], m'.safe, [((1 - κ) * 6, zeroS 32)], wrap64 1⟩ := by
    unfold zwrite
    rw [if_neg (fun h => h (zeroS_size 32)), if_pos hz]
    unfold DM.write
    rw [if_neg (fun h => h (zeroS_size 32)), hck, if_neg (by simp), if_neg (by simp)]
    unfold DM.used
    simp only [List.nil_append]
    rw [show (((0 : Nat) : Int) + 6 * ((1 - κ : Nat) : Int)).toNat = (1 - κ) * 6 by omega]
    rfl
  have eE : zwriteE ⟨false, -1, [], m'.safe, [], 0⟩ 0 12 (6 * ((1 - κ : Nat) : Int)) (zeroS 32) = 0 := by
    unfold zwriteE
    rw [if_neg (fun h => h (zeroS_size 32)), if_pos hz]
    unfold DM.writeE DM.useE
    rw [if_neg (fun h => h (zeroS_size 32)), hck, if_neg (by simp), if_neg (by simp)]
  refine ⟨m', ⟨false, -1, [], m'.safe, [((1 - κ) * 6, zeroS 32)], wrap64 1⟩, l1, rfl, l2, by omega, a1, by rw [hX]; exact eE, by rw [hX]; exact eW, rfl, by simp, ?_⟩
  refine turns_open (m := m) (my := ⟨false, -1, [], m'.safe, [((1 - κ) * 6, zeroS 32)], wrap64 1⟩) h (.inr rfl) 6 tx s ((j : Int) + 1) κ hκ (by decide) hlen hXl hst (fun q => ?_)
  show (m'.safe.set ((1 - κ) * 6) (zeroS 32)).getD q ⟨#[]⟩ = _
  rw [getD_set _ _ _ _ _ (by omega)]
  by_cases hq : q = (1 - κ) * 6
  · rw [if_pos hq, if_pos hq]
  · rw [if_neg hq, if_neg hq, l4 q]
    simp only [Nat.zero_add]
end Go.Proofs.Ytmogkiacakkmbaa

namespace Go.Proofs.Ytmogkiacakkmbaa
open Go.RowKit

set_option maxRecDepth 100000 in
set_option maxHeartbeats 16000000 in
theorem twinTurns_walk (v : Value) (xs : List ByteArray) (w : World) (h : Strs w v xs) (hm : xs.length ≤ maxLen) :
    Calls Try.prog 6 #[v] w fun e w' => e = .returned (.bool true) ∧ Only [] w w' := by
  have hst := Sd.start w []
  have HH := Lib.hid h
  obtain ⟨ad, cap, rfl⟩ : ∃ ad cap, v = .slice ad xs.length cap := by
    rcases h with ⟨⟨a, c, rfl⟩, rfl⟩ | ⟨bk, o, c, rfl, _⟩
    · exact ⟨a, c, rfl⟩
    · exact ⟨_, _, rfl⟩
  clear h
  have AW := Lib.hid awake07_any
  have r0 := Rest.fresh 12 (by decide)
  obtain ⟨a1, a2, a3, a4⟩ := fmt_quiet r0 0 12 ⟨#[]⟩ (by decide) (by decide) (by decide)
  have a5 := fmt_open a2 0 12 ⟨#[]⟩ (by rw [a3]; decide) (by decide) (by decide) (by decide) a4
  have a6 := open_at (fmtR (DM.fresh 12) 0 12 ⟨#[]⟩).1 0 12 (by rw [a5]; decide)
  rw [a5] at a6
  obtain ⟨M1, e1⟩ : ∃ M1, M1 = (fmtR (DM.fresh 12) 0 12 ⟨#[]⟩).1 := ⟨_, rfl⟩
  rw [← e1] at a2 a3 a6
  have DN : Hid (∀ w, Calls Try.prog 14 #[.int .i64 12] w fun e w' => ∃ d F, e = .returned (.pointer (some ⟨d, 0, none⟩)) ∧ DiskAt w' d (DM.fresh 12) F ∧ Only [] w w' ∧ (∀ b ∈ F, w.heap.size ≤ b)) := fun w => dskNew_any 12 w (by decide)
  have ZN : Hid (∀ d F w, DiskAt w d (DM.fresh 12) F → Calls Try.prog 15 #[.pointer (some ⟨d, 0, none⟩), .int .i64 0, .int .i64 12] w fun e w' => ∃ z, e = .returned (.tuple #[.pointer (some ⟨z, 0, none⟩), .int .i64 0]) ∧ w.heap.size ≤ z ∧ Blk w' z (zcells d 0 12) 34 ∧ Only [] w w') := fun d F w h => zonNew_yes d 0 12 _ F w h (by decide)
  have FM : Hid (∀ z d F w, Blk w z (zcells d 0 12) 34 → DiskAt w d (DM.fresh 12) F → z ∉ F → Calls Try.prog 33 #[.pointer (some ⟨z, 0, none⟩), .string ⟨#[]⟩] w fun e w' => ∃ t F', e = .returned (.tuple #[.pointer (some ⟨t, 0, none⟩), .int .i64 0]) ∧ w.heap.size ≤ t ∧ Blk w' t (tcells z ⟨#[]⟩ 1 0 false) 98 ∧ DiskAt w' d M1 F' ∧ Turn F F' w w' ∧ t ∉ F') := fun z d F w h1 h2 h3 => by
    rw [e1]
    exact twinFormat_yes z d 0 12 _ F ⟨#[]⟩ w h1 h2 h3 (by decide) (by decide) (by decide) (by decide) (by decide) (by decide) a1
  have A0 := Lib.hid (And.intro a2 (And.intro (show M1.len = 12 by rw [a3]; rfl) a6))
  clear a1 a2 a3 a4 a5 a6 r0 e1
  unfold maxLen at hm
  go_enter Try.func6, Try.ntmps6
  go_wp2_with (first | ((with_reducible refine wpL_peel rfl ?_ ?_); focus (go_simp; done)) | (go_at_call 31; (with_reducible refine (AW.out _).mono ?_); rintro e1 w1 ⟨rfl, ho1⟩; replace hst := hst.keep ho1; clear ho1) | (go_at_call 14; (with_reducible refine (DN.out _).mono ?_); rintro e1 w1 ⟨d, F, rfl, hd1, ho1, hg1⟩; replace hst := hst.add ho1 (r := diskR d _ F) hd1 hg1; clear hd1 ho1 hg1) | (go_at_call 15; (with_reducible refine (ZN.out _ _ _ (hst.rs 0 rfl)).mono ?_); rintro e1 w1 ⟨z, rfl, hg1, hz1, ho1⟩; replace hst := hst.new ho1 hz1 hg1; clear hg1 hz1 ho1) | (go_at_call 33; (with_reducible refine (FM.out _ _ _ _ (hst.blk 0 rfl) (hst.rs 0 rfl) (hst.away 0 0 rfl rfl)).mono ?_); rintro e1 w1 ⟨t, F1, rfl, hg1, ht1, hd1, hT1, hn1⟩; replace hst := hst.actNew 0 rfl (diskR _ _ F1) rfl hT1 hd1 ht1 hg1 hn1; simp only [List.set] at hst; clear hg1 ht1 hd1 hT1 hn1))
  go_loopw [8, 9] (fun la i wr => ∃ (j : Nat) (m : DM) (tx : ByteArray) (κ : Nat) (F1 : List Nat), j ≤ xs.length ∧ j ≤ 20 ∧ la = .string tx ∧ i = .int .i64 (j : Int) ∧ Hid (Rest m ∧ m.len = 12 ∧ κ ≤ 1 ∧ (κ : Int) = (j : Int) % 2 ∧ OpenAt m 0 12 (tx, (j : Int) + 1, (κ : Int))) ∧
      Sd w [] wr [⟨t, tcells z tx ((j : Int) + 1) ((j : Int) % 2) false, 98, true⟩, ⟨z, zcells d 0 12, 34, true⟩] [diskR d m F1])
    (fun _ i _ => (20 - intOf i).toNat)
  case atStart => exact ⟨0, M1, ⟨#[]⟩, 0, F1, by omega, by omega, rfl, rfl, ⟨A0.out.1, A0.out.2.1, by omega, rfl, A0.out.2.2⟩, hst⟩
  case round =>
    obtain ⟨j, m, tx, κ, F2, hj, hj2, rfl, rfl, HI, hst⟩ := hrel
    clear A0
    by_cases hlt : j < xs.length
    · have j1 : (j : Int) < xs.length := by omega
      by_cases hlt2 : j < 20
      · have j2 : (j : Int) < 20 := by omega
        have HJ : Hid (j + 1 ≤ xs.length ∧ j + 1 ≤ 20) := ⟨hlt, hlt2⟩
        obtain ⟨bk, o, rfl, hcell⟩ : ∃ bk o, ad = some ⟨bk, o, none⟩ ∧ ∀ wr, Only [] w wr → wr.cell? ⟨bk, o + j, none⟩ = some (.string (xs.getD j ⟨#[]⟩)) := by
          rcases HH.out with ⟨_, e⟩ | ⟨bk, o, c, hv, h1, h2, h3⟩
          · rw [e] at hlt; simp at hlt
          · injection hv with e1 e2 e3
            refine ⟨bk, o, e1, fun wr ho => ?_⟩
            rw [ho.cellAt _ _ h2 (by simp)]
            exact h1 j _ (by rw [List.getD_eq_getElem?_getD, List.getElem?_eq_getElem hlt]; rfl)
        have HC := Lib.hid hcell
        clear hcell
        obtain ⟨s, es⟩ : ∃ s, s = xs.getD j ⟨#[]⟩ := ⟨_, rfl⟩
        rw [← es] at HC
        by_cases hsz : 60 < s.size
        · have hsz' : (60 : Int) < s.size := by omega
          clear es
          go_wp2_with (first | ((with_reducible refine wpL_peel rfl ?_ ?_); focus (go_simp; done)) | ((with_reducible refine wpL_isLoad rfl ?_); refine wpL_load1C rfl rfl rfl (HC.out _ hst.only) (by kernel_rfl) ?_))
          go_ret
          exact ⟨rfl, hst.only⟩
        · have hsz' : ¬ (60 : Int) < s.size := by omega
          clear es
          obtain ⟨i1, i2, i3, i4, i5⟩ := HI.out
          obtain ⟨m', my, l1, em, r', len', a', wE, eW, awy, loy, oy⟩ := turns_round i1 i2 j hlt2 tx s (by omega) κ i3 i5
          have eκ : ((1 - κ : Nat) : Int) = ((j : Int) + 1) % 2 := by omega
          have hjj : (j : Int) + 1 + 1 = (j : Int) + 2 := by omega
          have SV : Hid (∀ t z d F w, (pairR t (tcells z tx ((j : Int) + 1) ((j : Int) % 2) false) 98 (diskR d m F)).p w → Blk w z (zcells d 0 12) 34 → t ≠ z → z ∉ F → Calls Try.prog 38 #[.pointer (some ⟨t, 0, none⟩), .string s] w fun e w' => ∃ F', e = .returned (.int .i64 0) ∧ (pairR t (tcells z s ((j : Int) + 2) (((j : Int) + 1) % 2) false) 98 (diskR d m' F')).p w' ∧ Turn (t :: F) (t :: F') w w') := fun t z d F w h1 h2 h3 h4 => by
            rw [← i4] at h1
            have := twinSave_yes t z d 0 12 m F tx ((j : Int) + 1) s w κ h1 h2 h3 h4 (by decide) (by decide) (by decide) (by omega) (by rw [i1.lo]; decide) i3 (by omega) (by omega) (fits_iff.2 ⟨by omega, by unfold secsOf; omega⟩) l1
            rw [em, eκ, hjj] at this
            exact this
          have TX : Hid (∀ w, Blk w t (tcells z s ((j : Int) + 2) (((j : Int) + 1) % 2) false) 98 → Calls Try.prog 35 #[.pointer (some ⟨t, 0, none⟩)] w fun e w' => e = .returned (.string s) ∧ w = w') := fun w h => twinText_any t z _ _ _ _ w h
          have TG : Hid (∀ w, Blk w t (tcells z s ((j : Int) + 2) (((j : Int) + 1) % 2) false) 98 → Calls Try.prog 36 #[.pointer (some ⟨t, 0, none⟩)] w fun e w' => e = .returned (.int .i64 ((j : Int) + 2)) ∧ w = w') := fun w h => twinGen_any t z _ _ _ _ w h
          have TS : Hid (∀ w, Blk w t (tcells z s ((j : Int) + 2) (((j : Int) + 1) % 2) false) 98 → Calls Try.prog 37 #[.pointer (some ⟨t, 0, none⟩)] w fun e w' => e = .returned (.int .i64 (((j : Int) + 1) % 2)) ∧ w = w') := fun w h => twinSide_any t z _ _ _ _ w h
          obtain ⟨X, eX⟩ : ∃ X, X = joinB m'.safe := ⟨_, rfl⟩
          obtain ⟨MX, eMX⟩ : ∃ MX, MX = DM.of X := ⟨_, rfl⟩
          have hX := DM.of_join m'.safe r'.ok.full r'.ok.few
          have hXs := joinB_size m'.safe r'.ok.full
          rw [← eX] at hX hXs wE eW
          rw [← eMX] at hX wE eW
          have hXl : MX.len = 12 := by rw [hX]; exact len'
          have hXlo : MX.loose = [] := by rw [hX]
          have hm12 : m'.safe.length = 12 := len'
          have IM : Hid (∀ d F w, DiskAt w d m' F → Calls Try.prog 29 #[.pointer (some ⟨d, 0, none⟩)] w fun e w' => e = .returned (.string X) ∧ Only [] w w') := fun d F w h => by rw [eX]; exact dskImage_any d m' F w h
          have OF : Hid (∀ w, Calls Try.prog 26 #[.string X] w fun e w' => ∃ d F, e = .returned (.pointer (some ⟨d, 0, none⟩)) ∧ DiskAt w' d MX F ∧ Only [] w w' ∧ (∀ b ∈ F, w.heap.size ≤ b)) := fun w => by rw [eMX]; exact dskOf_any X w (by omega)
          have ZX : Hid (∀ d F w, DiskAt w d MX F → Calls Try.prog 15 #[.pointer (some ⟨d, 0, none⟩), .int .i64 0, .int .i64 12] w fun e w' => ∃ z, e = .returned (.tuple #[.pointer (some ⟨z, 0, none⟩), .int .i64 0]) ∧ w.heap.size ≤ z ∧ Blk w' z (zcells d 0 12) 34 ∧ Only [] w w') := fun d F w h => zonNew_yes d 0 12 _ F w h (by rw [hXl]; decide)
          obtain ⟨Zl, eZ⟩ : ∃ Zl, Zl = List.replicate 32 (0 : UInt8) := ⟨_, rfl⟩
          have HZL : Hid (Zl.length = 32) := by rw [eZ]; exact List.length_replicate
          have HZ0 : Hid (∀ q, q < 32 → (Zl.getD q 0).toNat = 0) := fun q hq => by rw [eZ, List.getD_eq_getElem?_getD, List.getElem?_replicate, if_pos hq]; rfl
          have WR : Hid (∀ y d F w, Blk w y (zcells d 0 12) 34 → DiskAt w d MX F → y ∉ F → Calls Try.prog 40 #[.pointer (some ⟨y, 0, none⟩), .int .i64 (6 * (((j : Int) + 1) % 2)), .string ⟨Zl.toArray⟩] w fun e w' => ∃ F', e = .returned (.int .i64 0) ∧ DiskAt w' d my F' ∧ Turn F F' w w') := fun y d F w h1 h2 h3 => by
            rw [eZ]
            have := zonWrite_any y d 0 12 MX F (6 * ((1 - κ : Nat) : Int)) (zeroS 32) w h1 h2 h3 (by decide) (by decide) (by omega) (by rw [hXlo]; decide)
            rw [wE, eW, eκ] at this
            exact this
          have OP : Hid (∀ y d F w, Blk w y (zcells d 0 12) 34 → DiskAt w d my F → y ∉ F → Calls Try.prog 32 #[.pointer (some ⟨y, 0, none⟩)] w fun e w' => ∃ u, e = .returned (.tuple #[.pointer (some ⟨u, 0, none⟩), .int .i64 0]) ∧ w.heap.size ≤ u ∧ Blk w' u (tcells y tx ((j : Int) + 1) ((j : Int) % 2) false) 98 ∧ Only [] w w') := fun y d F w h1 h2 h3 => by
            refine (twinOpen_any y d 0 12 my F w h1 h2 h3 (by decide) (by decide) (by omega) awy (by decide)).mono ?_
            intro e w' h
            rw [oy, i4] at h
            rcases h with ⟨h, _⟩ | ⟨_, h⟩
            · exact absurd h (by simp only; omega)
            · exact h
          have TX2 : Hid (∀ u y w, Blk w u (tcells y tx ((j : Int) + 1) ((j : Int) % 2) false) 98 → Calls Try.prog 35 #[.pointer (some ⟨u, 0, none⟩)] w fun e w' => e = .returned (.string tx) ∧ w = w') := fun u y w h => twinText_any u y _ _ _ _ w h
          have TG2 : Hid (∀ u y w, Blk w u (tcells y tx ((j : Int) + 1) ((j : Int) % 2) false) 98 → Calls Try.prog 36 #[.pointer (some ⟨u, 0, none⟩)] w fun e w' => e = .returned (.int .i64 ((j : Int) + 1)) ∧ w = w') := fun u y w h => twinGen_any u y _ _ _ _ w h
          have SS : Hid (decide (s = s) = true) := decide_eq_true rfl
          have SX : Hid (decide (tx = tx) = true) := decide_eq_true rfl
          have NX : Hid (∀ {wr : World} {F3 : List Nat}, Sd w [] wr [⟨t, tcells z s ((j : Int) + 2) (((j : Int) + 1) % 2) false, 98, true⟩, ⟨z, zcells d 0 12, 34, true⟩] [diskR d m' F3] → Sd w [] wr [⟨t, tcells z s (((j + 1 : Nat) : Int) + 1) (((j + 1 : Nat) : Int) % 2) false, 98, true⟩, ⟨z, zcells d 0 12, 34, true⟩] [diskR d m' F3]) := fun h => by
            rw [show ((j + 1 : Nat) : Int) + 1 = (j : Int) + 2 by omega, show ((j + 1 : Nat) : Int) = (j : Int) + 1 by omega]
            exact h
          have NI : Hid (Rest m' ∧ m'.len = 12 ∧ 1 - κ ≤ 1 ∧ ((1 - κ : Nat) : Int) = ((j + 1 : Nat) : Int) % 2 ∧ OpenAt m' 0 12 (s, ((j + 1 : Nat) : Int) + 1, ((1 - κ : Nat) : Int))) :=
            ⟨r', len', by omega, by omega, by rw [show ((j + 1 : Nat) : Int) + 1 = (j : Int) + 1 + 1 by omega]; exact a'⟩
          clear HI i1 i2 i3 i4 i5 l1 em r' len' a' wE eW awy loy oy eκ hjj eX eMX hX hXs hXl hXlo hm12 eZ
          go_wp2_with (first | ((with_reducible refine wpL_peel rfl ?_ ?_); focus (go_simp; done)) | ((with_reducible refine wpL_isLoad rfl ?_); refine wpL_load1C rfl rfl rfl (HC.out _ hst.only) (by kernel_rfl) ?_))
          replace hst := hst.drew
          refine wp_region_ord [24] [0, 1, 2, 3, 4, 5, 6, 7, 8, 9, 10, 11, 12, 13, 14, 15, 16, 17, 18, 19, 20, 21, 22, 23, 25, 26, 27, 28, 24, 29, 30] (by kernel_rfl) (by kernel_rfl) ?_
          generalize World.drew _ = W at *
          refine Ord.cut 4 3 rfl rfl rfl rfl (by kernel_rfl) (by kernel_rfl) ?_; simp only [List.take_succ_cons, List.take_zero, List.drop_succ_cons, List.drop_zero, List.filterMap_cons, List.filterMap_nil, List.getElem?_cons_succ, List.getElem?_cons_zero]; go_wp2_with fail; refine TextQ.mk ⟨fun h => by simp at h, ?_⟩ rfl
          refine Ord.cut 1 4 rfl rfl rfl rfl (by kernel_rfl) (by kernel_rfl) ?_; simp only [List.take_succ_cons, List.take_zero, List.drop_succ_cons, List.drop_zero, List.filterMap_cons, List.filterMap_nil, List.getElem?_cons_succ, List.getElem?_cons_zero]
          refine wpL_load1C rfl rfl rfl (HC.out _ hst.only) (by kernel_rfl) ?_
          refine TextQ.mk ⟨fun h => by simp at h, ?_⟩ rfl
          refine Ord.cut 1 5 rfl rfl rfl rfl (by kernel_rfl) (by kernel_rfl) ?_; simp only [List.take_succ_cons, List.take_zero, List.drop_succ_cons, List.drop_zero, List.filterMap_cons, List.filterMap_nil, List.getElem?_cons_succ, List.getElem?_cons_zero]
          go_wp2_with (go_at_call 38; (with_reducible refine (SV.out _ _ _ _ _ (pair_mk (hst.blk 0 rfl) (hst.rs 0 rfl) (hst.away 0 0 rfl rfl)) (hst.blk 1 rfl) (hst.neq 0 1 rfl rfl (by decide)) (hst.away 1 0 rfl rfl)).mono ?_); rintro e1 w1 ⟨F1, rfl, hp1, hT1⟩; replace hst := ((hst.join rfl).act 0 rfl (pairR _ _ _ (diskR _ _ F1)) rfl hT1 hp1); simp only [List.set] at hst; replace hst := hst.split; clear hp1 hT1)
          refine TextQ.mk ⟨fun h => by simp at h, ?_⟩ rfl
          refine Ord.cut 3 8 rfl rfl rfl rfl (by kernel_rfl) (by kernel_rfl) ?_; simp only [List.take_succ_cons, List.take_zero, List.drop_succ_cons, List.drop_zero, List.filterMap_cons, List.filterMap_nil, List.getElem?_cons_succ, List.getElem?_cons_zero]; go_wp2_with fail; refine TextQ.mk ⟨fun h => by simp at h, ?_⟩ rfl
          refine Ord.cut 1 9 rfl rfl rfl rfl (by kernel_rfl) (by kernel_rfl) ?_; simp only [List.take_succ_cons, List.take_zero, List.drop_succ_cons, List.drop_zero, List.filterMap_cons, List.filterMap_nil, List.getElem?_cons_succ, List.getElem?_cons_zero]
          refine wpL_peel rfl rfl ?_
          go_wp2_with (go_at_call 36; (with_reducible refine (TG.out _ (hst.blk 0 rfl)).mono ?_); rintro e1 w1 ⟨rfl, rfl⟩)
          refine TextQ.mk ⟨fun h => by simp at h, ?_⟩ rfl
          refine Ord.cut 6 15 rfl rfl rfl rfl (by kernel_rfl) (by kernel_rfl) ?_; simp only [List.take_succ_cons, List.take_zero, List.drop_succ_cons, List.drop_zero, List.filterMap_cons, List.filterMap_nil, List.getElem?_cons_succ, List.getElem?_cons_zero]; go_wp2_with fail; refine TextQ.mk ⟨fun h => by simp at h, ?_⟩ rfl
          refine Ord.cut 1 16 rfl rfl rfl rfl (by kernel_rfl) (by kernel_rfl) ?_; simp only [List.take_succ_cons, List.take_zero, List.drop_succ_cons, List.drop_zero, List.filterMap_cons, List.filterMap_nil, List.getElem?_cons_succ, List.getElem?_cons_zero]
          refine wpL_peel rfl rfl ?_
          go_wp2_with (go_at_call 37; (with_reducible refine (TS.out _ (hst.blk 0 rfl)).mono ?_); rintro e1 w1 ⟨rfl, rfl⟩)
          refine TextQ.mk ⟨fun h => by simp at h, ?_⟩ rfl
          refine Ord.cut 10 27 rfl rfl rfl rfl (by kernel_rfl) (by kernel_rfl) ?_; simp only [List.take_succ_cons, List.take_zero, List.drop_succ_cons, List.drop_zero, List.filterMap_cons, List.filterMap_nil, List.getElem?_cons_succ, List.getElem?_cons_zero]; go_wp2_with fail; refine TextQ.mk ⟨fun h => by simp at h, ?_⟩ rfl
          refine Ord.cut 1 28 rfl rfl rfl rfl (by kernel_rfl) (by kernel_rfl) ?_; simp only [List.take_succ_cons, List.take_zero, List.drop_succ_cons, List.drop_zero, List.filterMap_cons, List.filterMap_nil, List.getElem?_cons_succ, List.getElem?_cons_zero]
          refine wpL_peel rfl rfl ?_
          refine wpL_load1C rfl rfl rfl (HC.out _ hst.only) (by kernel_rfl) ?_
          refine TextQ.mk ⟨fun h => by simp at h, ?_⟩ rfl
          refine Ord.cut 1 24 rfl rfl rfl rfl (by kernel_rfl) (by kernel_rfl) ?_; simp only [List.take_succ_cons, List.take_zero, List.drop_succ_cons, List.drop_zero, List.filterMap_cons, List.filterMap_nil, List.getElem?_cons_succ, List.getElem?_cons_zero]
          refine wpL_peel rfl rfl ?_
          go_wp2_with (go_at_call 35; (with_reducible refine (TX.out _ (hst.blk 0 rfl)).mono ?_); rintro e1 w1 ⟨rfl, rfl⟩)
          refine TextQ.mk ⟨fun _ => Only.refl _ _, ?_⟩ rfl
          refine Ord.cut 2 30 rfl rfl rfl rfl (by kernel_rfl) (by kernel_rfl) ?_; simp only [List.take_succ_cons, List.take_zero, List.drop_succ_cons, List.drop_zero, List.filterMap_cons, List.filterMap_nil, List.getElem?_cons_succ, List.getElem?_cons_zero]
          go_wp2_with (first | ((with_reducible refine wpL_peel rfl ?_ ?_); focus (go_simp; done)) | ((with_reducible refine wpL_isBin rfl ?_); refine wpL_neqStrT rfl rfl s s rfl rfl true SS.out ?_))
          refine TextQ.mk ⟨fun h => by simp at h, ?_⟩ rfl
          refine Ord.done ?_
          go_wp2_with (first
            | ((with_reducible refine wpL_peel rfl ?_ ?_); focus (go_simp; done))
            | (go_at_call 29; (with_reducible refine (IM.out _ _ _ (hst.rs 0 rfl)).mono ?_); rintro e1 w1 ⟨rfl, ho1⟩; replace hst := hst.keep ho1; clear ho1)
            | (go_at_call 26; (with_reducible refine (OF.out _).mono ?_); rintro e1 w1 ⟨dx, Fx, rfl, hd1, ho1, hg1⟩; replace hst := hst.add ho1 (r := diskR dx _ Fx) hd1 hg1; clear hd1 ho1 hg1)
            | (go_at_call 15; (with_reducible refine (ZX.out _ _ _ (hst.rs 0 rfl)).mono ?_); rintro e1 w1 ⟨y, rfl, hg1, hz1, ho1⟩; replace hst := hst.new ho1 hz1 hg1; clear hg1 hz1 ho1))
          replace hst := hst.drew
          refine wp_region_ordE [7, 8] [5] [0, 1, 2, 4, 5, 3, 6, 7, 8, 9, 10, 11] (by kernel_rfl) (by kernel_rfl) ?_
          generalize World.drew _ = W2 at *
          refine OrdE.cut 4 4 rfl rfl rfl rfl (by kernel_rfl) (by kernel_rfl) (by kernel_rfl) ?_; simp only [List.take_succ_cons, List.take_zero, List.drop_succ_cons, List.drop_zero, List.filterMap_cons, List.filterMap_nil, List.getElem?_cons_succ, List.getElem?_cons_zero]; go_wp2_with fail; refine TextQ.mk ⟨fun h => by simp at h, ?_⟩ rfl
          refine OrdE.ecall 5 rfl (by kernel_rfl) rfl (.int .i64 (((j : Int) + 1) % 2)) ?sure ?_; (case sure => (intro df w2 ho2 K hK; (try dsimp only); (try refine wpL_peel rfl rfl ?_); go_wp2_with ((go_at_call 37; (with_reducible refine (TS.out _ ((hst.keep ho2).blk 1 rfl)).mono ?_); rintro e1 w1 ⟨rfl, rfl⟩)); exact TextQ.mk hK rfl))
          refine OrdE.cut 2 6 rfl rfl rfl rfl (by kernel_rfl) (by kernel_rfl) (by kernel_rfl) ?_; simp only [List.take_succ_cons, List.take_zero, List.drop_succ_cons, List.drop_zero, List.filterMap_cons, List.filterMap_nil, List.getElem?_cons_succ, List.getElem?_cons_zero]; go_wp2_with fail; refine TextQ.mk ⟨fun h => by simp at h, ?_⟩ rfl
          refine OrdE.cut 1 7 rfl rfl rfl rfl (by kernel_rfl) (by kernel_rfl) (by kernel_rfl) ?_; simp only [List.take_succ_cons, List.take_zero, List.drop_succ_cons, List.drop_zero, List.filterMap_cons, List.filterMap_nil, List.getElem?_cons_succ, List.getElem?_cons_zero]
          refine wpL_peel rfl rfl ?_
          refine wpL_makeD (Sd.start _ []) rfl 56 _ rfl Try.underlying56 (.int .u8 0) (.int .u8 0) 1 1 rfl (by decide) byteInfo 32 rfl (by decide) (by decide) (by decide) ?_
          intro w3 g hg3 hst3
          have ho3 := hst3.only
          have hB3 := hst3.blk 0 rfl
          clear hst3
          refine TextQ.mk ⟨fun _ => ho3, ?_⟩ rfl
          replace hst := hst.new ho3 hB3 hg3
          clear ho3 hB3 hg3
          refine OrdE.cut 1 8 rfl rfl rfl rfl (by kernel_rfl) (by kernel_rfl) (by kernel_rfl) ?_; simp only [List.take_succ_cons, List.take_zero, List.drop_succ_cons, List.drop_zero, List.filterMap_cons, List.filterMap_nil, List.getElem?_cons_succ, List.getElem?_cons_zero]
          refine wpL_peel rfl rfl ?_
          refine wpL_str rfl 56 9 5 _ rfl ⟨g, 0, none⟩ Zl 32 32 rfl HZL.out Try.underlying56 Try.underlying5 Try.underlying9 (fun q hq => by
            have hq' : q < 32 := (by rw [HZL.out] at hq; exact hq)
            rw [addr_addD, Nat.zero_add]
            refine ((hst.blk 0 rfl).cell ?_)
            show (List.replicate 32 (Value.int .u8 0))[q]? = _
            rw [List.getElem?_replicate, if_pos hq', HZ0.out q hq']
            rfl) ?_
          refine TextQ.mk ⟨fun _ => Only.refl _ _, ?_⟩ rfl
          refine OrdE.cut 1 9 rfl rfl rfl rfl (by kernel_rfl) (by kernel_rfl) (by kernel_rfl) ?_; simp only [List.take_succ_cons, List.take_zero, List.drop_succ_cons, List.drop_zero, List.filterMap_cons, List.filterMap_nil, List.getElem?_cons_succ, List.getElem?_cons_zero]
          refine wpL_peel rfl rfl ?_
          go_wp2_with (go_at_call 40; (with_reducible refine (WR.out _ _ _ _ (hst.blk 1 rfl) (hst.rs 0 rfl) (hst.away 1 0 rfl rfl)).mono ?_); rintro e1 w1 ⟨F3, rfl, hd1, ht1⟩; replace hst := hst.act 0 rfl (diskR _ _ F3) rfl ht1 hd1; simp only [List.set] at hst; clear hd1 ht1)
          refine TextQ.mk ⟨fun h => by simp at h, ?_⟩ rfl
          refine OrdE.cut 2 11 rfl rfl rfl rfl (by kernel_rfl) (by kernel_rfl) (by kernel_rfl) ?_; simp only [List.take_succ_cons, List.take_zero, List.drop_succ_cons, List.drop_zero, List.filterMap_cons, List.filterMap_nil, List.getElem?_cons_succ, List.getElem?_cons_zero]; go_wp2_with fail; refine TextQ.mk ⟨fun h => by simp at h, ?_⟩ rfl
          refine OrdE.done ?_
          go_wp2_with (first
            | ((with_reducible refine wpL_peel rfl ?_ ?_); focus (go_simp; done))
            | (go_at_call 32; (with_reducible refine (OP.out _ _ _ _ (hst.blk 1 rfl) (hst.rs 0 rfl) (hst.away 1 0 rfl rfl)).mono ?_); rintro e1 w1 ⟨u, rfl, hg1, hu1, ho1⟩; replace hst := hst.new ho1 hu1 hg1; clear hg1 hu1 ho1)
            | (go_at_call 35; (with_reducible refine (TX2.out _ _ _ (hst.blk 0 rfl)).mono ?_); rintro e1 w1 ⟨rfl, rfl⟩)
            | (go_at_call 36; (with_reducible refine (TG2.out _ _ _ (hst.blk 0 rfl)).mono ?_); rintro e1 w1 ⟨rfl, rfl⟩)
            | ((with_reducible refine wpL_isBin rfl ?_); refine wpL_neqStrT rfl rfl tx tx rfl rfl true SX.out ?_)
            | ((with_reducible refine wpL_isLoad rfl ?_); refine wpL_load1C rfl rfl rfl (HC.out _ hst.only) (by kernel_rfl) ?_))
          go_roundw
          case rel => exact ⟨j + 1, m', s, 1 - κ, _, HJ.out.1, HJ.out.2, rfl, by go_num, NI, NX.out ((hst.dropN 3).weakR (List.Sublist.cons _ (List.Sublist.refl _)))⟩
          case measure => simp [intOf]; omega
      · obtain rfl : j = 20 := by omega
        clear HI
        go_wp2_with (first | ((with_reducible refine wpL_peel rfl ?_ ?_); focus (go_simp; done)))
        go_ret
        exact ⟨rfl, hst.only⟩
    · have j1 : ¬ (j : Int) < xs.length := by omega
      clear HI
      go_wp2_with (first | ((with_reducible refine wpL_peel rfl ?_ ?_); focus (go_simp; done)))
      go_ret
      exact ⟨rfl, hst.only⟩
end Go.Proofs.Ytmogkiacakkmbaa
