/- Twins: what the law asks ahead. -/
import Derived.Test.YtmogkiacakkmbaaTwinB
import Derived.Test.YtmogkiacakkmbaaTwinF
namespace Go.Proofs.Ytmogkiacakkmbaa
open Go.RowKit

/-- A disk at rest: its power is there, no fuse, nothing loose. -/
structure Rest (m : DM) : Prop where
  ok : m.Ok
  aw : m.away = false
  fu : m.fuse = -1
  lo : m.loose = []
theorem Rest.now {m : DM} (h : Rest m) : m.now = m.safe := by unfold DM.now; rw [h.lo]; rfl
theorem Rest.fresh (n : Nat) (hn : n ≤ 4096) : Rest (DM.fresh n) := ⟨by rw [← DM.of_zero n hn]; exact DM.of_ok _, rfl, rfl, rfl⟩
theorem Rest.of (s : ByteArray) : Rest (DM.of s) := ⟨DM.of_ok s, rfl, rfl, rfl⟩
theorem Rest.set {m : DM} (h : Rest m) (S : List ByteArray) (dn : Int) (hS : S.length = m.safe.length) (hf : ∀ s ∈ S, s.size = 32) : Rest { m with safe := S, loose := [], fuse := -1, done := dn } :=
  ⟨⟨by show S.length ≤ 4096; rw [hS]; exact h.ok.few, hf, fun x hx => (by cases hx), fun x hx => (by cases hx), by simp, by simp, h.ok.kept⟩, h.aw, rfl, rfl⟩
theorem getD_mem_all (l : List ByteArray) (h : ∀ s ∈ l, s.size = 32) (q : Nat) (hq : q < l.length) : (l.getD q ⟨#[]⟩).size = 32 := by
  rw [List.getD_eq_getElem?_getD, List.getElem?_eq_getElem hq]
  exact h _ (List.getElem_mem hq)
theorem all_getD (l : List ByteArray) (h : ∀ q, q < l.length → (l.getD q ⟨#[]⟩).size = 32) : ∀ s ∈ l, s.size = 32 := fun s hs => by
  obtain ⟨i, hi, rfl⟩ := List.mem_iff_getElem.1 hs
  have := h i hi
  rw [List.getD_eq_getElem?_getD, List.getElem?_eq_getElem hi] at this
  exact this
/-- What stands behind a text that was laid: its sectors, and nothing behind them in its part. -/
def layL (l : List ByteArray) (p h : Nat) (num : Int) (s : ByteArray) (q : Nat) : ByteArray :=
  if p ≤ q ∧ q < p + h then (if q < p + secsOf s.size then laySec num s (q - p) else zeroS 32) else l.getD q ⟨#[]⟩
theorem layL_full {m : DM} (hm : m.Ok) (p h : Nat) (num : Int) (s : ByteArray) (S : List ByteArray) (hS : S.length = m.safe.length) (hq : ∀ q, S.getD q ⟨#[]⟩ = layL m.safe p h num s q) : ∀ x ∈ S, x.size = 32 :=
  all_getD S fun q hlt => by
    rw [hq q]
    unfold layL
    split
    · split
      · exact laySec_size _ _ _ (by omega)
      · exact zeroS_size 32
    · exact getD_mem_all _ hm.full q (by omega)

theorem lay_quiet {m : DM} (h : Rest m) (p k : Nat) (g : Int) (s : ByteArray) (hph : p + k ≤ m.len) (hc : canLay (g + 1) s = true) (hs : secsOf s.size ≤ k) :
    (layR m p k g s).2 = 0 ∧ Rest (layR m p k g s).1 ∧ (layR m p k g s).1.len = m.len ∧ ∀ q, (layR m p k g s).1.safe.getD q ⟨#[]⟩ = layL m.safe p k (g + 1) s q := by
  rcases layR_on m p k g s h.aw (by rw [h.fu]; decide) (by rw [h.fu]; decide) hph hc hs h.lo with ⟨fz, dn, S, h1, h2, h3, h4, h5, h6⟩ | ⟨h1, _⟩
  · have e := h3 h.fu
    subst e
    rw [h4]
    exact ⟨rfl, h.set S dn h5 (layL_full h.ok p k (g + 1) s S h5 h6), h5, h6⟩
  · exact absurd h.fu h1

theorem fmt_quiet {m : DM} (h : Rest m) (f n : Nat) (s : ByteArray) (hfn : f + n ≤ m.len) (hc : canLay 1 s = true) (hs : secsOf s.size ≤ n) :
    (fmtR m f n s).2 = 0 ∧ Rest (fmtR m f n s).1 ∧ (fmtR m f n s).1.len = m.len ∧ ∀ q, (fmtR m f n s).1.safe.getD q ⟨#[]⟩ = layL m.safe f n 1 s q := by
  have hsl : m.len = m.safe.length := rfl
  rcases fillJ_on m f n (zeroS 32) h.aw (by rw [h.fu]; decide) (by rw [h.fu]; decide) hfn (zeroS_size 32) n (Nat.le_refl _) with ⟨ws, a1, a2, a3, a5, a4⟩ | ⟨ws, a1, _⟩
  · change Went m (layA m f n).1 ws at a1
    change (layA m f n).2 = 0 at a2
    have hp := putR_on (layA m f n).1 f n 0 1 s (by rw [a1.away]; exact h.aw) a1.fuse.1 a1.fuse.2 (by rw [a1.len]; exact hfn) hc (by omega)
    rw [show ((0 : Nat) : Int) = 0 from rfl, Nat.add_zero] at hp
    change (Went (layA m f n).1 (fmtC m f n s).1 _ ∧ (fmtC m f n s).2 = 0) ∨ (∃ i, _ ∧ Broke (layA m f n).1 (fmtC m f n s).1 _ ∧ (fmtC m f n s).2 = 4) at hp
    have hfA : (layA m f n).1.fuse = -1 := by obtain ⟨_, _, _, _, k, e⟩ := a1; rw [e]; exact k h.fu
    rcases hp with ⟨p1, p2⟩ | ⟨i, _, p1, _⟩
    · have hfC : (fmtC m f n s).1.fuse = -1 := by obtain ⟨_, _, _, _, k, e⟩ := p1; rw [e]; exact k hfA
      rcases sync_on (fmtC m f n s).1 (by rw [p1.away, a1.away]; exact h.aw) p1.fuse.1 p1.fuse.2 with ⟨fz, dn, s1, s2, s3, s4, s5⟩ | ⟨s1, _⟩
      · have hn : (fmtC m f n s).1.now = laid (laid m.safe ws) (wsOf f (layS 1 s (secsOf s.size)) (secsOf s.size)) := by rw [p1.now, a1.now, h.now]
        have e : fmtR m f n s = ((fmtC m f n s).1.sync, (fmtC m f n s).1.syncE) := by
          unfold fmtR
          rw [if_neg (by rw [a2]; simp), if_neg (by rw [p2]; simp)]
        have ez := s3 hfC
        subst ez
        have eC : ∃ lo dx, (fmtC m f n s).1 = { m with loose := lo, fuse := -1, done := dx } := by
          obtain ⟨f1, d1, _, _, k1, e1⟩ := a1
          obtain ⟨f2, d2, _, _, k2, e2⟩ := p1
          refine ⟨(layA m f n).1.loose ++ wsOf f (layS 1 s (secsOf s.size)) (secsOf s.size), d2, ?_⟩
          have hf2 : f2 = -1 := k2 hfA
          rw [e2, e1, hf2]
        obtain ⟨lo, dx, eC⟩ := eC
        have eS : (fmtC m f n s).1.sync = { m with safe := laid (laid m.safe ws) (wsOf f (layS 1 s (secsOf s.size)) (secsOf s.size)), loose := [], fuse := -1, done := dn } := by
          rw [s4, hn, eC]
        have hZl : (laid (laid m.safe ws) (wsOf f (layS 1 s (secsOf s.size)) (secsOf s.size))).length = m.safe.length := by rw [laid_length, laid_length]
        have hq : ∀ q, (laid (laid m.safe ws) (wsOf f (layS 1 s (secsOf s.size)) (secsOf s.size))).getD q ⟨#[]⟩ = layL m.safe f n 1 s q := fun q => by
          rw [h.now] at a4
          rw [laid_ws _ f _ q _ _ (by rw [laid_length]; omega)]
          unfold layL
          by_cases hq : f ≤ q ∧ q < f + secsOf s.size
          · rw [if_pos hq, if_pos (by omega), if_pos hq.2, layS_at _ _ _ _ (by omega)]
          · rw [if_neg hq, a4 q]
            by_cases hq2 : f ≤ q ∧ q < f + n
            · rw [if_pos hq2, if_pos hq2, if_neg (by omega)]
            · rw [if_neg hq2, if_neg hq2]
        rw [e, eS, s5]
        exact ⟨rfl, h.set _ dn hZl (layL_full h.ok f n 1 s _ hZl hq), hZl, hq⟩
      · exact absurd hfC s1.1
    · exact absurd hfA p1.1
  · exact absurd h.fu a1.1

/-- A first text is opened. -/
theorem fmt_open {m m' : DM} (h : Rest m') (f n : Nat) (s : ByteArray) (hfn : f + n ≤ m'.len) (hzo : zoneOk n = true) (hc : canLay 1 s = true) (hft : fits (n / 2) s = true) (hq : ∀ q, m'.safe.getD q ⟨#[]⟩ = layL m.safe f n 1 s q) : openR m' f n = (s, 1, 0) := by
  obtain ⟨z1, z2⟩ := zoneOk_iff.1 hzo
  obtain ⟨f1, f2⟩ := fits_iff.1 hft
  have g0 := getR_here m' f n 0 1 s h.aw hfn hc (by omega) (fun i hi => by
    rw [h.now, hq]
    unfold layL
    rw [if_pos (by omega), if_pos (by omega), show f + 0 + i - f = i by omega])
  obtain ⟨r1, r2⟩ := zread_free m' f n (n / 2) h.aw hfn (by omega)
  have g1 := getR_none m' f n ((n / 2 : Nat) : Int) r1 (by
    rw [r2, h.now, hq]
    unfold layL
    rw [if_pos (by omega), if_neg (by omega)])
  exact ((open_both m' f n s s 1 1 hft (by decide)).1 g0).2.2 (by rw [g1]; decide)
/-- A text saved is opened. -/
theorem save_open {m : DM} (h : Rest m) (f n : Nat) (tx s : ByteArray) (g : Int) (κ : Nat) (hfn : f + n ≤ m.len) (hzo : zoneOk n = true) (hκ : κ ≤ 1) (hst : OpenAt m f n (tx, g, (κ : Int))) (hc : canLay (g + 1) s = true) (hft : fits (n / 2) s = true) :
    (layR m (f + (1 - κ) * (n / 2)) (n / 2) g s).2 = 0 ∧ Rest (layR m (f + (1 - κ) * (n / 2)) (n / 2) g s).1 ∧ (layR m (f + (1 - κ) * (n / 2)) (n / 2) g s).1.len = m.len ∧ (∀ q, (layR m (f + (1 - κ) * (n / 2)) (n / 2) g s).1.safe.getD q ⟨#[]⟩ = layL m.safe (f + (1 - κ) * (n / 2)) (n / 2) (g + 1) s q) ∧
      openR (layR m (f + (1 - κ) * (n / 2)) (n / 2) g s).1 f n = (s, g + 1, ((1 - κ : Nat) : Int)) := by
  obtain ⟨z1, z2⟩ := zoneOk_iff.1 hzo
  obtain ⟨f1, f2⟩ := fits_iff.1 hft
  obtain ⟨H, rfl⟩ : ∃ H, n = 2 * H := ⟨n / 2, by omega⟩
  rw [show 2 * H / 2 = H by omega] at f2 ⊢
  have hσ : (1 - κ) * H ≤ H := by
    have : (1 - κ) * H ≤ 1 * H := Nat.mul_le_mul_right H (by omega)
    omega
  obtain ⟨l1, l2, l3, l4⟩ := lay_quiet h (f + (1 - κ) * H) H g s (by
    rcases (by omega : κ = 0 ∨ κ = 1) with e | e <;> subst e <;> omega) hc f2
  refine ⟨l1, l2, l3, l4, ?_⟩
  refine open_lay m _ h.ok f H (tx, g, (κ : Int)) (1 - κ) s (by omega) h.aw l2.aw (by omega) (by rw [l3]; omega) hst (by simp only; omega) hc f2 (fun q => ?_)
  rw [l2.now, h.now]
  exact l4 q
end Go.Proofs.Ytmogkiacakkmbaa

namespace Go.Proofs.Ytmogkiacakkmbaa
open Go.RowKit

theorem pair_mk {w : World} {b : Nat} {cs : List Value} {ty : TypeId} {r : Rsc} (h1 : Blk w b cs ty) (h2 : r.p w) (h3 : b ∉ r.F) : (pairR b cs ty r).p w := ⟨h1, h2, h3⟩
section
variable {w0 : World} {S : List Nat} {w w' : World} {L : List Ent} {R : List Rsc}
theorem Sd.neq (h : Sd w0 S w L R) (i j : Nat) {x y : Ent} (hi : L[i]? = some x) (hj : L[j]? = some y) (hij : i < j) : x.b ≠ y.b := by
  obtain ⟨hi1, rfl⟩ := List.getElem?_eq_some_iff.1 hi
  obtain ⟨hj1, rfl⟩ := List.getElem?_eq_some_iff.1 hj
  exact List.pairwise_iff_getElem.1 h.st.apart i j hi1 hj1 hij
/-- One thing turns, and a block is new. -/
theorem Sd.actNew (h : Sd w0 S w L R) (i : Nat) {r : Rsc} (hi : R[i]? = some r) (r' : Rsc) (hw : r.own = true) (ht : Turn r.F r'.F w w') (hr' : r'.p w') {b : Nat} {cs : List Value} {ty : TypeId} (hb : Blk w' b cs ty) (hge : w.heap.size ≤ b) (hn : b ∉ r'.F) : Sd w0 S w' (⟨b, cs, ty, true⟩ :: L) (R.set i r') := by
  have k := h.act i hi r' hw ht hr'
  refine ⟨⟨k.only, fun x hx => ?_, List.pairwise_cons.2 ⟨fun x hx he => ?_, k.st.apart⟩⟩, k.res, k.rapart, fun x hx s hs => ?_⟩
  · rcases List.mem_cons.1 hx with rfl | hx
    · exact ⟨hb, fun _ => .inr (Nat.le_trans h.only.size hge)⟩
    · exact k.st.each x hx
  · have := h.st.lt hx
    simp only at he
    omega
  · rcases List.mem_cons.1 hx with rfl | hx
    · rcases List.mem_or_eq_of_mem_set hs with hs | rfl
      · intro hm
        have := s.lt (h.res s hs).1 _ hm
        simp only at this
        omega
      · exact hn
    · exact k.cross x hx s hs
end

set_option maxRecDepth 100000 in
set_option maxHeartbeats 16000000 in
theorem awake07_any (w : World) : Calls Try.prog 31 #[] w fun e w' => e = .returned (.bool true) ∧ Only [] w w' := by
  have hst := Sd.start w []
  have r0 := Rest.fresh 10 (by decide)
  obtain ⟨a1, a2, a3, a4⟩ := fmt_quiet r0 1 8 ⟨#[97]⟩ (by decide) (by decide) (by decide)
  have a5 := fmt_open a2 1 8 ⟨#[97]⟩ (by rw [a3]; decide) (by decide) (by decide) (by decide) a4
  have a6 := open_at (fmtR (DM.fresh 10) 1 8 ⟨#[97]⟩).1 1 8 (by rw [a5]; decide)
  rw [a5] at a6
  obtain ⟨b1, b2, b3, b4, b5⟩ := save_open a2 1 8 ⟨#[97]⟩ ⟨#[98]⟩ 1 0 (by rw [a3]; decide) (by decide) (by decide) a6 (by decide) (by decide)
  obtain ⟨M1, e1⟩ : ∃ M1, M1 = (fmtR (DM.fresh 10) 1 8 ⟨#[97]⟩).1 := ⟨_, rfl⟩
  rw [← e1] at b1 b2 b3 b5 a2 a3
  obtain ⟨M2, e2⟩ : ∃ M2, M2 = (layR M1 (1 + (1 - 0) * (8 / 2)) (8 / 2) 1 ⟨#[98]⟩).1 := ⟨_, rfl⟩
  rw [← e2] at b2 b3 b5
  have DN : Hid (∀ w, Calls Try.prog 14 #[.int .i64 10] w fun e w' => ∃ d F, e = .returned (.pointer (some ⟨d, 0, none⟩)) ∧ DiskAt w' d (DM.fresh 10) F ∧ Only [] w w' ∧ (∀ b ∈ F, w.heap.size ≤ b)) := fun w => dskNew_any 10 w (by decide)
  have ZN : Hid (∀ d F w, DiskAt w d (DM.fresh 10) F → Calls Try.prog 15 #[.pointer (some ⟨d, 0, none⟩), .int .i64 1, .int .i64 8] w fun e w' => ∃ z, e = .returned (.tuple #[.pointer (some ⟨z, 0, none⟩), .int .i64 0]) ∧ w.heap.size ≤ z ∧ Blk w' z (zcells d 1 8) 34 ∧ Only [] w w') := fun d F w h => zonNew_yes d 1 8 _ F w h (by decide)
  have FM : Hid (∀ z d F w, Blk w z (zcells d 1 8) 34 → DiskAt w d (DM.fresh 10) F → z ∉ F → Calls Try.prog 33 #[.pointer (some ⟨z, 0, none⟩), .string ⟨#[97]⟩] w fun e w' => ∃ t F', e = .returned (.tuple #[.pointer (some ⟨t, 0, none⟩), .int .i64 0]) ∧ w.heap.size ≤ t ∧ Blk w' t (tcells z ⟨#[97]⟩ 1 0 false) 98 ∧ DiskAt w' d M1 F' ∧ Turn F F' w w' ∧ t ∉ F') := fun z d F w h1 h2 h3 => by
    rw [e1]
    exact twinFormat_yes z d 1 8 _ F ⟨#[97]⟩ w h1 h2 h3 (by decide) (by decide) (by decide) (by decide) (by decide) (by decide) a1
  have SV : Hid (∀ t z d F w, (pairR t (tcells z ⟨#[97]⟩ 1 0 false) 98 (diskR d M1 F)).p w → Blk w z (zcells d 1 8) 34 → t ≠ z → z ∉ F → Calls Try.prog 38 #[.pointer (some ⟨t, 0, none⟩), .string ⟨#[98]⟩] w fun e w' => ∃ F', e = .returned (.int .i64 0) ∧ (pairR t (tcells z ⟨#[98]⟩ 2 1 false) 98 (diskR d M2 F')).p w' ∧ Turn (t :: F) (t :: F') w w') := fun t z d F w h1 h2 h3 h4 => by
    rw [e2]
    exact twinSave_yes t z d 1 8 M1 F ⟨#[97]⟩ 1 ⟨#[98]⟩ w 0 h1 h2 h3 h4 (by decide) (by decide) (by decide) (by rw [a3]; decide) (by rw [a2.lo]; decide) (by decide) (by decide) (by decide) (by decide) b1
  have OP : Hid (∀ z d F w, Blk w z (zcells d 1 8) 34 → DiskAt w d M2 F → z ∉ F → Calls Try.prog 32 #[.pointer (some ⟨z, 0, none⟩)] w fun e w' => ∃ t, e = .returned (.tuple #[.pointer (some ⟨t, 0, none⟩), .int .i64 0]) ∧ w.heap.size ≤ t ∧ Blk w' t (tcells z ⟨#[98]⟩ 2 1 false) 98 ∧ Only [] w w') := fun z d F w h1 h2 h3 => by
    refine (twinOpen_any z d 1 8 M2 F w h1 h2 h3 (by decide) (by decide) (by rw [b2.lo]; decide) b2.aw (by decide)).mono ?_
    intro e w' h
    rw [b5] at h
    rcases h with ⟨h, _⟩ | ⟨_, h⟩
    · exact absurd h (by decide)
    · exact h
  have LO : Hid (∀ d F w, DiskAt w d M2 F → Calls Try.prog 30 #[.pointer (some ⟨d, 0, none⟩)] w fun e w' => e = .returned (.int .i64 0) ∧ Only [] w w') := fun d F w h => by
    have := dskLoose_any d M2 F w h
    rw [b2.lo] at this
    exact this
  have TX : Hid (∀ t z w, Blk w t (tcells z ⟨#[98]⟩ 2 1 false) 98 → Calls Try.prog 35 #[.pointer (some ⟨t, 0, none⟩)] w fun e w' => e = .returned (.string ⟨#[98]⟩) ∧ w = w') := fun t z w h => twinText_any t z _ _ _ _ w h
  have TG : Hid (∀ t z w, Blk w t (tcells z ⟨#[98]⟩ 2 1 false) 98 → Calls Try.prog 36 #[.pointer (some ⟨t, 0, none⟩)] w fun e w' => e = .returned (.int .i64 2) ∧ w = w') := fun t z w h => twinGen_any t z _ _ _ _ w h
  have TS : Hid (∀ t z w, Blk w t (tcells z ⟨#[98]⟩ 2 1 false) 98 → Calls Try.prog 37 #[.pointer (some ⟨t, 0, none⟩)] w fun e w' => e = .returned (.int .i64 1) ∧ w = w') := fun t z w h => twinSide_any t z _ _ _ _ w h
  clear a1 a2 a3 a4 a5 a6 b1 b2 b3 b4 b5 r0 e1 e2
  go_enter Try.func31, Try.ntmps31
  go_wp2_with (first
    | ((with_reducible refine wpL_peel rfl ?_ ?_); focus (go_simp; done)) | (go_at_call 14; (with_reducible refine (DN.out _).mono ?_); rintro e1 w1 ⟨d, F, rfl, hd1, ho1, hg1⟩; replace hst := hst.add ho1 (r := diskR d _ F) hd1 hg1; clear hd1 ho1 hg1) | (go_at_call 15; (with_reducible refine (ZN.out _ _ _ (hst.rs 0 rfl)).mono ?_); rintro e1 w1 ⟨z, rfl, hg1, hz1, ho1⟩; replace hst := hst.new ho1 hz1 hg1; clear hg1 hz1 ho1) | (go_at_call 33; (with_reducible refine (FM.out _ _ _ _ (hst.blk 0 rfl) (hst.rs 0 rfl) (hst.away 0 0 rfl rfl)).mono ?_); rintro e1 w1 ⟨t, F1, rfl, hg1, ht1, hd1, hT1, hn1⟩; replace hst := hst.actNew 0 rfl (diskR _ _ F1) rfl hT1 hd1 ht1 hg1 hn1; simp only [List.set] at hst; clear hg1 ht1 hd1 hT1 hn1) | (go_at_call 38; (with_reducible refine (SV.out _ _ _ _ _ (pair_mk (hst.blk 0 rfl) (hst.rs 0 rfl) (hst.away 0 0 rfl rfl)) (hst.blk 1 rfl) (hst.neq 0 1 rfl rfl (by decide)) (hst.away 1 0 rfl rfl)).mono ?_); rintro e1 w1 ⟨F1, rfl, hp1, hT1⟩; replace hst := ((hst.join rfl).act 0 rfl (pairR _ _ _ (diskR _ _ F1)) rfl hT1 hp1); simp only [List.set] at hst; replace hst := hst.split; clear hp1 hT1) | (go_at_call 32; (with_reducible refine (OP.out _ _ _ _ (hst.blk 1 rfl) (hst.rs 0 rfl) (hst.away 1 0 rfl rfl)).mono ?_); rintro e1 w1 ⟨u, rfl, hg1, hu1, ho1⟩; replace hst := hst.new ho1 hu1 hg1; clear hg1 hu1 ho1)
    | (go_at_call 35; (with_reducible first | refine (TX.out _ _ _ (hst.blk 0 rfl)).mono ?_ | refine (TX.out _ _ _ (hst.blk 1 rfl)).mono ?_); rintro e1 w1 ⟨rfl, rfl⟩)
    | (go_at_call 36; (with_reducible first | refine (TG.out _ _ _ (hst.blk 0 rfl)).mono ?_ | refine (TG.out _ _ _ (hst.blk 1 rfl)).mono ?_); rintro e1 w1 ⟨rfl, rfl⟩)
    | (go_at_call 37; (with_reducible first | refine (TS.out _ _ _ (hst.blk 0 rfl)).mono ?_ | refine (TS.out _ _ _ (hst.blk 1 rfl)).mono ?_); rintro e1 w1 ⟨rfl, rfl⟩)
    | (go_at_call 30; (with_reducible refine (LO.out _ _ _ (hst.rs 0 rfl)).mono ?_); rintro e1 w1 ⟨rfl, ho1⟩; replace hst := hst.keep ho1; clear ho1)
    | ((with_reducible refine wpL_isLoad rfl ?_); unfold tcells zcells at hst; first | ((with_reducible refine wpL_peel rfl ?_ ?_); focus (go_simp; done)) | ((with_reducible refine wpL_isLoad rfl ?_); first | (refine wpL_load1S hst.st rfl rfl 0 rfl rfl rfl (by kernel_rfl) ?_) | (refine wpL_load1S hst.st rfl rfl 1 rfl rfl rfl (by kernel_rfl) ?_) | (refine wpL_load1S hst.st rfl rfl 2 rfl rfl rfl (by kernel_rfl) ?_)))
    | ((with_reducible refine wpL_peel rfl ?_ ?_); focus (go_simp; done)) | ((with_reducible refine wpL_isLoad rfl ?_); first | (refine wpL_load1S hst.st rfl rfl 0 rfl rfl rfl (by kernel_rfl) ?_) | (refine wpL_load1S hst.st rfl rfl 1 rfl rfl rfl (by kernel_rfl) ?_) | (refine wpL_load1S hst.st rfl rfl 2 rfl rfl rfl (by kernel_rfl) ?_))
    | ((with_reducible refine wpL_isBin rfl ?_); refine wpL_eql_same rfl 9 _ _ _ rfl _ rfl rfl ?_))
  go_ret
  exact ⟨rfl, hst.only⟩
end Go.Proofs.Ytmogkiacakkmbaa
