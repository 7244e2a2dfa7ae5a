/- The law StoreCut, plain: what is opened behind a loss of the power while a new disk is laid out. -/
import Derived.Test.YtmogkiacakkmbaaStoP
namespace Go.Proofs.Ytmogkiacakkmbaa

theorem getD_setQ (S : List ByteArray) (i p : Nat) (v z : ByteArray) : (S.set i v).getD p z = S.getD p z ∨ (i = p ∧ (S.set i v).getD p z = v) := by
  by_cases h : i < S.length
  · rw [getD_set S i p v z h]
    by_cases e : p = i
    · exact .inr ⟨e.symm, by rw [if_pos e]⟩
    · exact .inl (by rw [if_neg e])
  · rw [List.set_eq_of_length_le (by omega)]
    exact .inl rfl
theorem laid_oneP (p : Nat) (z : ByteArray) : ∀ (ws : List (Nat × ByteArray)) (S : List ByteArray), (laid S ws).getD p z = S.getD p z ∨ ∃ x ∈ ws, x.1 = p ∧ (laid S ws).getD p z = x.2
  | [], S => .inl rfl
  | w :: ws, S => by
    rw [laid_cons]
    rcases laid_oneP p z ws (S.set w.1 w.2) with h | ⟨x, h1, h2, h3⟩
    · rw [h]
      rcases getD_setQ S w.1 p w.2 z with h4 | ⟨h4, h5⟩
      · exact .inl h4
      · exact .inr ⟨w, List.mem_cons_self, h4, h5⟩
    · exact .inr ⟨x, List.mem_cons_of_mem _ h1, h2, h3⟩
theorem fill_same (m : DM) (f n : Nat) (s : ByteArray) (haw : m.away = false) (hfn : f + n ≤ m.len) (h : ∀ i, i < n → m.now.getD (f + i) ⟨#[]⟩ = s) : ∀ j, j ≤ n → fillJ m f n s j = (m, 0)
  | 0, _ => rfl
  | j + 1, hj => by
    have ih := fill_same m f n s haw hfn h j (by omega)
    obtain ⟨r1, r2⟩ := zread_free m f n j haw hfn (by omega)
    rw [h j (by omega)] at r2
    unfold fillJ
    rw [ih]
    simp only
    rw [if_neg (by simp), r1, if_neg (by simp), if_pos r2]
theorem fmtR_ok {m : DM} (h : m.Ok) (f n : Nat) (s : ByteArray) : (fmtR m f n s).1.Ok := by
  have h1 : (layA m f n).1.Ok := fillJ_ok h _ _ _ _
  have h2 : (fmtC m f n s).1.Ok := putR_ok h1 _ _ _ _ _
  unfold fmtR
  split
  · exact h1
  · split
    · exact h2
    · exact h2.sync
theorem stR_ok {m : DM} (h : m.Ok) (R Z C N : Nat) (s : ByteArray) : (stR m R Z C N s).1.Ok := by
  have h1 : (stA m N).1.Ok := fillJ_ok h _ _ _ _
  have h2 : (stT m R N s).1.Ok := fmtR_ok h1 _ _ _
  have h3 : (stP m R Z C N s).1.Ok := putR_ok h2 _ _ _ _ _
  unfold stR
  split
  · exact h1
  · split
    · exact h2
    · split
      · exact h3
      · exact h3.sync
/-- A disk, cut and come again, that had nothing loose. -/
theorem cut_come {m : DM} (ok : m.Ok) (lo : m.loose = []) : Rest (m.cut []).come ∧ (m.cut []).come.safe = m.safe := by
  have ok' := (ok.cut []).come
  cases hm : m.away with
  | true =>
    have e : (m.cut []).come = { m with away := false, fuse := -1 } := by unfold DM.cut DM.come; simp [hm]
    rw [e] at ok' ⊢
    exact ⟨⟨ok', rfl, rfl, lo⟩, rfl⟩
  | false =>
    have e : (m.cut []).come = { m with safe := laid m.safe (keptL [] m.loose), loose := [], away := false, fuse := -1 } := by unfold DM.cut DM.come; simp [hm]
    rw [e] at ok' ⊢
    refine ⟨⟨ok', rfl, rfl, rfl⟩, ?_⟩
    show laid m.safe (keptL [] m.loose) = _
    rw [lo]
    rfl

def CutYes (M : DM) (s : ByteArray) : Prop := getR M 0 2 0 = (superB 6 30 2, 1, 0) ∧ openR M 2 6 = (s, 1, 0)
def CutNo (M : DM) : Prop := getR M 0 2 0 = (⟨#[]⟩, 0, 5)
theorem good630 : GoodL 6 30 2 := ⟨by decide, by decide, by decide, by decide, by decide, by decide, by decide, by decide⟩
theorem need630 : needN 6 30 2 = 20 := by decide

section
variable {M : DM} (h : Rest M) (hl : M.len = 20) (s : ByteArray) (hs : s.size ≤ 20)
include h hl in
theorem cut_none (h0 : M.safe.getD 0 ⟨#[]⟩ = zeroS 32) : CutNo M := by
  obtain ⟨r1, r2⟩ := zread_free M 0 2 0 h.aw (by omega) (by omega)
  rw [h.now] at r2
  exact getR_none M 0 2 0 r1 (r2.trans h0)
include h hl hs in
theorem cut_some (h0 : ∀ q, q < 2 → M.safe.getD q ⟨#[]⟩ = laySec 1 (superB 6 30 2) q ∨ M.safe.getD q ⟨#[]⟩ = zeroS 32) (h1 : ∀ q, 2 ≤ q → q < 2 + 6 → M.safe.getD q ⟨#[]⟩ = if q < 2 + secsOf s.size then laySec 1 s (q - 2) else zeroS 32) : CutYes M s ∨ CutNo M := by
  have hft : fits (6 / 2) s = true := fits_iff.2 ⟨by omega, by unfold secsOf; omega⟩
  by_cases hall : ∀ q, q < 2 → M.safe.getD q ⟨#[]⟩ = laySec 1 (superB 6 30 2) q
  · exact .inl (st_open h 6 30 2 s good630 (by rw [need630, hl]; decide) hft hall h1)
  · refine .inr (getR_half M 0 2 0 1 (superB 6 30 2) h.aw (by omega) (superLay 6 30 2) (by rw [superSecs]; decide) (fun i hi => ?_) (fun hb => hall fun q hq => ?_))
    · rw [superSecs] at hi
      rw [h.now, show 0 + 0 + i = i by omega]
      exact h0 i hi
    · have := hb q (by rw [superSecs]; exact hq)
      rw [h.now, show 0 + 0 + q = q by omega] at this
      exact this
end

/-- A new disk with a fuse. -/
def cutM (n : Int) (keep : List Bool) : DM := (DM.fresh 20).fuseAt n keep
def zero20 : List ByteArray := List.replicate 20 (zeroS 32)
theorem zero20_at (q : Nat) (hq : q < 20) : zero20.getD q ⟨#[]⟩ = zeroS 32 := by
  unfold zero20
  rw [List.getD_eq_getElem?_getD, List.getElem?_replicate, if_pos hq]
  rfl
theorem cutM_eq (n : Int) (keep : List Bool) : cutM n keep = { DM.fresh 20 with fuse := max n (-1), keep := keep } := rfl

section
variable (n : Int) (hn : n ≤ 1000) (keep : List Bool) (hk : keep.length ≤ 1000) (s : ByteArray) (hs : s.size ≤ 20)
include hn hk in
theorem cutM_ok : (cutM n keep).Ok := (Rest.fresh 20 (by decide)).ok.fuseAt n keep (by omega) (by omega)

include hn hk hs in
theorem cut_law : ((stR (cutM n keep) 6 30 2 20 s).2 = 0 ∧ (stR (cutM n keep) 6 30 2 20 s).1.away = false ∧ (stR (cutM n keep) 6 30 2 20 s).1.loose = [] ∧ CutYes ((stR (cutM n keep) 6 30 2 20 s).1.cut []).come s) ∨
    ((stR (cutM n keep) 6 30 2 20 s).2 = 4 ∧ (stR (cutM n keep) 6 30 2 20 s).1.loose = [] ∧ (CutYes ((stR (cutM n keep) 6 30 2 20 s).1.cut []).come s ∨ CutNo ((stR (cutM n keep) 6 30 2 20 s).1.cut []).come)) := by
  have ok0 := cutM_ok n hn keep hk
  have ok := stR_ok ok0 6 30 2 20 s
  have len := stR_len (cutM n keep) 6 30 2 20 s
  have hK : secsOf s.size ≤ 2 := by unfold secsOf; omega
  have hK2 := secsOf_two s.size
  have hc : canLay 1 s = true := canLay_iff.2 ⟨by decide, by omega⟩
  generalize hm : cutM n keep = m at *
  have aw : m.away = false := by rw [← hm]; rfl
  have sa : m.safe = zero20 := by rw [← hm]; rfl
  have lo : m.loose = [] := by rw [← hm]; rfl
  have hl : m.len = 20 := by unfold DM.len; rw [sa]; exact List.length_replicate
  have f1 : -1 ≤ m.fuse := ok0.least
  have f2 : m.fuse ≤ 9223372036854775807 := ok0.most
  clear hm
  rw [hl] at len
  have now : m.now = zero20 := by unfold DM.now; rw [lo, sa]; rfl
  have hA : stA m 20 = (m, 0) := fill_same m 0 20 (zeroS 32) aw (by omega) (fun i hi => by rw [now, Nat.zero_add]; exact zero20_at i hi) 20 (Nat.le_refl _)
  have hB : layA m 2 6 = (m, 0) := fill_same m 2 6 (zeroS 32) aw (by omega) (fun i hi => by rw [now]; exact zero20_at _ (by omega)) 6 (Nat.le_refl _)
  have eC : fmtC m 2 6 s = putR m 2 6 0 1 s := by unfold fmtC; rw [hB]
  have eT : stT m 6 20 s = fmtR m 2 6 s := by unfold stT; rw [hA]
  -- what a break leaves, while the record is laid
  have brk1 : ∀ (m' : DM) (i : Nat), i ≤ secsOf s.size → Broke m m' (wsOf (2 + 0) (layS 1 s (secsOf s.size)) i) → m'.loose = [] ∧ m'.safe.getD 0 ⟨#[]⟩ = zeroS 32 := fun m' i hi hb => by
    obtain ⟨_, _, _, b4, b5⟩ := hb
    refine ⟨b4, ?_⟩
    rw [b5, lo, List.nil_append, sa, laid_miss _ _ 0 (fun x hx => ?_)]
    · exact zero20_at 0 (by decide)
    · have := keptL_sub _ _ x hx
      unfold wsOf at this
      obtain ⟨j, _, rfl⟩ := List.mem_map.1 this
      simp only
      omega
  have fin1 : ∀ P : DM × Int, stR m 6 30 2 20 s = P → P.2 = 4 → P.1.loose = [] → P.1.safe.getD 0 ⟨#[]⟩ = zeroS 32 → (P.2 = 4 ∧ P.1.loose = [] ∧ (CutYes (P.1.cut []).come s ∨ CutNo (P.1.cut []).come)) := fun P e h1 h2 h3 => by
    rw [e] at ok len
    obtain ⟨k1, k2⟩ := cut_come ok h2
    refine ⟨h1, h2, .inr (cut_none k1 ?_ (by rw [k2]; exact h3))⟩
    unfold DM.len
    rw [k2]
    exact len
  have hp := putR_on m 2 6 0 1 s aw f1 f2 (by omega) hc (by omega)
  rw [show ((0 : Nat) : Int) = 0 from rfl, ← eC] at hp
  rcases hp with ⟨p1, p2⟩ | ⟨i, hi, p1, p2⟩
  · have eR : fmtR m 2 6 s = ((fmtC m 2 6 s).1.sync, (fmtC m 2 6 s).1.syncE) := by unfold fmtR; rw [hB, if_neg (by simp), if_neg (by rw [p2]; simp)]
    rcases sync_on (fmtC m 2 6 s).1 (by rw [p1.away]; exact aw) p1.fuse.1 p1.fuse.2 with ⟨fz, dn, s1, s2, s3, s4, s5⟩ | ⟨b, e4⟩
    · -- the record is safe
      have pn : (fmtC m 2 6 s).1.now = laid zero20 (wsOf 2 (layS 1 s (secsOf s.size)) (secsOf s.size)) := by rw [p1.now, now]
      have lT : (fmtC m 2 6 s).1.sync.len = 20 := (DM.sync_len _).trans (p1.len.trans hl)
      have aT : (fmtC m 2 6 s).1.sync.away = false := by rw [s4]; show (fmtC m 2 6 s).1.away = false; rw [p1.away]; exact aw
      have loT : (fmtC m 2 6 s).1.sync.loose = [] := by rw [s4]
      have saT : (fmtC m 2 6 s).1.sync.safe = laid zero20 (wsOf 2 (layS 1 s (secsOf s.size)) (secsOf s.size)) := by rw [s4]; exact pn
      have fT1 : -1 ≤ (fmtC m 2 6 s).1.sync.fuse := by rw [s4]; exact s1
      have fT2 : (fmtC m 2 6 s).1.sync.fuse ≤ 9223372036854775807 := by rw [s4]; exact s2
      have e0 : stT m 6 20 s = ((fmtC m 2 6 s).1.sync, 0) := by rw [eT, eR, s5]
      generalize (fmtC m 2 6 s).1.sync = T at *
      clear p1 p2 s4 s5 pn eR
      have hT : ∀ q, T.safe.getD q ⟨#[]⟩ = if 2 ≤ q ∧ q < 2 + secsOf s.size then (layS 1 s (secsOf s.size)).getD (q - 2) ⟨#[]⟩ else zero20.getD q ⟨#[]⟩ := fun q => by
        rw [saT, laid_ws _ _ _ _ _ _ (by unfold zero20; rw [List.length_replicate]; omega)]
      have hT2 : ∀ q, 2 ≤ q → q < 2 + 6 → T.safe.getD q ⟨#[]⟩ = if q < 2 + secsOf s.size then laySec 1 s (q - 2) else zeroS 32 := fun q h1 h2 => by
        rw [hT q]
        by_cases h3 : q < 2 + secsOf s.size
        · rw [if_pos ⟨h1, h3⟩, if_pos h3, layS_at _ _ _ _ (by omega)]
        · rw [if_neg (fun h => h3 h.2), if_neg h3]
          exact zero20_at q (by omega)
      have hT0 : ∀ q, q < 2 → T.safe.getD q ⟨#[]⟩ = zeroS 32 := fun q hq => by
        rw [hT q, if_neg (by omega)]
        exact zero20_at q (by omega)
      have eP : stP m 6 30 2 20 s = putR T 0 20 0 1 (superB 6 30 2) := by unfold stP; rw [e0]
      have hws : ∀ (i : Nat), i ≤ 2 → ∀ x ∈ wsOf (0 + 0) (layS 1 (superB 6 30 2) (secsOf (superB 6 30 2).size)) i, x.1 < 2 ∧ x.2 = laySec 1 (superB 6 30 2) x.1 := fun i hi x hx => by
        unfold wsOf at hx
        obtain ⟨j, hj, rfl⟩ := List.mem_map.1 hx
        have hj := List.mem_range.1 hj
        simp only [Nat.zero_add]
        refine ⟨by omega, ?_⟩
        rw [superSecs]
        exact layS_at _ _ _ _ (by omega)
      -- whatever of the superblock is kept
      have fin2 : ∀ (P : DM × Int) (ws : List (Nat × ByteArray)), stR m 6 30 2 20 s = P → P.1.loose = [] → P.1.safe = laid T.safe ws → (∀ x ∈ ws, x.1 < 2 ∧ x.2 = laySec 1 (superB 6 30 2) x.1) → CutYes (P.1.cut []).come s ∨ CutNo (P.1.cut []).come := fun P ws e h2 h3 h4 => by
        rw [e] at ok len
        obtain ⟨k1, k2⟩ := cut_come ok h2
        refine cut_some k1 (by unfold DM.len; rw [k2]; exact len) s hs (fun q hq => ?_) (fun q h5 h6 => ?_)
        · rw [k2, h3]
          rcases laid_oneP q ⟨#[]⟩ ws T.safe with h7 | ⟨x, h7, h8, h9⟩
          · exact .inr (h7.trans (hT0 q hq))
          · left
            rw [h9, (h4 x h7).2, h8]
        · rw [k2, h3, laid_miss _ _ q (fun x hx he => by have := (h4 x hx).1; omega)]
          exact hT2 q h5 h6
      have hp := putR_on T 0 20 0 1 (superB 6 30 2) aT fT1 fT2 (by omega) (superLay 6 30 2) (by rw [superSecs]; decide)
      rw [show ((0 : Nat) : Int) = 0 from rfl, ← eP] at hp
      rcases hp with ⟨q1, q2⟩ | ⟨i, hi, q1, q2⟩
      · have eF : stR m 6 30 2 20 s = ((stP m 6 30 2 20 s).1.sync, (stP m 6 30 2 20 s).1.syncE) := by unfold stR; rw [hA, if_neg (by simp), e0, if_neg (by simp), if_neg (by rw [q2]; simp)]
        rcases sync_on (stP m 6 30 2 20 s).1 (by rw [q1.away]; exact aT) q1.fuse.1 q1.fuse.2 with ⟨fy, dy, t1, t2, t3, t4, t5⟩ | ⟨b, e4⟩
        · left
          have lo4 : (stP m 6 30 2 20 s).1.sync.loose = [] := by rw [t4]
          have aw4 : (stP m 6 30 2 20 s).1.sync.away = false := by rw [t4]; show (stP m 6 30 2 20 s).1.away = false; rw [q1.away]; exact aT
          have sa4 : (stP m 6 30 2 20 s).1.sync.safe = laid T.safe (wsOf (0 + 0) (layS 1 (superB 6 30 2) (secsOf (superB 6 30 2).size)) (secsOf (superB 6 30 2).size)) := by
            rw [t4]
            show (stP m 6 30 2 20 s).1.now = _
            rw [q1.now]
            unfold DM.now
            rw [loT]
            rfl
          rw [eF]
          refine ⟨t5, aw4, lo4, ?_⟩
          rw [eF] at ok len
          simp only at ok len ⊢
          obtain ⟨k1, k2⟩ := cut_come ok lo4
          have hft : fits (6 / 2) s = true := fits_iff.2 ⟨by omega, by omega⟩
          refine st_open k1 6 30 2 s good630 (by rw [need630]; unfold DM.len; rw [k2]; exact Nat.le_of_eq len.symm) hft (fun q hq => ?_) (fun q h5 h6 => ?_)
          · rw [k2, sa4, laid_ws _ _ _ _ _ _ (by rw [superSecs]; show 0 + 0 + 2 ≤ T.len; omega), superSecs, if_pos (by omega), layS_at _ _ _ _ (by omega)]
            rfl
          · rw [k2, sa4, laid_ws _ _ _ _ _ _ (by rw [superSecs]; show 0 + 0 + 2 ≤ T.len; omega), superSecs, if_neg (by omega)]
            exact hT2 q h5 h6
        · right
          have hb := q1.broke b
          rw [List.append_nil] at hb
          obtain ⟨_, _, _, b4, b5⟩ := hb
          rw [loT, List.nil_append] at b5
          have := fin2 _ _ eF b4 b5 (fun x hx => hws _ (by rw [superSecs]; exact Nat.le_refl _) x (keptL_sub _ _ x hx))
          rw [eF]
          exact ⟨e4, b4, this⟩
      · right
        have eF : stR m 6 30 2 20 s = stP m 6 30 2 20 s := by unfold stR; rw [hA, if_neg (by simp), e0, if_neg (by simp), if_pos (by rw [q2]; decide)]
        obtain ⟨_, _, _, b4, b5⟩ := q1
        rw [loT, List.nil_append] at b5
        have := fin2 _ _ eF b4 b5 (fun x hx => hws i (by rw [superSecs] at hi; exact hi) x (keptL_sub _ _ x hx))
        rw [eF]
        exact ⟨q2, b4, this⟩
    · right
      have hb := p1.broke b
      rw [List.append_nil] at hb
      obtain ⟨b1, b2⟩ := brk1 _ _ (Nat.le_refl _) hb
      have eF : stR m 6 30 2 20 s = ((fmtC m 2 6 s).1.sync, (fmtC m 2 6 s).1.syncE) := by unfold stR; rw [hA, if_neg (by simp), eT, eR, if_pos (by rw [e4]; show (4 : Int) ≠ 0; decide)]
      have := fin1 _ eF e4 b1 b2
      rw [eF]
      exact this
  · right
    obtain ⟨b1, b2⟩ := brk1 _ i hi p1
    have eR : fmtR m 2 6 s = fmtC m 2 6 s := by unfold fmtR; rw [hB, if_neg (by simp), if_pos (by rw [p2]; decide)]
    have eF : stR m 6 30 2 20 s = fmtC m 2 6 s := by unfold stR; rw [hA, if_neg (by simp), eT, eR, if_pos (by rw [p2]; decide)]
    have := fin1 _ eF p2 b1 b2
    rw [eF]
    exact this
end
end Go.Proofs.Ytmogkiacakkmbaa
