/- Twins, plain: life by life, with losses of the power in a save. -/
import Derived.Test.YtmogkiacakkmbaaTwinH
namespace Go.Proofs.Ytmogkiacakkmbaa
open Go.RowKit

/-- Some of a text's sectors in a part, and nothing else. -/
def Sub (l : List ByteArray) (p h : Nat) (num : Int) (s : ByteArray) : Prop := ∀ q, p ≤ q → q < p + h → l.getD q ⟨#[]⟩ = zeroS 32 ∨ (q < p + secsOf s.size ∧ l.getD q ⟨#[]⟩ = laySec num s (q - p))
def Full (l : List ByteArray) (p : Nat) (num : Int) (s : ByteArray) : Prop := ∀ q, p ≤ q → q < p + secsOf s.size → l.getD q ⟨#[]⟩ = laySec num s (q - p)
theorem laySec_ne (num : Int) (s : ByteArray) (i : Nat) (hc : canLay num s = true) (hi : i < secsOf s.size) : laySec num s i ≠ zeroS 32 := fun h => by
  have hN := (canLay_iff.1 hc).1
  have := secNum_lay num s i hN hi
  rw [h, secNum_zero] at this
  unfold isNum at hN
  simp at hN
  omega
/-- A disk at rest (it may have a fuse), in whose zone a twin's text stands: the last one whole; in the other copy some sectors of one other text. -/
structure Life (m : DM) (f h : Nat) (tx : ByteArray) (g : Int) (κ : Nat) : Prop where
  ok : m.Ok
  aw : m.away = false
  lo : m.loose = []
  len : f + 2 * h ≤ m.len
  side : κ ≤ 1
  two : 2 ≤ h
  can : canLay g tx = true
  fit : secsOf tx.size ≤ h
  full : Full m.safe (f + κ * h) g tx
  sub : Sub m.safe (f + κ * h) h g tx
  oth : ∃ num s, canLay num s = true ∧ secsOf s.size ≤ h ∧ Sub m.safe (f + (1 - κ) * h) h num s ∧ (num < g ∨ ¬ Full m.safe (f + (1 - κ) * h) num s)
theorem Life.now {m : DM} {f h : Nat} {tx : ByteArray} {g : Int} {κ : Nat} (L : Life m f h tx g κ) : m.now = m.safe := by unfold DM.now; rw [L.lo]; rfl
/-- What hangs on no more than what is safe. -/
theorem Life.of {m m' : DM} {f h : Nat} {tx : ByteArray} {g : Int} {κ : Nat} (L : Life m f h tx g κ) (ok : m'.Ok) (aw : m'.away = false) (lo : m'.loose = []) (hs : m'.safe = m.safe) : Life m' f h tx g κ :=
  ⟨ok, aw, lo, by have := L.len; unfold DM.len at *; rw [hs]; exact this, L.side, L.two, L.can, L.fit, by rw [hs]; exact L.full, by rw [hs]; exact L.sub, by rw [hs]; exact L.oth⟩
theorem getR_copy (m : DM) (f h : Nat) (aw : m.away = false) (lo : m.loose = []) (hl : f + 2 * h ≤ m.len) (σ : Nat) (hσ : σ ≤ 1) (num : Int) (s : ByteArray) (hc : canLay num s = true) (hs : secsOf s.size ≤ h) (hS : Sub m.safe (f + σ * h) h num s) :
    (Full m.safe (f + σ * h) num s → getR m f (2 * h) ((σ * h : Nat) : Int) = (s, num, 0)) ∧ (¬ Full m.safe (f + σ * h) num s → (getR m f (2 * h) ((σ * h : Nat) : Int)).2.2 ≠ 0) := by
  have hn : m.now = m.safe := by unfold DM.now; rw [lo]; rfl
  have hσh : σ * h + h ≤ 2 * h := by rcases (by omega : σ = 0 ∨ σ = 1) with e | e <;> subst e <;> omega
  constructor
  · intro hF
    refine getR_here m f (2 * h) (σ * h) num s aw hl hc (by omega) (fun i hi => ?_)
    rw [hn, hF _ (by omega) (by omega)]
    congr 1
    omega
  · intro hF
    rw [getR_half m f (2 * h) (σ * h) num s aw hl hc (by omega) (fun i hi => ?_) (fun hall => hF fun q h1 h2 => ?_)]
    · simp
    · rw [hn]
      rcases hS (f + σ * h + i) (by omega) (by omega) with h1 | ⟨_, h1⟩
      · exact .inr h1
      · left
        rw [h1]
        congr 1
        omega
    · have := hall (q - (f + σ * h)) (by omega)
      rw [hn, show f + σ * h + (q - (f + σ * h)) = q by omega] at this
      exact this
theorem Life.opens {m : DM} {f h : Nat} {tx : ByteArray} {g : Int} {κ : Nat} (L : Life m f h tx g κ) : openR m f (2 * h) = (tx, g, (κ : Int)) := by
  obtain ⟨num, s, o1, o2, o3, o4⟩ := L.oth
  have hκ := L.side
  have hg := (canLay_iff.1 L.can).1
  have hg1 : 1 ≤ g := by unfold isNum at hg; simp at hg; omega
  have e2 : 2 * h / 2 = h := by omega
  have c := (getR_copy m f h L.aw L.lo L.len κ hκ g tx L.can L.fit L.sub).1 L.full
  have d := getR_copy m f h L.aw L.lo L.len (1 - κ) (by omega) num s o1 o2 o3
  have hb := open_both m f (2 * h) tx s g num (by rw [e2]; exact fits_iff.2 ⟨(canLay_iff.1 L.can).2, L.fit⟩) (by omega)
  rw [e2] at hb
  rcases (by omega : κ = 0 ∨ κ = 1) with e | e
  · subst e
    rw [show ((0 * h : Nat) : Int) = 0 by omega] at c
    rw [show (((1 - 0) * h : Nat) : Int) = (h : Int) by omega] at d
    by_cases hF : Full m.safe (f + (1 - 0) * h) num s
    · exact (hb.1 c).2.1 (d.1 hF) (by rcases o4 with h | h; omega; exact absurd hF h)
    · exact (hb.1 c).2.2 (d.2 hF)
  · subst e
    rw [show ((1 * h : Nat) : Int) = (h : Int) by omega] at c
    rw [show (((1 - 1) * h : Nat) : Int) = 0 by omega] at d
    by_cases hF : Full m.safe (f + (1 - 1) * h) num s
    · exact (hb.2 c).2.1 (d.1 hF) (by rcases o4 with h | h; omega; exact absurd hF h)
    · exact (hb.2 c).2.2 (d.2 hF)
/-- A save, whole or broken. -/
theorem Life.save {m : DM} {f h : Nat} {tx : ByteArray} {g : Int} {κ : Nat} (L : Life m f h tx g κ) (s : ByteArray) (hc : canLay (g + 1) s = true) (hs : secsOf s.size ≤ h) :
    ((layR m (f + (1 - κ) * h) h g s).2 = 0 ∧ Life (layR m (f + (1 - κ) * h) h g s).1 f h s (g + 1) (1 - κ)) ∨
    ((layR m (f + (1 - κ) * h) h g s).2 = 4 ∧ (layR m (f + (1 - κ) * h) h g s).1.away = true ∧ (layR m (f + (1 - κ) * h) h g s).1.loose = [] ∧ (layR m (f + (1 - κ) * h) h g s).1.len = m.len ∧
      ∀ m' : DM, m'.Ok → m'.away = false → m'.loose = [] → m'.safe = (layR m (f + (1 - κ) * h) h g s).1.safe → Life m' f h tx g κ ∨ Life m' f h s (g + 1) (1 - κ)) := by
  have hκ := L.side
  have hl := L.len
  have hsl : m.len = m.safe.length := rfl
  have hσ : (1 - κ) * h + h ≤ 2 * h := by rcases (by omega : κ = 0 ∨ κ = 1) with e | e <;> subst e <;> omega
  have hap : ∀ q, f + κ * h ≤ q → q < f + κ * h + h → ¬ (f + (1 - κ) * h ≤ q ∧ q < f + (1 - κ) * h + h) := fun q h1 h2 => by rcases (by omega : κ = 0 ∨ κ = 1) with e | e <;> subst e <;> omega
  have e1 : 1 - (1 - κ) = κ := by omega
  have hK := L.fit
  rcases layR_on m (f + (1 - κ) * h) h g s L.aw L.ok.least L.ok.most (by omega) hc hs L.lo with ⟨fz, dn, S, s1, s2, s3, s4, s5, s6⟩ | ⟨b1, b2, b3, b4, b5, b6⟩
  · left
    rw [s4]
    refine ⟨rfl, ?_⟩
    have hS : ∀ q, S.getD q ⟨#[]⟩ = layL m.safe (f + (1 - κ) * h) h (g + 1) s q := s6
    have keep : ∀ q, f + κ * h ≤ q → q < f + κ * h + h → S.getD q ⟨#[]⟩ = m.safe.getD q ⟨#[]⟩ := fun q h1 h2 => by rw [s6, if_neg (hap q h1 h2)]
    refine ⟨⟨by show S.length ≤ 4096; rw [s5]; exact L.ok.few, layL_full L.ok _ h (g + 1) s S s5 hS, fun x hx => (by cases hx), fun x hx => (by cases hx), s1, s2, L.ok.kept⟩, L.aw, rfl, by show f + 2 * h ≤ S.length; omega, by omega, L.two, hc, hs, fun q h1 h2 => ?_, fun q h1 h2 => ?_, ⟨g, tx, L.can, L.fit, fun q h1 h2 => ?_, .inl (by omega)⟩⟩
    · show S.getD q ⟨#[]⟩ = _
      rw [s6, if_pos (by omega), if_pos h2]
    · show S.getD q ⟨#[]⟩ = _ ∨ _
      rw [s6, if_pos ⟨h1, h2⟩]
      by_cases hq : q < f + (1 - κ) * h + secsOf s.size
      · rw [if_pos hq]
        exact .inr ⟨hq, rfl⟩
      · rw [if_neg hq]
        exact .inl rfl
    · rw [e1] at h1 h2 ⊢
      have := L.sub q h1 h2
      rw [← keep q h1 h2] at this
      exact this
  · right
    refine ⟨b2, b3, b4, b5, fun m' ok aw lo hsafe => ?_⟩
    have hlen : f + 2 * h ≤ m'.len := by show f + 2 * h ≤ m'.safe.length; rw [hsafe, b5]; exact hl
    rcases b6 with b6 | b6
    · left
      have keep : ∀ q, f + κ * h ≤ q → q < f + κ * h + h → m'.safe.getD q ⟨#[]⟩ = m.safe.getD q ⟨#[]⟩ := fun q h1 h2 => by
        rw [hsafe]
        rcases b6 q with h3 | ⟨h3, h4, _⟩
        · exact h3
        · exact absurd ⟨h3, h4⟩ (hap q h1 h2)
      obtain ⟨num, x, o1, o2, o3, o4⟩ := L.oth
      refine ⟨ok, aw, lo, hlen, hκ, L.two, L.can, L.fit, fun q h1 h2 => by rw [keep q h1 (by omega)]; exact L.full q h1 h2, fun q h1 h2 => by rw [keep q h1 h2]; exact L.sub q h1 h2, ⟨num, x, o1, o2, fun q h1 h2 => ?_, ?_⟩⟩
      · rw [hsafe]
        rcases b6 q with h3 | ⟨_, _, h3⟩
        · rw [h3]; exact o3 q h1 h2
        · exact .inl h3
      · rcases o4 with o4 | o4
        · exact .inl o4
        · right
          intro hF
          refine o4 fun q h1 h2 => ?_
          have := hF q h1 h2
          rw [hsafe] at this
          rcases b6 q with h3 | ⟨_, _, h3⟩
          · rw [← h3]; exact this
          · rw [h3] at this
            exact absurd this.symm (laySec_ne num x _ o1 (by omega))
    · have keep : ∀ q, f + κ * h ≤ q → q < f + κ * h + h → m'.safe.getD q ⟨#[]⟩ = m.safe.getD q ⟨#[]⟩ := fun q h1 h2 => by
        rw [hsafe]
        exact (b6 q).1 (hap q h1 h2)
      have hSub : Sub m'.safe (f + (1 - κ) * h) h (g + 1) s := fun q h1 h2 => by
        rw [hsafe]
        exact (b6 q).2 ⟨h1, h2⟩
      have oldFull : Full m'.safe (f + κ * h) g tx := fun q h1 h2 => by rw [keep q h1 (by omega)]; exact L.full q h1 h2
      have oldSub : Sub m'.safe (f + κ * h) h g tx := fun q h1 h2 => by rw [keep q h1 h2]; exact L.sub q h1 h2
      by_cases hF : Full m'.safe (f + (1 - κ) * h) (g + 1) s
      · right
        exact ⟨ok, aw, lo, hlen, by omega, L.two, hc, hs, hF, hSub, ⟨g, tx, L.can, L.fit, by rw [e1]; exact oldSub, .inl (by omega)⟩⟩
      · left
        exact ⟨ok, aw, lo, hlen, hκ, L.two, L.can, L.fit, oldFull, oldSub, ⟨g + 1, s, hc, hs, hSub, .inr hF⟩⟩
/-- A first text. -/
theorem Life.fmt {m m' : DM} (h : Rest m') (f H : Nat) (s : ByteArray) (hl : f + 2 * H ≤ m'.len) (h2 : 2 ≤ H) (hc : canLay 1 s = true) (hs : secsOf s.size ≤ H) (hq : ∀ q, m'.safe.getD q ⟨#[]⟩ = layL m.safe f (2 * H) 1 s q) : Life m' f H s 1 0 := by
  have z : ∀ q, f + H ≤ q → q < f + H + H → m'.safe.getD q ⟨#[]⟩ = zeroS 32 := fun q h1 h2 => by
    rw [hq]
    unfold layL
    rw [if_pos (by omega), if_neg (by omega)]
  refine ⟨h.ok, h.aw, h.lo, hl, by decide, h2, hc, hs, fun q h1 h3 => ?_, fun q h1 h3 => ?_, ⟨1, s, hc, hs, fun q h1 h3 => .inl (z q (by omega) (by omega)), .inr fun hF => ?_⟩⟩
  · rw [hq]
    unfold layL
    rw [if_pos (by omega), if_pos (by omega)]
    congr 1
    omega
  · rw [hq]
    unfold layL
    rw [if_pos (by omega)]
    by_cases hk : q < f + secsOf s.size
    · rw [if_pos hk]
      exact .inr ⟨by omega, by congr 1; omega⟩
    · rw [if_neg hk]
      exact .inl rfl
  · have h2' := secsOf_two s.size
    have := hF (f + (1 - 0) * H) (Nat.le_refl _) (by omega)
    rw [z _ (by omega) (by omega)] at this
    exact absurd this.symm (laySec_ne 1 s _ hc (by omega))
end Go.Proofs.Ytmogkiacakkmbaa
