/- The law StoreApart, plain: what is saved, and put in one place, leaves the others as they are. -/
import Derived.Test.YtmogkiacakkmbaaStoP
import Derived.Test.YtmogkiacakkmbaaJoinP
namespace Go.Proofs.Ytmogkiacakkmbaa

section
variable {m m' : DM} (f n : Nat) (haw : m.away = false) (haw' : m'.away = false) (hfn : f + n ≤ m.len) (hfn' : f + n ≤ m'.len) (h : ∀ i, i < n → m'.now.getD (f + i) ⟨#[]⟩ = m.now.getD (f + i) ⟨#[]⟩)
include haw haw' hfn hfn' h
theorem zread_zone (a : Int) : zreadE m' f n a = zreadE m f n a ∧ zread m' f n a = zread m f n a := by
  by_cases hz : zIn n a = true
  · obtain ⟨h1, h2⟩ := zIn_iff.1 hz
    obtain ⟨i, rfl⟩ : ∃ i : Nat, a = (i : Int) := ⟨a.toNat, by omega⟩
    obtain ⟨r1, r2⟩ := zread_free m f n i haw hfn (by omega)
    obtain ⟨q1, q2⟩ := zread_free m' f n i haw' hfn' (by omega)
    exact ⟨by rw [r1, q1], by rw [r2, q2]; exact h i (by omega)⟩
  · unfold zreadE zread
    rw [if_neg hz, if_neg hz, if_neg hz, if_neg hz]
    exact ⟨rfl, rfl⟩
theorem getR_zone (a : Int) : getR m' f n a = getR m f n a := by
  have hr : ∀ j, rowJ m' f n a j = rowJ m f n a j := fun j => rowJ_congr m m' f n f n a a j (fun i _ => zread_zone f n haw haw' hfn hfn' h _) j (Nat.le_refl _)
  unfold getR
  simp only [hr, (zread_zone f n haw haw' hfn hfn' h a).1]
theorem openR_zone : openR m' f n = openR m f n := by
  rw [openR_eq, openR_eq, getR_zone f n haw haw' hfn hfn' h, getR_zone f n haw haw' hfn hfn' h]
end

/-- Where a slot begins. -/
def slotAt (n k : Nat) : Nat := 8 + k * (n * 2)
theorem good620 (n : Nat) (h1 : 1 ≤ n) (h5 : n ≤ 5) : GoodL 6 20 n := by
  have e : secsOf 20 = 2 := by decide
  exact ⟨by decide, by decide, by decide, by decide, by decide, h1, by omega, by rw [e]; omega⟩
theorem need620 (n : Nat) : needN 6 20 n = 8 + n * 4 := by
  have e : secsOf 20 = 2 := by decide
  unfold needN
  rw [e]
  omega
/-- What stands where: a record, and chunks in two slots. -/
structure ApT (m : DM) (n : Nat) (tx : ByteArray) (g : Int) (κ : Nat) (hv : List ByteArray) : Prop where
  on : On m
  len : m.len = 11 + n * 4
  sup : ∀ q, q < 2 → m.now.getD q ⟨#[]⟩ = laySec 1 (superB 6 20 n) q
  tw : openR m 2 6 = (tx, g, (κ : Int))
  side : κ ≤ 1
  fit : tx.size ≤ 20
  hl : hv.length = 10
  sz : ∀ j, (hv.getD j ⟨#[]⟩).size ≤ 20
  emp : ∀ k p, k < 2 → p < n → hv.getD (k * 5 + p) ⟨#[]⟩ = ⟨#[]⟩ → ∀ i, i < 2 → m.now.getD (slotAt n k + p * 2 + i) ⟨#[]⟩ = zeroS 32
  full : ∀ k p, k < 2 → p < n → hv.getD (k * 5 + p) ⟨#[]⟩ ≠ ⟨#[]⟩ → ∀ i, i < 2 → m.now.getD (slotAt n k + p * 2 + i) ⟨#[]⟩ = laySec 7 (hv.getD (k * 5 + p) ⟨#[]⟩) i
theorem secsOf_short {s : ByteArray} (h : s.size ≤ 20) : secsOf s.size = 2 := by unfold secsOf; omega

theorem ApT.start (n : Nat) (h1 : 1 ≤ n) (h5 : n ≤ 5) :
    (stR (DM.fresh (11 + n * 4)) 6 20 n (8 + n * 4) ⟨#[]⟩).2 = 0 ∧ ApT (stR (DM.fresh (11 + n * 4)) 6 20 n (8 + n * 4) ⟨#[]⟩).1 n ⟨#[]⟩ 1 0 (List.replicate 10 ⟨#[]⟩) := by
  have hg := good620 n h1 h5
  have hl : (DM.fresh (11 + n * 4)).len = 11 + n * 4 := by unfold DM.len DM.fresh; exact List.length_replicate
  obtain ⟨a1, a2, a3, a4⟩ := st_free (Rest.fresh (11 + n * 4) (by omega)).on 6 20 n ⟨#[]⟩ hg (by rw [need620, hl]; omega) (by decide)
  rw [need620] at a1 a2 a3 a4
  have s0 : secsOf (⟨#[]⟩ : ByteArray).size = 2 := by decide
  have hop := st_open a2 6 20 n ⟨#[]⟩ hg (by rw [need620, a3, hl]; omega) (by decide) (fun q hq => by rw [a4 q]; unfold stL; rw [if_pos hq]) (fun q h1 h2 => by rw [a4 q]; unfold stL; rw [if_neg (by omega), if_pos h2])
  have e10 : ∀ j, (List.replicate 10 (⟨#[]⟩ : ByteArray)).getD j ⟨#[]⟩ = ⟨#[]⟩ := fun j => by
    rw [List.getD_eq_getElem?_getD, List.getElem?_replicate]
    split <;> rfl
  refine ⟨a1, a2.on, a3.trans hl, fun q hq => ?_, hop.2, by decide, by decide, List.length_replicate, fun j => by rw [e10 j]; decide, fun k p hk hp _ i hi => ?_, fun k p _ _ hne => absurd (e10 _) hne⟩
  · rw [a2.now, a4 q]
    unfold stL
    rw [if_pos hq]
  · rw [a2.now, a4]
    have hlt : slotAt n k + p * 2 + i < 8 + n * 4 := by
      unfold slotAt
      rcases (by omega : k = 0 ∨ k = 1) with e | e <;> subst e <;> omega
    have hge : 8 ≤ slotAt n k + p * 2 + i := by unfold slotAt; omega
    unfold stL
    rw [if_neg (by omega), if_neg (by omega), need620, if_pos hlt]
theorem getD_setS (L : List ByteArray) (i j : Nat) (v : ByteArray) (hi : i < L.length) : (L.set i v).getD j ⟨#[]⟩ = if j = i then v else L.getD j ⟨#[]⟩ := getD_set L i j v _ hi

section
variable {m : DM} {n : Nat} {tx : ByteArray} {g : Int} {κ : Nat} {hv : List ByteArray} (h : ApT m n tx g κ hv) (h1 : 1 ≤ n) (h5 : n ≤ 5)
include h h1 h5
theorem ApT.put (k p : Nat) (hk : k < 2) (hp : p < n) (x : ByteArray) (hx1 : 1 ≤ x.size) (hx : x.size ≤ 20) :
    (putR m (slotAt n k) (n * 2) ((p : Int) * 2) 7 x).2 = 0 ∧ ApT (putR m (slotAt n k) (n * 2) ((p : Int) * 2) 7 x).1 n tx g κ (hv.set (k * 5 + p) x) := by
  have hlen := h.len
  have hs2 := secsOf_short hx
  have hne : x ≠ ⟨#[]⟩ := fun e => by rw [e] at hx1; exact absurd hx1 (by decide)
  have hsl : slotAt n k + n * 2 ≤ 8 + n * 4 := by unfold slotAt; rcases (by omega : k = 0 ∨ k = 1) with e | e <;> subst e <;> omega
  have hs8 : 8 ≤ slotAt n k := by unfold slotAt; omega
  obtain ⟨p1, p2, p3, p4⟩ := put_free h.on (slotAt n k) (n * 2) (p * 2) 7 x (by omega) (canLay_iff.2 ⟨by decide, by omega⟩) (by omega)
  rw [Int.natCast_mul] at p1 p2 p3 p4
  change (putR m (slotAt n k) (n * 2) ((p : Int) * 2) 7 x).2 = 0 at p1
  change On (putR m (slotAt n k) (n * 2) ((p : Int) * 2) 7 x).1 at p2
  change (putR m (slotAt n k) (n * 2) ((p : Int) * 2) 7 x).1.len = m.len at p3
  have p4 : ∀ q, (putR m (slotAt n k) (n * 2) ((p : Int) * 2) 7 x).1.now.getD q ⟨#[]⟩ = if slotAt n k + p * 2 ≤ q ∧ q < slotAt n k + p * 2 + secsOf x.size then laySec 7 x (q - (slotAt n k + p * 2)) else m.now.getD q ⟨#[]⟩ := p4
  rw [hs2] at p4
  have far : ∀ k' p', k' < 2 → p' < n → k' * 5 + p' ≠ k * 5 + p → ∀ i, i < 2 → ¬ (slotAt n k + p * 2 ≤ slotAt n k' + p' * 2 + i ∧ slotAt n k' + p' * 2 + i < slotAt n k + p * 2 + 2) := fun k' p' hk' hp' hne' i hi => by
    unfold slotAt
    rcases (by omega : k = 0 ∨ k = 1) with e | e <;> rcases (by omega : k' = 0 ∨ k' = 1) with e' | e' <;> subst e <;> subst e' <;> omega
  have hidx : k * 5 + p < hv.length := by rw [h.hl]; omega
  refine ⟨p1, p2, p3.trans hlen, fun q hq => ?_, ?_, h.side, h.fit, by rw [List.length_set]; exact h.hl, fun j => ?_, fun k' p' hk' hp' he i hi => ?_, fun k' p' hk' hp' he i hi => ?_⟩
  · rw [p4 q, if_neg (by omega)]
    exact h.sup q hq
  · rw [openR_zone 2 6 h.on.aw p2.aw (by omega) (by omega) (fun i hi => by rw [p4, if_neg (by omega)])]
    exact h.tw
  · rw [getD_setS _ _ _ _ hidx]
    split
    · exact hx
    · exact h.sz j
  · rw [getD_setS _ _ _ _ hidx] at he
    by_cases e : k' * 5 + p' = k * 5 + p
    · rw [if_pos e] at he
      exact absurd he hne
    · rw [if_neg e] at he
      rw [p4, if_neg (far k' p' hk' hp' e i hi)]
      exact h.emp k' p' hk' hp' he i hi
  · rw [getD_setS _ _ _ _ hidx] at he ⊢
    by_cases e : k' * 5 + p' = k * 5 + p
    · rw [if_pos e]
      have ek : k' = k := by omega
      have ep : p' = p := by omega
      subst ek ep
      rw [p4, if_pos (by omega), show slotAt n k' + p' * 2 + i - (slotAt n k' + p' * 2) = i by omega]
    · rw [if_neg e] at he ⊢
      rw [p4, if_neg (far k' p' hk' hp' e i hi)]
      exact h.full k' p' hk' hp' he i hi
theorem ApT.save (hg0 : 1 ≤ g) (hg : g < 2147483646) (x : ByteArray) (hx : x.size ≤ 20) :
    (layR m (2 + (1 - κ) * 3) 3 g x).2 = 0 ∧ (layR m (2 + (1 - κ) * 3) 3 g x).1.loose = [] ∧ ApT (layR m (2 + (1 - κ) * 3) 3 g x).1 n x (g + 1) (1 - κ) hv := by
  have hlen := h.len
  have hs2 := secsOf_short hx
  have hκ := h.side
  have hp : 2 ≤ 2 + (1 - κ) * 3 ∧ 2 + (1 - κ) * 3 + 3 ≤ 8 := by rcases (by omega : κ = 0 ∨ κ = 1) with e | e <;> subst e <;> omega
  have hc : canLay (g + 1) x = true := canLay_iff.2 ⟨by unfold isNum; simp; omega, by omega⟩
  obtain ⟨l1, l2, l3, l4⟩ := lay_free h.on (2 + (1 - κ) * 3) 3 g x (by omega) hc (by omega)
  have now := l2.now
  have out : ∀ q, (q < 2 ∨ 8 ≤ q) → (layR m (2 + (1 - κ) * 3) 3 g x).1.now.getD q ⟨#[]⟩ = m.now.getD q ⟨#[]⟩ := fun q hq => by
    rw [now, l4 q]
    unfold layL
    rw [if_neg (by omega)]
  have hat : OpenAt m 2 (2 * 3) (tx, g, (κ : Int)) := by
    have := open_at m 2 6 (by rw [h.tw]; simp only; omega)
    rw [h.tw] at this
    exact this
  have hop := open_lay m (layR m (2 + (1 - κ) * 3) 3 g x).1 h.on.ok 2 3 (tx, g, (κ : Int)) (1 - κ) x (by decide) h.on.aw l2.aw (by omega) (by rw [l3]; omega) hat (by simp only; omega) hc (by omega) (fun q => by
    rw [now]
    exact l4 q)
  refine ⟨l1, l2.lo, l2.on, l3.trans hlen, fun q hq => ?_, hop, by omega, hx, h.hl, h.sz, fun k' p' hk' hp' he i hi => ?_, fun k' p' hk' hp' he i hi => ?_⟩
  · rw [out q (.inl hq)]
    exact h.sup q hq
  · rw [out _ (.inr (by unfold slotAt; omega))]
    exact h.emp k' p' hk' hp' he i hi
  · rw [out _ (.inr (by unfold slotAt; omega))]
    exact h.full k' p' hk' hp' he i hi
/-- All of it, from all bytes. -/
theorem ApT.again {m' : DM} (hr : On m') (hl : m'.len = m.len) (hq : m'.now = m.now) : ApT m' n tx g κ hv :=
  ⟨hr, hl.trans h.len, fun q hq' => by rw [hq]; exact h.sup q hq', (openR_zone 2 6 h.on.aw hr.aw (by have := h.len; omega) (by have := h.len; omega) (fun i hi => by rw [hq])).trans h.tw, h.side, h.fit, h.hl, h.sz, fun k p hk hp he i hi => by rw [hq]; exact h.emp k p hk hp he i hi, fun k p hk hp he i hi => by rw [hq]; exact h.full k p hk hp he i hi⟩
theorem ApT.sync : m.syncE = 0 ∧ Rest m.sync ∧ ApT m.sync n tx g κ hv := by
  obtain ⟨s1, s2, s3, s4⟩ := sync_free h.on
  exact ⟨s1, s2, h.again h1 h5 s2.on s4 (by rw [s2.now, s3])⟩
theorem ApT.image : Rest (DM.of (joinB m.now)) ∧ ApT (DM.of (joinB m.now)) n tx g κ hv := by
  have hw := DM.now_wide h.on.ok
  have e := DM.of_join m.now hw (by rw [DM.now_length]; exact h.on.ok.few)
  have hr := Rest.of (joinB m.now)
  refine ⟨hr, h.again h1 h5 hr.on ?_ ?_⟩
  · rw [e]
    exact DM.now_length m
  · rw [e]
    rfl
omit h1 h5 in
theorem ApT.super : getR m 0 2 0 = (superB 6 20 n, 1, 0) :=
  getR_here m 0 2 0 1 (superB 6 20 n) h.on.aw (by have := h.len; omega) (superLay 6 20 n) (by rw [superSecs]; decide) (fun i hi => by
    rw [superSecs] at hi
    rw [show 0 + 0 + i = i by omega]
    exact h.sup i hi)
theorem ApT.get (k p : Nat) (hk : k < 2) (hp : p < n) :
    (hv.getD (k * 5 + p) ⟨#[]⟩ = ⟨#[]⟩ → getR m (slotAt n k) (n * 2) ((p : Int) * 2) = (⟨#[]⟩, 0, 5)) ∧ (hv.getD (k * 5 + p) ⟨#[]⟩ ≠ ⟨#[]⟩ → getR m (slotAt n k) (n * 2) ((p : Int) * 2) = (hv.getD (k * 5 + p) ⟨#[]⟩, 7, 0)) := by
  have hlen := h.len
  have hsl : slotAt n k + n * 2 ≤ 8 + n * 4 := by unfold slotAt; rcases (by omega : k = 0 ∨ k = 1) with e | e <;> subst e <;> omega
  have hsz := h.sz (k * 5 + p)
  constructor
  · intro he
    obtain ⟨r1, r2⟩ := zread_free m (slotAt n k) (n * 2) (p * 2) h.on.aw (by omega) (by omega)
    rw [Int.natCast_mul] at r1 r2
    have h0 := h.emp k p hk hp he 0 (by decide)
    rw [Nat.add_zero] at h0
    exact getR_none m (slotAt n k) (n * 2) ((p : Int) * 2) r1 (r2.trans h0)
  · intro he
    have := getR_here m (slotAt n k) (n * 2) (p * 2) 7 (hv.getD (k * 5 + p) ⟨#[]⟩) h.on.aw (by omega) (canLay_iff.2 ⟨by decide, by omega⟩) (by rw [secsOf_short hsz]; omega) (fun i hi => by
      rw [secsOf_short hsz] at hi
      exact h.full k p hk hp he i hi)
    rw [Int.natCast_mul] at this
    exact this
end
end Go.Proofs.Ytmogkiacakkmbaa
