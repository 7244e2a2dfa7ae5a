/- Twins, plain: what is opened behind a save. -/
import Derived.Test.YtmogkiacakkmbaaSealI
namespace Go.Proofs.Ytmogkiacakkmbaa
open Go.RowKit

/-- Writes that went through. -/
def Went (m m' : DM) (ws : List (Nat × ByteArray)) : Prop := ∃ fz dn, -1 ≤ fz ∧ fz ≤ 9223372036854775807 ∧ (m.fuse = -1 → fz = -1) ∧ m' = { m with loose := m.loose ++ ws, fuse := fz, done := dn }
/-- Writes, of which the fuse ended more. -/
def Broke (m m' : DM) (ws : List (Nat × ByteArray)) : Prop := m.fuse ≠ -1 ∧ m.away = false ∧ m'.away = true ∧ m'.loose = [] ∧ m'.safe = laid m.safe (keptL m.keep (m.loose ++ ws))
theorem Went.refl (m : DM) (h : -1 ≤ m.fuse) (h2 : m.fuse ≤ 9223372036854775807) : Went m m [] := ⟨m.fuse, m.done, h, h2, fun h => h, by simp⟩
theorem Went.trans {m m1 m2 : DM} {ws vs : List (Nat × ByteArray)} (h : Went m m1 ws) (k : Went m1 m2 vs) : Went m m2 (ws ++ vs) := by
  obtain ⟨fz, dn, h1, h1', h2, rfl⟩ := h
  obtain ⟨fy, dy, k1, k1', k2, rfl⟩ := k
  exact ⟨fy, dy, k1, k1', fun h => k2 (h2 h), by simp⟩
theorem Went.broke {m m1 m2 : DM} {ws vs : List (Nat × ByteArray)} (h : Went m m1 ws) (k : Broke m1 m2 vs) : Broke m m2 (ws ++ vs) := by
  obtain ⟨fz, dn, h1, h1', h2, rfl⟩ := h
  obtain ⟨k1, k2, k3, k4, k5⟩ := k
  exact ⟨fun h => k1 (h2 h), k2, k3, k4, by rw [k5]; simp⟩
theorem Went.away {m m' : DM} {ws : List (Nat × ByteArray)} (h : Went m m' ws) : m'.away = m.away := by obtain ⟨_, _, _, _, _, rfl⟩ := h; rfl
theorem Went.len {m m' : DM} {ws : List (Nat × ByteArray)} (h : Went m m' ws) : m'.len = m.len := by obtain ⟨_, _, _, _, _, rfl⟩ := h; rfl
theorem Went.fuse {m m' : DM} {ws : List (Nat × ByteArray)} (h : Went m m' ws) : -1 ≤ m'.fuse ∧ m'.fuse ≤ 9223372036854775807 := by obtain ⟨_, _, h, h', _, rfl⟩ := h; exact ⟨h, h'⟩
theorem Went.now {m m' : DM} {ws : List (Nat × ByteArray)} (h : Went m m' ws) : m'.now = laid m.now ws := by
  obtain ⟨_, _, _, _, _, rfl⟩ := h
  unfold DM.now
  simp only
  rw [laid_append]
theorem write_on (m : DM) (a : Nat) (s : ByteArray) (haw : m.away = false) (ha : a < m.len) (hs : s.size = 32) (hf : -1 ≤ m.fuse) (hf2 : m.fuse ≤ 9223372036854775807) :
    (Went m (m.write (a : Int) s) [(a, s)] ∧ m.writeE (a : Int) s = 0) ∨ (Broke m (m.write (a : Int) s) [] ∧ m.writeE (a : Int) s = 4) := by
  have hc : m.check (a : Int) = 0 := by
    unfold DM.check
    rw [if_neg (by omega), if_neg (by simp [haw])]
  have e1 : m.write (a : Int) s = if m.fuse = 0 then m.cut m.keep else { m.used with loose := m.loose ++ [((a : Int).toNat, s)] } := by
    unfold DM.write
    rw [if_neg (fun h => h hs), hc, if_neg (by simp)]
  have e2 : m.writeE (a : Int) s = if m.fuse = 0 then 4 else 0 := by
    unfold DM.writeE DM.useE
    rw [if_neg (fun h => h hs), hc, if_neg (by simp)]
  rw [e1, e2]
  by_cases h0 : m.fuse = 0
  · right
    rw [if_pos h0, if_pos h0]
    unfold DM.cut
    rw [if_neg (by simp [haw])]
    exact ⟨⟨by omega, haw, rfl, rfl, by simp⟩, rfl⟩
  · left
    rw [if_neg h0, if_neg h0]
    unfold DM.used
    exact ⟨⟨max (m.fuse - 1) (-1), wrap64 (m.done + 1), by omega, by omega, fun h => by rw [h]; rfl, by rw [Int.toNat_natCast]⟩, rfl⟩
theorem sync_on (m : DM) (haw : m.away = false) (hf : -1 ≤ m.fuse) (hf2 : m.fuse ≤ 9223372036854775807) :
    (∃ fz dn, -1 ≤ fz ∧ fz ≤ 9223372036854775807 ∧ (m.fuse = -1 → fz = -1) ∧ m.sync = { m with safe := m.now, loose := [], fuse := fz, done := dn } ∧ m.syncE = 0) ∨ (Broke m m.sync [] ∧ m.syncE = 4) := by
  have e1 : m.sync = if m.fuse = 0 then m.cut m.keep else { m.used with safe := m.now, loose := [] } := by
    unfold DM.sync
    rw [if_neg (by simp [haw])]
  have e2 : m.syncE = if m.fuse = 0 then 4 else 0 := by
    unfold DM.syncE DM.useE
    rw [if_neg (by simp [haw])]
  rw [e1, e2]
  by_cases h0 : m.fuse = 0
  · right
    rw [if_pos h0, if_pos h0]
    unfold DM.cut
    rw [if_neg (by simp [haw])]
    exact ⟨⟨by omega, haw, rfl, rfl, by simp⟩, rfl⟩
  · left
    rw [if_neg h0, if_neg h0]
    unfold DM.used
    exact ⟨max (m.fuse - 1) (-1), wrap64 (m.done + 1), by omega, by omega, fun h => by rw [h]; rfl, rfl, rfl⟩
/-- A text's sectors, written one behind the other, with a fuse. -/
theorem putJ_on (m : DM) (f n a : Nat) (l : List ByteArray) (haw : m.away = false) (hf : -1 ≤ m.fuse) (hf2 : m.fuse ≤ 9223372036854775807) (hfn : f + n ≤ m.len) (hl : ∀ i, i < l.length → (l.getD i ⟨#[]⟩).size = 32) : ∀ j, j ≤ l.length → a + j ≤ n →
    (Went m (putJ m f n (a : Int) l j).1 (wsOf (f + a) l j) ∧ (putJ m f n (a : Int) l j).2 = 0) ∨ (∃ i, i ≤ j ∧ Broke m (putJ m f n (a : Int) l j).1 (wsOf (f + a) l i) ∧ (putJ m f n (a : Int) l j).2 = 4)
  | 0, _, _ => .inl ⟨by simp only [putJ, wsOf, List.range_zero, List.map_nil]; exact Went.refl m hf hf2, rfl⟩
  | j + 1, h, ha => by
    rcases putJ_on m f n a l haw hf hf2 hfn hl j (by omega) (by omega) with ⟨h1, h2⟩ | ⟨i, hi, h1, h2⟩
    · have hz : zIn n ((a : Int) + (j : Int)) = true := zIn_iff.2 (by omega)
      have hs := hl j (by omega)
      have hw := write_on (putJ m f n (a : Int) l j).1 (f + a + j) (l.getD j ⟨#[]⟩) (by rw [h1.away]; exact haw) (by rw [h1.len]; omega) hs h1.fuse.1 h1.fuse.2
      rw [show ((f + a + j : Nat) : Int) = (f : Int) + ((a : Int) + (j : Int)) by omega] at hw
      unfold putJ
      rw [if_neg (by rw [h2]; simp)]
      simp only
      unfold zwrite zwriteE
      rw [if_neg (fun h' => h' hs), if_pos hz, if_neg (fun h' => h' hs), if_pos hz]
      rcases hw with ⟨w1, w2⟩ | ⟨w1, w2⟩
      · left
        rw [wsOf_succ]
        exact ⟨h1.trans w1, w2⟩
      · right
        refine ⟨j, by omega, ?_, w2⟩
        have := h1.broke w1
        rw [List.append_nil] at this
        exact this
    · right
      refine ⟨i, by omega, ?_⟩
      unfold putJ
      rw [if_pos (by rw [h2]; decide)]
      exact ⟨h1, h2⟩

/-- So many sectors, made alike as far as they aren't, till one fails. -/
def fillJ (m : DM) (f n : Nat) (s : ByteArray) : Nat → DM × Int
  | 0 => (m, 0)
  | j + 1 =>
    if (fillJ m f n s j).2 ≠ 0 then fillJ m f n s j
    else if zreadE (fillJ m f n s j).1 f n (j : Int) ≠ 0 then ((fillJ m f n s j).1, zreadE (fillJ m f n s j).1 f n (j : Int))
    else if zread (fillJ m f n s j).1 f n (j : Int) = s then fillJ m f n s j
    else (zwrite (fillJ m f n s j).1 f n (j : Int) s, zwriteE (fillJ m f n s j).1 f n (j : Int) s)
theorem fillJ_stuck (m : DM) (f n : Nat) (s : ByteArray) (j K : Nat) (h : (fillJ m f n s j).2 ≠ 0) (hk : j ≤ K) : fillJ m f n s K = fillJ m f n s j := by
  obtain ⟨k, rfl⟩ : ∃ k, K = j + k := ⟨K - j, by omega⟩
  clear hk
  induction k with
  | zero => rfl
  | succ k ih =>
    rw [← Nat.add_assoc, fillJ, if_pos (by rw [ih]; exact h), ih]
theorem fillJ_len (m : DM) (f n : Nat) (s : ByteArray) : ∀ j, (fillJ m f n s j).1.len = m.len
  | 0 => rfl
  | j + 1 => by
    have := fillJ_len m f n s j
    unfold fillJ
    split
    · exact this
    · split
      · exact this
      · split
        · exact this
        · rw [zwrite_len]; exact this
theorem fillJ_few (m : DM) (f n : Nat) (s : ByteArray) : ∀ j, (fillJ m f n s j).1.loose.length ≤ m.loose.length + j
  | 0 => Nat.le_refl _
  | j + 1 => by
    unfold fillJ
    have := fillJ_few m f n s j
    split
    · omega
    · split
      · simp only; omega
      · split
        · omega
        · have := zwrite_few (fillJ m f n s j).1 f n (j : Int) s
          simp only
          omega
/-- A part, filled, with a fuse. -/
theorem fillJ_on (m : DM) (f n : Nat) (s : ByteArray) (haw : m.away = false) (hf : -1 ≤ m.fuse) (hf2 : m.fuse ≤ 9223372036854775807) (hfn : f + n ≤ m.len) (hs : s.size = 32) : ∀ j, j ≤ n →
    (∃ ws, Went m (fillJ m f n s j).1 ws ∧ (fillJ m f n s j).2 = 0 ∧ (∀ x ∈ ws, f ≤ x.1 ∧ x.1 < f + n ∧ x.2 = s) ∧ ws.length ≤ j ∧ ∀ p, (laid m.now ws).getD p ⟨#[]⟩ = if f ≤ p ∧ p < f + j then s else m.now.getD p ⟨#[]⟩) ∨
    (∃ ws, Broke m (fillJ m f n s j).1 ws ∧ (fillJ m f n s j).2 = 4 ∧ (∀ x ∈ ws, f ≤ x.1 ∧ x.1 < f + n ∧ x.2 = s) ∧ ws.length ≤ j)
  | 0, _ => .inl ⟨[], Went.refl m hf hf2, rfl, fun x hx => (by cases hx), Nat.le_refl 0, fun p => by rw [if_neg (by omega)]; rfl⟩
  | j + 1, h => by
    rcases fillJ_on m f n s haw hf hf2 hfn hs j (by omega) with ⟨ws, h1, h2, h3, h5, h4⟩ | ⟨ws, h1, h2, h3, h5⟩
    · have hz : zIn n (j : Int) = true := zIn_iff.2 (by omega)
      have ha1 : (fillJ m f n s j).1.away = false := by rw [h1.away]; exact haw
      obtain ⟨r1, r2⟩ := zread_free (fillJ m f n s j).1 f n j ha1 (by rw [h1.len]; exact hfn) (by omega)
      rw [h1.now] at r2
      have hlen : f + j < (laid m.now ws).length := by rw [laid_length, DM.now_length]; omega
      unfold fillJ
      rw [if_neg (by rw [h2]; simp), r1, if_neg (by simp)]
      by_cases he : zread (fillJ m f n s j).1 f n (j : Int) = s
      · rw [if_pos he]
        left
        refine ⟨ws, h1, h2, h3, by omega, fun p => ?_⟩
        by_cases hp : p = f + j
        · subst hp
          rw [if_pos (by omega), ← r2, he]
        · rw [h4 p]
          by_cases hq : f ≤ p ∧ p < f + j
          · rw [if_pos hq, if_pos (by omega)]
          · rw [if_neg hq, if_neg (by omega)]
      · rw [if_neg he]
        have hw := write_on (fillJ m f n s j).1 (f + j) s ha1 (by rw [h1.len]; omega) hs h1.fuse.1 h1.fuse.2
        rw [show ((f + j : Nat) : Int) = (f : Int) + (j : Int) by omega] at hw
        simp only
        unfold zwrite zwriteE
        rw [if_neg (fun h' => h' hs), if_pos hz, if_neg (fun h' => h' hs), if_pos hz]
        rcases hw with ⟨w1, w2⟩ | ⟨w1, w2⟩
        · left
          refine ⟨ws ++ [(f + j, s)], h1.trans w1, w2, fun x hx => ?_, by simp; omega, fun p => ?_⟩
          · rcases List.mem_append.1 hx with hx | hx
            · exact h3 x hx
            · simp only [List.mem_singleton] at hx
              subst hx
              exact ⟨by simp only; omega, by simp only; omega, rfl⟩
          · rw [laid_snoc, getD_set _ _ _ _ _ hlen, h4 p]
            by_cases hp : p = f + j
            · subst hp
              rw [if_pos rfl, if_pos (by omega)]
            · rw [if_neg hp]
              by_cases hq : f ≤ p ∧ p < f + j
              · rw [if_pos hq, if_pos (by omega)]
              · rw [if_neg hq, if_neg (by omega)]
        · right
          refine ⟨ws, ?_, w2, h3, by omega⟩
          have := h1.broke w1
          rw [List.append_nil] at this
          exact this
    · right
      refine ⟨ws, ?_⟩
      unfold fillJ
      rw [if_pos (by rw [h2]; decide)]
      exact ⟨h1, h2, h3, by omega⟩

theorem rowJ_congr (m m' : DM) (f n f' n' : Nat) (a a' : Int) (h : Nat) (hr : ∀ i : Nat, i < h → zreadE m' f' n' (a' + (i : Int)) = zreadE m f n (a + (i : Int)) ∧ zread m' f' n' (a' + (i : Int)) = zread m f n (a + (i : Int))) : ∀ j, j ≤ h → rowJ m' f' n' a' j = rowJ m f n a j
  | 0, _ => rfl
  | j + 1, hj => by
    have ih := rowJ_congr m m' f n f' n' a a' h hr j (by omega)
    obtain ⟨h1, h2⟩ := hr j (by omega)
    unfold rowJ
    rw [ih, h1, h2]
/-- What is got hangs on no more sectors than the text has. -/
theorem getR_agree (m m' : DM) (hok : m.Ok) (f n f' n' : Nat) (a a' : Int) (h : Nat) (h2 : 2 ≤ h) (hr : ∀ i : Nat, i < h → zreadE m' f' n' (a' + (i : Int)) = zreadE m f n (a + (i : Int)) ∧ zread m' f' n' (a' + (i : Int)) = zread m f n (a + (i : Int)))
    (h0 : (getR m f n a).2.2 = 0) (hs : secsOf (getR m f n a).1.size ≤ h) : getR m' f' n' a' = getR m f n a := by
  have e0 := hr 0 (by omega)
  rw [show a + ((0 : Nat) : Int) = a by omega, show a' + ((0 : Nat) : Int) = a' by omega] at e0
  have e2 := rowJ_congr m m' f n f' n' a a' h hr 2 h2
  have key : secsOf (lenOf (rowJ m f n a 2).1).toNat ≤ h := by
    unfold getR at h0 hs
    split at h0
    · rename_i c; exact absurd h0 c
    · rename_i c1
      split at h0
      · rename_i c; exact absurd h0 c
      · rename_i c2
        split at h0
        · cases h0
        · rename_i c3
          split at h0
          · rename_i c; exact absurd h0 c
          · rename_i c4
            split at h0
            · cases h0
            · rename_i c5
              rw [if_neg c1, if_neg c2, if_neg c3, if_neg c4, if_neg c5] at hs
              have hl := rowJ_full m hok f n a (secsOf (lenOf (rowJ m f n a 2).1).toNat) (by simpa using c4)
              have hsz : (txtOf (rowJ m f n a (secsOf (lenOf (rowJ m f n a 2).1).toNat)).1 (lenOf (rowJ m f n a 2).1).toNat).size = (lenOf (rowJ m f n a 2).1).toNat := by
                unfold txtOf
                rw [← bl_length, bl_extract, bl_mk]
                simp only [List.length_drop, List.length_take, hl]
                unfold secsOf
                omega
              simp only at hs
              rw [hsz] at hs
              exact hs
  have eK := rowJ_congr m m' f n f' n' a a' h hr _ key
  unfold getR
  rw [e0.1, e2, eK]
end Go.Proofs.Ytmogkiacakkmbaa

namespace Go.Proofs.Ytmogkiacakkmbaa
open Go.RowKit

theorem getD_ext (l k : List ByteArray) (hl : l.length = k.length) (h : ∀ q, l.getD q ⟨#[]⟩ = k.getD q ⟨#[]⟩) : l = k := by
  apply List.ext_getElem hl
  intro i h1 h2
  have := h i
  rw [List.getD_eq_getElem?_getD, List.getD_eq_getElem?_getD, List.getElem?_eq_getElem h1, List.getElem?_eq_getElem h2] at this
  exact this
theorem laid_in (p h : Nat) (s : ByteArray) (q : Nat) : ∀ (ws : List (Nat × ByteArray)) (l : List ByteArray), (∀ x ∈ ws, p ≤ x.1 ∧ x.1 < p + h ∧ x.2 = s) → p + h ≤ l.length →
    (laid l ws).getD q ⟨#[]⟩ = l.getD q ⟨#[]⟩ ∨ (p ≤ q ∧ q < p + h ∧ (laid l ws).getD q ⟨#[]⟩ = s)
  | [], l, _, _ => .inl rfl
  | x :: ws, l, hw, hl => by
    obtain ⟨x1, x2, x3⟩ := hw x (by simp)
    rw [laid_cons]
    rcases laid_in p h s q ws (l.set x.1 x.2) (fun y hy => hw y (by simp [hy])) (by rw [List.length_set]; exact hl) with h1 | h1
    · rw [getD_set _ _ _ _ _ (by omega)] at h1
      by_cases hq : q = x.1
      · rw [if_pos hq] at h1
        exact .inr ⟨by omega, by omega, h1.trans x3⟩
      · rw [if_neg hq] at h1
        exact .inl h1
    · exact .inr h1

/-- Whether a text has a place in a copy of so many sectors. -/
def fits (h : Nat) (s : ByteArray) : Bool := decide (s.size ≤ 1024) && decide (secsOf s.size ≤ h)
theorem fits_iff {h : Nat} {s : ByteArray} : fits h s = true ↔ s.size ≤ 1024 ∧ secsOf s.size ≤ h := by unfold fits; simp
/-- What is got of a copy, beside what was got ahead. -/
def openStep (h : Nat) (st : ByteArray × Int × Int) (i : Int) (G : ByteArray × Int × Int) : ByteArray × Int × Int := if G.2.2 = 0 ∧ fits h G.1 = true ∧ st.2.1 < G.2.1 then (G.1, G.2.1, i) else st
def openJ (m : DM) (f n : Nat) : Nat → ByteArray × Int × Int
  | 0 => (⟨#[]⟩, 0, 0)
  | j + 1 => openStep (n / 2) (openJ m f n j) (j : Int) (getR m f n ((j * n / 2 : Nat) : Int))
/-- A twin's text, its number, its side; the number 0: there is none. -/
def openR (m : DM) (f n : Nat) : ByteArray × Int × Int := openJ m f n 2

def layA (m : DM) (p h : Nat) : DM × Int := fillJ m p h (zeroS 32) h
def layC (m : DM) (p h : Nat) (g : Int) (s : ByteArray) : DM × Int := putR (layA m p h).1.sync p h 0 (g + 1) s
/-- A copy laid. -/
def layR (m : DM) (p h : Nat) (g : Int) (s : ByteArray) : DM × Int :=
  if (layA m p h).2 ≠ 0 then layA m p h
  else if (layA m p h).1.syncE ≠ 0 then ((layA m p h).1.sync, (layA m p h).1.syncE)
  else if (layC m p h g s).2 ≠ 0 then layC m p h g s
  else ((layC m p h g s).1.sync, (layC m p h g s).1.syncE)

theorem putR_on (m : DM) (f n a : Nat) (num : Int) (s : ByteArray) (haw : m.away = false) (hf : -1 ≤ m.fuse) (hf2 : m.fuse ≤ 9223372036854775807) (hfn : f + n ≤ m.len) (hc : canLay num s = true) (ha : a + secsOf s.size ≤ n) :
    (Went m (putR m f n (a : Int) num s).1 (wsOf (f + a) (layS num s (secsOf s.size)) (secsOf s.size)) ∧ (putR m f n (a : Int) num s).2 = 0) ∨
    (∃ i, i ≤ secsOf s.size ∧ Broke m (putR m f n (a : Int) num s).1 (wsOf (f + a) (layS num s (secsOf s.size)) i) ∧ (putR m f n (a : Int) num s).2 = 4) := by
  have h2 := secsOf_two s.size
  unfold putR
  rw [if_neg (by simp [hc]), if_neg (by unfold putIn; simp; omega)]
  refine putJ_on m f n a _ haw hf hf2 hfn (fun i hi => ?_) _ (by rw [layS_length]; exact Nat.le_refl _) ha
  rw [layS_length] at hi
  rw [layS_at _ _ _ _ hi]
  exact laySec_size num s i hi

/-- A copy laid, whole, or broken. -/
theorem layR_on (m : DM) (p h : Nat) (g : Int) (s : ByteArray) (haw : m.away = false) (hf : -1 ≤ m.fuse) (hf2 : m.fuse ≤ 9223372036854775807) (hph : p + h ≤ m.len) (hc : canLay (g + 1) s = true) (hs : secsOf s.size ≤ h) (hlo : m.loose = []) :
    (∃ fz dn S, -1 ≤ fz ∧ fz ≤ 9223372036854775807 ∧ (m.fuse = -1 → fz = -1) ∧ (layR m p h g s) = ({ m with safe := S, loose := [], fuse := fz, done := dn }, 0) ∧ S.length = m.safe.length ∧
      ∀ q, S.getD q ⟨#[]⟩ = if p ≤ q ∧ q < p + h then (if q < p + secsOf s.size then laySec (g + 1) s (q - p) else zeroS 32) else m.safe.getD q ⟨#[]⟩) ∨
    (m.fuse ≠ -1 ∧ (layR m p h g s).2 = 4 ∧ (layR m p h g s).1.away = true ∧ (layR m p h g s).1.loose = [] ∧ (layR m p h g s).1.safe.length = m.safe.length ∧
      ((∀ q, (layR m p h g s).1.safe.getD q ⟨#[]⟩ = m.safe.getD q ⟨#[]⟩ ∨ (p ≤ q ∧ q < p + h ∧ (layR m p h g s).1.safe.getD q ⟨#[]⟩ = zeroS 32)) ∨
       (∀ q, (¬ (p ≤ q ∧ q < p + h) → (layR m p h g s).1.safe.getD q ⟨#[]⟩ = m.safe.getD q ⟨#[]⟩) ∧ (p ≤ q ∧ q < p + h → (layR m p h g s).1.safe.getD q ⟨#[]⟩ = zeroS 32 ∨ (q < p + secsOf s.size ∧ (layR m p h g s).1.safe.getD q ⟨#[]⟩ = laySec (g + 1) s (q - p)))))) := by
  have hnow : m.now = m.safe := by unfold DM.now; rw [hlo]; rfl
  have hsl : m.len = m.safe.length := rfl
  have brk : ∀ (m' : DM) (ws : List (Nat × ByteArray)), Broke m m' ws → (∀ x ∈ ws, p ≤ x.1 ∧ x.1 < p + h ∧ x.2 = zeroS 32) →
      m.fuse ≠ -1 ∧ m'.away = true ∧ m'.loose = [] ∧ m'.safe.length = m.safe.length ∧ (∀ q, m'.safe.getD q ⟨#[]⟩ = m.safe.getD q ⟨#[]⟩ ∨ (p ≤ q ∧ q < p + h ∧ m'.safe.getD q ⟨#[]⟩ = zeroS 32)) := fun m' ws hb hw => by
    obtain ⟨b1, b2, b3, b4, b5⟩ := hb
    rw [hlo, List.nil_append] at b5
    refine ⟨b1, b3, b4, by rw [b5, laid_length], fun q => ?_⟩
    rw [b5]
    exact laid_in p h _ q _ _ (fun x hx => hw x (keptL_sub _ _ x hx)) (by omega)
  rcases fillJ_on m p h (zeroS 32) haw hf hf2 hph (zeroS_size 32) h (Nat.le_refl _) with ⟨ws, a1, a2, a3, a5, a4⟩ | ⟨ws, a1, a2, a3, a5⟩
  · rw [hnow] at a4
    rcases sync_on (layA m p h).1 (by rw [show (layA m p h).1.away = m.away from a1.away]; exact haw) a1.fuse.1 a1.fuse.2 with ⟨fz, dn, s1, s2, s3, s4, s5⟩ | ⟨s1, s2⟩
    · -- filled and safe
      have hZ : (layA m p h).1.now = laid m.safe ws := by rw [show (layA m p h).1.now = laid m.now ws from a1.now, hnow]
      obtain ⟨f1, d1, c1, c2, c3, c4⟩ := a1
      change (layA m p h).1 = _ at c4
      obtain ⟨Z, eZ⟩ : ∃ Z, Z = laid m.safe ws := ⟨_, rfl⟩
      have hZl : Z.length = m.safe.length := by rw [eZ, laid_length]
      rw [← eZ] at hZ a4
      obtain ⟨m1, e1⟩ : ∃ m1, m1 = (layA m p h).1.sync := ⟨_, rfl⟩
      have hm1 : m1 = { m with safe := Z, loose := [], fuse := fz, done := dn } := by
        rw [e1, s4, hZ]
        rw [c4]
      have hfz : m.fuse = -1 → fz = -1 := fun hm => s3 (by rw [c4]; exact c3 hm)
      have hput := putR_on m1 p h 0 (g + 1) s (by rw [hm1]; exact haw) (by rw [hm1]; exact s1) (by rw [hm1]; exact s2) (by rw [hm1]; show p + h ≤ Z.length; omega) hc (by omega)
      rw [show ((0 : Nat) : Int) = 0 from rfl, Nat.add_zero] at hput
      have hC : layC m p h g s = putR m1 p h 0 (g + 1) s := by unfold layC; rw [← e1]
      rw [← hC] at hput
      have hlayS : ∀ q, p ≤ q → q < p + secsOf s.size → (layS (g + 1) s (secsOf s.size)).getD (q - p) ⟨#[]⟩ = laySec (g + 1) s (q - p) := fun q h1 h2 => layS_at _ _ _ _ (by omega)
      have brk2 : ∀ (m' : DM) (i : Nat), i ≤ secsOf s.size → Broke m1 m' (wsOf p (layS (g + 1) s (secsOf s.size)) i) →
          m.fuse ≠ -1 ∧ m'.away = true ∧ m'.loose = [] ∧ m'.safe.length = m.safe.length ∧ (∀ q, (¬ (p ≤ q ∧ q < p + h) → m'.safe.getD q ⟨#[]⟩ = m.safe.getD q ⟨#[]⟩) ∧ (p ≤ q ∧ q < p + h → m'.safe.getD q ⟨#[]⟩ = zeroS 32 ∨ (q < p + secsOf s.size ∧ m'.safe.getD q ⟨#[]⟩ = laySec (g + 1) s (q - p)))) := fun m' i hi hb => by
        obtain ⟨b1, b2, b3, b4, b5⟩ := hb
        rw [hm1] at b1 b5
        simp only [List.nil_append] at b1 b5
        refine ⟨fun h => b1 (hfz h), b3, b4, by rw [b5, laid_length, hZl], fun q => ?_⟩
        rw [b5, laid_kept Z _ p _ q _ i (by omega)]
        constructor
        · intro hq
          rw [if_neg (by omega), a4 q, if_neg hq]
        · intro hq
          by_cases hk : p ≤ q ∧ q < p + i ∧ m.keep.getD (q - p) false = true
          · rw [if_pos hk]
            exact .inr ⟨by omega, hlayS q hq.1 (by omega)⟩
          · rw [if_neg hk, a4 q, if_pos hq]
            exact .inl rfl
      rcases hput with ⟨p1, p2⟩ | ⟨i, hi, p1, p2⟩
      · rcases sync_on (layC m p h g s).1 (by rw [p1.away, hm1]; exact haw) p1.fuse.1 p1.fuse.2 with ⟨fy, dy, t1, t2, t3, t4, t5⟩ | ⟨t1, t2⟩
        · left
          have hN : (layC m p h g s).1.now = laid Z (wsOf p (layS (g + 1) s (secsOf s.size)) (secsOf s.size)) := by
            rw [p1.now, hm1]
            rfl
          obtain ⟨f2, d2, q1, q2, q3, q4⟩ := p1
          refine ⟨fy, dy, laid Z (wsOf p (layS (g + 1) s (secsOf s.size)) (secsOf s.size)), t1, t2, fun h => t3 (by rw [q4]; exact q3 (by rw [hm1]; exact hfz h)), ?_, by rw [laid_length, hZl], fun q => ?_⟩
          · unfold layR
            rw [if_neg (by rw [show (layA m p h).2 = 0 from a2]; simp), if_neg (by rw [s5]; simp), if_neg (by rw [p2]; simp), t4, t5, hN]
            rw [q4, hm1]
          · rw [laid_ws Z p _ q _ _ (by omega)]
            by_cases hq : p ≤ q ∧ q < p + secsOf s.size
            · rw [if_pos hq, if_pos (by omega), if_pos hq.2, hlayS q hq.1 hq.2]
            · rw [if_neg hq, a4 q]
              by_cases hq2 : p ≤ q ∧ q < p + h
              · rw [if_pos hq2, if_pos hq2, if_neg (by omega)]
              · rw [if_neg hq2, if_neg hq2]
        · right
          have e : layR m p h g s = ((layC m p h g s).1.sync, (layC m p h g s).1.syncE) := by
            unfold layR
            rw [if_neg (by rw [show (layA m p h).2 = 0 from a2]; simp), if_neg (by rw [s5]; simp), if_neg (by rw [p2]; simp)]
          have hb := p1.broke t1
          rw [List.append_nil] at hb
          obtain ⟨b1, b2, b3, b4, b5⟩ := brk2 _ _ (Nat.le_refl _) hb
          rw [e]
          exact ⟨b1, t2, b2, b3, b4, .inr b5⟩
      · right
        have e : layR m p h g s = layC m p h g s := by
          unfold layR
          rw [if_neg (by rw [show (layA m p h).2 = 0 from a2]; simp), if_neg (by rw [s5]; simp), if_pos (by rw [p2]; decide)]
        obtain ⟨b1, b2, b3, b4, b5⟩ := brk2 _ _ hi p1
        rw [e]
        exact ⟨b1, p2, b2, b3, b4, .inr b5⟩
    · right
      have e : layR m p h g s = ((layA m p h).1.sync, (layA m p h).1.syncE) := by
        unfold layR
        rw [if_neg (by rw [show (layA m p h).2 = 0 from a2]; simp), if_pos (by rw [s2]; decide)]
      have hb := a1.broke s1
      rw [List.append_nil] at hb
      obtain ⟨b1, b2, b3, b4, b5⟩ := brk _ ws hb a3
      rw [e]
      exact ⟨b1, s2, b2, b3, b4, .inl b5⟩
  · right
    have e : layR m p h g s = layA m p h := by
      unfold layR
      rw [if_pos (by rw [show (layA m p h).2 = 4 from a2]; decide)]
    obtain ⟨b1, b2, b3, b4, b5⟩ := brk _ ws a1 a3
    rw [e]
    exact ⟨b1, a2, b2, b3, b4, .inl b5⟩
end Go.Proofs.Ytmogkiacakkmbaa

namespace Go.Proofs.Ytmogkiacakkmbaa
open Go.RowKit

theorem rowJ_num (m : DM) (f n : Nat) (a : Int) (j : Nat) (h : (rowJ m f n a (j + 1)).2.2 = 0) : isNum (rowJ m f n a (j + 1)).2.1 = true := by
  unfold rowJ at h ⊢
  split at h
  · rename_i c; exact absurd h c
  · rename_i c1
    rw [if_neg c1]
    split at h
    · cases h
    · rename_i c2
      rw [if_neg c2]
      split at h
      · rename_i c; exact absurd h c
      · rename_i c3
        rw [if_neg c3]
        split at h
        · cases h
        · rename_i c4
          rw [if_neg c4]
          simp only
          cases hn : isNum (secNum (zread m f n (a + (j : Int))))
          · exact absurd (.inl hn) c4
          · rfl
theorem getR_num (m : DM) (f n : Nat) (a : Int) (h : (getR m f n a).2.2 = 0) : isNum (getR m f n a).2.1 = true := by
  unfold getR at h ⊢
  split at h
  · rename_i c; exact absurd h c
  · rename_i c1
    split at h
    · rename_i c; exact absurd h c
    · rename_i c2
      split at h
      · cases h
      · rename_i c3
        split at h
        · rename_i c; exact absurd h c
        · rename_i c4
          split at h
          · cases h
          · rename_i c5
            rw [if_neg c1, if_neg c2, if_neg c3, if_neg c4, if_neg c5]
            simp only
            obtain ⟨k, hk⟩ : ∃ k, secsOf (lenOf (rowJ m f n a 2).1).toNat = k + 1 := ⟨secsOf (lenOf (rowJ m f n a 2).1).toNat - 1, by have := secsOf_two (lenOf (rowJ m f n a 2).1).toNat; omega⟩
            rw [hk] at c4 ⊢
            exact rowJ_num m f n a k (by simpa using c4)
/-- A text that stands whole at a place is got. -/
theorem getR_here (m : DM) (f n a : Nat) (num : Int) (s : ByteArray) (haw : m.away = false) (hfn : f + n ≤ m.len) (hc : canLay num s = true) (ha : a + secsOf s.size ≤ n) (h : ∀ i, i < secsOf s.size → m.now.getD (f + a + i) ⟨#[]⟩ = laySec num s i) :
    getR m f n (a : Int) = (s, num, 0) := by
  have h2 := secsOf_two s.size
  obtain ⟨hN, hs⟩ := canLay_iff.1 hc
  have hr : ∀ i, i < secsOf s.size → zreadE m f n ((a : Int) + (i : Int)) = 0 ∧ zread m f n ((a : Int) + (i : Int)) = laySec num s i := fun i hi => by
    obtain ⟨h1, h2⟩ := zread_free m f n (a + i) haw hfn (by omega)
    rw [show ((a + i : Nat) : Int) = (a : Int) + (i : Int) by omega] at h1 h2
    exact ⟨h1, h2.trans (by rw [← Nat.add_assoc]; exact h i hi)⟩
  have h0 := (hr 0 (by omega)).2
  rw [show (a : Int) + ((0 : Nat) : Int) = (a : Int) by omega] at h0
  exact (getR_mix m f n a num s hN hs (fun i hi => (hr i hi).1) h0 (fun i hi _ => (hr i hi).2)).1 (fun i hi => (hr i hi).2)
/-- A text that doesn't stand whole, among sectors of no number, is not got. -/
theorem getR_half (m : DM) (f n a : Nat) (num : Int) (s : ByteArray) (haw : m.away = false) (hfn : f + n ≤ m.len) (hc : canLay num s = true) (ha : a + secsOf s.size ≤ n) (h : ∀ i, i < secsOf s.size → m.now.getD (f + a + i) ⟨#[]⟩ = laySec num s i ∨ m.now.getD (f + a + i) ⟨#[]⟩ = zeroS 32)
    (hb : ¬ ∀ i, i < secsOf s.size → m.now.getD (f + a + i) ⟨#[]⟩ = laySec num s i) : getR m f n (a : Int) = (⟨#[]⟩, 0, 5) := by
  have h2 := secsOf_two s.size
  obtain ⟨hN, hs⟩ := canLay_iff.1 hc
  have hN0 : num ≠ 0 := by
    unfold isNum at hN
    simp at hN
    omega
  have hr : ∀ i, i < secsOf s.size → zreadE m f n ((a : Int) + (i : Int)) = 0 ∧ zread m f n ((a : Int) + (i : Int)) = m.now.getD (f + a + i) ⟨#[]⟩ := fun i hi => by
    obtain ⟨h1, h2⟩ := zread_free m f n (a + i) haw hfn (by omega)
    rw [show ((a + i : Nat) : Int) = (a : Int) + (i : Int) by omega] at h1 h2
    exact ⟨h1, by rw [h2, Nat.add_assoc]⟩
  have h00 := hr 0 (by omega)
  rw [show (a : Int) + ((0 : Nat) : Int) = (a : Int) by omega] at h00
  rcases h 0 (by omega) with h0 | h0
  · refine (getR_mix m f n a num s hN hs (fun i hi => (hr i hi).1) (by rw [h00.2, h0]) (fun i hi hsn => ?_)).2 (fun hall => hb fun i hi => by rw [← (hr i hi).2]; exact hall i hi)
    rw [(hr i hi).2] at hsn ⊢
    rcases h i hi with h1 | h1
    · exact h1
    · rw [h1, secNum_zero] at hsn
      exact absurd hsn.symm hN0
  · exact getR_none m f n a h00.1 (by rw [h00.2, h0])
/-- What is got of a copy that was not changed. -/
theorem getR_same (m m' : DM) (hok : m.Ok) (f n a h : Nat) (haw : m.away = false) (haw' : m'.away = false) (hfn : f + n ≤ m.len) (hfn' : f + n ≤ m'.len) (ha : a + h ≤ n) (h2 : 2 ≤ h) (hr : ∀ i, i < h → m'.now.getD (f + a + i) ⟨#[]⟩ = m.now.getD (f + a + i) ⟨#[]⟩)
    (h0 : (getR m f n (a : Int)).2.2 = 0) (hs : secsOf (getR m f n (a : Int)).1.size ≤ h) : getR m' f n (a : Int) = getR m f n (a : Int) := by
  refine getR_agree m m' hok f n f n (a : Int) (a : Int) h h2 (fun i hi => ?_) h0 hs
  obtain ⟨r1, r2⟩ := zread_free m f n (a + i) haw hfn (by omega)
  obtain ⟨q1, q2⟩ := zread_free m' f n (a + i) haw' hfn' (by omega)
  rw [show ((a + i : Nat) : Int) = (a : Int) + (i : Int) by omega] at r1 r2 q1 q2
  refine ⟨by rw [r1, q1], ?_⟩
  rw [r2, q2]
  have := hr i hi
  rw [Nat.add_assoc] at this
  exact this

/-- A twin's state stands on the disk. -/
def OpenAt (m : DM) (f n : Nat) (st : ByteArray × Int × Int) : Prop :=
  isNum st.2.1 = true ∧ fits (n / 2) st.1 = true ∧ ((st.2.2 = 0 ∧ getR m f n 0 = (st.1, st.2.1, 0)) ∨ (st.2.2 = 1 ∧ getR m f n ((n / 2 : Nat) : Int) = (st.1, st.2.1, 0)))
theorem openR_eq (m : DM) (f n : Nat) : openR m f n = openStep (n / 2) (openStep (n / 2) (⟨#[]⟩, 0, 0) 0 (getR m f n 0)) 1 (getR m f n ((n / 2 : Nat) : Int)) := by
  unfold openR
  rw [show openJ m f n 2 = openStep (n / 2) (openStep (n / 2) (⟨#[]⟩, 0, 0) ((0 : Nat) : Int) (getR m f n ((0 * n / 2 : Nat) : Int))) ((1 : Nat) : Int) (getR m f n ((1 * n / 2 : Nat) : Int)) from rfl]
  rw [Nat.zero_mul, Nat.zero_div, Nat.one_mul]
  rfl
theorem open_at (m : DM) (f n : Nat) (h : (openR m f n).2.1 ≠ 0) : OpenAt m f n (openR m f n) := by
  rw [openR_eq] at h ⊢
  have i0 := getR_num m f n 0
  have i1 := getR_num m f n ((n / 2 : Nat) : Int)
  unfold OpenAt
  rcases hG : getR m f n 0 with ⟨t0, n0, e0⟩
  rcases hH : getR m f n ((n / 2 : Nat) : Int) with ⟨t1, n1, e1⟩
  rw [hG] at i0
  rw [hH] at i1
  rw [hG, hH] at h
  unfold openStep at h ⊢
  simp only at h i0 i1 ⊢
  by_cases c0 : e0 = 0 ∧ fits (n / 2) t0 = true ∧ 0 < n0
  · rw [if_pos c0] at h ⊢
    simp only at h ⊢
    by_cases c1 : e1 = 0 ∧ fits (n / 2) t1 = true ∧ n0 < n1
    · rw [if_pos c1]
      exact ⟨i1 c1.1, c1.2.1, .inr ⟨rfl, by rw [c1.1]⟩⟩
    · rw [if_neg c1]
      exact ⟨i0 c0.1, c0.2.1, .inl ⟨rfl, by rw [c0.1]⟩⟩
  · rw [if_neg c0] at h ⊢
    simp only at h ⊢
    by_cases c1 : e1 = 0 ∧ fits (n / 2) t1 = true ∧ 0 < n1
    · rw [if_pos c1]
      exact ⟨i1 c1.1, c1.2.1, .inr ⟨rfl, by rw [c1.1]⟩⟩
    · rw [if_neg c1] at h
      exact absurd rfl h
theorem step_yes (h : Nat) (st : ByteArray × Int × Int) (i : Int) (G : ByteArray × Int × Int) (h0 : G.2.2 = 0) (hf : fits h G.1 = true) (hn : st.2.1 < G.2.1) : openStep h st i G = (G.1, G.2.1, i) := if_pos ⟨h0, hf, hn⟩
theorem step_no (h : Nat) (st : ByteArray × Int × Int) (i : Int) (G : ByteArray × Int × Int) (hn : ¬ (G.2.2 = 0 ∧ fits h G.1 = true ∧ st.2.1 < G.2.1)) : openStep h st i G = st := if_neg hn
/-- Of two copies the later one is opened. -/
theorem open_both (m : DM) (f n : Nat) (s t : ByteArray) (i k : Int) (hs : fits (n / 2) s = true) (hi : 0 < i) :
    (getR m f n 0 = (s, i, 0) → (getR m f n ((n / 2 : Nat) : Int) = (t, k, 0) → fits (n / 2) t = true → i < k → openR m f n = (t, k, 1)) ∧ (getR m f n ((n / 2 : Nat) : Int) = (t, k, 0) → k ≤ i → openR m f n = (s, i, 0)) ∧ ((getR m f n ((n / 2 : Nat) : Int)).2.2 ≠ 0 → openR m f n = (s, i, 0))) ∧
    (getR m f n ((n / 2 : Nat) : Int) = (s, i, 0) → (getR m f n 0 = (t, k, 0) → fits (n / 2) t = true → 0 < k → i ≤ k → openR m f n = (t, k, 0)) ∧ (getR m f n 0 = (t, k, 0) → k < i → openR m f n = (s, i, 1)) ∧ ((getR m f n 0).2.2 ≠ 0 → openR m f n = (s, i, 1))) := by
  constructor
  · intro h0
    have e0 : openStep (n / 2) (⟨#[]⟩, 0, 0) 0 (getR m f n 0) = (s, i, 0) := by
      rw [h0]
      exact step_yes _ _ _ _ rfl hs hi
    refine ⟨fun h1 ht hik => ?_, fun h1 hik => ?_, fun h1 => ?_⟩
    all_goals rw [openR_eq, e0]
    · rw [h1]
      exact step_yes _ _ _ _ rfl ht hik
    · rw [h1]
      exact step_no _ _ _ _ (fun h => by have := h.2.2; simp only at this; omega)
    · exact step_no _ _ _ _ (fun h => h1 h.1)
  · intro h1
    refine ⟨fun h0 ht hk hik => ?_, fun h0 hik => ?_, fun h0 => ?_⟩
    all_goals rw [openR_eq, h1]
    · rw [h0, step_yes (n / 2) (⟨#[]⟩, 0, 0) 0 (t, k, 0) rfl ht hk]
      exact step_no _ _ _ _ (fun h => by have := h.2.2; simp only at this; omega)
    · rw [h0]
      by_cases ht : fits (n / 2) t = true ∧ 0 < k
      · rw [step_yes (n / 2) (⟨#[]⟩, 0, 0) 0 (t, k, 0) rfl ht.1 ht.2]
        exact step_yes _ _ _ _ rfl hs hik
      · rw [step_no (n / 2) (⟨#[]⟩, 0, 0) 0 (t, k, 0) (fun h => ht h.2)]
        exact step_yes _ _ _ _ rfl hs hi
    · rw [step_no (n / 2) (⟨#[]⟩, 0, 0) 0 (getR m f n 0) (fun h => h0 h.1)]
      exact step_yes _ _ _ _ rfl hs hi
/-- Behind a save that went well the new text is opened. -/
theorem open_lay (m m' : DM) (hok : m.Ok) (f h : Nat) (st : ByteArray × Int × Int) (σ : Nat) (s : ByteArray) (h2 : 2 ≤ h) (haw : m.away = false) (haw' : m'.away = false) (hfn : f + 2 * h ≤ m.len) (hfn' : f + 2 * h ≤ m'.len) (hst : OpenAt m f (2 * h) st)
    (hσ : (σ : Int) = 1 - st.2.2) (hc : canLay (st.2.1 + 1) s = true) (hs : secsOf s.size ≤ h)
    (hq : ∀ q, m'.now.getD q ⟨#[]⟩ = if f + σ * h ≤ q ∧ q < f + σ * h + h then (if q < f + σ * h + secsOf s.size then laySec (st.2.1 + 1) s (q - (f + σ * h)) else zeroS 32) else m.now.getD q ⟨#[]⟩) :
    openR m' f (2 * h) = (s, st.2.1 + 1, (σ : Int)) := by
  obtain ⟨o1, o2, o3⟩ := hst
  have e2 : 2 * h / 2 = h := by omega
  rw [e2] at o2 o3
  obtain ⟨f1, f2⟩ := fits_iff.1 o2
  have hN : 1 ≤ st.2.1 := by
    unfold isNum at o1
    simp at o1
    omega
  have hfs : fits h s = true := fits_iff.2 ⟨(canLay_iff.1 hc).2, hs⟩
  have hb := open_both m' f (2 * h) st.1 s st.2.1 (st.2.1 + 1) (by rw [e2]; exact o2) (by omega)
  rw [e2] at hb
  rcases o3 with ⟨s0, g0⟩ | ⟨s1, g1⟩
  · have hσ1 : σ = 1 := by omega
    subst hσ1
    have k0 : getR m' f (2 * h) ((0 : Nat) : Int) = getR m f (2 * h) ((0 : Nat) : Int) := getR_same m m' hok f (2 * h) 0 h haw haw' hfn hfn' (by omega) h2 (fun i hi => by rw [hq, if_neg (by omega)]) (by rw [show ((0 : Nat) : Int) = 0 from rfl, g0]) (by rw [show ((0 : Nat) : Int) = 0 from rfl, g0]; exact f2)
    rw [show ((0 : Nat) : Int) = 0 from rfl, g0] at k0
    have k1 := getR_here m' f (2 * h) h (st.2.1 + 1) s haw' hfn' hc (by omega) (fun i hi => by rw [hq, if_pos (by omega), if_pos (by omega), show f + h + i - (f + 1 * h) = i by omega])
    exact (hb.1 k0).1 k1 hfs (by omega)
  · have hσ0 : σ = 0 := by omega
    subst hσ0
    have k1 : getR m' f (2 * h) ((h : Nat) : Int) = getR m f (2 * h) ((h : Nat) : Int) := getR_same m m' hok f (2 * h) h h haw haw' hfn hfn' (by omega) h2 (fun i hi => by rw [hq, if_neg (by omega)]) (by rw [g1]) (by rw [g1]; exact f2)
    rw [g1] at k1
    have k0 := getR_here m' f (2 * h) 0 (st.2.1 + 1) s haw' hfn' hc (by omega) (fun i hi => by rw [hq, if_pos (by omega), if_pos (by omega), show f + 0 + i - (f + 0 * h) = i by omega])
    rw [show ((0 : Nat) : Int) = 0 from rfl] at k0
    exact (hb.2 k1).1 k0 hfs (by omega) (by omega)
end Go.Proofs.Ytmogkiacakkmbaa
