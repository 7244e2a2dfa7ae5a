/- The law SlotApart, plain: what each place holds when chunks are put, some safe, some kept. -/
import Derived.Test.YtmogkiacakkmbaaSlotG
namespace Go.Proofs.Ytmogkiacakkmbaa

def tgt (i : Nat) : Nat := i * 7 % 5
def txtA (l : List ByteArray) (i : Nat) : ByteArray := l.getD i ⟨#[]⟩
/-- What a put writes. -/
def aptW (l : List ByteArray) (i : Nat) : List (Nat × ByteArray) := wsOf (0 + tgt i * 3) (layS ((i : Int) + 1) (txtA l i) (secsOf (txtA l i).size)) (secsOf (txtA l i).size)
def aptL (l : List ByteArray) (lo : Nat) : Nat → List (Nat × ByteArray)
  | 0 => []
  | c + 1 => aptL l lo c ++ aptW l (lo + c)
/-- The last that was put at a place. -/
def lastP (k : Nat) : Nat → Option Nat
  | 0 => none
  | c + 1 => if tgt c = k then some c else lastP k c
def laterB (n c k : Nat) : Bool := (List.range c).any fun j => decide (n ≤ j ∧ tgt j = k)
def safeT (l : List ByteArray) (k c : Nat) : ByteArray := match lastP k c with
  | none => ⟨#[]⟩
  | some j => txtA l j
/-- The first c texts are of 1 to 40 bytes. -/
def FitA (l : List ByteArray) (c : Nat) : Prop := ∀ j, j < c → 1 ≤ (txtA l j).size ∧ (txtA l j).size ≤ 40
theorem tgt_lt (i : Nat) : tgt i < 5 := Nat.mod_lt _ (by decide)
theorem FitA.secs {l : List ByteArray} {c j : Nat} (h : FitA l c) (hj : j < c) : secsOf (txtA l j).size ≤ 3 ∧ 2 ≤ secsOf (txtA l j).size := by
  have := (h j hj).2
  exact ⟨by unfold secsOf; omega, secsOf_two _⟩
theorem laterB_succ (n c k : Nat) : laterB n (c + 1) k = (laterB n c k || decide (n ≤ c ∧ tgt c = k)) := by
  unfold laterB
  rw [List.range_succ, List.any_append]
  simp
theorem laterB_iff {n c k : Nat} : laterB n c k = true ↔ ∃ j, j < c ∧ n ≤ j ∧ tgt j = k := by
  unfold laterB
  rw [List.any_eq_true]
  exact ⟨fun ⟨j, h1, h2⟩ => ⟨j, List.mem_range.1 h1, of_decide_eq_true h2⟩, fun ⟨j, h1, h2⟩ => ⟨j, List.mem_range.2 h1, decide_eq_true h2⟩⟩
theorem lastP_some {k : Nat} : ∀ {c j : Nat}, lastP k c = some j → j < c ∧ tgt j = k
  | 0, j, h => by cases h
  | c + 1, j, h => by
    unfold lastP at h
    split at h
    · injection h with h; subst h; exact ⟨Nat.lt_succ_self _, by assumption⟩
    · have := lastP_some h; exact ⟨by omega, this.2⟩
theorem aptW_mem {l : List ByteArray} {i : Nat} {x : Nat × ByteArray} (h : x ∈ aptW l i) : ∃ q, q < secsOf (txtA l i).size ∧ x = (tgt i * 3 + q, laySec ((i : Int) + 1) (txtA l i) q) := by
  unfold aptW wsOf at h
  obtain ⟨q, hq, rfl⟩ := List.mem_map.1 h
  have hq := List.mem_range.1 hq
  exact ⟨q, hq, by rw [layS_at _ _ _ _ hq, Nat.zero_add]⟩
theorem aptL_mem {l : List ByteArray} {lo : Nat} : ∀ {c : Nat} {x : Nat × ByteArray}, x ∈ aptL l lo c → ∃ j q, lo ≤ j ∧ j < lo + c ∧ q < secsOf (txtA l j).size ∧ x = (tgt j * 3 + q, laySec ((j : Int) + 1) (txtA l j) q)
  | 0, x, h => by cases h
  | c + 1, x, h => by
    rcases List.mem_append.1 h with h | h
    · obtain ⟨j, q, h1, h2, h3, h4⟩ := aptL_mem h
      exact ⟨j, q, h1, by omega, h3, h4⟩
    · obtain ⟨q, h1, h2⟩ := aptW_mem h
      exact ⟨lo + c, q, by omega, by omega, h1, h2⟩
theorem aptL_length {l : List ByteArray} {N lo : Nat} (h : FitA l N) : ∀ c, lo + c ≤ N → (aptL l lo c).length ≤ 3 * c
  | 0, _ => Nat.le_refl _
  | c + 1, hc => by
    unfold aptL
    rw [List.length_append]
    have := aptL_length (lo := lo) h c (by omega)
    have h2 := (h.secs (show lo + c < N by omega)).1
    have : (aptW l (lo + c)).length = secsOf (txtA l (lo + c)).size := by unfold aptW; rw [wsOf_length]
    omega

theorem getD_setP (S : List ByteArray) (i p : Nat) (v z : ByteArray) : (S.set i v).getD p z = S.getD p z ∨ (i = p ∧ (S.set i v).getD p z = v) := by
  by_cases h : i < S.length
  · rw [getD_set S i p v z h]
    by_cases e : p = i
    · exact .inr ⟨e.symm, by rw [if_pos e]⟩
    · exact .inl (by rw [if_neg e])
  · rw [List.set_eq_of_length_le (by omega)]
    exact .inl rfl
theorem laid_one (p : Nat) (z : ByteArray) : ∀ (ws : List (Nat × ByteArray)) (S : List ByteArray), (laid S ws).getD p z = S.getD p z ∨ ∃ x ∈ ws, x.1 = p ∧ (laid S ws).getD p z = x.2
  | [], S => .inl rfl
  | w :: ws, S => by
    rw [laid_cons]
    rcases laid_one p z ws (S.set w.1 w.2) with h | ⟨x, h1, h2, h3⟩
    · rw [h]
      rcases getD_setP S w.1 p w.2 z with h4 | ⟨h4, h5⟩
      · exact .inl h4
      · exact .inr ⟨w, List.mem_cons_self, h4, h5⟩
    · exact .inr ⟨x, List.mem_cons_of_mem _ h1, h2, h3⟩

/-- A disk whose power is there, without a fuse. -/
structure AptD (m : DM) (S : List ByteArray) (ws : List (Nat × ByteArray)) : Prop where
  ok : m.Ok
  aw : m.away = false
  fu : m.fuse = -1
  sa : m.safe = S
  lo : m.loose = ws
  le : S.length = 16
theorem AptD.len {m : DM} {S : List ByteArray} {ws : List (Nat × ByteArray)} (h : AptD m S ws) : m.len = 16 := by unfold DM.len; rw [h.sa]; exact h.le
theorem AptD.fresh : AptD (DM.fresh 16) (List.replicate 16 (zeroS 32)) [] := by
  refine ⟨?_, rfl, rfl, rfl, rfl, List.length_replicate⟩
  rw [← DM.of_zero 16 (by decide)]
  exact DM.of_ok _
theorem AptD.put {m : DM} {S : List ByteArray} {ws : List (Nat × ByteArray)} (h : AptD m S ws) (p : Nat) (hp : p < 5) (g : Int) (s : ByteArray) (hg : isNum g = true) (hs : s.size ≤ 40) :
    (putR m 0 16 ((p : Int) * 3) g s).2 = 0 ∧ AptD (putR m 0 16 ((p : Int) * 3) g s).1 S (ws ++ wsOf (0 + p * 3) (layS g s (secsOf s.size)) (secsOf s.size)) := by
  have h3 : secsOf s.size ≤ 3 := by unfold secsOf; omega
  obtain ⟨dn, e⟩ := putR_free m 0 16 (p * 3) g s h.aw h.fu (by rw [h.len]; exact Nat.le_refl _) (canLay_iff.2 ⟨hg, by omega⟩) (by omega)
  rw [Int.natCast_mul] at e
  have e : putR m 0 16 ((p : Int) * 3) g s = _ := e
  have hok := putR_ok h.ok 0 16 ((p : Int) * 3) g s
  rw [e] at hok ⊢
  exact ⟨rfl, hok, h.aw, h.fu, h.sa, by rw [← h.lo], h.le⟩
theorem AptD.sync {m : DM} {S : List ByteArray} {ws : List (Nat × ByteArray)} (h : AptD m S ws) : m.syncE = 0 ∧ AptD m.sync (laid S ws) [] := by
  have hok := h.ok.sync
  have e : m.sync = { m.used with safe := m.now, loose := [] } := by
    unfold DM.sync
    rw [h.aw, h.fu]
    rfl
  have e2 : m.syncE = 0 := by
    unfold DM.syncE DM.useE
    rw [h.aw, h.fu]
    rfl
  rw [e] at hok ⊢
  refine ⟨e2, hok, h.aw, ?_, ?_, rfl, by rw [laid_length]; exact h.le⟩
  · show max (m.fuse - 1) (-1) = -1
    rw [h.fu]
    rfl
  · show laid m.safe m.loose = _
    rw [h.sa, h.lo]
theorem AptD.cut {m : DM} {S : List ByteArray} {ws : List (Nat × ByteArray)} (h : AptD m S ws) (keep : List Bool) : AptD (m.cut keep).come (laid S (keptL keep ws)) [] := by
  have hok := (h.ok.cut keep).come
  have e : (m.cut keep).come = { m with safe := laid m.safe (keptL keep m.loose), loose := [], away := false, fuse := -1 } := by
    unfold DM.cut DM.come
    rw [h.aw]
    rfl
  rw [e] at hok ⊢
  exact ⟨hok, rfl, rfl, by rw [← h.sa, ← h.lo], rfl, by rw [laid_length]; exact h.le⟩

/-- What stands at a place that was put: the last of all, and behind it what may stand of others. -/
theorem base_last (l : List ByteArray) (k : Nat) (hk : k < 5) (N : Nat) (hF : FitA l N) : ∀ c, c ≤ N → ∀ q, q < 3 →
    (∀ j, lastP k c = some j → q < secsOf (txtA l j).size → (laid (List.replicate 16 (zeroS 32)) (aptL l 0 c)).getD (k * 3 + q) ⟨#[]⟩ = laySec ((j : Int) + 1) (txtA l j) q) ∧
    ((laid (List.replicate 16 (zeroS 32)) (aptL l 0 c)).getD (k * 3 + q) ⟨#[]⟩ = zeroS 32 ∨ ∃ j, j < c ∧ tgt j = k ∧ q < secsOf (txtA l j).size ∧ (laid (List.replicate 16 (zeroS 32)) (aptL l 0 c)).getD (k * 3 + q) ⟨#[]⟩ = laySec ((j : Int) + 1) (txtA l j) q) ∧
    (lastP k c = none → (laid (List.replicate 16 (zeroS 32)) (aptL l 0 c)).getD (k * 3 + q) ⟨#[]⟩ = zeroS 32)
  | 0, _, q, hq => by
    have h0 : (laid (List.replicate 16 (zeroS 32)) (aptL l 0 0)).getD (k * 3 + q) ⟨#[]⟩ = zeroS 32 := by
      show (List.replicate 16 (zeroS 32)).getD _ _ = _
      rw [List.getD_eq_getElem?_getD, List.getElem?_replicate, if_pos (by omega)]
      rfl
    exact ⟨fun j h => (by cases h), .inl h0, fun _ => h0⟩
  | c + 1, hc, q, hq => by
    obtain ⟨i1, i2, i3⟩ := base_last l k hk N hF c (by omega) q hq
    have hs := hF.secs (show c < N by omega)
    have ht := tgt_lt c
    have hlen : (laid (List.replicate 16 (zeroS 32)) (aptL l 0 c)).length = 16 := by rw [laid_length, List.length_replicate]
    have e : (laid (List.replicate 16 (zeroS 32)) (aptL l 0 (c + 1))).getD (k * 3 + q) ⟨#[]⟩ = if tgt c * 3 ≤ k * 3 + q ∧ k * 3 + q < tgt c * 3 + secsOf (txtA l c).size then laySec ((c : Int) + 1) (txtA l c) (k * 3 + q - tgt c * 3) else (laid (List.replicate 16 (zeroS 32)) (aptL l 0 c)).getD (k * 3 + q) ⟨#[]⟩ := by
      show (laid _ (aptL l 0 c ++ aptW l (0 + c))).getD _ _ = _
      rw [laid_append, Nat.zero_add]
      unfold aptW
      rw [laid_ws _ _ _ _ _ _ (by rw [hlen]; omega)]
      simp only [Nat.zero_add]
      split
      · rw [layS_at _ _ _ _ (by omega)]
      · rfl
    by_cases hk' : tgt c = k
    · have el : lastP k (c + 1) = some c := by unfold lastP; rw [if_pos hk']
      rw [e, el]
      by_cases hqs : q < secsOf (txtA l c).size
      · rw [if_pos (by omega), show k * 3 + q - tgt c * 3 = q by omega]
        exact ⟨fun j h _ => (by injection h with h; subst h; rfl), .inr ⟨c, by omega, hk', hqs, rfl⟩, fun h => (by cases h)⟩
      · rw [if_neg (by omega)]
        refine ⟨fun j h h2 => (by injection h with h; subst h; omega), ?_, fun h => (by cases h)⟩
        rcases i2 with h | ⟨j, h1, h2, h3, h4⟩
        · exact .inl h
        · exact .inr ⟨j, by omega, h2, h3, h4⟩
    · have el : lastP k (c + 1) = lastP k c := by rw [lastP, if_neg hk']
      rw [e, el, if_neg (by omega)]
      refine ⟨i1, ?_, i3⟩
      rcases i2 with h | ⟨j, h1, h2, h3, h4⟩
      · exact .inl h
      · exact .inr ⟨j, by omega, h2, h3, h4⟩

section
variable {M : DM} {S : List ByteArray} (hM : AptD M S []) (l : List ByteArray) (N : Nat) (hN : N ≤ 1000) (hF : FitA l N) (k : Nat) (hk : k < 5)
  (hC : ∀ q, q < 3 → S.getD (k * 3 + q) ⟨#[]⟩ = zeroS 32 ∨ ∃ j, j < N ∧ q < secsOf (txtA l j).size ∧ S.getD (k * 3 + q) ⟨#[]⟩ = laySec ((j : Int) + 1) (txtA l j) q)
include hM hk in
theorem apt_read (q : Nat) (hq : q < 3) : zreadE M 0 16 ((k : Int) * 3 + (q : Int)) = 0 ∧ zread M 0 16 ((k : Int) * 3 + (q : Int)) = S.getD (k * 3 + q) ⟨#[]⟩ := by
  obtain ⟨r1, r2⟩ := zread_free M 0 16 (k * 3 + q) hM.aw (by rw [hM.len]; exact Nat.le_refl _) (by omega)
  rw [Int.natCast_add, Int.natCast_mul] at r1 r2
  refine ⟨r1, r2.trans ?_⟩
  unfold DM.now
  rw [hM.lo, hM.sa, Nat.zero_add]
  rfl
include hM hk in
theorem apt_zero (h0 : S.getD (k * 3) ⟨#[]⟩ = zeroS 32) : getR M 0 16 ((k : Int) * 3) = (⟨#[]⟩, 0, 5) := by
  obtain ⟨r1, r2⟩ := apt_read hM k hk 0 (by decide)
  simp only [Nat.add_zero, Int.natCast_zero, Int.add_zero] at r1 r2
  exact getR_none M 0 16 _ r1 (by rw [r2]; exact h0)
include hM hN hF hk hC in
theorem apt_first (j : Nat) (hj : j < N) (h0 : S.getD (k * 3) ⟨#[]⟩ = laySec ((j : Int) + 1) (txtA l j) 0) :
    (getR M 0 16 ((k : Int) * 3) = (txtA l j, (j : Int) + 1, 0) ∨ getR M 0 16 ((k : Int) * 3) = (⟨#[]⟩, 0, 5)) ∧
    ((∀ q, q < secsOf (txtA l j).size → S.getD (k * 3 + q) ⟨#[]⟩ = laySec ((j : Int) + 1) (txtA l j) q) → getR M 0 16 ((k : Int) * 3) = (txtA l j, (j : Int) + 1, 0)) := by
  have hnum : ∀ j, j < N → isNum ((j : Int) + 1) = true := fun j hj => by unfold isNum; simp; omega
  have hs := hF.secs hj
  have hr := fun q hq => apt_read hM k hk q hq
  obtain ⟨g1, g2⟩ := getR_mix M 0 16 ((k : Int) * 3) ((j : Int) + 1) (txtA l j) (hnum j hj) (by have := (hF j hj).2; omega) (fun q hq => (hr q (by omega)).1) (by
    have := (hr 0 (by decide)).2
    simp only [Nat.add_zero, Int.natCast_zero, Int.add_zero] at this
    rw [this]
    exact h0) (fun q hq => by
    rw [(hr q (by omega)).2]
    intro hsn
    rcases hC q (by omega) with h | ⟨j', h1, h2, h3⟩
    · rw [h, secNum_zero] at hsn
      omega
    · rw [h3, secNum_lay _ _ _ (hnum j' h1) h2] at hsn
      have : j' = j := by omega
      subst this
      exact h3)
  have g1' : (∀ q, q < secsOf (txtA l j).size → S.getD (k * 3 + q) ⟨#[]⟩ = laySec ((j : Int) + 1) (txtA l j) q) → getR M 0 16 ((k : Int) * 3) = (txtA l j, (j : Int) + 1, 0) := fun h => g1 fun q hq => by rw [(hr q (by omega)).2]; exact h q hq
  refine ⟨?_, g1'⟩
  by_cases hall : ∀ q, q < secsOf (txtA l j).size → S.getD (k * 3 + q) ⟨#[]⟩ = laySec ((j : Int) + 1) (txtA l j) q
  · exact .inl (g1' hall)
  · exact .inr (g2 fun h => hall fun q hq => by rw [← (hr q (by omega)).2]; exact h q hq)
end

/-- What the law asks of each place. -/
theorem apt_law {M : DM} (l : List ByteArray) (n c : Nat) (keep : List Bool) (hN : n + c ≤ 1000) (hF : FitA l (n + c)) (hM : AptD M (laid (laid (List.replicate 16 (zeroS 32)) (aptL l 0 n)) (keptL keep (aptL l n c))) []) (k : Nat) (hk : k < 5) :
    ∃ t g f, slotG 40 (getR M 0 16 ((k : Int) * 3)) = (t, g, f) ∧
      (laterB n (n + c) k = true → f ≠ 0 ∨ t = safeT l k n ∨ ∃ i, n ≤ i ∧ i < n + c ∧ tgt i = k ∧ t = txtA l i) ∧
      (laterB n (n + c) k = false → (safeT l k n = ⟨#[]⟩ ∧ f ≠ 0) ∨ (safeT l k n ≠ ⟨#[]⟩ ∧ f = 0 ∧ t = safeT l k n)) := by
  have hB := fun q hq => base_last l k hk (n + c) hF n (by omega) q hq
  have hkept : ∀ q, q < 3 → (laid (laid (List.replicate 16 (zeroS 32)) (aptL l 0 n)) (keptL keep (aptL l n c))).getD (k * 3 + q) ⟨#[]⟩ = (laid (List.replicate 16 (zeroS 32)) (aptL l 0 n)).getD (k * 3 + q) ⟨#[]⟩ ∨
      ∃ j, n ≤ j ∧ j < n + c ∧ tgt j = k ∧ q < secsOf (txtA l j).size ∧ (laid (laid (List.replicate 16 (zeroS 32)) (aptL l 0 n)) (keptL keep (aptL l n c))).getD (k * 3 + q) ⟨#[]⟩ = laySec ((j : Int) + 1) (txtA l j) q := fun q hq => by
    rcases laid_one (k * 3 + q) ⟨#[]⟩ (keptL keep (aptL l n c)) (laid (List.replicate 16 (zeroS 32)) (aptL l 0 n)) with h | ⟨x, h1, h2, h3⟩
    · exact .inl h
    · obtain ⟨j, q', h4, h5, h6, rfl⟩ := aptL_mem (keptL_sub _ _ x h1)
      have hs := (hF.secs h5).1
      simp only at h2
      have e1 : tgt j = k := by omega
      have e2 : q' = q := by omega
      subst e1 e2
      exact .inr ⟨j, h4, h5, rfl, h6, h3⟩
  generalize laid (laid (List.replicate 16 (zeroS 32)) (aptL l 0 n)) (keptL keep (aptL l n c)) = S at *
  generalize laid (List.replicate 16 (zeroS 32)) (aptL l 0 n) = B at *
  have hC : ∀ q, q < 3 → S.getD (k * 3 + q) ⟨#[]⟩ = zeroS 32 ∨ ∃ j, j < n + c ∧ q < secsOf (txtA l j).size ∧ S.getD (k * 3 + q) ⟨#[]⟩ = laySec ((j : Int) + 1) (txtA l j) q := fun q hq => by
    rcases hkept q hq with h | ⟨j, h1, h2, _, h3, h4⟩
    · rw [h]
      rcases (hB q hq).2.1 with h | ⟨j, h1, _, h3, h4⟩
      · exact .inl h
      · exact .inr ⟨j, by omega, h3, h4⟩
    · exact .inr ⟨j, h2, h3, h4⟩
  have hne : ∀ j, j < n + c → txtA l j ≠ ⟨#[]⟩ := fun j hj h => by
    have := (hF j hj).1
    rw [h] at this
    exact absurd this (by decide)
  have slot_ok : ∀ j, j < n + c → slotG 40 (txtA l j, (j : Int) + 1, 0) = (txtA l j, (j : Int) + 1, 0) := fun j hj => by
    unfold slotG
    rw [if_neg (fun h => by have h2 := h.2; have := (hF j hj).2; simp only at h2; omega)]
  have slot_no : slotG 40 (⟨#[]⟩, 0, 5) = (⟨#[]⟩, 0, 5) := rfl
  by_cases hl : laterB n (n + c) k = true
  · -- the first sector
    have h0 := hkept 0 (by decide)
    simp only [Nat.add_zero] at h0
    rcases h0 with h | ⟨j, h1, h2, h3, h4, h5⟩
    · cases hlast : lastP k n with
      | none =>
        have hz := (hB 0 (by decide)).2.2 hlast
        simp only [Nat.add_zero] at hz
        rw [apt_zero hM k hk (h.trans hz), slot_no]
        exact ⟨_, _, _, rfl, fun _ => .inl (by decide), fun h' => by rw [hl] at h'; cases h'⟩
      | some j0 =>
        obtain ⟨hj0, ht0⟩ := lastP_some hlast
        have hz := (hB 0 (by decide)).1 j0 hlast (by have := secsOf_two (txtA l j0).size; omega)
        simp only [Nat.add_zero] at hz
        have e : safeT l k n = txtA l j0 := by unfold safeT; rw [hlast]
        rcases (apt_first hM l (n + c) hN hF k hk hC j0 (by omega) (h.trans hz)).1 with g | g
        · rw [g, slot_ok j0 (by omega), e]
          exact ⟨_, _, _, rfl, fun _ => .inr (.inl rfl), fun h' => by rw [hl] at h'; cases h'⟩
        · rw [g, slot_no]
          exact ⟨_, _, _, rfl, fun _ => .inl (by decide), fun h' => by rw [hl] at h'; cases h'⟩
    · rcases (apt_first hM l (n + c) hN hF k hk hC j h2 h5).1 with g | g
      · rw [g, slot_ok j h2]
        exact ⟨_, _, _, rfl, fun _ => .inr (.inr ⟨j, h1, h2, h3, rfl⟩), fun h' => by rw [hl] at h'; cases h'⟩
      · rw [g, slot_no]
        exact ⟨_, _, _, rfl, fun _ => .inl (by decide), fun h' => by rw [hl] at h'; cases h'⟩
  · have hno : ∀ q, q < 3 → S.getD (k * 3 + q) ⟨#[]⟩ = B.getD (k * 3 + q) ⟨#[]⟩ := fun q hq => by
      rcases hkept q hq with h | ⟨j, h1, h2, h3, _⟩
      · exact h
      · exact absurd (laterB_iff.2 ⟨j, h2, h1, h3⟩) hl
    have h0 := hno 0 (by decide)
    simp only [Nat.add_zero] at h0
    cases hlast : lastP k n with
    | none =>
      have hz := (hB 0 (by decide)).2.2 hlast
      simp only [Nat.add_zero] at hz
      have e : safeT l k n = ⟨#[]⟩ := by unfold safeT; rw [hlast]
      rw [apt_zero hM k hk (h0.trans hz), slot_no, e]
      exact ⟨_, _, _, rfl, fun h' => absurd h' hl, fun _ => .inl ⟨rfl, by decide⟩⟩
    | some j0 =>
      obtain ⟨hj0, ht0⟩ := lastP_some hlast
      have hs := hF.secs (show j0 < n + c by omega)
      have hz := (hB 0 (by decide)).1 j0 hlast (by omega)
      simp only [Nat.add_zero] at hz
      have e : safeT l k n = txtA l j0 := by unfold safeT; rw [hlast]
      have g := (apt_first hM l (n + c) hN hF k hk hC j0 (by omega) (h0.trans hz)).2 (fun q hq => by
        rw [hno q (by omega)]
        exact (hB q (by omega)).1 j0 hlast hq)
      rw [g, slot_ok j0 (by omega), e]
      exact ⟨_, _, _, rfl, fun h' => absurd h' hl, fun _ => .inr ⟨hne j0 (by omega), rfl, rfl⟩⟩

def zero16 : List ByteArray := List.replicate 16 (zeroS 32)
/-- Behind i puts, of which the first n are to be safe. -/
structure ApS (l : List ByteArray) (n i : Nat) (m : DM) (SA : List ByteArray) (LA : List Bool) : Prop where
  fit : FitA l i
  pre : i ≤ n → AptD m zero16 (aptL l 0 i)
  post : n < i → AptD m (laid zero16 (aptL l 0 n)) (aptL l n (i - n))
  sl : SA.length = 5
  ll : LA.length = 5
  sv : ∀ k, k < 5 → SA.getD k ⟨#[]⟩ = safeT l k (min i n)
  lv : ∀ k, k < 5 → LA.getD k false = laterB n i k
theorem ApS.start (l : List ByteArray) (n : Nat) : ApS l n 0 (DM.fresh 16) (List.replicate 5 ⟨#[]⟩) (List.replicate 5 false) := by
  refine ⟨fun j hj => by omega, fun _ => AptD.fresh, fun h => by omega, List.length_replicate, List.length_replicate, fun k hk => ?_, fun k hk => ?_⟩
  · rw [List.getD_eq_getElem?_getD, List.getElem?_replicate, if_pos hk, Nat.zero_min]
    rfl
  · rw [List.getD_eq_getElem?_getD, List.getElem?_replicate, if_pos hk]
    rfl
theorem ApS.few {l : List ByteArray} {n i : Nat} {m : DM} {SA : List ByteArray} {LA : List Bool} (h : ApS l n i m SA LA) (hi : i ≤ 12) : m.loose.length ≤ 100 := by
  rcases Nat.lt_or_ge n i with c | c
  · rw [(h.post c).lo]
    have := aptL_length h.fit (lo := n) (i - n) (by omega)
    omega
  · rw [(h.pre c).lo]
    have := aptL_length h.fit (lo := 0) i (by omega)
    omega
theorem ApS.len {l : List ByteArray} {n i : Nat} {m : DM} {SA : List ByteArray} {LA : List Bool} (h : ApS l n i m SA LA) : m.len = 16 := by
  rcases Nat.lt_or_ge n i with c | c
  · exact (h.post c).len
  · exact (h.pre c).len
theorem FitA.snoc {l : List ByteArray} {i : Nat} (h : FitA l i) (h1 : 1 ≤ (txtA l i).size) (h2 : (txtA l i).size ≤ 40) : FitA l (i + 1) := fun j hj => by
  rcases Nat.lt_or_ge j i with c | c
  · exact h j c
  · obtain rfl : j = i := by omega
    exact ⟨h1, h2⟩
theorem isNum_at (i : Nat) (hi : i ≤ 1000) : isNum ((i : Int) + 1) = true := by unfold isNum; simp; omega
theorem getD_setB (L : List Bool) (i k : Nat) (v : Bool) (hi : i < L.length) : (L.set i v).getD k false = if k = i then v else L.getD k false := by
  by_cases e : k = i
  · subst e
    rw [if_pos rfl, List.getD_eq_getElem?_getD, List.getElem?_set_self hi]
    rfl
  · rw [if_neg e, List.getD_eq_getElem?_getD, List.getElem?_set_ne (fun e' => e e'.symm), ← List.getD_eq_getElem?_getD]
theorem ApS.early {l : List ByteArray} {n i : Nat} {m : DM} {SA : List ByteArray} {LA : List Bool} (h : ApS l n i m SA LA) (hi : i < n) (h12 : i ≤ 1000) (h1 : 1 ≤ (txtA l i).size) (h2 : (txtA l i).size ≤ 40) :
    (putR m 0 16 ((tgt i : Int) * 3) ((i : Int) + 1) (txtA l i)).2 = 0 ∧ ApS l n (i + 1) (putR m 0 16 ((tgt i : Int) * 3) ((i : Int) + 1) (txtA l i)).1 (SA.set (tgt i) (txtA l i)) LA := by
  obtain ⟨a1, a2⟩ := (h.pre (by omega)).put (tgt i) (tgt_lt i) ((i : Int) + 1) (txtA l i) (isNum_at i h12) h2
  refine ⟨a1, h.fit.snoc h1 h2, fun _ => ?_, fun h' => by omega, by rw [List.length_set]; exact h.sl, h.ll, fun k hk => ?_, fun k hk => ?_⟩
  · show AptD _ _ (aptL l 0 i ++ aptW l (0 + i))
    rw [Nat.zero_add]
    exact a2
  · rw [getD_set _ _ _ _ _ (by rw [h.sl]; exact tgt_lt i), show min (i + 1) n = i + 1 by omega]
    have hs := h.sv k hk
    rw [show min i n = i by omega] at hs
    unfold safeT at hs ⊢
    rw [lastP]
    by_cases e : k = tgt i
    · rw [if_pos e, if_pos e.symm]
    · rw [if_neg e, if_neg (fun e' => e e'.symm)]
      exact hs
  · rw [laterB_succ, h.lv k hk, show decide (n ≤ i ∧ tgt i = k) = false from decide_eq_false (by omega), Bool.or_false]
theorem ApS.later {l : List ByteArray} {n i : Nat} {m : DM} {SA : List ByteArray} {LA : List Bool} (h : ApS l n i m SA LA) (hi : n ≤ i) {m' : DM} (hm : AptD m' (laid zero16 (aptL l 0 n)) (aptL l n (i - n))) (h12 : i ≤ 1000) (h1 : 1 ≤ (txtA l i).size) (h2 : (txtA l i).size ≤ 40) :
    (putR m' 0 16 ((tgt i : Int) * 3) ((i : Int) + 1) (txtA l i)).2 = 0 ∧ ApS l n (i + 1) (putR m' 0 16 ((tgt i : Int) * 3) ((i : Int) + 1) (txtA l i)).1 SA (LA.set (tgt i) true) := by
  obtain ⟨a1, a2⟩ := hm.put (tgt i) (tgt_lt i) ((i : Int) + 1) (txtA l i) (isNum_at i h12) h2
  refine ⟨a1, h.fit.snoc h1 h2, fun h' => by omega, fun _ => ?_, h.sl, by rw [List.length_set]; exact h.ll, fun k hk => ?_, fun k hk => ?_⟩
  · rw [show i + 1 - n = (i - n) + 1 by omega]
    show AptD _ _ (aptL l n (i - n) ++ aptW l (n + (i - n)))
    rw [show n + (i - n) = i by omega]
    exact a2
  · rw [show min (i + 1) n = n by omega]
    have := h.sv k hk
    rw [show min i n = n by omega] at this
    exact this
  · rw [laterB_succ, getD_setB _ _ _ _ (by rw [h.ll]; exact tgt_lt i), h.lv k hk]
    by_cases e : k = tgt i
    · rw [if_pos e, show decide (n ≤ i ∧ tgt i = k) = true from decide_eq_true ⟨hi, e.symm⟩, Bool.or_true]
    · rw [if_neg e, show decide (n ≤ i ∧ tgt i = k) = false from decide_eq_false (fun h => e h.2.symm), Bool.or_false]
/-- The sync, where it is due. -/
theorem ApS.sync {l : List ByteArray} {n : Nat} {m : DM} {SA : List ByteArray} {LA : List Bool} (h : ApS l n n m SA LA) : m.syncE = 0 ∧ AptD m.sync (laid zero16 (aptL l 0 n)) (aptL l n (n - n)) := by
  have := (h.pre (Nat.le_refl _)).sync
  rw [Nat.sub_self]
  exact this
/-- What the law asks behind all puts. -/
theorem ApS.law {l : List ByteArray} {n i : Nat} {m m' : DM} {SA : List ByteArray} {LA : List Bool} (h : ApS l n i m SA LA) (hn : n ≤ i) (hi : i ≤ 1000) (hm : AptD m' (laid zero16 (aptL l 0 n)) (aptL l n (i - n))) (keep : List Bool) (k : Nat) (hk : k < 5) :
    ∃ t g f, slotG 40 (getR (m'.cut keep).come 0 16 ((k : Int) * 3)) = (t, g, f) ∧
      (LA.getD k false = true → f ≠ 0 ∨ t = SA.getD k ⟨#[]⟩ ∨ ∃ j, n ≤ j ∧ j < i ∧ tgt j = k ∧ t = txtA l j) ∧
      (LA.getD k false = false → (SA.getD k ⟨#[]⟩ = ⟨#[]⟩ ∧ f ≠ 0) ∨ (SA.getD k ⟨#[]⟩ ≠ ⟨#[]⟩ ∧ f = 0 ∧ t = SA.getD k ⟨#[]⟩)) := by
  have e : n + (i - n) = i := by omega
  obtain ⟨t, g, f, h1, h2, h3⟩ := apt_law l n (i - n) keep (by omega) (by rw [e]; exact h.fit) (hm.cut keep) k hk
  rw [e] at h2 h3
  refine ⟨t, g, f, h1, ?_, ?_⟩
  · rw [h.lv k hk, h.sv k hk, show min i n = n by omega]
    exact h2
  · rw [h.lv k hk, h.sv k hk, show min i n = n by omega]
    exact h3
end Go.Proofs.Ytmogkiacakkmbaa
