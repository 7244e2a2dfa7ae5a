/- The law SlotAll: what the chunks of a text's slots hold. -/
import Derived.Test.YtmogkiacakkmbaaSlotG
namespace Go.Proofs.Ytmogkiacakkmbaa

theorem secsOf_mono {a b : Nat} (h : a ≤ b) : secsOf a ≤ secsOf b := by unfold secsOf; omega
theorem secsOf_three {k : Nat} (h : k ≤ 40) : secsOf k ≤ 3 := by unfold secsOf; omega

/-- Of a text's chunks those of l are there. -/
structure HoldC (m : DM) (N k n : Nat) (s : ByteArray) (l : List Bool) : Prop where
  ex : ∃ st, Chk m 0 N (secsOf k) n st ∧ ∀ q, q < n → (l.getD q false = true ∧ st q = some (9, cutAt s k q)) ∨ (l.getD q false = false ∧ st q = none)
  len : m.len = N
  ll : l.length = n

theorem HoldC.aw {m : DM} {N k n : Nat} {s : ByteArray} {l : List Bool} (h : HoldC m N k n s l) : m.away = false := by
  obtain ⟨st, h1, _⟩ := h.ex
  exact h1.aw
theorem HoldC.start (k n : Nat) (s : ByteArray) (hn : n ≤ 20) (hk : k ≤ 40) : HoldC (DM.fresh (n * 3)) (n * 3) k n s (List.replicate n false) := by
  have h3 := secsOf_three hk
  refine ⟨⟨fun _ => none, Chk.fresh (n * 3) (secsOf k) n (by omega) (secsOf_two k) (Nat.mul_le_mul_left n h3), fun q hq => .inr ⟨?_, rfl⟩⟩, ?_, List.length_replicate⟩
  · rw [List.getD_eq_getElem?_getD, List.getElem?_replicate, if_pos hq]
    rfl
  · unfold DM.len DM.fresh
    exact List.length_replicate
theorem HoldC.put {m : DM} {N k n : Nat} {s : ByteArray} {l : List Bool} (h : HoldC m N k n s l) (hk : k ≤ 40) (p : Nat) (hp : p < n) :
    (putR m 0 N ((p : Int) * (secsOf k : Int)) 9 (cutAt s k p)).2 = 0 ∧ HoldC (putR m 0 N ((p : Int) * (secsOf k : Int)) 9 (cutAt s k p)).1 N k n s (l.set p true) ∧ (putR m 0 N ((p : Int) * (secsOf k : Int)) 9 (cutAt s k p)).1.loose.length ≤ m.loose.length + 40 := by
  obtain ⟨st, h1, h2⟩ := h.ex
  have hz := cutAt_size s k p
  obtain ⟨a1, a2, _⟩ := h1.put p hp 9 (cutAt s k p) (canLay_iff.2 ⟨by decide, by omega⟩) (secsOf_mono hz)
  refine ⟨a1, ⟨⟨_, a2, fun q hq => ?_⟩, by rw [putR_len]; exact h.len, by rw [List.length_set]; exact h.ll⟩, putR_few _ _ _ _ _ _ (by omega)⟩
  have hl := h.ll
  by_cases e : q = p
  · subst e
    refine .inl ⟨?_, if_pos rfl⟩
    rw [List.getD_eq_getElem?_getD, List.getElem?_set_self (by omega)]
    rfl
  · have : (l.set p true).getD q false = l.getD q false := by
      rw [List.getD_eq_getElem?_getD, List.getElem?_set_ne (fun e' => e e'.symm), ← List.getD_eq_getElem?_getD]
    rw [this]
    simp only [if_neg e]
    exact h2 q hq
theorem HoldC.slot {m : DM} {N k n : Nat} {s : ByteArray} {l : List Bool} (h : HoldC m N k n s l) (q : Nat) (hq : q < n) :
    slotG k (getR m 0 N ((q : Int) * (secsOf k : Int))) = if l.getD q false then (cutAt s k q, 9, 0) else (⟨#[]⟩, 0, 5) := by
  obtain ⟨st, h1, h2⟩ := h.ex
  rcases h2 q hq with ⟨e1, e2⟩ | ⟨e1, e2⟩
  · rw [slotG_some h1 q 9 _ hq e2 (cutAt_size s k q), e1]
    rfl
  · rw [slotG_none h1 q hq e2, e1]
    rfl
theorem HoldC.scan {m : DM} {N k n : Nat} {s : ByteArray} {l : List Bool} (h : HoldC m N k n s l) : scanJ m 0 N k 9 n n = l := by
  have hl := scanJ_length m 0 N k 9 n n
  refine List.ext_getElem (by rw [hl, h.ll]) fun q h1 h2 => ?_
  have hq : q < n := by omega
  have e := scanJ_getD m 0 N k 9 n n (Nat.le_refl _) q hq
  rw [h.slot q hq] at e
  have e1 : (scanJ m 0 N k 9 n n).getD q false = (scanJ m 0 N k 9 n n)[q] := by rw [List.getD_eq_getElem?_getD, List.getElem?_eq_getElem h1]; rfl
  have e2 : l.getD q false = l[q] := by rw [List.getD_eq_getElem?_getD, List.getElem?_eq_getElem h2]; rfl
  rw [← e1, ← e2, e]
  cases l.getD q false <;> simp [hq]
theorem HoldC.bad {m : DM} {N k n : Nat} {s : ByteArray} {l : List Bool} (h : HoldC m N k n s l) (p : Nat) (hp : p < n) (h0 : l.getD p false = false) : gotJ m 0 N k 9 n = none :=
  gotJ_no m 0 N k 9 p n hp (by rw [h.slot p hp, h0, if_neg (by decide)]; decide)
theorem HoldC.all {m : DM} {N k n : Nat} {s : ByteArray} {l : List Bool} (h : HoldC m N k n s l) (ha : ∀ q, q < n → l.getD q false = true) (hs : s.size ≤ n * k) : gotJ m 0 N k 9 n = some (bl s) := by
  rw [gotJ_cuts m 0 N k 9 s k n (fun q hq => by rw [h.slot q hq, ha q hq]; rfl), List.take_of_length_le (by rw [bl_length]; exact hs)]
theorem HoldC.other {m : DM} {N k n : Nat} {s : ByteArray} {l : List Bool} (h : HoldC m N k n s l) (p : Nat) (hp : p < n) :
    (putR m 0 N ((p : Int) * (secsOf k : Int)) 8 ⟨#[120]⟩).2 = 0 ∧ gotJ (putR m 0 N ((p : Int) * (secsOf k : Int)) 8 ⟨#[120]⟩).1 0 N k 9 n = none ∧ (putR m 0 N ((p : Int) * (secsOf k : Int)) 8 ⟨#[120]⟩).1.away = false ∧ (putR m 0 N ((p : Int) * (secsOf k : Int)) 8 ⟨#[120]⟩).1.loose.length ≤ m.loose.length + 40 := by
  obtain ⟨st, h1, h2⟩ := h.ex
  obtain ⟨a1, a2, _⟩ := h1.put p hp 8 ⟨#[120]⟩ (by decide) (by
    have : secsOf (⟨#[120]⟩ : ByteArray).size = 2 := by decide
    rw [this]
    exact secsOf_two k)
  refine ⟨a1, gotJ_no _ 0 N k 9 p n hp fun c => ?_, a2.aw, putR_few _ _ _ _ _ _ (by decide)⟩
  have hg := (a2.some p 8 ⟨#[120]⟩ hp (if_pos rfl)).1
  rw [hg] at c
  unfold slotG at c
  split at c
  · exact absurd c.1 (by decide)
  · exact absurd c.2 (by decide)

theorem firstN_cases (l : List Bool) : (firstN l = -1 ∧ ∀ j, j < l.length → l.getD j false = true) ∨ ∃ p, p < l.length ∧ firstN l = (p : Int) ∧ l.getD p false = false ∧ ∀ j, j < p → l.getD j false = true := by
  cases h : l.findIdx? (fun x => x == false) with
  | none =>
    refine .inl ⟨by unfold firstN; rw [h], fun j hj => ?_⟩
    rw [List.findIdx?_eq_none_iff] at h
    have := h l[j] (List.getElem_mem hj)
    rw [List.getD_eq_getElem?_getD, List.getElem?_eq_getElem hj]
    simpa using this
  | some p =>
    rw [List.findIdx?_eq_some_iff_getElem] at h
    obtain ⟨hp, h1, h2⟩ := h
    have h0 : l.getD p false = false := by
      rw [List.getD_eq_getElem?_getD, List.getElem?_eq_getElem hp]
      simpa using h1
    have hno : ∀ j, j < p → l.getD j false = true := fun j hj => by
      have := h2 j hj
      rw [List.getD_eq_getElem?_getD, List.getElem?_eq_getElem (by omega)]
      simpa using this
    exact .inr ⟨p, hp, firstN_at hp h0 hno, h0, hno⟩

/-- How far the search for what lacks may go still. -/
def farM (n : Nat) : Value → Nat
  | .int _ x => (n - x).toNat
  | _ => n + 1
/-- The loop over what lacks. -/
structure Lacks (m : DM) (N k n : Nat) (s : ByteArray) (l : List Bool) (v : Value) : Prop where
  hold : HoldC m N k n s l
  ex : ∃ q, q ≤ n ∧ (∀ j, j < q → l.getD j false = true) ∧ m.loose.length ≤ 1200 + 40 * q ∧ ∀ p : Nat, q ≤ p → p < n → n - p < farM n v
theorem Lacks.few {m : DM} {N k n : Nat} {s : ByteArray} {l : List Bool} {v : Value} (h : Lacks m N k n s l v) (hn : n ≤ 20) : m.loose.length ≤ 2000 := by
  obtain ⟨q, h1, _, h3, _⟩ := h.ex
  omega
theorem Lacks.next {m : DM} {N k n : Nat} {s : ByteArray} {l : List Bool} {v : Value} (h : Lacks m N k n s l v) (hk : k ≤ 40) (p : Nat) (hp : p < n) (h0 : l.getD p false = false) (hno : ∀ j, j < p → l.getD j false = true) :
    Lacks (putR m 0 N ((p : Int) * (secsOf k : Int)) 9 (cutAt s k p)).1 N k n s (l.set p true) (.int .i64 (p : Int)) ∧ n - p < farM n v := by
  obtain ⟨q, h1, h2, h3, h4⟩ := h.ex
  have hqp : q ≤ p := by
    rcases Nat.lt_or_ge p q with c | c
    · rw [h2 p c] at h0; cases h0
    · exact c
  obtain ⟨a1, a2, a3⟩ := h.hold.put hk p hp
  have hl := h.hold.ll
  refine ⟨⟨a2, p + 1, hp, fun j hj => ?_, by omega, fun p' h5 h6 => ?_⟩, h4 p hqp hp⟩
  · by_cases e : j = p
    · subst e
      rw [List.getD_eq_getElem?_getD, List.getElem?_set_self (by omega)]
      rfl
    · rw [List.getD_eq_getElem?_getD, List.getElem?_set_ne (fun e' => e e'.symm), ← List.getD_eq_getElem?_getD]
      exact hno j (by omega)
  · unfold farM
    simp only
    omega
theorem Lacks.of {m : DM} {N k n : Nat} {s : ByteArray} {l : List Bool} (h : HoldC m N k n s l) (hl : m.loose.length ≤ 1200) : Lacks m N k n s l undef :=
  ⟨h, 0, Nat.zero_le _, fun j hj => by omega, by omega, fun p _ h2 => by show _ < n + 1; omega⟩
end Go.Proofs.Ytmogkiacakkmbaa
