/- Slots: what each chunk holds, as chunks are put. -/
import Derived.Test.YtmogkiacakkmbaaSlotF
import Derived.Test.YtmogkiacakkmbaaPutOk
namespace Go.Proofs.Ytmogkiacakkmbaa

/-- What each of cnt chunks of K sectors holds. -/
structure Chk (m : DM) (f n K cnt : Nat) (st : Nat → Option (Int × ByteArray)) : Prop where
  ok : m.Ok
  aw : m.away = false
  fu : m.fuse = -1
  fn : f + n ≤ m.len
  k2 : 2 ≤ K
  kn : cnt * K ≤ n
  none : ∀ j, j < cnt → st j = none → m.now.getD (f + j * K) ⟨#[]⟩ = zeroS 32
  some : ∀ j g s, j < cnt → st j = some (g, s) → getR m f n ((j : Int) * (K : Int)) = (s, g, 0) ∧ secsOf s.size ≤ K

theorem chunk_in {j cnt K n : Nat} (hj : j < cnt) (hk : cnt * K ≤ n) : j * K + K ≤ n := by
  have : (j + 1) * K ≤ cnt * K := Nat.mul_le_mul_right K hj
  rw [Nat.add_mul] at this
  omega
theorem Chk.fresh (n K cnt : Nat) (hn : n ≤ 4096) (h2 : 2 ≤ K) (hk : cnt * K ≤ n) : Chk (DM.fresh n) 0 n K cnt (fun _ => Option.none) := by
  have ro : (DM.fresh n).Ok := by rw [← DM.of_zero n hn]; exact DM.of_ok _
  have hl : (DM.fresh n).len = n := by unfold DM.len DM.fresh; exact List.length_replicate
  refine ⟨ro, rfl, rfl, by rw [hl]; omega, h2, hk, fun j hj _ => ?_, fun j g s _ h => by cases h⟩
  have := chunk_in hj hk
  show (List.replicate n (zeroS 32)).getD _ _ = _
  rw [List.getD_eq_getElem?_getD, List.getElem?_replicate, if_pos (by omega)]
  rfl
theorem Chk.put {m : DM} {f n K cnt : Nat} {st : Nat → Option (Int × ByteArray)} (h : Chk m f n K cnt st) (p : Nat) (hp : p < cnt) (g : Int) (s : ByteArray) (hc : canLay g s = true) (hs : secsOf s.size ≤ K) :
    (putR m f n ((p : Int) * (K : Int)) g s).2 = 0 ∧ Chk (putR m f n ((p : Int) * (K : Int)) g s).1 f n K cnt (fun j => if j = p then Option.some (g, s) else st j) ∧
      (∃ dn, (putR m f n ((p : Int) * (K : Int)) g s).1 = { m with loose := m.loose ++ wsOf (f + p * K) (layS g s (secsOf s.size)) (secsOf s.size), done := dn }) := by
  have hin := chunk_in hp h.kn
  have hfn := h.fn
  obtain ⟨dn, e⟩ := putR_free m f n (p * K) g s h.aw h.fu h.fn hc (by omega)
  rw [Int.natCast_mul] at e
  have hok := putR_ok h.ok f n ((p : Int) * (K : Int)) g s
  have hown := getR_put (putR m f n ((p : Int) * (K : Int)) g s).1 f n (p * K) g s (by rw [e]; exact h.aw) (by rw [e]; exact h.fn) hc (by omega) m.loose (by rw [e])
  rw [Int.natCast_mul] at hown
  have hnow : ∀ q z, (q < f + p * K ∨ f + p * K + secsOf s.size ≤ q) → (putR m f n ((p : Int) * (K : Int)) g s).1.now.getD q z = m.now.getD q z := fun q z hq => by
    have e1 : (putR m f n ((p : Int) * (K : Int)) g s).1.now = laid m.now (wsOf (f + p * K) (layS g s (secsOf s.size)) (secsOf s.size)) := by
      rw [e]
      unfold DM.now
      exact laid_append _ _ _
    rw [e1, laid_ws _ _ _ _ _ _ (by rw [DM.now_length]; omega), if_neg (by omega)]
  have hlen : (putR m f n ((p : Int) * (K : Int)) g s).1.len = m.len := putR_len _ _ _ _ _ _
  have haw : (putR m f n ((p : Int) * (K : Int)) g s).1.away = false := by rw [e]; exact h.aw
  have hfar : ∀ j, j < cnt → j ≠ p → ∀ i, i < K → (f + (j * K + i) < f + p * K ∨ f + p * K + secsOf s.size ≤ f + (j * K + i)) := fun j hj hne i hi => by
    rcases Nat.lt_or_gt_of_ne hne with h1 | h1
    · have : (j + 1) * K ≤ p * K := Nat.mul_le_mul_right K h1
      rw [Nat.add_mul] at this
      omega
    · have : (p + 1) * K ≤ j * K := Nat.mul_le_mul_right K h1
      rw [Nat.add_mul] at this
      omega
  refine ⟨by rw [e], ⟨hok, haw, by rw [e]; exact h.fu, by rw [hlen]; exact h.fn, h.k2, h.kn, fun j hj hn => ?_, fun j g' s' hj hs' => ?_⟩, dn, by rw [e]⟩
  · by_cases ep : j = p
    · simp only [if_pos ep] at hn
      cases hn
    · simp only [if_neg ep] at hn
      have := hfar j hj ep 0 (by have := h.k2; omega)
      rw [hnow _ _ (by omega)]
      exact h.none j hj hn
  · by_cases ep : j = p
    · simp only [if_pos ep, Option.some.injEq, Prod.mk.injEq] at hs'
      obtain ⟨rfl, rfl⟩ := hs'
      subst ep
      exact ⟨hown, hs⟩
    · simp only [if_neg ep] at hs'
      obtain ⟨h1, h2⟩ := h.some j g' s' hj hs'
      have hjn := chunk_in hj h.kn
      refine ⟨?_, h2⟩
      rw [← h1]
      refine getR_agree m _ h.ok f n f n _ _ K h.k2 (fun i hi => ?_) (by rw [h1]) (by rw [h1]; exact h2)
      obtain ⟨r1, r2⟩ := zread_free m f n (j * K + i) h.aw h.fn (by omega)
      obtain ⟨q1, q2⟩ := zread_free (putR m f n ((p : Int) * (K : Int)) g s).1 f n (j * K + i) haw (by rw [hlen]; exact h.fn) (by omega)
      rw [Int.natCast_add, Int.natCast_mul] at r1 r2 q1 q2
      exact ⟨by rw [r1, q1], by rw [r2, q2]; exact hnow _ _ (hfar j hj ep i hi)⟩
theorem slotG_some {m : DM} {f n K cnt size : Nat} {st : Nat → Option (Int × ByteArray)} (h : Chk m f n K cnt st) (j : Nat) (g : Int) (s : ByteArray) (hj : j < cnt) (hs : st j = some (g, s)) (hz : s.size ≤ size) : slotG size (getR m f n ((j : Int) * (K : Int))) = (s, g, 0) := by
  rw [(h.some j g s hj hs).1]
  unfold slotG
  rw [if_neg (fun c => by have := c.2; simp only at this; omega)]
theorem slotG_none {m : DM} {f n K cnt size : Nat} {st : Nat → Option (Int × ByteArray)} (h : Chk m f n K cnt st) (j : Nat) (hj : j < cnt) (hs : st j = none) : slotG size (getR m f n ((j : Int) * (K : Int))) = (⟨#[]⟩, 0, 5) := by
  have hin := chunk_in hj h.kn
  have h2 := h.k2
  obtain ⟨r1, r2⟩ := zread_free m f n (j * K) h.aw h.fn (by omega)
  rw [Int.natCast_mul] at r1 r2
  rw [getR_none m f n _ r1 (by rw [r2]; exact h.none j hj hs)]
  rfl

theorem scanJ_getD (m : DM) (f n size : Nat) (num : Int) (c : Nat) : ∀ j, j ≤ c → ∀ q, q < c → (scanJ m f n size num c j).getD q false = decide (q < j ∧ (slotG size (getR m f n ((q : Int) * (secsOf size : Int)))).2.2 = 0 ∧ (slotG size (getR m f n ((q : Int) * (secsOf size : Int)))).2.1 = num)
  | 0, _, q, hq => by
    unfold scanJ
    rw [List.getD_eq_getElem?_getD, List.getElem?_replicate, if_pos hq]
    simp
  | j + 1, hj, q, hq => by
    have ih := scanJ_getD m f n size num c j (by omega) q hq
    have hl := scanJ_length m f n size num c j
    unfold scanJ
    split
    · rename_i hy
      by_cases e : q = j
      · subst e
        rw [List.getD_eq_getElem?_getD, List.getElem?_set_self (by omega)]
        simp [hy]
      · rw [List.getD_eq_getElem?_getD, List.getElem?_set_ne (fun e' => e e'.symm), ← List.getD_eq_getElem?_getD, ih]
        have : q < j ↔ q < j + 1 := by omega
        simp [this]
    · rename_i hy
      rw [ih]
      by_cases e : q = j
      · subst e
        simp [hy]
      · have : q < j ↔ q < j + 1 := by omega
        simp [this]
theorem gotJ_no (m : DM) (f n size : Nat) (num : Int) (j c : Nat) (hj : j < c) (h : ¬ ((slotG size (getR m f n ((j : Int) * (secsOf size : Int)))).2.2 = 0 ∧ (slotG size (getR m f n ((j : Int) * (secsOf size : Int)))).2.1 = num)) : gotJ m f n size num c = none := by
  refine gotJ_stuck m f n size num (j + 1) c ?_ hj
  unfold gotJ
  split
  · rfl
  · rw [if_neg h]
/-- A chunk of a text. -/
def cutAt (data : ByteArray) (k j : Nat) : ByteArray := data.extract (j * k) (min (j * k + k) data.size)
theorem cutAt_size (data : ByteArray) (k j : Nat) : (cutAt data k j).size ≤ k := by
  unfold cutAt
  rw [ByteArray.size_extract]
  omega
theorem gotJ_cuts (m : DM) (f n size : Nat) (num : Int) (data : ByteArray) (k : Nat) : ∀ c : Nat, (∀ j : Nat, j < c → slotG size (getR m f n ((j : Int) * (secsOf size : Int))) = (cutAt data k j, num, 0)) → gotJ m f n size num c = some ((bl data).take (c * k))
  | 0, _ => by simp [gotJ]
  | c + 1, h => by
    unfold gotJ
    rw [gotJ_cuts m f n size num data k c (fun j hj => h j (by omega)), h c (by omega)]
    simp only [and_self, if_true]
    congr 1
    unfold cutAt
    rw [bl_extract, Nat.add_mul, Nat.one_mul, List.take_add]
    congr 1
    rw [← bl_length, List.drop_take, List.take_eq_take_iff, List.length_drop]
    omega
end Go.Proofs.Ytmogkiacakkmbaa
