/- The parts of a shape cover its weights: the counts, with no program in sight. -/
import Derived.Test.YtgdifegbpbnekaaConfJ
namespace Go.Proofs.Ytgdifegbpbnekaa
open Go.RowKit

/-- Where a part begins. -/
def Cfg.place (c : Cfg) (p b : Int) : Int := if p = 0 then 0 else if p = 1 then c.sz 0 else if p = 11 then c.all - c.sz 11 else c.span 0 2 + b * c.span 2 9 + c.span 2 (p - 2).toNat
/-- Whether a block has a part. -/
def has (p b : Int) : Bool := decide (b = 0) || (decide (2 ≤ p) && decide (p ≤ 10))
/-- 1: a part of a block has that byte. -/
def Cfg.ind (c : Cfg) (p b i : Int) : Int := if has p b = true ∧ c.place p b ≤ i ∧ i < c.place p b + c.sz p then 1 else 0
/-- How many of the first blocks' parts have that byte. -/
def Cfg.rowB (c : Cfg) (p : Int) : Nat → Int → Int
  | 0, _ => 0
  | b + 1, i => c.rowB p b i + c.ind p b i
/-- .. of the first parts of all blocks. -/
def Cfg.cnt (c : Cfg) : Nat → Int → Int
  | 0, _ => 0
  | p + 1, i => c.cnt p i + c.rowB p c.B.toNat i

theorem ind_bounds (c : Cfg) (p b i : Int) : 0 ≤ c.ind p b i ∧ c.ind p b i ≤ 1 := by unfold Cfg.ind; split <;> omega
theorem rowB_bounds (c : Cfg) (p : Int) (b : Nat) (i : Int) : 0 ≤ c.rowB p b i ∧ c.rowB p b i ≤ b := by
  induction b with
  | zero => simp [Cfg.rowB]
  | succ b ih => have := ind_bounds c p b i; unfold Cfg.rowB; omega
theorem cnt_bounds {c : Cfg} (h : Fit c) (p : Nat) (i : Int) : 0 ≤ c.cnt p i ∧ c.cnt p i ≤ 3 * p := by
  induction p with
  | zero => simp [Cfg.cnt]
  | succ p ih => have := rowB_bounds c p c.B.toNat i; have := h.b1; unfold Cfg.cnt; omega

theorem span_succ (c : Cfg) (a : Int) (n : Nat) : c.span a (n + 1) = c.span a n + c.sz (a + n) := rfl
theorem span_le {c : Cfg} (h : Fit c) (a : Int) (n k : Nat) : c.span a n ≤ c.span a (n + k) := by
  induction k with
  | zero => exact Int.le_refl _
  | succ k ih => have := sz_bounds h (a + (n + k : Nat)); rw [← Nat.add_assoc, span_succ]; omega
theorem base_all {c : Cfg} (h : Fit c) : c.all = c.base c.B + c.sz 11 := by
  have hb := h.b0
  have e := all_base c c.B.toNat (by omega)
  rwa [show ((c.B.toNat : Nat) : Int) = c.B by omega] at e
theorem base_succ (c : Cfg) (b : Int) : c.base (b + 1) = c.base b + c.span 2 9 := by unfold Cfg.base; rw [Int.add_mul]; omega
theorem base_le {c : Cfg} (h : Fit c) (b : Int) (h0 : 0 ≤ b) (hb : b < c.B) : 0 ≤ c.base b ∧ c.base b + c.span 2 9 ≤ c.base c.B := by
  have hs := span_bounds h 2 9
  have hz := span_bounds h 0 2
  have h1 := Int.mul_nonneg h0 hs.1
  have h2 : (b + 1) * c.span 2 9 ≤ c.B * c.span 2 9 := Int.mul_le_mul_of_nonneg_right (by omega) hs.1
  rw [Int.add_mul] at h2
  unfold Cfg.base
  omega
theorem place_mid (c : Cfg) (n : Nat) (hn : n ≤ 8) (b : Int) : c.place ((n : Int) + 2) b = c.base b + c.span 2 n := by
  unfold Cfg.place Cfg.base
  rw [if_neg (by omega), if_neg (by omega), if_neg (by omega)]
  congr 2
  omega
theorem place_bounds {c : Cfg} (h : Fit c) (p b : Int) (hp0 : 0 ≤ p) (hp : p ≤ 11) (hb0 : 0 ≤ b) (hb : b < c.B) : 0 ≤ c.place p b ∧ c.place p b + c.sz p ≤ c.all := by
  have hB := base_le h b hb0 hb
  have h0 := base_le h 0 (by omega) (by omega)
  have hs := span_bounds h 2 9
  have hz0 := sz_bounds h 0
  have hz1 := sz_bounds h 1
  have hz11 := sz_bounds h 11
  have ha := base_all h
  have hspan : c.base 0 = c.sz 0 + c.sz 1 := by unfold Cfg.base; rw [span2]; omega
  by_cases e0 : p = 0
  · subst e0; unfold Cfg.place; rw [if_pos rfl]; omega
  by_cases e1 : p = 1
  · subst e1; unfold Cfg.place; rw [if_neg (by omega), if_pos rfl]; omega
  by_cases e11 : p = 11
  · subst e11; unfold Cfg.place; rw [if_neg (by omega), if_neg (by omega), if_pos rfl]; omega
  obtain ⟨n, rfl⟩ : ∃ n : Nat, p = (n : Int) + 2 := ⟨(p - 2).toNat, by omega⟩
  rw [place_mid c n (by omega)]
  have hn := span_bounds h 2 n
  have hle := span_le h 2 (n + 1) (8 - n)
  rw [show n + 1 + (8 - n) = 9 by omega, span_succ, show (2 : Int) + n = (n : Int) + 2 by omega] at hle
  omega
theorem told_has {c : Cfg} (h : Fit c) (p b : Int) (hp0 : 0 ≤ p) (hp : p ≤ 11) (hb0 : 0 ≤ b) (hb : b < c.B) (hh : has p b = true) : c.told p b = .tuple #[.int .i64 (c.place p b), .int .i64 (c.sz p), .bool true] := by
  by_cases e0 : p = 0
  · subst e0
    have : b = 0 := by unfold has at hh; simpa using hh
    subst this
    rw [told_0 h]; unfold Cfg.place; rw [if_pos rfl]; rfl
  by_cases e1 : p = 1
  · subst e1
    have : b = 0 := by unfold has at hh; simpa using hh
    subst this
    rw [told_1 h, span1]; unfold Cfg.place; rw [if_neg (by omega), if_pos rfl]
  by_cases e11 : p = 11
  · subst e11
    have : b = 0 := by unfold has at hh; simpa using hh
    subst this
    rw [told_11 h]; unfold Cfg.place; rw [if_neg (by omega), if_neg (by omega), if_pos rfl]
  obtain ⟨n, rfl⟩ : ∃ n : Nat, p = (n : Int) + 2 := ⟨(p - 2).toNat, by omega⟩
  rw [told_mid h n b (by omega) hb0 hb, place_mid c n (by omega)]
  rfl
theorem told_hasnt {c : Cfg} (h : Fit c) (p b : Int) (hp0 : 0 ≤ p) (hp : p ≤ 11) (hb0 : 0 ≤ b) (hh : has p b = false) : b ≠ 0 ∧ (p < 2 ∨ p = 11) ∧ c.told p b = .tuple #[.int .i64 0, .int .i64 0, .bool false] := by
  have h1 : b ≠ 0 := fun e => by subst e; simp [has] at hh
  have h2 : p < 2 ∨ 10 < p := by
    by_cases e : 2 ≤ p ∧ p ≤ 10
    · simp [has, e] at hh
    · omega
  exact ⟨h1, by omega, told_none h p b (by omega)⟩

/-- 1 up to a place. -/
def step1 (x i : Int) : Int := if i < x then 1 else 0
theorem ind_has (c : Cfg) (h : Fit c) (p b i : Int) (hh : has p b = true) : c.ind p b i = step1 (c.place p b + c.sz p) i - step1 (c.place p b) i := by
  have := sz_bounds h p
  unfold Cfg.ind step1
  simp only [hh, true_and]
  split <;> split <;> split <;> omega
theorem ind_hasnt (c : Cfg) (p b i : Int) (hh : has p b = false) : c.ind p b i = 0 := by unfold Cfg.ind; simp [hh]
theorem has_no (p b : Int) (hb : b ≠ 0) (hp : p < 2 ∨ p = 11) : has p b = false := by
  unfold has
  rw [decide_eq_false hb, Bool.false_or]
  rcases hp with h | h
  · rw [decide_eq_false (by omega), Bool.false_and]
  · rw [decide_eq_false (p := p ≤ 10) (by omega), Bool.and_false]
theorem rowB_one (c : Cfg) (p : Int) (hp : p < 2 ∨ p = 11) (b : Nat) (i : Int) : c.rowB p (b + 1) i = c.ind p 0 i := by
  induction b with
  | zero => simp [Cfg.rowB]
  | succ b ih =>
    rw [Cfg.rowB, ih, ind_hasnt c p ((b + 1 : Nat) : Int) i (has_no p ((b + 1 : Nat) : Int) (by omega) hp)]
    omega
/-- The steps at so many parts of the first blocks. -/
def Cfg.edge (c : Cfg) (n : Nat) : Nat → Int → Int
  | 0, _ => 0
  | b + 1, i => c.edge n b i + step1 (c.base b + c.span 2 n) i
theorem rowB_mid (c : Cfg) (h : Fit c) (n : Nat) (hn : n ≤ 8) (b : Nat) (i : Int) : c.rowB ((n : Int) + 2) b i = c.edge (n + 1) b i - c.edge n b i := by
  induction b with
  | zero => rfl
  | succ b ih =>
    rw [Cfg.rowB, ih, ind_has c h _ _ i (by unfold has; simp; omega), place_mid c n hn, Cfg.edge, Cfg.edge, span_succ, show (2 : Int) + n = (n : Int) + 2 by omega, Int.add_assoc]
    omega
theorem edge_turn (c : Cfg) (b : Nat) (i : Int) : c.edge 9 b i - c.edge 0 b i = step1 (c.base b) i - step1 (c.base 0) i := by
  induction b with
  | zero => simp [Cfg.edge]
  | succ b ih =>
    rw [Cfg.edge, Cfg.edge, show ((b + 1 : Nat) : Int) = (b : Int) + 1 by omega, base_succ, show c.span 2 0 = 0 from rfl, Int.add_zero]
    omega
theorem cnt_all {c : Cfg} (h : Fit c) (i : Int) (h0 : 0 ≤ i) (h1 : i < c.all) : c.cnt 12 i = 1 := by
  have hb := h.b0
  obtain ⟨m, hm⟩ : ∃ m : Nat, c.B.toNat = m + 1 := ⟨c.B.toNat - 1, by omega⟩
  have e0 := rowB_one c 0 (by omega) m i
  have e1 := rowB_one c 1 (by omega) m i
  have e11 := rowB_one c 11 (by omega) m i
  rw [← hm] at e0 e1 e11
  have ht := edge_turn c c.B.toNat i
  rw [show ((c.B.toNat : Nat) : Int) = c.B by omega] at ht
  have i0 := ind_has c h 0 0 i rfl
  have i1 := ind_has c h 1 0 i rfl
  have i11 := ind_has c h 11 0 i rfl
  have p0 : c.place 0 0 = 0 := rfl
  have p1 : c.place 1 0 = c.sz 0 := rfl
  have p11 : c.place 11 0 = c.all - c.sz 11 := rfl
  have hB0 : c.base 0 = c.sz 0 + c.sz 1 := by unfold Cfg.base; rw [span2]; omega
  have ha := base_all h
  rw [p0, Int.zero_add] at i0
  rw [p1, ← hB0] at i1
  rw [p11, Int.sub_add_cancel, show c.all - c.sz 11 = c.base c.B by omega] at i11
  have s0 : step1 0 i = 0 := by unfold step1; rw [if_neg (by omega)]
  have s1 : step1 c.all i = 1 := by unfold step1; rw [if_pos h1]
  have m0 : c.rowB 2 c.B.toNat i = c.edge 1 c.B.toNat i - c.edge 0 c.B.toNat i := rowB_mid c h 0 (by omega) c.B.toNat i
  have m1 : c.rowB 3 c.B.toNat i = c.edge 2 c.B.toNat i - c.edge 1 c.B.toNat i := rowB_mid c h 1 (by omega) c.B.toNat i
  have m2 : c.rowB 4 c.B.toNat i = c.edge 3 c.B.toNat i - c.edge 2 c.B.toNat i := rowB_mid c h 2 (by omega) c.B.toNat i
  have m3 : c.rowB 5 c.B.toNat i = c.edge 4 c.B.toNat i - c.edge 3 c.B.toNat i := rowB_mid c h 3 (by omega) c.B.toNat i
  have m4 : c.rowB 6 c.B.toNat i = c.edge 5 c.B.toNat i - c.edge 4 c.B.toNat i := rowB_mid c h 4 (by omega) c.B.toNat i
  have m5 : c.rowB 7 c.B.toNat i = c.edge 6 c.B.toNat i - c.edge 5 c.B.toNat i := rowB_mid c h 5 (by omega) c.B.toNat i
  have m6 : c.rowB 8 c.B.toNat i = c.edge 7 c.B.toNat i - c.edge 6 c.B.toNat i := rowB_mid c h 6 (by omega) c.B.toNat i
  have m7 : c.rowB 9 c.B.toNat i = c.edge 8 c.B.toNat i - c.edge 7 c.B.toNat i := rowB_mid c h 7 (by omega) c.B.toNat i
  have m8 : c.rowB 10 c.B.toNat i = c.edge 9 c.B.toNat i - c.edge 8 c.B.toNat i := rowB_mid c h 8 (by omega) c.B.toNat i
  have eU : c.cnt 12 i = c.rowB 0 c.B.toNat i + c.rowB 1 c.B.toNat i + c.rowB 2 c.B.toNat i + c.rowB 3 c.B.toNat i + c.rowB 4 c.B.toNat i + c.rowB 5 c.B.toNat i + c.rowB 6 c.B.toNat i + c.rowB 7 c.B.toNat i + c.rowB 8 c.B.toNat i + c.rowB 9 c.B.toNat i + c.rowB 10 c.B.toNat i + c.rowB 11 c.B.toNat i := by
    simp [Cfg.cnt]
  rw [eU]
  omega

/-- A row of counts. -/
def cntCells (N : Nat) (f : Int → Int) : List Value := (List.range N).map fun (i : Nat) => .int .i64 (f i)
theorem cntCells_length (N : Nat) (f : Int → Int) : (cntCells N f).length = N := by simp [cntCells]
theorem cntCells_get (N : Nat) (f : Int → Int) (i : Nat) (h : i < N) : (cntCells N f)[i]? = some (.int .i64 (f i)) := by simp [cntCells, h]
theorem cntCells_set (N : Nat) (f g : Int → Int) (i : Nat) (v : Int) (h : ∀ j : Nat, j < N → g j = if j = i then v else f j) : (cntCells N f).set i (.int .i64 v) = cntCells N g := by
  apply List.ext_getElem?
  intro j
  by_cases hj : j < N
  · rw [cntCells_get N g j hj, h j hj, List.getElem?_set, cntCells_get N f j hj, cntCells_length]
    by_cases e : i = j
    · subst e; simp [hj]
    · rw [if_neg e, if_neg (fun e2 => e e2.symm)]
  · rw [List.getElem?_eq_none (by simp [cntCells_length]; omega), List.getElem?_eq_none (by rw [cntCells_length]; omega)]
theorem cntCells_zero (N : Nat) : cntCells N (fun _ => 0) = List.replicate N (.int .i64 0) := by
  apply List.ext_getElem?
  intro j
  by_cases hj : j < N
  · rw [cntCells_get _ _ j hj, List.getElem?_replicate, if_pos hj]
  · rw [List.getElem?_eq_none (by rw [cntCells_length]; omega), List.getElem?_eq_none (by simp; omega)]
theorem cntCells_congr (N : Nat) (f g : Int → Int) (h : ∀ j : Nat, j < N → f j = g j) : cntCells N f = cntCells N g := by
  unfold cntCells
  exact List.map_congr_left fun j hj => by rw [h j (List.mem_range.1 hj)]
/-- The counts in the midst of a part. -/
def part1 (f : Int → Int) (from0 to0 : Int) (i : Int) : Int := f i + if from0 ≤ i ∧ i < to0 then 1 else 0
theorem part1_none (f : Int → Int) (a : Int) (i : Int) : part1 f a a i = f i := by unfold part1; rw [if_neg (by omega)]; omega
theorem part1_set (N : Nat) (f : Int → Int) (a : Int) (k : Nat) (ha : a ≤ k) : (cntCells N (part1 f a k)).set k (.int .i64 (f k + 1)) = cntCells N (part1 f a ((k : Int) + 1)) := by
  refine cntCells_set N _ _ k _ fun j _ => ?_
  unfold part1
  by_cases e : j = k
  · subst e; rw [if_pos rfl, if_pos (by omega)]
  · rw [if_neg e]
    congr 1
    by_cases g : a ≤ (j : Int) ∧ (j : Int) < k
    · rw [if_pos g, if_pos (by omega)]
    · rw [if_neg g, if_neg (by omega)]
theorem part1_here (f : Int → Int) (a k : Int) : part1 f a k k = f k := by unfold part1; rw [if_neg (by omega)]; omega

end Go.Proofs.Ytgdifegbpbnekaa
