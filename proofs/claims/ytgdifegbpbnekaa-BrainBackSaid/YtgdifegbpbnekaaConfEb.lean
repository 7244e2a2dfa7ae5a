/- Shapes: where the document's rows stand; its size. -/
import Derived.Test.YtgdifegbpbnekaaConfE
namespace Go.Proofs.Ytgdifegbpbnekaa
open Go.RowKit

theorem span2 (c : Cfg) : c.span 0 2 = c.sz 0 + c.sz 1 := by simp [Cfg.span]
theorem span9 (c : Cfg) : c.span 2 9 = c.sz 2 + c.sz 3 + c.sz 4 + c.sz 5 + c.sz 6 + c.sz 7 + c.sz 8 + c.sz 9 + c.sz 10 := by simp [Cfg.span]
theorem span1 (c : Cfg) (p : Int) : c.span p 1 = c.sz p := by simp [Cfg.span]
theorem Cfg.bn {c : Cfg} (h : Fit c) : ∃ bn : Nat, c.B = (bn : Int) ∧ 1 ≤ bn ∧ bn ≤ 3 := ⟨c.B.toNat, by have := h.b0; omega, by have := h.b0; omega, by have := h.b1; omega⟩
/-- A block's part stands behind all before it. -/
theorem at_first (c : Cfg) : (rowsTo c 12).2 = c.span 0 2 := by
  rw [span2]
  have h2 : ∀ q : Nat, 2 ≤ q → q < 12 → rowsTo c (12 * 0 + q + 1) = rowsTo c (12 * 0 + q) := fun q h1 h2 => rowsTo_skip c 0 q h2 (by unfold keepR; rw [if_pos (by decide), decide_eq_false (by omega)])
  have e : rowsTo c 12 = rowsTo c 2 := by
    rw [show (12 : Nat) = 12 * 0 + 11 + 1 by rfl, h2 11 (by decide) (by decide), show 12 * 0 + 11 = 12 * 0 + 10 + 1 by rfl, h2 10 (by decide) (by decide), show 12 * 0 + 10 = 12 * 0 + 9 + 1 by rfl, h2 9 (by decide) (by decide), show 12 * 0 + 9 = 12 * 0 + 8 + 1 by rfl, h2 8 (by decide) (by decide), show 12 * 0 + 8 = 12 * 0 + 7 + 1 by rfl, h2 7 (by decide) (by decide), show 12 * 0 + 7 = 12 * 0 + 6 + 1 by rfl, h2 6 (by decide) (by decide), show 12 * 0 + 6 = 12 * 0 + 5 + 1 by rfl, h2 5 (by decide) (by decide), show 12 * 0 + 5 = 12 * 0 + 4 + 1 by rfl, h2 4 (by decide) (by decide), show 12 * 0 + 4 = 12 * 0 + 3 + 1 by rfl, h2 3 (by decide) (by decide), show 12 * 0 + 3 = 12 * 0 + 2 + 1 by rfl, h2 2 (by decide) (by decide)]
  rw [e, show (2 : Nat) = 12 * 0 + 1 + 1 by rfl, rowsTo_keep c 0 1 (by decide) (by unfold keepR; rfl), show 12 * 0 + 1 = 12 * 0 + 0 + 1 by rfl, rowsTo_keep c 0 0 (by decide) (by unfold keepR; rfl)]
  simp [rowsTo]

def blockRows (c : Cfg) (b a : Int) : List Row4 := [
  (2, b, a, c.sz 2),
  (3, b, a + c.sz 2, c.sz 3),
  (4, b, a + c.sz 2 + c.sz 3, c.sz 4),
  (5, b, a + c.sz 2 + c.sz 3 + c.sz 4, c.sz 5),
  (6, b, a + c.sz 2 + c.sz 3 + c.sz 4 + c.sz 5, c.sz 6),
  (7, b, a + c.sz 2 + c.sz 3 + c.sz 4 + c.sz 5 + c.sz 6, c.sz 7),
  (8, b, a + c.sz 2 + c.sz 3 + c.sz 4 + c.sz 5 + c.sz 6 + c.sz 7, c.sz 8),
  (9, b, a + c.sz 2 + c.sz 3 + c.sz 4 + c.sz 5 + c.sz 6 + c.sz 7 + c.sz 8, c.sz 9),
  (10, b, a + c.sz 2 + c.sz 3 + c.sz 4 + c.sz 5 + c.sz 6 + c.sz 7 + c.sz 8 + c.sz 9, c.sz 10)]
theorem block_step (c : Cfg) (m bn : Nat) (hbn : c.B = (bn : Int)) (h1 : 1 ≤ m) (h2 : m ≤ bn) : rowsTo c (12 * (m + 1)) = ((rowsTo c (12 * m)).1 ++ blockRows c ((m : Int) - 1) (rowsTo c (12 * m)).2, (rowsTo c (12 * m)).2 + c.span 2 9) := by
  have hk : ∀ q : Nat, keepR c.B ((m : Int) - 1) (q : Int) = (decide (2 ≤ (q : Int)) && decide ((q : Int) ≤ 10)) := fun q => by
    unfold keepR
    rw [if_neg (by omega), if_neg (by omega)]
  have hr : ∀ (q : Nat) a, rowAt c ((m : Int) - 1) (q : Int) a = ((q : Int), (m : Int) - 1, a, c.sz q) := fun q a => by
    unfold rowAt
    rw [if_neg (by omega)]
  have s0 := rowsTo_skip c m 0 (by decide) (by rw [hk]; rfl)
  have s1 := rowsTo_skip c m 1 (by decide) (by rw [hk]; rfl)
  have k2 := rowsTo_keep c m 2 (by decide) (by rw [hk]; rfl)
  have k3 := rowsTo_keep c m 3 (by decide) (by rw [hk]; rfl)
  have k4 := rowsTo_keep c m 4 (by decide) (by rw [hk]; rfl)
  have k5 := rowsTo_keep c m 5 (by decide) (by rw [hk]; rfl)
  have k6 := rowsTo_keep c m 6 (by decide) (by rw [hk]; rfl)
  have k7 := rowsTo_keep c m 7 (by decide) (by rw [hk]; rfl)
  have k8 := rowsTo_keep c m 8 (by decide) (by rw [hk]; rfl)
  have k9 := rowsTo_keep c m 9 (by decide) (by rw [hk]; rfl)
  have k10 := rowsTo_keep c m 10 (by decide) (by rw [hk]; rfl)
  have s11 := rowsTo_skip c m 11 (by decide) (by rw [hk]; rfl)
  obtain ⟨X, eX⟩ : ∃ X, X = rowsTo c (12 * m) := ⟨_, rfl⟩
  rw [← eX]
  rw [show 12 * m + 0 = 12 * m by omega, ← eX] at s0
  rw [show 12 * m + 1 = 12 * m + 0 + 1 by omega, s0] at s1
  rw [show 12 * m + 2 = 12 * m + 1 + 1 by omega, s1] at k2
  rw [show 12 * m + 3 = 12 * m + 2 + 1 by omega, k2] at k3
  rw [show 12 * m + 4 = 12 * m + 3 + 1 by omega, k3] at k4
  rw [show 12 * m + 5 = 12 * m + 4 + 1 by omega, k4] at k5
  rw [show 12 * m + 6 = 12 * m + 5 + 1 by omega, k5] at k6
  rw [show 12 * m + 7 = 12 * m + 6 + 1 by omega, k6] at k7
  rw [show 12 * m + 8 = 12 * m + 7 + 1 by omega, k7] at k8
  rw [show 12 * m + 9 = 12 * m + 8 + 1 by omega, k8] at k9
  rw [show 12 * m + 10 = 12 * m + 9 + 1 by omega, k9] at k10
  rw [show 12 * m + 11 = 12 * m + 10 + 1 by omega, k10] at s11
  rw [show 12 * (m + 1) = 12 * m + 10 + 1 + 1 by omega, s11, span9]
  simp only [hr, blockRows, List.append_assoc, List.cons_append, List.nil_append, Prod.mk.injEq]
  refine ⟨rfl, ?_⟩
  show _ = _
  simp only [Int.add_assoc]
  rfl
theorem last_step (c : Cfg) (bn : Nat) (hbn : c.B = (bn : Int)) : rowsTo c (12 * (bn + 2)) = ((rowsTo c (12 * (bn + 1))).1 ++ [(11, 0, (rowsTo c (12 * (bn + 1))).2, c.sz 11)], (rowsTo c (12 * (bn + 1))).2 + c.sz 11) := by
  have hk : ∀ q : Nat, keepR c.B (((bn + 1 : Nat) : Int) - 1) (q : Int) = decide (11 ≤ (q : Int)) := fun q => by
    unfold keepR
    rw [if_neg (by omega), if_pos (by omega)]
  have hr : ∀ a, rowAt c (((bn + 1 : Nat) : Int) - 1) ((11 : Nat) : Int) a = (11, 0, a, c.sz 11) := fun a => by
    unfold rowAt
    rw [if_pos (by omega)]
    rfl
  have hs : ∀ q : Nat, q < 11 → rowsTo c (12 * (bn + 1) + q + 1) = rowsTo c (12 * (bn + 1) + q) := fun q hq => rowsTo_skip c (bn + 1) q (by omega) (by rw [hk, decide_eq_false (by omega)])
  have k11 := rowsTo_keep c (bn + 1) 11 (by decide) (by rw [hk]; rfl)
  have hall : ∀ q : Nat, q ≤ 11 → rowsTo c (12 * (bn + 1) + q) = rowsTo c (12 * (bn + 1)) := fun q => by
    induction q with
    | zero => intro _; rfl
    | succ q ih => intro h; rw [← Nat.add_assoc, hs q (by omega), ih (by omega)]
  rw [hall 11 (Nat.le_refl _), hr] at k11
  rw [show 12 * (bn + 2) = 12 * (bn + 1) + 11 + 1 by omega, k11]
  rfl
theorem first_rows (c : Cfg) : rowsTo c 12 = ([(0, 0, 0, c.sz 0), (1, 0, c.sz 0, c.sz 1)], c.span 0 2) := by
  have hk : ∀ q : Nat, keepR c.B (((0 : Nat) : Int) - 1) (q : Int) = decide ((q : Int) ≤ 1) := fun q => by
    unfold keepR
    rw [if_pos (by decide)]
  have hs : ∀ q : Nat, 2 ≤ q → q < 12 → rowsTo c (12 * 0 + q + 1) = rowsTo c (12 * 0 + q) := fun q h1 h2 => rowsTo_skip c 0 q h2 (by rw [hk, decide_eq_false (by omega)])
  have hall : ∀ q : Nat, q ≤ 10 → rowsTo c (12 * 0 + (2 + q)) = rowsTo c (12 * 0 + 2) := fun q => by
    induction q with
    | zero => intro _; rfl
    | succ q ih => intro h; rw [show 12 * 0 + (2 + (q + 1)) = 12 * 0 + (2 + q) + 1 by omega, hs (2 + q) (by omega) (by omega), ih (by omega)]
  have e := hall 10 (Nat.le_refl _)
  rw [show 12 * 0 + (2 + 10) = 12 by rfl] at e
  have k0 := rowsTo_keep c 0 0 (by decide) (by rw [hk]; rfl)
  have k1 := rowsTo_keep c 0 1 (by decide) (by rw [hk]; rfl)
  rw [e, show 12 * 0 + 2 = 12 * 0 + 1 + 1 by rfl, k1, show 12 * 0 + 1 = 12 * 0 + 0 + 1 by rfl, k0, span2]
  have hr : ∀ (q : Nat) a, rowAt c (((0 : Nat) : Int) - 1) (q : Int) a = ((q : Int), 0, a, c.sz q) := fun q a => by
    unfold rowAt
    rw [if_pos (.inl (by decide))]
  simp only [hr]
  simp [rowsTo]
/-- Where a block's parts stand. -/
def Cfg.base (c : Cfg) (b : Int) : Int := c.span 0 2 + b * c.span 2 9
/-- All rows. -/
def rowsUpto (c : Cfg) : Nat → List Row4
  | 0 => [(0, 0, 0, c.sz 0), (1, 0, c.sz 0, c.sz 1)]
  | n + 1 => rowsUpto c n ++ blockRows c n (c.base n)
theorem rows_upto (c : Cfg) (bn : Nat) (hbn : c.B = (bn : Int)) : ∀ n, n ≤ bn → rowsTo c (12 * (n + 1)) = (rowsUpto c n, c.base n)
  | 0, _ => by rw [show 12 * (0 + 1) = 12 by rfl, first_rows]; simp [rowsUpto, Cfg.base]
  | n + 1, h => by
    rw [block_step c (n + 1) bn hbn (by omega) h, rows_upto c bn hbn n (by omega)]
    simp only [rowsUpto, Cfg.base]
    rw [show (((n + 1 : Nat) : Int) - 1) = (n : Int) by omega, show ((n + 1 : Nat) : Int) = (n : Int) + 1 by omega, Int.add_mul, Int.one_mul, Int.add_assoc]
theorem rows_all (c : Cfg) (bn : Nat) (hbn : c.B = (bn : Int)) : (rowsTo c (12 * (bn + 2))).1 = rowsUpto c bn ++ [(11, 0, c.base bn, c.sz 11)] := by
  rw [last_step c bn hbn, rows_upto c bn hbn bn (Nat.le_refl _)]
theorem all_base (c : Cfg) (bn : Nat) (hbn : c.B = (bn : Int)) : c.all = c.base bn + c.sz 11 := by
  unfold Cfg.all Cfg.base
  rw [hbn, span1]

end Go.Proofs.Ytgdifegbpbnekaa
