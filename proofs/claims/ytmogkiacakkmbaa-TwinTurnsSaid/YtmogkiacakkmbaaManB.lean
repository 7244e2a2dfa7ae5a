/- Manifests: whether one can be, how many chunks, how long, which bytes. -/
import Derived.Test.YtmogkiacakkmbaaManA
import Derived.Test.YtmogkiacakkmbaaOrd
namespace Go.Proofs.Ytmogkiacakkmbaa
open Go.RowKit

section
variable {P : Program} {w : World} {ops : Array Oper} {rest : List Oper} {o : Oper} {a : Act} {Q : Exit → Act → World → Prop}
/-- Two numbers held against each other, what comes of it known. -/
theorem wpL_gtrB (hgd : o.guard = none) {t r : TypeId} {x y : Operand} (ho : o.op = .binOp .gtr t x y r) {m n : Int} (hx : a.eval x = .int .i64 m) (hy : a.eval y = .int .i64 n) (β : Bool) (hb : decide (n < m) = β)
    (h : wpList P ops Q rest (a.put o.dst (.bool β)) w) : wpList P ops Q (o :: rest) a w := by
  subst hb
  refine wpL_run hgd ?_ h
  unfold execOp
  simp only [ho, Sem.run_bind, hx, hy]
  simp [eqGuard, binOp, Op.intCmp]
/-- Two numbers held against each other, what comes of it known. -/
theorem wpL_lssB (hgd : o.guard = none) {t r : TypeId} {x y : Operand} (ho : o.op = .binOp .lss t x y r) {m n : Int} (hx : a.eval x = .int .i64 m) (hy : a.eval y = .int .i64 n) (β : Bool) (hb : decide (m < n) = β)
    (h : wpList P ops Q rest (a.put o.dst (.bool β)) w) : wpList P ops Q (o :: rest) a w := by
  subst hb
  refine wpL_run hgd ?_ h
  unfold execOp
  simp only [ho, Sem.run_bind, hx, hy]
  simp [eqGuard, binOp, Op.intCmp]
/-- Two numbers held against each other, what comes of it known. -/
theorem wpL_geqB (hgd : o.guard = none) {t r : TypeId} {x y : Operand} (ho : o.op = .binOp .geq t x y r) {m n : Int} (hx : a.eval x = .int .i64 m) (hy : a.eval y = .int .i64 n) (β : Bool) (hb : decide (n ≤ m) = β)
    (h : wpList P ops Q rest (a.put o.dst (.bool β)) w) : wpList P ops Q (o :: rest) a w := by
  subst hb
  refine wpL_run hgd ?_ h
  unfold execOp
  simp only [ho, Sem.run_bind, hx, hy]
  simp [eqGuard, binOp, Op.intCmp]
/-- Two numbers held against each other, what comes of it known. -/
theorem wpL_leqB (hgd : o.guard = none) {t r : TypeId} {x y : Operand} (ho : o.op = .binOp .leq t x y r) {m n : Int} (hx : a.eval x = .int .i64 m) (hy : a.eval y = .int .i64 n) (β : Bool) (hb : decide (m ≤ n) = β)
    (h : wpList P ops Q rest (a.put o.dst (.bool β)) w) : wpList P ops Q (o :: rest) a w := by
  subst hb
  refine wpL_run hgd ?_ h
  unfold execOp
  simp only [ho, Sem.run_bind, hx, hy]
  simp [eqGuard, binOp, Op.intCmp]
end

/-- How many chunks a manifest has; 0: it can't be. -/
def cnt (b v z k : Int) (n : Nat) : Int := if nch b v z k = (n : Int) then n else 0
theorem cnt_bounds' (b v z k : Int) (n : Nat) : 0 ≤ cnt b v z k n ∧ cnt b v z k n ≤ 64 := by
  have := nch_bounds b v z k
  unfold cnt
  split <;> omega
theorem cnt_pos {b v z k : Int} {n : Nat} (h : 0 < cnt b v z k n) : HeadOk b v z k ∧ nch b v z k = (n : Int) ∧ cnt b v z k n = (n : Int) ∧ (n : Int) = (z + k - 1) / k := by
  unfold cnt at *
  split at h
  · rename_i e
    by_cases hh : HeadOk b v z k
    · refine ⟨hh, e, by rw [if_pos e], ?_⟩
      rw [← e, nch_yes hh]
    · rw [nch_no hh] at e
      omega
  · omega

theorem mfTake (b v z k : Int) (V : Value) (R : List Value) (hR : R.length = 32) : ((Value.int .i64 b :: .int .i64 v :: .int .i64 z :: .int .i64 k :: V :: R).drop 0).take 37 = Value.int .i64 b :: .int .i64 v :: .int .i64 z :: .int .i64 k :: V :: R :=
  List.take_of_length_le (by simp [hR])
theorem mfLen (b v z k : Int) (V : Value) (R : List Value) (hR : R.length = 32) : (Value.int .i64 b :: .int .i64 v :: .int .i64 z :: .int .i64 k :: V :: R).length = 37 := by simp [hR]

set_option maxRecDepth 100000 in
set_option maxHeartbeats 8000000 in
theorem manGood_any (b v z k : Int) (ad : Option Addr) (n cp : Nat) (R : List Value) (hR : R.length = 32) (w : World) : Calls Try.prog 62 #[.agg (Value.int .i64 b :: .int .i64 v :: .int .i64 z :: .int .i64 k :: .slice ad n cp :: R).toArray] w fun e w' => e = .returned (.bool (decide (0 < cnt b v z k n))) ∧ Only [] w w' := by
  have hst := ((St.start w []).box (.int .i64 b :: .int .i64 v :: .int .i64 z :: .int .i64 k :: .slice ad n cp :: R) 104).drew
  have HT := Lib.hid (mfTake b v z k (.slice ad n cp) R hR)
  have HL := Lib.hid (mfLen b v z k (.slice ad n cp) R hR)
  have CH : Hid (∀ w, Calls Try.prog 124 #[.agg (Value.int .i64 b :: .int .i64 v :: .int .i64 z :: .int .i64 k :: .slice ad n cp :: R).toArray] w fun e w' => e = .returned (.int .i64 (nch b v z k)) ∧ Only [] w w') := chunks_any b v z k _ R
  have hb := nch_bounds b v z k
  have HC : Hid (cnt b v z k n = if nch b v z k = (n : Int) then (n : Int) else 0) := rfl
  generalize nch b v z k = c at *
  by_cases h0 : c = 0
  · have hr : decide (0 < cnt b v z k n) = false := decide_eq_false (by rw [HC.out, h0]; split <;> omega)
    rw [hr]
    subst h0
    clear HC hb hr
    go_enter Try.func62, Try.ntmps62
    go_wp2_with fail
    refine wp_region_ord [1, 5] [0, 1, 2, 3, 4, 6, 7, 8, 5, 9, 10, 11] (by kernel_rfl) (by kernel_rfl) ?_
    generalize World.drew _ = W at *
    refine Ord.cut 1 0 rfl rfl rfl rfl (by kernel_rfl) (by kernel_rfl) ?_; simp only [List.take_succ_cons, List.take_zero, List.drop_succ_cons, List.drop_zero, List.filterMap_cons, List.filterMap_nil, List.getElem?_cons_zero]
    (first | (refine wpL_loadAtS hst rfl (ty := 104) rfl 0 rfl rfl (by kernel_rfl) 37 (by kernel_rfl) _ HT.out HL.out ?_) | (refine wpL_loadAtS hst rfl (ty := 104) rfl 1 rfl rfl (by kernel_rfl) 37 (by kernel_rfl) _ HT.out HL.out ?_) | (refine wpL_loadAtS hst rfl (ty := 104) rfl 2 rfl rfl (by kernel_rfl) 37 (by kernel_rfl) _ HT.out HL.out ?_))
    refine TextQ.mk ⟨fun h => by simp at h, ?_⟩ rfl
    refine Ord.cut 1 1 rfl rfl rfl rfl (by kernel_rfl) (by kernel_rfl) ?_; simp only [List.take_succ_cons, List.take_zero, List.drop_succ_cons, List.drop_zero, List.filterMap_cons, List.filterMap_nil, List.getElem?_cons_succ, List.getElem?_cons_zero]
    go_wp2_with (go_at_call 124; refine (CH.out _).mono ?_; rintro e1 w1 ⟨rfl, ho1⟩)
    refine TextQ.mk ⟨fun _ => ho1, ?_⟩ rfl
    replace hst := hst.keep ho1
    refine Ord.cut 6 8 rfl rfl rfl rfl (by kernel_rfl) (by kernel_rfl) ?_; simp only [List.take_succ_cons, List.take_zero, List.drop_succ_cons, List.drop_zero, List.filterMap_cons, List.filterMap_nil, List.getElem?_cons_succ, List.getElem?_cons_zero]; go_wp2_with fail; refine TextQ.mk ⟨fun h => by simp at h, ?_⟩ rfl
    refine Ord.cut 1 5 rfl rfl rfl rfl (by kernel_rfl) (by kernel_rfl) ?_; simp only [List.take_succ_cons, List.take_zero, List.drop_succ_cons, List.drop_zero, List.filterMap_cons, List.filterMap_nil, List.getElem?_cons_succ, List.getElem?_cons_zero]
    go_wp2_with fail
    refine TextQ.mk ⟨fun _ => Only.refl _ _, ?_⟩ rfl
    refine Ord.cut 3 11 rfl rfl rfl rfl (by kernel_rfl) (by kernel_rfl) ?_; simp only [List.take_succ_cons, List.take_zero, List.drop_succ_cons, List.drop_zero, List.filterMap_cons, List.filterMap_nil, List.getElem?_cons_succ, List.getElem?_cons_zero]; go_wp2_with fail; refine TextQ.mk ⟨fun h => by simp at h, ?_⟩ rfl
    refine Ord.done ?_
    go_wp2_with fail
    go_ret
    exact ⟨rfl, hst.only⟩
  · obtain ⟨β, hβ⟩ : ∃ β, (c == (n : Int)) = β := ⟨_, rfl⟩
    have hr : decide (0 < cnt b v z k n) = β := by
      rw [HC.out, ← hβ]
      by_cases e : c = (n : Int)
      · rw [if_pos e, decide_eq_true (by omega), beq_iff_eq.2 e]
      · rw [if_neg e, decide_eq_false (by omega), beq_eq_false_iff_ne.2 e]
    rw [hr]
    have c1 : 0 < c := by omega
    have d1 : decide (0 < c) = true := decide_eq_true c1
    have Hβ := Lib.hid hr
    clear HC hr h0
    go_enter Try.func62, Try.ntmps62
    go_wp2_with fail
    refine wp_region_ord [1, 5] [0, 1, 2, 3, 4, 6, 7, 8, 5, 9, 10, 11] (by kernel_rfl) (by kernel_rfl) ?_
    generalize World.drew _ = W at *
    refine Ord.cut 1 0 rfl rfl rfl rfl (by kernel_rfl) (by kernel_rfl) ?_; simp only [List.take_succ_cons, List.take_zero, List.drop_succ_cons, List.drop_zero, List.filterMap_cons, List.filterMap_nil, List.getElem?_cons_zero]
    (first | (refine wpL_loadAtS hst rfl (ty := 104) rfl 0 rfl rfl (by kernel_rfl) 37 (by kernel_rfl) _ HT.out HL.out ?_) | (refine wpL_loadAtS hst rfl (ty := 104) rfl 1 rfl rfl (by kernel_rfl) 37 (by kernel_rfl) _ HT.out HL.out ?_) | (refine wpL_loadAtS hst rfl (ty := 104) rfl 2 rfl rfl (by kernel_rfl) 37 (by kernel_rfl) _ HT.out HL.out ?_))
    refine TextQ.mk ⟨fun h => by simp at h, ?_⟩ rfl
    refine Ord.cut 1 1 rfl rfl rfl rfl (by kernel_rfl) (by kernel_rfl) ?_; simp only [List.take_succ_cons, List.take_zero, List.drop_succ_cons, List.drop_zero, List.filterMap_cons, List.filterMap_nil, List.getElem?_cons_succ, List.getElem?_cons_zero]
    go_wp2_with (go_at_call 124; refine (CH.out _).mono ?_; rintro e1 w1 ⟨rfl, ho1⟩)
    refine TextQ.mk ⟨fun _ => ho1, ?_⟩ rfl
    replace hst := hst.keep ho1
    refine Ord.cut 2 3 rfl rfl rfl rfl (by kernel_rfl) (by kernel_rfl) ?_; simp only [List.take_succ_cons, List.take_zero, List.drop_succ_cons, List.drop_zero, List.filterMap_cons, List.filterMap_nil, List.getElem?_cons_succ, List.getElem?_cons_zero]; go_wp2_with fail; refine TextQ.mk ⟨fun h => by simp at h, ?_⟩ rfl
    refine Ord.cut 1 4 rfl rfl rfl rfl (by kernel_rfl) (by kernel_rfl) ?_; simp only [List.take_succ_cons, List.take_zero, List.drop_succ_cons, List.drop_zero, List.filterMap_cons, List.filterMap_nil, List.getElem?_cons_succ, List.getElem?_cons_zero]
    refine wpL_peel rfl rfl ?_
    (first | (refine wpL_loadAtS hst rfl (ty := 104) rfl 0 rfl rfl (by kernel_rfl) 37 (by kernel_rfl) _ HT.out HL.out ?_) | (refine wpL_loadAtS hst rfl (ty := 104) rfl 1 rfl rfl (by kernel_rfl) 37 (by kernel_rfl) _ HT.out HL.out ?_) | (refine wpL_loadAtS hst rfl (ty := 104) rfl 2 rfl rfl (by kernel_rfl) 37 (by kernel_rfl) _ HT.out HL.out ?_))
    refine TextQ.mk ⟨fun h => by simp at h, ?_⟩ rfl
    refine Ord.cut 1 6 rfl rfl rfl rfl (by kernel_rfl) (by kernel_rfl) ?_; simp only [List.take_succ_cons, List.take_zero, List.drop_succ_cons, List.drop_zero, List.filterMap_cons, List.filterMap_nil, List.getElem?_cons_succ, List.getElem?_cons_zero]; go_wp2_with fail; refine TextQ.mk ⟨fun h => by simp at h, ?_⟩ rfl
    refine Ord.cut 1 7 rfl rfl rfl rfl (by kernel_rfl) (by kernel_rfl) ?_; simp only [List.take_succ_cons, List.take_zero, List.drop_succ_cons, List.drop_zero, List.filterMap_cons, List.filterMap_nil, List.getElem?_cons_succ, List.getElem?_cons_zero]; (try refine wpL_peel rfl rfl ?_); (first | (refine wpL_load1S hst rfl rfl 0 rfl rfl rfl (by kernel_rfl) ?_) | (refine wpL_load1S hst rfl rfl 1 rfl rfl rfl (by kernel_rfl) ?_) | (refine wpL_load1S hst rfl rfl 2 rfl rfl rfl (by kernel_rfl) ?_) | (refine wpL_load1S hst rfl rfl 3 rfl rfl rfl (by kernel_rfl) ?_)); refine TextQ.mk ⟨fun h => by simp at h, ?_⟩ rfl
    refine Ord.cut 1 8 rfl rfl rfl rfl (by kernel_rfl) (by kernel_rfl) ?_; simp only [List.take_succ_cons, List.take_zero, List.drop_succ_cons, List.drop_zero, List.filterMap_cons, List.filterMap_nil, List.getElem?_cons_succ, List.getElem?_cons_zero]; go_wp2_with fail; refine TextQ.mk ⟨fun h => by simp at h, ?_⟩ rfl
    refine Ord.cut 1 5 rfl rfl rfl rfl (by kernel_rfl) (by kernel_rfl) ?_; simp only [List.take_succ_cons, List.take_zero, List.drop_succ_cons, List.drop_zero, List.filterMap_cons, List.filterMap_nil, List.getElem?_cons_succ, List.getElem?_cons_zero]
    go_wp2_with (go_at_call 124; refine (CH.out _).mono ?_; rintro e1 w2 ⟨rfl, ho2⟩)
    refine TextQ.mk ⟨fun _ => ho2, ?_⟩ rfl
    replace hst := hst.keep ho2
    refine Ord.cut 3 11 rfl rfl rfl rfl (by kernel_rfl) (by kernel_rfl) ?_; simp only [List.take_succ_cons, List.take_zero, List.drop_succ_cons, List.drop_zero, List.filterMap_cons, List.filterMap_nil, List.getElem?_cons_succ, List.getElem?_cons_zero]; go_wp2_with fail; refine TextQ.mk ⟨fun h => by simp at h, ?_⟩ rfl
    refine Ord.done ?_
    go_wp2_with fail
    go_ret
    exact ⟨rfl, hst.only⟩

end Go.Proofs.Ytmogkiacakkmbaa
