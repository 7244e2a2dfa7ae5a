/- Shapes: two of them compared; where a part stands, by the program and by the document alike. -/
import Derived.Test.YtgdifegbpbnekaaConfI
namespace Go.Proofs.Ytgdifegbpbnekaa
open Go.RowKit

theorem cfgFields : Try.prog.fieldsOf 23 = #[⟨"Vocab", 3, 0, false, "", "", 0⟩, ⟨"Dim", 3, 1, false, "", "", 8⟩, ⟨"Heads", 3, 2, false, "", "", 16⟩, ⟨"Blocks", 3, 3, false, "", "", 24⟩, ⟨"Hidden", 3, 4, false, "", "", 32⟩, ⟨"Context", 3, 5, false, "", "", 40⟩] := by kernel_rfl
theorem shpFields : Try.prog.fieldsOf 36 = #[⟨"Config", 23, 0, true, "", "", 0⟩] := by kernel_rfl
theorem part_int (cs : Array Value) (i : Nat) (v : Value) (w : World) (hv : cs[i]? = some v) : (part 3 cs i).run Try.prog w = .ok v w := by
  unfold part isAgg
  simp [Sem.run_bind, run_underlying Try.underlying3, Result.andThen_ok, hv, Sem.run_pure]
theorem eqIn_cfg (d : Nat) (V D H B F C V' D' H' B' F' C' : Int) (w : World) : (Op.equalIn (d + 2) 23 (.agg #[.int .i64 V, .int .i64 D, .int .i64 H, .int .i64 B, .int .i64 F, .int .i64 C]) (.agg #[.int .i64 V', .int .i64 D', .int .i64 H', .int .i64 B', .int .i64 F', .int .i64 C'])).run Try.prog w = .ok (V == V' && (D == D' && (H == H' && (B == B' && (F == F' && C == C'))))) w := by
  rw [run_equalIn_agg w (d + 1) 23 _ _ (by rw [cfgFields]; exact Try.underlying23) Try.stoodInHeld23, cfgFields]
  have step : ∀ (i : Nat) (n pk tg : String) (e : Bool) (bo : Nat) (x y : Array Value) (p q : Int) (fs : List Field), n ≠ "_" → x[i]? = some (.int .i64 p) → y[i]? = some (.int .i64 q) →
      (Op.eqFields (d+1) x y (⟨n, 3, i, e, tg, pk, bo⟩ :: fs)).run Try.prog w = if p == q then (Op.eqFields (d+1) x y fs).run Try.prog w else .ok false w := by
    intro i n pk tg e bo x y p q fs hn hx hy
    simp only [Op.eqFields, if_pos hn, Sem.run_bind, part_int x i _ w hx, part_int y i _ w hy, Result.andThen_ok, run_equalIn_int w d 3 .i64 .i64 p q Try.underlying3, Sem.run_ite]
    cases p == q <;> simp [Sem.run_pure]
  show (Op.eqFields (d + 1) _ _ [_, _, _, _, _, _]).run _ _ = _
  rw [step 0 _ _ _ _ _ _ _ V V' _ (by decide) rfl rfl, step 1 _ _ _ _ _ _ _ D D' _ (by decide) rfl rfl, step 2 _ _ _ _ _ _ _ H H' _ (by decide) rfl rfl, step 3 _ _ _ _ _ _ _ B B' _ (by decide) rfl rfl, step 4 _ _ _ _ _ _ _ F F' _ (by decide) rfl rfl, step 5 _ _ _ _ _ _ _ C C' _ (by decide) rfl rfl]
  simp only [Op.eqFields, Sem.run_pure]
  cases V == V' <;> cases D == D' <;> cases H == H' <;> cases B == B' <;> cases F == F' <;> cases C == C' <;> rfl
theorem eqIn_shp (d : Nat) (V D H B F C V' D' H' B' F' C' : Int) (w : World) : (Op.equalIn (d + 3) 36 (.agg #[.int .i64 V, .int .i64 D, .int .i64 H, .int .i64 B, .int .i64 F, .int .i64 C]) (.agg #[.int .i64 V', .int .i64 D', .int .i64 H', .int .i64 B', .int .i64 F', .int .i64 C'])).run Try.prog w = .ok (V == V' && (D == D' && (H == H' && (B == B' && (F == F' && C == C'))))) w := by
  rw [run_equalIn_agg w (d + 2) 36 _ _ (by rw [shpFields]; exact Try.underlying36) Try.stoodInHeld36, shpFields]
  have hz : ∀ w, (sizeOf 23).run Try.prog w = .ok 6 w := fun w => by
    obtain ⟨i, hi, hs⟩ : ∃ i, Try.prog.info? 23 = some i ∧ i.size = 6 := by
      have := cfgInfo
      cases hi : Try.prog.info? 23 with
      | none => simp [hi] at this
      | some i => exact ⟨i, rfl, by simpa [hi] using this⟩
    simp [sizeOf, typeInfo, hi, hs]
  have hp : ∀ (cs : List Value) (w : World), cs.length = 6 → (part 23 cs.toArray 0).run Try.prog w = .ok (.agg cs.toArray) w := by
    intro cs w hl
    unfold part isAgg
    simp [Sem.run_bind, run_underlying Try.underlying23, Result.andThen_ok, hz, Sem.run_pure, ← hl]
  show (Op.eqFields (d + 2) _ _ [_]).run _ _ = _
  simp only [Op.eqFields, if_pos (show ("Config" : String) ≠ "_" by decide), Sem.run_bind]
  rw [hp [.int .i64 V, .int .i64 D, .int .i64 H, .int .i64 B, .int .i64 F, .int .i64 C] w rfl, Result.andThen_ok, hp [.int .i64 V', .int .i64 D', .int .i64 H', .int .i64 B', .int .i64 F', .int .i64 C'] w rfl, Result.andThen_ok, eqIn_cfg, Result.andThen_ok]
  cases (V == V' && (D == D' && (H == H' && (B == B' && (F == F' && C == C'))))) <;> simp [Sem.run_pure]

section
variable {w : World} {ops : Array Oper} {rest : List Oper} {o : Oper} {a : Act} {Q : Exit → Act → World → Prop}
/-- A shape, held against itself: no other. -/
theorem wpL_neq_shp (hgd : o.guard = none) (r : TypeId) (x y : Operand) (ho : o.op = .binOp .neq 36 x y r) (c : Cfg) (hx : a.eval x = .agg c.cells.toArray) (hy : a.eval y = .agg c.cells.toArray)
    (h : wpList Try.prog ops Q rest (a.put o.dst (.bool false)) w) : wpList Try.prog ops Q (o :: rest) a w := by
  refine wpL_run hgd (v := .bool false) ?_ h
  have hn : (binOp .neq 36 (.agg c.cells.toArray) (.agg c.cells.toArray)).run Try.prog w = .ok (.bool false) w := by
    rw [run_neq_struct, show (10000 : Nat) = 9997 + 3 from rfl, show c.cells.toArray = #[.int .i64 c.V, .int .i64 c.D, .int .i64 c.H, .int .i64 c.B, .int .i64 c.F, .int .i64 c.C] from rfl, eqIn_shp, Result.andThen_ok]
    simp
  unfold execOp
  simp only [ho, Sem.run_bind, hx, hy, run_eqGuard_agg w .neq 36 x y _ _ Try.eqGuardType36, hn, Result.andThen_ok, Sem.run_pure]
theorem wpL_neq_cfg (hgd : o.guard = none) (r : TypeId) (x y : Operand) (ho : o.op = .binOp .neq 23 x y r) (c : Cfg) (hx : a.eval x = .agg c.cells.toArray) (hy : a.eval y = .agg c.cells.toArray)
    (h : wpList Try.prog ops Q rest (a.put o.dst (.bool false)) w) : wpList Try.prog ops Q (o :: rest) a w := by
  refine wpL_run hgd (v := .bool false) ?_ h
  have hn : (binOp .neq 23 (.agg c.cells.toArray) (.agg c.cells.toArray)).run Try.prog w = .ok (.bool false) w := by
    rw [run_neq_struct, show (10000 : Nat) = 9998 + 2 from rfl, show c.cells.toArray = #[.int .i64 c.V, .int .i64 c.D, .int .i64 c.H, .int .i64 c.B, .int .i64 c.F, .int .i64 c.C] from rfl, eqIn_cfg, Result.andThen_ok]
    simp
  unfold execOp
  simp only [ho, Sem.run_bind, hx, hy, run_eqGuard_agg w .neq 23 x y _ _ Try.eqGuardType23, hn, Result.andThen_ok, Sem.run_pure]
theorem wpL_eql_cfg (hgd : o.guard = none) (r : TypeId) (x y : Operand) (ho : o.op = .binOp .eql 23 x y r) (c : Cfg) (hx : a.eval x = .agg c.cells.toArray) (hy : a.eval y = .agg c.cells.toArray)
    (h : wpList Try.prog ops Q rest (a.put o.dst (.bool true)) w) : wpList Try.prog ops Q (o :: rest) a w := by
  refine wpL_run hgd (v := .bool true) ?_ h
  have hn : (binOp .eql 23 (.agg c.cells.toArray) (.agg c.cells.toArray)).run Try.prog w = .ok (.bool true) w := by
    rw [run_eql_struct, show (10000 : Nat) = 9998 + 2 from rfl, show c.cells.toArray = #[.int .i64 c.V, .int .i64 c.D, .int .i64 c.H, .int .i64 c.B, .int .i64 c.F, .int .i64 c.C] from rfl, eqIn_cfg, Result.andThen_ok]
    simp
  unfold execOp
  simp only [ho, Sem.run_bind, hx, hy, run_eqGuard_agg w .eql 23 x y _ _ Try.eqGuardType23, hn, Result.andThen_ok, Sem.run_pure]
end

theorem block_none (c : Cfg) (k a p b : Int) (h : b ≠ k ∨ p < 2 ∨ 10 < p) : (blockRows c k a).find? (rowIs p b) = none := by
  rw [List.find?_eq_none]
  intro x hx
  simp only [blockRows, List.mem_cons, List.not_mem_nil, or_false] at hx
  unfold rowIs
  rcases hx with rfl | rfl | rfl | rfl | rfl | rfl | rfl | rfl | rfl <;> simp <;> omega
theorem block_some (c : Cfg) (k a : Int) (n : Nat) (hn : n ≤ 8) : (blockRows c k a).find? (rowIs ((n : Int) + 2) k) = some ((n : Int) + 2, k, a + c.span 2 n, c.sz ((n : Int) + 2)) := by
  have hn' : n = 0 ∨ n = 1 ∨ n = 2 ∨ n = 3 ∨ n = 4 ∨ n = 5 ∨ n = 6 ∨ n = 7 ∨ n = 8 := by omega
  rcases hn' with rfl | rfl | rfl | rfl | rfl | rfl | rfl | rfl | rfl <;> simp [blockRows, rowIs, Cfg.span, Int.add_assoc]
theorem upto_none (c : Cfg) (p b : Int) (m : Nat) (h : p < 0 ∨ 11 ≤ p ∨ (p < 2 ∧ b ≠ 0) ∨ (2 ≤ p ∧ (b < 0 ∨ (m : Int) ≤ b))) : (rowsUpto c m).find? (rowIs p b) = none := by
  induction m with
  | zero =>
    rw [List.find?_eq_none]
    intro x hx
    simp only [rowsUpto, List.mem_cons, List.not_mem_nil, or_false] at hx
    unfold rowIs
    rcases hx with rfl | rfl <;> simp <;> omega
  | succ m ih =>
    rw [rowsUpto, List.find?_append, ih (by omega), block_none _ _ _ _ _ (by omega)]
    rfl
theorem upto_head0 (c : Cfg) (m : Nat) : (rowsUpto c m).find? (rowIs 0 0) = some (0, 0, 0, c.sz 0) := by
  induction m with
  | zero => simp [rowsUpto, rowIs]
  | succ m ih => rw [rowsUpto, List.find?_append, ih]; rfl
theorem upto_head1 (c : Cfg) (m : Nat) : (rowsUpto c m).find? (rowIs 1 0) = some (1, 0, c.sz 0, c.sz 1) := by
  induction m with
  | zero => simp [rowsUpto, rowIs]
  | succ m ih => rw [rowsUpto, List.find?_append, ih]; rfl
theorem upto_mid (c : Cfg) (n k : Nat) (hn : n ≤ 8) (m : Nat) (hk : k < m) : (rowsUpto c m).find? (rowIs ((n : Int) + 2) (k : Int)) = some ((n : Int) + 2, (k : Int), c.base k + c.span 2 n, c.sz ((n : Int) + 2)) := by
  induction m with
  | zero => omega
  | succ m ih =>
    rw [rowsUpto, List.find?_append]
    by_cases h : k < m
    · rw [ih h]
      rfl
    · have e : k = m := by omega
      subst e
      rw [upto_none c _ _ k (by omega), block_some c k _ n hn]
      rfl

/-- What is told of a part of a block. -/
def Cfg.told (c : Cfg) (p b : Int) : Value := toldOf ((rowsTo c (12 * (c.B.toNat + 2))).1.find? (rowIs p b))
theorem told_eq {c : Cfg} (h : Fit c) (p b : Int) : c.told p b = toldOf ((rowsUpto c c.B.toNat ++ [(11, 0, c.base c.B.toNat, c.sz 11)]).find? (rowIs p b)) := by
  unfold Cfg.told
  rw [rows_all c c.B.toNat (by have := h.b0; omega)]
theorem told_none {c : Cfg} (h : Fit c) (p b : Int) (hn : p < 0 ∨ 11 < p ∨ (p < 2 ∧ b ≠ 0) ∨ (2 ≤ p ∧ p < 11 ∧ (b < 0 ∨ c.B ≤ b)) ∨ (p = 11 ∧ b ≠ 0)) : c.told p b = .tuple #[.int .i64 0, .int .i64 0, .bool false] := by
  have hb := h.b0
  rw [told_eq h, List.find?_append, upto_none _ _ _ _ (by omega), List.find?_cons_of_neg (by unfold rowIs; simp; omega)]
  rfl
theorem told_0 {c : Cfg} (h : Fit c) : c.told 0 0 = .tuple #[.int .i64 (c.span 0 0), .int .i64 (c.sz 0), .bool true] := by
  rw [told_eq h, List.find?_append, upto_head0]
  rfl
theorem told_1 {c : Cfg} (h : Fit c) : c.told 1 0 = .tuple #[.int .i64 (c.span 0 1), .int .i64 (c.sz 1), .bool true] := by
  rw [told_eq h, List.find?_append, upto_head1, span1]
  rfl
theorem told_11 {c : Cfg} (h : Fit c) : c.told 11 0 = .tuple #[.int .i64 (c.all - c.sz 11), .int .i64 (c.sz 11), .bool true] := by
  have hb := h.b0
  rw [told_eq h, List.find?_append, upto_none _ _ _ _ (by omega), List.find?_cons_of_pos (by unfold rowIs; rfl), all_base c c.B.toNat (by omega), Int.add_sub_cancel]
  rfl
theorem told_mid {c : Cfg} (h : Fit c) (n : Nat) (b : Int) (hn : n ≤ 8) (hB0 : 0 ≤ b) (hB : b < c.B) : c.told ((n : Int) + 2) b = .tuple #[.int .i64 (c.span 0 2 + b * c.span 2 9 + c.span 2 n), .int .i64 (c.sz ((n : Int) + 2)), .bool true] := by
  have hb := h.b0
  obtain ⟨k, rfl⟩ : ∃ k : Nat, b = (k : Int) := ⟨b.toNat, by omega⟩
  rw [told_eq h, List.find?_append, upto_mid c n k hn _ (by omega)]
  rfl
theorem range_told (c : Cfg) (p b : Int) (h : CanBe c) (w : World) : Calls Try.prog 84 #[.agg c.cells.toArray, .int .i64 p, .int .i64 b] w fun e w' => e = .returned (c.told p b) ∧ Only [] w w' := by
  have hf := h.fit
  by_cases h1 : p < 0
  · rw [told_none hf p b (.inl h1)]
    exact range_b1 c p b h h1 w
  by_cases h2 : 11 < p
  · rw [told_none hf p b (.inr (.inl h2))]
    exact range_b2 c p b h h2 w
  by_cases h3 : p < 2
  · by_cases h4 : b < 0
    · rw [told_none hf p b (by omega)]
      exact range_b3 c p b h (by omega) h3 h4 w
    by_cases h5 : 1 ≤ b
    · rw [told_none hf p b (by omega)]
      exact range_b4 c p b h (by omega) h3 h5 w
    have eb : b = 0 := by omega
    subst eb
    by_cases h6 : p = 0
    · subst h6
      rw [told_0 hf]
      exact range_f0 c h w
    · have ep : p = 1 := by omega
      subst ep
      rw [told_1 hf]
      exact range_f1 c h w
  by_cases h4 : p = 11
  · subst h4
    by_cases h5 : b < 0
    · rw [told_none hf 11 b (by omega)]
      exact range_b7 c b h h5 w
    by_cases h6 : 1 ≤ b
    · rw [told_none hf 11 b (by omega)]
      exact range_b8 c b h h6 w
    have eb : b = 0 := by omega
    subst eb
    rw [told_11 hf]
    exact range_f11 c h w
  by_cases h5 : b < 0
  · rw [told_none hf p b (by omega)]
    exact range_b5 c p b h (by omega) (by omega) h5 w
  by_cases h6 : c.B ≤ b
  · rw [told_none hf p b (by omega)]
    exact range_b6 c p b h (by omega) (by omega) h6 w
  obtain ⟨n, rfl⟩ : ∃ n : Nat, p = (n : Int) + 2 := ⟨(p - 2).toNat, by omega⟩
  rw [told_mid hf n b (by omega) (by omega) (by omega)]
  exact range_mid c h n b (by omega) (by omega) (by omega) w
theorem range_no (c : Cfg) (p b : Int) (h : ¬ CanBe c) (w : World) : Calls Try.prog 84 #[.agg c.cells.toArray, .int .i64 p, .int .i64 b] w fun e w' => e = .returned (.tuple #[.int .i64 0, .int .i64 0, .bool false]) ∧ Only [] w w' := by
  by_cases h1 : p < 2
  · exact range_a1 c p b h h1 w
  by_cases h2 : p = 11
  · subst h2
    exact range_a3 c b h w
  exact range_a2 c p b h (by omega) h2 w
/-- .. three values of it. -/
theorem told_form (c : Cfg) (p b : Int) : ∃ (x y : Int) (z : Bool), c.told p b = .tuple #[.int .i64 x, .int .i64 y, .bool z] := by
  unfold Cfg.told toldOf
  split
  · exact ⟨_, _, _, rfl⟩
  · exact ⟨_, _, _, rfl⟩

end Go.Proofs.Ytgdifegbpbnekaa
