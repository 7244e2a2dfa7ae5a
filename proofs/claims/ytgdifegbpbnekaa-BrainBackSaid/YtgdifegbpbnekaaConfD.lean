/- Shapes: Size, Side, HeadDim, Range, Of, by the program. -/
import Derived.Test.YtgdifegbpbnekaaConfF
import Derived.Laws.ResultCell
namespace Go.Proofs.Ytgdifegbpbnekaa
open Go.RowKit

section
variable {P : Program} {fn : Func} {R : Ending → World → Prop} {a : Act} {w : World}
/-- The end of a call that gives a row in memory and a value. -/
theorem end_row_tmp2 {p q : Tmp} {ty t : TypeId} {b : Nat} {cs : List Value} {d : TypeDesc} {v : Value} (h : fn.results = #[.cell p ty, .tmp q]) (hp : a.tmps.getD p undef = .pointer (some ⟨b, 0, none⟩)) (hg : Blk w b cs t)
    (hu : P.underlying ty = some d) (hd : (match d with | .struct _ | .array _ _ => true | _ => false) = true) {n : Nat} (hi : (P.info? ty).map (·.size) = some n) (hn : cs.length = n) (hdef : a.defers = []) (hq : a.tmps.getD q undef = v)
    (hR : R (.returned (.tuple #[.agg cs.toArray, v])) w) : bodyPost P fn R .ret a w := by
  refine bodyPost_ret (v := .tuple #[.agg cs.toArray, v]) ?_ hdef hR
  rw [results_cell_tmp h, hp, hq]
  have hl := run_loadVar_row w b t ty cs.toArray (0, 0) d hg hu hd (by rw [hi, ← hn]; simp)
  simp [asAddr, hl, Result.andThen]
end

theorem shpInfo : (Try.prog.info? 36).map (·.size) = some 6 := by kernel_rfl
theorem cfgInfo : (Try.prog.info? 23).map (·.size) = some 6 := by kernel_rfl
theorem Cfg.cells_length (c : Cfg) : c.cells.length = 6 := rfl
theorem Cfg.cells_one (c : Cfg) : c.cells.toArray.all (·.oneCell') = true := by simp [Cfg.cells, Value.oneCell']

set_option maxRecDepth 100000 in
set_option maxHeartbeats 2000000 in
theorem size_no (c : Cfg) (h : ¬ CanBe c) (w : World) : Calls Try.prog 18 #[.agg c.cells.toArray] w fun e w' => e = .returned (.int .i64 0) ∧ Only [] w w' := by
  have hb0 := Blk.new w c.cells 36
  have GG : Hid (∀ w, Calls Try.prog 83 #[.agg c.cells.toArray] w fun e w' => e = .returned (.bool false) ∧ Only [] w w') := confGood_no c h
  have HL := Lib.hid c.cells_length
  obtain ⟨K, eK⟩ : ∃ K, K = c.cells := ⟨_, rfl⟩
  rw [← eK] at hb0 GG HL ⊢
  clear eK h
  go_enter Try.func18, Try.ntmps18
  go_wp2_with (first
    | (refine wpL_load rfl _ _ rfl w.heap.size rfl _ _ _ hb0 Try.underlying23 rfl cfgInfo HL.out ?_)
    | (go_at_call 83; refine (GG.out _).mono ?_; rintro e w1 ⟨rfl, ho1⟩))
  go_ret
  exact ⟨rfl, ((Only.refl [] w).alloc _).trans ho1⟩

set_option maxRecDepth 100000 in
set_option maxHeartbeats 2000000 in
theorem size_yes (c : Cfg) (h : CanBe c) (w : World) : Calls Try.prog 18 #[.agg c.cells.toArray] w fun e w' => e = .returned (.int .i64 c.all) ∧ Only [] w w' := by
  have hb0 := Blk.new w c.cells 36
  have GG : Hid (∀ w, Calls Try.prog 83 #[.agg c.cells.toArray] w fun e w' => e = .returned (.bool true) ∧ Only [] w w') := confGood_yes c h
  have AL : Hid (∀ w, Calls Try.prog 87 #[.agg c.cells.toArray] w fun e w' => e = .returned (.int .i64 c.all) ∧ Only [] w w') := fun w => all_any c h.fit w
  have HL := Lib.hid c.cells_length
  obtain ⟨T, eT⟩ : ∃ T, T = c.all := ⟨_, rfl⟩
  rw [← eT] at AL ⊢
  obtain ⟨K, eK⟩ : ∃ K, K = c.cells := ⟨_, rfl⟩
  rw [← eK] at hb0 GG HL AL ⊢
  clear eK eT h
  go_enter Try.func18, Try.ntmps18
  go_wp2_with (first
    | (refine wpL_load rfl 23 _ rfl w.heap.size rfl _ _ _ hb0 Try.underlying23 rfl cfgInfo HL.out ?_)
    | (go_at_call 83; refine (GG.out _).mono ?_; rintro e w1 ⟨rfl, ho1⟩)
    | (refine wpL_load rfl 36 _ rfl w.heap.size rfl _ _ _ (hb0.keep ho1) Try.underlying36 rfl shpInfo HL.out ?_)
    | (go_at_call 87; refine (AL.out _).mono ?_; rintro e w2 ⟨rfl, ho2⟩))
  go_ret
  exact ⟨rfl, (((Only.refl [] w).alloc _).trans ho1).trans ho2⟩

set_option maxRecDepth 100000 in
set_option maxHeartbeats 2000000 in
theorem side_no (c : Cfg) (p : Int) (h : ¬ CanBe c) (w : World) : Calls Try.prog 17 #[.agg c.cells.toArray, .int .i64 p] w fun e w' => e = .returned (.tuple #[.int .i64 0, .int .i64 0]) ∧ Only [] w w' := by
  have hb0 := Blk.new w c.cells 36
  have GG : Hid (∀ w, Calls Try.prog 83 #[.agg c.cells.toArray] w fun e w' => e = .returned (.bool false) ∧ Only [] w w') := confGood_no c h
  have HL := Lib.hid c.cells_length
  obtain ⟨K, eK⟩ : ∃ K, K = c.cells := ⟨_, rfl⟩
  rw [← eK] at hb0 GG HL ⊢
  clear eK h
  go_enter Try.func17, Try.ntmps17
  go_wp2_with (first
    | (refine wpL_load rfl 23 _ rfl w.heap.size rfl _ _ _ hb0 Try.underlying23 rfl cfgInfo HL.out ?_)
    | (go_at_call 83; refine (GG.out _).mono ?_; rintro e w1 ⟨rfl, ho1⟩))
  go_ret2
  exact ⟨rfl, ((Only.refl [] w).alloc _).trans ho1⟩

set_option maxRecDepth 100000 in
set_option maxHeartbeats 2000000 in
theorem side_yes (c : Cfg) (p : Int) (h : CanBe c) (w : World) : Calls Try.prog 17 #[.agg c.cells.toArray, .int .i64 p] w fun e w' => e = .returned (.tuple #[.int .i64 (c.side p).1, .int .i64 (c.side p).2]) ∧ Only [] w w' := by
  have hb0 := Blk.new w c.cells 36
  have GG : Hid (∀ w, Calls Try.prog 83 #[.agg c.cells.toArray] w fun e w' => e = .returned (.bool true) ∧ Only [] w w') := confGood_yes c h
  have AL : Hid (∀ w, Calls Try.prog 86 #[.agg c.cells.toArray, .int .i64 p] w fun e w' => e = .returned (.tuple #[.int .i64 (c.side p).1, .int .i64 (c.side p).2]) ∧ Only [] w w') := fun w => confSide_any c p w
  have HL := Lib.hid c.cells_length
  obtain ⟨x, ex⟩ : ∃ x, x = (c.side p).1 := ⟨_, rfl⟩
  obtain ⟨y, ey⟩ : ∃ y, y = (c.side p).2 := ⟨_, rfl⟩
  rw [← ex, ← ey] at AL ⊢
  obtain ⟨K, eK⟩ : ∃ K, K = c.cells := ⟨_, rfl⟩
  rw [← eK] at hb0 GG HL AL ⊢
  clear eK ex ey h
  go_enter Try.func17, Try.ntmps17
  go_wp2_with (first
    | (refine wpL_load rfl 23 _ rfl w.heap.size rfl _ _ _ hb0 Try.underlying23 rfl cfgInfo HL.out ?_)
    | (go_at_call 83; refine (GG.out _).mono ?_; rintro e w1 ⟨rfl, ho1⟩)
    | (refine wpL_load rfl 36 _ rfl w.heap.size rfl _ _ _ (hb0.keep ho1) Try.underlying36 rfl shpInfo HL.out ?_)
    | (go_at_call 86; refine (AL.out _).mono ?_; rintro e w2 ⟨rfl, ho2⟩))
  go_ret2
  exact ⟨rfl, (((Only.refl [] w).alloc _).trans ho1).trans ho2⟩

set_option maxRecDepth 100000 in
set_option maxHeartbeats 2000000 in
theorem head_no (c : Cfg) (h : ¬ CanBe c) (w : World) : Calls Try.prog 47 #[.agg c.cells.toArray] w fun e w' => e = .returned (.int .i64 0) ∧ Only [] w w' := by
  have hb0 := Blk.new w c.cells 36
  have GG : Hid (∀ w, Calls Try.prog 83 #[.agg c.cells.toArray] w fun e w' => e = .returned (.bool false) ∧ Only [] w w') := confGood_no c h
  have HL := Lib.hid c.cells_length
  obtain ⟨K, eK⟩ : ∃ K, K = c.cells := ⟨_, rfl⟩
  rw [← eK] at hb0 GG HL ⊢
  clear eK h
  go_enter Try.func47, Try.ntmps47
  go_wp2_with (first
    | (refine wpL_load rfl 23 _ rfl w.heap.size rfl _ _ _ hb0 Try.underlying23 rfl cfgInfo HL.out ?_)
    | (go_at_call 83; refine (GG.out _).mono ?_; rintro e w1 ⟨rfl, ho1⟩))
  go_ret
  exact ⟨rfl, ((Only.refl [] w).alloc _).trans ho1⟩

set_option maxRecDepth 100000 in
set_option maxHeartbeats 2000000 in
theorem head_yes (c : Cfg) (h : CanBe c) (w : World) : Calls Try.prog 47 #[.agg c.cells.toArray] w fun e w' => e = .returned (.int .i64 (c.D / c.H)) ∧ Only [] w w' := by
  have hb0 := Blk.new w c.cells 36
  have GG : Hid (∀ w, Calls Try.prog 83 #[.agg c.cells.toArray] w fun e w' => e = .returned (.bool true) ∧ Only [] w w') := confGood_yes c h
  have HL := Lib.hid c.cells_length
  have c1 := Lib.hid (hb0.cell (i := 1) (v := .int .i64 c.D) rfl)
  have c2 := Lib.hid (hb0.cell (i := 2) (v := .int .i64 c.H) rfl)
  have d0 := h.fit.d0
  have d1 := h.fit.d1
  have h0 := h.fit.h0
  have h1 := h.fit.h1
  obtain ⟨D, eD⟩ : ∃ D, D = c.D := ⟨_, rfl⟩
  obtain ⟨H, eH⟩ : ∃ H, H = c.H := ⟨_, rfl⟩
  rw [← eD] at d0 d1 c1 ⊢
  rw [← eH] at h0 h1 c2 ⊢
  obtain ⟨K, eK⟩ : ∃ K, K = c.cells := ⟨_, rfl⟩
  rw [← eK] at hb0 GG HL c1 c2 ⊢
  have hne : ¬ H = 0 := by omega
  clear eK eD eH h
  go_enter Try.func47, Try.ntmps47
  go_wp2_with (first
    | (refine wpL_load rfl 23 _ rfl w.heap.size rfl _ _ _ hb0 Try.underlying23 rfl cfgInfo HL.out ?_)
    | (go_at_call 83; refine (GG.out _).mono ?_; rintro e w1 ⟨rfl, ho1⟩; have k1 : w1.cell? ⟨w.heap.size, 1, none⟩ = some (.int .i64 D) := by (rw [ho1.cellAt _ _ (by simp) (by simp)]; exact c1.out)
       have k2 : w1.cell? ⟨w.heap.size, 2, none⟩ = some (.int .i64 H) := by (rw [ho1.cellAt _ _ (by simp) (by simp)]; exact c2.out)))
  go_ret
  exact ⟨rfl, ((Only.refl [] w).alloc _).trans ho1⟩

def zeros6 : List Value := List.replicate 6 (.int .i64 0)
theorem zeros6_one : zeros6.toArray.all (·.oneCell') = true := by simp [zeros6, Value.oneCell']
end Go.Proofs.Ytgdifegbpbnekaa
