/- Shapes: the document's row of parts. -/
import Derived.Test.YtgdifegbpbnekaaConfC
namespace Go.Proofs.Ytgdifegbpbnekaa
open Go.RowKit

abbrev Row4 := Int × Int × Int × Int
def row4 (r : Row4) : List Value := [.int .i64 r.1, .int .i64 r.2.1, .int .i64 r.2.2.1, .int .i64 r.2.2.2]
def rowCells (l : List Row4) : List Value := (l.map row4).flatten
theorem rowCells_length (l : List Row4) : (rowCells l).length = l.length * 4 := by
  induction l with
  | nil => rfl
  | cons r l ih =>
    unfold rowCells at ih ⊢
    rw [List.map_cons, List.flatten_cons, List.length_append, ih]
    simp [row4]
    omega
theorem rowCells_append (a b : List Row4) : rowCells (a ++ b) = rowCells a ++ rowCells b := by simp [rowCells]
/-- Whether a part of a block is told. -/
def keepR (B b p : Int) : Bool := if b < 0 then decide (p ≤ 1) else if b = B then decide (11 ≤ p) else decide (2 ≤ p) && decide (p ≤ 10)
/-- Its row. -/
def rowAt (c : Cfg) (b p a : Int) : Row4 := (p, if b < 0 ∨ b = c.B then 0 else b, a, c.sz p)
/-- The rows told, and where the next stands. -/
def rowsTo (c : Cfg) : Nat → List Row4 × Int
  | 0 => ([], 0)
  | t + 1 => if keepR c.B (((t / 12 : Nat) : Int) - 1) ((t % 12 : Nat) : Int) = true then ((rowsTo c t).1 ++ [rowAt c (((t / 12 : Nat) : Int) - 1) ((t % 12 : Nat) : Int) (rowsTo c t).2], (rowsTo c t).2 + c.sz ((t % 12 : Nat) : Int)) else rowsTo c t
theorem rowsTo_keep (c : Cfg) (m q : Nat) (hq : q < 12) (h : keepR c.B ((m : Int) - 1) (q : Int) = true) : rowsTo c (12 * m + q + 1) = ((rowsTo c (12 * m + q)).1 ++ [rowAt c ((m : Int) - 1) q (rowsTo c (12 * m + q)).2], (rowsTo c (12 * m + q)).2 + c.sz q) := by
  have e1 : (12 * m + q) / 12 = m := by omega
  have e2 : (12 * m + q) % 12 = q := by omega
  rw [rowsTo, e1, e2, if_pos h]
theorem rowsTo_skip (c : Cfg) (m q : Nat) (hq : q < 12) (h : keepR c.B ((m : Int) - 1) (q : Int) = false) : rowsTo c (12 * m + q + 1) = rowsTo c (12 * m + q) := by
  have e1 : (12 * m + q) / 12 = m := by omega
  have e2 : (12 * m + q) % 12 = q := by omega
  rw [rowsTo, e1, e2, if_neg (by rw [h]; decide)]
theorem rowsTo_bounds {c : Cfg} (h : Fit c) (t : Nat) : 0 ≤ (rowsTo c t).2 ∧ (rowsTo c t).2 ≤ 1024 * t ∧ (rowsTo c t).1.length ≤ t := by
  induction t with
  | zero => exact ⟨Int.le_refl _, by simp [rowsTo], by simp [rowsTo]⟩
  | succ t ih =>
    have := sz_bounds h ((t % 12 : Nat) : Int)
    unfold rowsTo
    split
    · simp only [List.length_append, List.length_singleton]
      omega
    · omega

theorem row4Info3 : (Try.prog.info? 160).map (fun i => (i.zero, i.size, i.bytes)) = some (some (.agg #[.int .i64 0, .int .i64 0, .int .i64 0, .int .i64 0]), 4, 32) := by kernel_rfl
theorem row4Info : (Try.prog.info? 160).map (·.size) = some 4 := by kernel_rfl
section
variable {P : Program} {w : World} {ops : Array Oper} {rest : List Oper} {o : Oper} {a : Act} {Q : Exit → Act → World → Prop}
/-- An empty slice literal. -/
theorem wpL_slice_none2 (hgd : o.guard = none) (t : TypeId) (ho : o.op = .buildSlice t 0 #[]) {e : TypeId} (ht : P.underlying t = some (.slice e))
    {size : Nat} (hinfo : (P.info? e).map (·.size) = some size)
    (h : ∀ w1, Only [] w w1 → Hid (w1.heap.size = w.heap.size + 1) → w1.ownsRow w.heap.size e size (.slice (some ⟨w.heap.size, 0, none⟩) 0 0) 0 [] → wpList P ops Q rest (a.put o.dst (.slice (some ⟨w.heap.size, 0, none⟩) 0 0)) w1) : wpList P ops Q (o :: rest) a w := by
  obtain ⟨i, hi, hs⟩ : ∃ i, P.info? e = some i ∧ i.size = size := by
    cases hi : P.info? e with
    | none => simp [hi] at hinfo
    | some i => exact ⟨i, rfl, by simpa [hi] using hinfo⟩
  have hsz : (sizeOf e).run P w = .ok size w := by simp [sizeOf, typeInfo, hi, hs]
  have hrun : (Instr.buildSlice t 0 #[]).run P w = .ok (.slice (some ⟨w.heap.size, 0, none⟩) 0 0) (w.alloc (.cells #[] e)) := by
    unfold Instr.buildSlice
    rw [Sem.run_bind, run_underlying ht w, Result.andThen_ok]
    simp only
    rw [Sem.run_bind, hsz, Result.andThen_ok]
    have e0 : Array.range 0 = (#[] : Array Nat) := Array.eq_empty_of_size_eq_zero (by simp)
    simp [Instr.fill, newRow, e0]
  refine wpList_plain hgd fun K hK => ?_
  unfold Oper.wp
  simp only [execOp, ho, Sem.run_bind, List.map_toArray, List.map_nil, hrun, Result.andThen_ok, Sem.run_pure]
  refine hK _ _ (h _ ((Only.refl _ w).alloc _) (show _ = _ by simp) ⟨by simp, .inr ⟨w.heap.size, 0, #[], rfl, Nat.le_refl _, heap_alloc_new w _, Nat.le_refl _, by decide, by simp, by simp⟩⟩)
end
theorem row4_one (r : Row4) : ∀ u ∈ row4 r, u.oneCell' = true := by
  intro u hu
  simp only [row4, List.mem_cons, List.not_mem_nil, or_false] at hu
  rcases hu with rfl | rfl | rfl | rfl <;> rfl

set_option maxRecDepth 100000 in
set_option maxHeartbeats 16000000 in
theorem rows_any (c : Cfg) (hf : Fit c) (bn : Nat) (hbn : c.B = (bn : Int)) (w : World) : Calls Try.prog 112 #[.agg c.cells.toArray] w fun e w' => ∃ v, e = .returned v ∧ w'.ownsRow w.heap.size 160 4 v (rowsTo c (12 * (bn + 2))).1.length (rowCells (rowsTo c (12 * (bn + 2))).1) ∧ Only [] w w' := by
  have hb0 := Blk.new w c.cells 23
  have hbb : bn ≤ 3 ∧ 1 ≤ bn := by have := hf.b0; have := hf.b1; omega
  have HS : Hid (∀ p w, Calls Try.prog 151 #[.agg c.cells.toArray, .int .i64 p] w fun e w' => e = .returned (.tuple #[.int .i64 (c.side p).1, .int .i64 (c.side p).2]) ∧ Only [] w w') := fun p w => refSide_any c p w
  have c3 := Lib.hid (hb0.cell (i := 3) (v := .int .i64 c.B) rfl)
  rw [hbn] at c3
  have HL : Hid (c.cells.length = 6) := rfl
  have HF := Lib.hid hf
  have HBN := Lib.hid hbn
  obtain ⟨K, eK⟩ : ∃ K, K = c.cells := ⟨_, rfl⟩
  rw [← eK] at hb0 c3 HS HL ⊢
  clear eK hf hbn
  go_enter Try.func112, Try.ntmps112
  go_wp2_with (refine wpL_slice_none2 rfl _ rfl Try.underlying177 row4Info ?_; intro w1 ho1 hs1 hown1)
  have hw0 : Only [] w (w.alloc (.cells K.toArray 23)) := (Only.refl [] w).alloc _
  have hsz : (w.alloc (.cells K.toArray 23)).heap.size = w.heap.size + 1 := by simp
  rw [hsz] at hown1
  generalize (w.alloc (.cells K.toArray 23)) = W0 at *
  have hbW : w.heap.size < W0.heap.size := by omega
  clear hs1
  go_loopw [3, 4, 5] (fun l a b wr => ∃ (m : Nat), m ≤ bn + 2 ∧ b = .int .i64 ((m : Int) - 1) ∧ a = .int .i64 (rowsTo c (12 * m)).2 ∧ wr.ownsRow (w.heap.size + 1) 160 4 l (rowsTo c (12 * m)).1.length (rowCells (rowsTo c (12 * m)).1) ∧ Only [] W0 wr) (fun _ _ b _ => (bn + 1 - intOf b).toNat)
  case atStart => exact ⟨0, by omega, rfl, rfl, hown1, ho1⟩
  case round =>
    obtain ⟨m, hm, rfl, rfl, hown, hor⟩ := hrel
    have k3 : wr.cell? ⟨w.heap.size, 3, none⟩ = some (.int .i64 bn) := by rw [hor.cellAt _ _ hbW (by simp)]; exact c3.out
    by_cases hlt : m < bn + 2
    · have g1 : (m : Int) - 1 ≤ bn := by omega
      go_wp2_with fail
      clear k3
      go_loopw [3, 4, 6] (fun l a p wj => ∃ (q : Nat), q ≤ 12 ∧ p = .int .i64 (q : Int) ∧ a = .int .i64 (rowsTo c (12 * m + q)).2 ∧ wj.ownsRow (w.heap.size + 1) 160 4 l (rowsTo c (12 * m + q)).1.length (rowCells (rowsTo c (12 * m + q)).1) ∧ Only [] W0 wj) (fun _ _ p _ => 12 - (intOf p).toNat)
      case atStart => exact ⟨0, by omega, rfl, rfl, hown, hor⟩
      case round =>
        obtain ⟨q, hq, rfl, rfl, hownj, hoj⟩ := hrel
        have k3 : wr.cell? ⟨w.heap.size, 3, none⟩ = some (.int .i64 bn) := by rw [hoj.cellAt _ _ hbW (by simp)]; exact c3.out
        by_cases hq12 : q < 12
        · have g2 : (q : Int) < 12 := by omega
          obtain ⟨t0, t1, t2⟩ := rowsTo_bounds HF.out (12 * m + q)
          have hkeep := rowsTo_keep c m q hq12
          have hskip := rowsTo_skip c m q hq12
          have hbk := hb0.only (S := []) (w' := wr) hoj (by simp)
          obtain ⟨z0, z1⟩ := sz_bounds HF.out (q : Int)
          have HSQ := HS.out (q : Int)
          have hrow : ∀ a, rowAt c ((m : Int) - 1) q a = ((q : Int), (if (m : Int) - 1 < 0 ∨ (m : Int) - 1 = (bn : Int) then 0 else (m : Int) - 1), a, c.sz q) := fun a => by unfold rowAt; rw [HBN.out]
          rw [HBN.out] at hkeep hskip
          unfold Cfg.sz at z0 z1 hkeep hrow
          obtain ⟨x, ex⟩ : ∃ x, x = (c.side (q : Int)).1 := ⟨_, rfl⟩
          obtain ⟨y, ey⟩ : ∃ y, y = (c.side (q : Int)).2 := ⟨_, rfl⟩
          rw [← ex, ← ey] at z0 z1 hkeep hrow HSQ
          obtain ⟨L, eL⟩ : ∃ L, L = (rowsTo c (12 * m + q)).1 := ⟨_, rfl⟩
          obtain ⟨at0, eA⟩ : ∃ at0, at0 = (rowsTo c (12 * m + q)).2 := ⟨_, rfl⟩
          rw [← eL] at t2 hownj hkeep
          rw [← eA] at t0 t1 hkeep
          rw [← eA]
          have HSK := Lib.hid HSQ
          have HKEEP := Lib.hid hkeep
          have HSKIP := Lib.hid hskip
          have HROW := Lib.hid hrow
          have EL := Lib.hid eL
          have EA := Lib.hid eA
          clear ex ey eL eA HSQ hkeep hskip hrow
          by_cases hA : m < 1
          · have f1 : (m : Int) - 1 < 0 := by omega
            have f2 : ((m : Int) - 1 == (bn : Int)) = false := by rw [beq_eq_false_iff_ne]; omega
            have f3 : ¬ (0 : Int) ≤ (m : Int) - 1 := by omega
            by_cases hp : 1 < q
            · have hk : Hid (keepR (bn : Int) ((m : Int) - 1) (q : Int) = false) := by show _ = false; unfold keepR; rw [if_pos f1, decide_eq_false (by omega)]
              have f4 : (1 : Int) < q := by omega
              go_wp2_with fail
              go_roundw
              case rel => exact ⟨q + 1, by omega, by go_num, by rw [show 12 * m + (q + 1) = 12 * m + q + 1 by omega, HSKIP.out hk.out, ← EA.out], by rw [show 12 * m + (q + 1) = 12 * m + q + 1 by omega, HSKIP.out hk.out, ← EL.out]; exact hownj, hoj⟩
              case measure => simp [intOf]; omega
            · have hk : Hid (keepR (bn : Int) ((m : Int) - 1) (q : Int) = true) := by show _ = true; unfold keepR; rw [if_pos f1, decide_eq_true (by omega)]
              have f4 : ¬ (1 : Int) < q := by omega
              have f5 : (q : Int) < 2 := by omega
              go_wp2_with (first
                | (refine wpL_load rfl 23 _ rfl w.heap.size rfl _ _ _ hbk Try.underlying23 rfl (by kernel_rfl : (Try.prog.info? 23).map (·.size) = some 6) HL.out ?_)
                | (go_at_call 151; refine (HSK.out _).mono ?_))
              intro e w2 hx
              first | (subst hx; intro ho2) | (obtain ⟨rfl, ho2⟩ := hx)
              go_wp2_with (first
                | (refine wpL_build rfl 160 _ rfl [.int .i64 (q : Int), .int .i64 0, .int .i64 at0, .int .i64 (x * y)] (by kernel_rfl) ?_)
                | (refine wpL_slice_lit rfl 177 1 _ rfl Try.underlying177 row4Info3 (by decide) (by decide) [.agg [.int .i64 (q : Int), .int .i64 0, .int .i64 at0, .int .i64 (x * y)].toArray] rfl rfl (by simp [Value.cells]) ?_))
              intro w4 ho4 hs4 hb4
              have hb4' : Blk w4 w2.heap.size [.int .i64 (q : Int), .int .i64 0, .int .i64 at0, .int .i64 (x * y)] 160 := by simpa [Value.cells] using hb4
              refine wpL_append rfl (.tmp 68) (.tmp 76) 177 rfl (w.heap.size + 1) 160 Try.underlying177 row4Info3 rfl (by decide) u3 L.length (rowCells L) rfl (ownsRow_only (ownsRow_only hownj ho2 (by simp)) ho4 (by simp)) ⟨w2.heap.size, 0, none⟩ 1 1 [.int .i64 (q : Int), .int .i64 0, .int .i64 at0, .int .i64 (x * y)] rfl rfl ?hn ?h1 ?h63 ?hby ?hba ?_
              case hn => exact fun j u hu => by rw [show (⟨w2.heap.size, 0, none⟩ : Addr).add j = ⟨w2.heap.size, j, none⟩ by unfold Addr.add; split <;> simp_all]; exact hb4'.cell hu
              case h1 => exact row4_one ((q : Int), 0, at0, x * y)
              case h63 => unfold maxLen; omega
              case hby => omega
              case hba => have := hoj.size; have := ho2.size; have := ho4.size; omega
              intro v' w5 hown5 hg5 hv5 hiff5
              go_wp2_with fail
              go_roundw
              case rel =>
                have hk9 := HKEEP.out hk.out
                rw [HROW.out] at hk9
                rw [if_pos (by omega)] at hk9
                refine ⟨q + 1, by omega, by go_num, by rw [show 12 * m + (q + 1) = 12 * m + q + 1 by omega, hk9], ?_, ((hoj.trans ho2).trans ho4).step (Only.of_grown hg5) fun i hi => .inr ?_⟩
                · rw [show 12 * m + (q + 1) = 12 * m + q + 1 by omega, hk9]
                  simp only [rowCells_append, List.length_append, List.length_singleton]
                  exact hown5
                · simp only [Option.mem_toList] at hi
                  have := (World.ownsRow.lt hownj i hi).1
                  omega
              case measure => simp [intOf]; omega
          · have f1 : ¬ (m : Int) - 1 < 0 := by omega
            have f3 : (0 : Int) ≤ (m : Int) - 1 := by omega
            by_cases hB : bn + 1 ≤ m
            · have f2 : ((m : Int) - 1 == (bn : Int)) = true := by rw [beq_iff_eq]; omega
              have f2' : (m : Int) - 1 = (bn : Int) := by omega
              have f6 : ¬ (m : Int) - 1 < (bn : Int) := by omega
              by_cases hp : q < 11
              · have hk : Hid (keepR (bn : Int) ((m : Int) - 1) (q : Int) = false) := by show _ = false; unfold keepR; rw [if_neg f1, if_pos f2', decide_eq_false (by omega)]
                clear f2'
                have f4 : (q : Int) < 11 := by omega
                go_wp2_with fail
                go_roundw
                case rel => exact ⟨q + 1, by omega, by go_num, by rw [show 12 * m + (q + 1) = 12 * m + q + 1 by omega, HSKIP.out hk.out, ← EA.out], by rw [show 12 * m + (q + 1) = 12 * m + q + 1 by omega, HSKIP.out hk.out, ← EL.out]; exact hownj, hoj⟩
                case measure => simp [intOf]; omega
              · have hk : Hid (keepR (bn : Int) ((m : Int) - 1) (q : Int) = true) := by show _ = true; unfold keepR; rw [if_neg f1, if_pos f2', decide_eq_true (by omega)]
                clear f2'
                have f4 : ¬ (q : Int) < 11 := by omega
                have f5 : ¬ (q : Int) < 2 := by omega
                have f7 : ((q : Int) == 11) = true := by rw [beq_iff_eq]; omega
                go_wp2_with (first
                  | (refine wpL_load rfl 23 _ rfl w.heap.size rfl _ _ _ hbk Try.underlying23 rfl (by kernel_rfl : (Try.prog.info? 23).map (·.size) = some 6) HL.out ?_)
                  | (go_at_call 151; refine (HSK.out _).mono ?_))
                intro e w2 hx
                first | (subst hx; intro ho2) | (obtain ⟨rfl, ho2⟩ := hx)
                go_wp2_with (first
                  | (refine wpL_build rfl 160 _ rfl [.int .i64 (q : Int), .int .i64 0, .int .i64 at0, .int .i64 (x * y)] (by kernel_rfl) ?_)
                  | (refine wpL_slice_lit rfl 177 1 _ rfl Try.underlying177 row4Info3 (by decide) (by decide) [.agg [.int .i64 (q : Int), .int .i64 0, .int .i64 at0, .int .i64 (x * y)].toArray] rfl rfl (by simp [Value.cells]) ?_))
                intro w4 ho4 hs4 hb4
                have hb4' : Blk w4 w2.heap.size [.int .i64 (q : Int), .int .i64 0, .int .i64 at0, .int .i64 (x * y)] 160 := by simpa [Value.cells] using hb4
                refine wpL_append rfl (.tmp 68) (.tmp 76) 177 rfl (w.heap.size + 1) 160 Try.underlying177 row4Info3 rfl (by decide) u3 L.length (rowCells L) rfl (ownsRow_only (ownsRow_only hownj ho2 (by simp)) ho4 (by simp)) ⟨w2.heap.size, 0, none⟩ 1 1 [.int .i64 (q : Int), .int .i64 0, .int .i64 at0, .int .i64 (x * y)] rfl rfl ?hn ?h1 ?h63 ?hby ?hba ?_
                case hn => exact fun j u hu => by rw [show (⟨w2.heap.size, 0, none⟩ : Addr).add j = ⟨w2.heap.size, j, none⟩ by unfold Addr.add; split <;> simp_all]; exact hb4'.cell hu
                case h1 => exact row4_one ((q : Int), 0, at0, x * y)
                case h63 => unfold maxLen; omega
                case hby => omega
                case hba => have := hoj.size; have := ho2.size; have := ho4.size; omega
                intro v' w5 hown5 hg5 hv5 hiff5
                go_wp2_with fail
                go_roundw
                case rel =>
                  have hk9 := HKEEP.out hk.out
                  rw [HROW.out] at hk9
                  rw [if_pos (by omega)] at hk9
                  refine ⟨q + 1, by omega, by go_num, by rw [show 12 * m + (q + 1) = 12 * m + q + 1 by omega, hk9], ?_, ((hoj.trans ho2).trans ho4).step (Only.of_grown hg5) fun i hi => .inr ?_⟩
                  · rw [show 12 * m + (q + 1) = 12 * m + q + 1 by omega, hk9]
                    simp only [rowCells_append, List.length_append, List.length_singleton]
                    exact hown5
                  · simp only [Option.mem_toList] at hi
                    have := (World.ownsRow.lt hownj i hi).1
                    omega
                case measure => simp [intOf]; omega
            · have f2 : ((m : Int) - 1 == (bn : Int)) = false := by rw [beq_eq_false_iff_ne]; omega
              have f2' : ¬ (m : Int) - 1 = (bn : Int) := by omega
              have f6 : (m : Int) - 1 < (bn : Int) := by omega
              by_cases hp : q < 2
              · have hk : Hid (keepR (bn : Int) ((m : Int) - 1) (q : Int) = false) := by show _ = false; unfold keepR; rw [if_neg f1, if_neg f2', decide_eq_false (by omega)]; rfl
                have f4 : (q : Int) < 2 := by omega
                go_wp2_with fail
                go_roundw
                case rel => exact ⟨q + 1, by omega, by go_num, by rw [show 12 * m + (q + 1) = 12 * m + q + 1 by omega, HSKIP.out hk.out, ← EA.out], by rw [show 12 * m + (q + 1) = 12 * m + q + 1 by omega, HSKIP.out hk.out, ← EL.out]; exact hownj, hoj⟩
                case measure => simp [intOf]; omega
              · by_cases hp2 : 10 < q
                · have hk : Hid (keepR (bn : Int) ((m : Int) - 1) (q : Int) = false) := by show _ = false; unfold keepR; rw [if_neg f1, if_neg f2', decide_eq_false (p := (q : Int) ≤ 10) (by omega), Bool.and_false]
                  have f4 : ¬ (q : Int) < 2 := by omega
                  have f5 : (10 : Int) < q := by omega
                  go_wp2_with fail
                  go_roundw
                  case rel => exact ⟨q + 1, by omega, by go_num, by rw [show 12 * m + (q + 1) = 12 * m + q + 1 by omega, HSKIP.out hk.out, ← EA.out], by rw [show 12 * m + (q + 1) = 12 * m + q + 1 by omega, HSKIP.out hk.out, ← EL.out]; exact hownj, hoj⟩
                  case measure => simp [intOf]; omega
                · have hk : Hid (keepR (bn : Int) ((m : Int) - 1) (q : Int) = true) := by show _ = true; unfold keepR; rw [if_neg f1, if_neg f2', decide_eq_true (by omega), decide_eq_true (by omega)]; rfl
                  have f4 : ¬ (q : Int) < 2 := by omega
                  have f5 : ¬ (10 : Int) < q := by omega
                  have f7 : ((q : Int) == 11) = false := by rw [beq_eq_false_iff_ne]; omega
                  go_wp2_with (first
                    | (refine wpL_load rfl 23 _ rfl w.heap.size rfl _ _ _ hbk Try.underlying23 rfl (by kernel_rfl : (Try.prog.info? 23).map (·.size) = some 6) HL.out ?_)
                    | (go_at_call 151; refine (HSK.out _).mono ?_))
                  intro e w2 hx
                  first | (subst hx; intro ho2) | (obtain ⟨rfl, ho2⟩ := hx)
                  go_wp2_with (first
                    | (refine wpL_build rfl 160 _ rfl [.int .i64 (q : Int), .int .i64 ((m : Int) - 1), .int .i64 at0, .int .i64 (x * y)] (by kernel_rfl) ?_)
                    | (refine wpL_slice_lit rfl 177 1 _ rfl Try.underlying177 row4Info3 (by decide) (by decide) [.agg [.int .i64 (q : Int), .int .i64 ((m : Int) - 1), .int .i64 at0, .int .i64 (x * y)].toArray] rfl rfl (by simp [Value.cells]) ?_))
                  intro w4 ho4 hs4 hb4
                  have hb4' : Blk w4 w2.heap.size [.int .i64 (q : Int), .int .i64 ((m : Int) - 1), .int .i64 at0, .int .i64 (x * y)] 160 := by simpa [Value.cells] using hb4
                  refine wpL_append rfl (.tmp 68) (.tmp 76) 177 rfl (w.heap.size + 1) 160 Try.underlying177 row4Info3 rfl (by decide) u3 L.length (rowCells L) rfl (ownsRow_only (ownsRow_only hownj ho2 (by simp)) ho4 (by simp)) ⟨w2.heap.size, 0, none⟩ 1 1 [.int .i64 (q : Int), .int .i64 ((m : Int) - 1), .int .i64 at0, .int .i64 (x * y)] rfl rfl ?hn ?h1 ?h63 ?hby ?hba ?_
                  case hn => exact fun j u hu => by rw [show (⟨w2.heap.size, 0, none⟩ : Addr).add j = ⟨w2.heap.size, j, none⟩ by unfold Addr.add; split <;> simp_all]; exact hb4'.cell hu
                  case h1 => exact row4_one ((q : Int), ((m : Int) - 1), at0, x * y)
                  case h63 => unfold maxLen; omega
                  case hby => omega
                  case hba => have := hoj.size; have := ho2.size; have := ho4.size; omega
                  intro v' w5 hown5 hg5 hv5 hiff5
                  go_wp2_with fail
                  go_roundw
                  case rel =>
                    have hk9 := HKEEP.out hk.out
                    rw [HROW.out] at hk9
                    rw [if_neg (by omega)] at hk9
                    refine ⟨q + 1, by omega, by go_num, by rw [show 12 * m + (q + 1) = 12 * m + q + 1 by omega, hk9], ?_, ((hoj.trans ho2).trans ho4).step (Only.of_grown hg5) fun i hi => .inr ?_⟩
                    · rw [show 12 * m + (q + 1) = 12 * m + q + 1 by omega, hk9]
                      simp only [rowCells_append, List.length_append, List.length_singleton]
                      exact hown5
                    · simp only [Option.mem_toList] at hi
                      have := (World.ownsRow.lt hownj i hi).1
                      omega
                  case measure => simp [intOf]; omega
        · have g2 : ¬ (q : Int) < 12 := by omega
          obtain rfl : q = 12 := by omega
          go_wp2_with fail
          go_roundw
          case rel => exact ⟨m + 1, by omega, by go_num, rfl, hownj, hoj⟩
          case measure => simp [intOf]; omega
    · have g1 : ¬ (m : Int) - 1 ≤ bn := by omega
      obtain rfl : m = bn + 2 := by omega
      go_wp2_with fail
      go_ret
      refine ⟨_, rfl, ?_, hw0.trans hor⟩
      have hmono : ∀ (v : Value) (n : Nat) (xs : List Value), wr.ownsRow (w.heap.size + 1) 160 4 v n xs → wr.ownsRow w.heap.size 160 4 v n xs := fun v n xs h => by
        refine ⟨h.1, ?_⟩
        rcases h.2 with h | ⟨g, cap, cur, a1, a2, a3⟩
        · exact .inl h
        · exact .inr ⟨g, cap, cur, a1, by omega, a3⟩
      exact hmono _ _ _ hown

end Go.Proofs.Ytgdifegbpbnekaa
