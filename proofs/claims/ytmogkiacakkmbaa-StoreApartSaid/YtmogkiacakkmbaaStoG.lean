/- The store's law: awake10. Printed by mksto.py. -/
import Derived.Test.YtmogkiacakkmbaaStoP
namespace Go.Proofs.Ytmogkiacakkmbaa
open Go.RowKit

theorem layFields : Try.prog.fieldsOf 84 = #[⟨"Record", 3, 0, false, "", "", 0⟩, ⟨"Size", 3, 1, false, "", "", 8⟩, ⟨"Chunks", 3, 2, false, "", "", 16⟩] := by kernel_rfl
theorem part_intS (cs : Array Value) (i : Nat) (v : Value) (w : World) (hv : cs[i]? = some v) : (part 3 cs i).run Try.prog w = .ok v w := by
  unfold part isAgg
  simp [Sem.run_bind, run_underlying Try.underlying3, Result.andThen_ok, hv, Sem.run_pure]
theorem eqIn_lay (d : Nat) (V D H V' D' H' : Int) (w : World) : (Op.equalIn (d + 2) 84 (.agg #[.int .i64 V, .int .i64 D, .int .i64 H]) (.agg #[.int .i64 V', .int .i64 D', .int .i64 H'])).run Try.prog w = .ok (V == V' && (D == D' && (H == H'))) w := by
  rw [run_equalIn_agg w (d + 1) 84 _ _ (by rw [layFields]; exact Try.underlying84) Try.stoodInHeld84, layFields]
  have step : ∀ (i : Nat) (n pk tg : String) (e : Bool) (bo : Nat) (x y : Array Value) (p q : Int) (fs : List Field), n ≠ "_" → x[i]? = some (.int .i64 p) → y[i]? = some (.int .i64 q) →
      (Op.eqFields (d+1) x y (⟨n, 3, i, e, tg, pk, bo⟩ :: fs)).run Try.prog w = if p == q then (Op.eqFields (d+1) x y fs).run Try.prog w else .ok false w := by
    intro i n pk tg e bo x y p q fs hn hx hy
    simp only [Op.eqFields, if_pos hn, Sem.run_bind, part_intS x i _ w hx, part_intS y i _ w hy, Result.andThen_ok, run_equalIn_int w d 3 .i64 .i64 p q Try.underlying3, Sem.run_ite]
    cases p == q <;> simp [Sem.run_pure]
  show (Op.eqFields (d + 1) _ _ [_, _, _]).run _ _ = _
  rw [step 0 _ _ _ _ _ _ _ V V' _ (by decide) rfl rfl, step 1 _ _ _ _ _ _ _ D D' _ (by decide) rfl rfl, step 2 _ _ _ _ _ _ _ H H' _ (by decide) rfl rfl]
  simp only [Op.eqFields, Sem.run_pure]
  cases V == V' <;> cases D == D' <;> cases H == H' <;> rfl
theorem wpL_eql_lay {w : World} {ops : Array Oper} {rest : List Oper} {o : Oper} {a : Act} {Q : Exit → Act → World → Prop} (hgd : o.guard = none) (r : TypeId) (x y : Operand) (ho : o.op = .binOp .eql 84 x y r) (p q s : Int) (hx : a.eval x = .agg #[.int .i64 p, .int .i64 q, .int .i64 s]) (hy : a.eval y = .agg #[.int .i64 p, .int .i64 q, .int .i64 s])
    (h : wpList Try.prog ops Q rest (a.put o.dst (.bool true)) w) : wpList Try.prog ops Q (o :: rest) a w := by
  refine wpL_run hgd (v := .bool true) ?_ h
  have hn : (binOp .eql 84 (.agg #[.int .i64 p, .int .i64 q, .int .i64 s]) (.agg #[.int .i64 p, .int .i64 q, .int .i64 s])).run Try.prog w = .ok (.bool true) w := by
    rw [run_eql_struct, show (10000 : Nat) = 9998 + 2 from rfl, eqIn_lay, Result.andThen_ok]
    simp
  unfold execOp
  simp only [ho, Sem.run_bind, hx, hy, run_eqGuard_agg w .eql 84 x y _ _ Try.eqGuardType84, hn, Result.andThen_ok, Sem.run_pure]
theorem wpL_neq_lay {w : World} {ops : Array Oper} {rest : List Oper} {o : Oper} {a : Act} {Q : Exit → Act → World → Prop} (hgd : o.guard = none) (r : TypeId) (x y : Operand) (ho : o.op = .binOp .neq 84 x y r) (p q s : Int) (hx : a.eval x = .agg #[.int .i64 p, .int .i64 q, .int .i64 s]) (hy : a.eval y = .agg #[.int .i64 p, .int .i64 q, .int .i64 s])
    (h : wpList Try.prog ops Q rest (a.put o.dst (.bool false)) w) : wpList Try.prog ops Q (o :: rest) a w := by
  refine wpL_run hgd (v := .bool false) ?_ h
  have hn : (binOp .neq 84 (.agg #[.int .i64 p, .int .i64 q, .int .i64 s]) (.agg #[.int .i64 p, .int .i64 q, .int .i64 s])).run Try.prog w = .ok (.bool false) w := by
    rw [run_neq_struct, show (10000 : Nat) = 9998 + 2 from rfl, eqIn_lay, Result.andThen_ok]
    simp
  unfold execOp
  simp only [ho, Sem.run_bind, hx, hy, run_eqGuard_agg w .neq 84 x y _ _ Try.eqGuardType84, hn, Result.andThen_ok, Sem.run_pure]
theorem flat_lay (p q s : Int) : flatV (.agg #[.int .i64 p, .int .i64 q, .int .i64 s]) = true := by
  have : (#[Value.int .i64 p, .int .i64 q, .int .i64 s]).all scalarV = true := by simp [scalarV]
  unfold flatV
  rw [Bool.or_eq_true]
  exact .inr this
theorem fine_lay {ops : Array Oper} {o : Oper} {a : Act} {op : BinOp} {t r : TypeId} {x y : Operand} (p q s : Int) (hop : o.op = .binOp op t x y r) (hx : a.eval x = .agg #[.int .i64 p, .int .i64 q, .int .i64 s]) (hy : a.eval y = .agg #[.int .i64 p, .int .i64 q, .int .i64 s]) :
    (!asksGood o || !Region.wanted o (yielded ops a.tmps) || Good a o) = true := by
  have : Good a o = true := by simp [Good, hop, hx, hy, flat_lay]
  simp [this]
/-- A block is brought to the front. -/
theorem Sd.front {w0 w : World} {S : List Nat} {L : List Ent} {R : List Rsc} (h : Sd w0 S w L R) (i : Nat) {x : Ent} (hi : L[i]? = some x) : Sd w0 S w (x :: L.eraseIdx i) R := by
  obtain ⟨hlt, rfl⟩ := List.getElem?_eq_some_iff.1 hi
  refine h.perm ?_
  rw [List.eraseIdx_eq_take_drop_succ]
  have e : L = L.take i ++ L[i] :: L.drop (i + 1) := by rw [List.getElem_cons_drop hlt, List.take_append_drop]
  exact (List.perm_middle.symm).trans (by rw [← e])

set_option maxRecDepth 100000 in
set_option maxHeartbeats 32000000 in
theorem awake10_any (w : World) : Calls Try.prog 52 #[] w fun e w' => e = .returned (.bool true) ∧ Only [] w w' := by
  have hst := Sd.start w []
  have hg : GoodL 4 20 3 := ⟨by decide, by decide, by decide, by decide, by decide, by decide, by decide, by decide⟩
  have hN : needN 4 20 3 = 18 := by decide
  have r0 := (Rest.fresh 18 (by decide)).on
  have hft : fits (4 / 2) ⟨#[104, 105]⟩ = true := by decide
  obtain ⟨a1, a2, a3, a4⟩ := st_free r0 4 20 3 ⟨#[104, 105]⟩ hg (by decide) hft
  rw [hN] at a1 a2 a3 a4
  have hl18 : (DM.fresh 18).len = 18 := by decide
  have s2 : secsOf (⟨#[104, 105]⟩ : ByteArray).size = 2 := by decide
  obtain ⟨o1, o2⟩ := st_open a2 4 20 3 ⟨#[104, 105]⟩ hg (by rw [hN, a3]; decide) hft (fun q hq => by rw [a4 q]; unfold stL; rw [if_pos hq]) (fun q h1 h2 => by rw [a4 q]; unfold stL; rw [if_neg (by omega), if_pos h2])
  obtain ⟨b1, b2, b3, b4⟩ := lay_free a2.on 4 2 1 ⟨#[104, 111]⟩ (by rw [a3]; decide) (by decide) (by decide)
  obtain ⟨M1, e1⟩ : ∃ M1, M1 = (stR (DM.fresh 18) 4 20 3 18 ⟨#[104, 105]⟩).1 := ⟨_, rfl⟩
  rw [← e1] at a2 a3 o1 o2 b1 b2 b3
  obtain ⟨M2, e2⟩ : ∃ M2, M2 = (layR M1 4 2 1 ⟨#[104, 111]⟩).1 := ⟨_, rfl⟩
  have hf : (DM.fresh 18).loose.length ≤ 600000 := by decide
  have DN : Hid (∀ w, Calls Try.prog 14 #[.int .i64 18] w fun e w' => ∃ d F, e = .returned (.pointer (some ⟨d, 0, none⟩)) ∧ DiskAt w' d (DM.fresh 18) F ∧ Only [] w w' ∧ (∀ b ∈ F, w.heap.size ≤ b)) := fun w => dskNew_any 18 w (by decide)
  have FM : Hid (∀ d F w, DiskAt w d (DM.fresh 18) F → Calls Try.prog 54 #[.pointer (some ⟨d, 0, none⟩), .agg #[.int .i64 4, .int .i64 20, .int .i64 3], .string ⟨#[104, 105]⟩] w fun e w' => ∃ t zr p z0 a0 z1 a1 F', e = .returned (.tuple #[.pointer (some ⟨p, 0, none⟩), .int .i64 0]) ∧ (storeR d M1 F' 4 20 3 6 ⟨#[104, 105]⟩ 1 0 false t zr p z0 a0 z1 a1).p w' ∧ Turn F (storeR d M1 F' 4 20 3 6 ⟨#[104, 105]⟩ 1 0 false t zr p z0 a0 z1 a1).F w w') := fun d F w h => by
    have := storeFormat_yes d 4 20 3 (DM.fresh 18) F ⟨#[104, 105]⟩ w h hg (by decide) hf hft (by rw [hN]; exact a1)
    rw [hN, ← e1] at this
    exact this
  have OP : Hid (∀ d F w, DiskAt w d M1 F → Calls Try.prog 56 #[.pointer (some ⟨d, 0, none⟩)] w fun e w' => ∃ t zr p z0 a0 z1 a1, e = .returned (.tuple #[.pointer (some ⟨p, 0, none⟩), .int .i64 0]) ∧ News w w' (openN d 4 20 3 6 ⟨#[104, 105]⟩ 1 0 t zr p z0 a0 z1 a1)) := fun d F w h => storeOpen_yes d M1 F w h (by rw [a2.lo]; decide) a2.aw 4 20 3 _ 1 0 hg (by rw [hN, a3]; decide) o1 o2 (by decide)
  have ND : Hid (∀ w, Calls Try.prog 53 #[.agg #[.int .i64 4, .int .i64 20, .int .i64 3]] w fun e w' => e = .returned (.int .i64 18) ∧ Only [] w w') := fun w => by
    have := storeNeed_any (4 : Nat) (20 : Nat) (3 : Nat) w
    rw [hg.need, hN] at this
    exact this
  have SL0 : Hid (∀ s t a0 a1 w, Blk w s (stcells t 4 20 3 (.pointer (some ⟨a0, 0, none⟩)) (.pointer (some ⟨a1, 0, none⟩))) 91 → Calls Try.prog 58 #[.pointer (some ⟨s, 0, none⟩), .int .i64 0] w fun e w' => e = .returned (.pointer (some ⟨a0, 0, none⟩)) ∧ w = w') := fun s t a0 a1 w h => storeSlot0 s t 4 20 3 _ _ w h
  have SL1 : Hid (∀ s t a0 a1 w, Blk w s (stcells t 4 20 3 (.pointer (some ⟨a0, 0, none⟩)) (.pointer (some ⟨a1, 0, none⟩))) 91 → Calls Try.prog 58 #[.pointer (some ⟨s, 0, none⟩), .int .i64 1] w fun e w' => e = .returned (.pointer (some ⟨a1, 0, none⟩)) ∧ w = w') := fun s t a0 a1 w h => storeSlot1 s t 4 20 3 _ _ w h
  have SL2 : Hid (∀ s t a0 a1 w, Blk w s (stcells t 4 20 3 (.pointer (some ⟨a0, 0, none⟩)) (.pointer (some ⟨a1, 0, none⟩))) 91 → Calls Try.prog 58 #[.pointer (some ⟨s, 0, none⟩), .int .i64 2] w fun e w' => e = .returned (.pointer none) ∧ w = w') := fun s t a0 a1 w h => storeSlot2 s t 4 20 3 _ _ w h
  have LY : Hid (∀ s t a0 a1 w, Blk w s (stcells t 4 20 3 (.pointer (some ⟨a0, 0, none⟩)) (.pointer (some ⟨a1, 0, none⟩))) 91 → Calls Try.prog 57 #[.pointer (some ⟨s, 0, none⟩)] w fun e w' => e = .returned (.agg #[.int .i64 4, .int .i64 20, .int .i64 3]) ∧ Only [] w w') := fun s t a0 a1 w h => storeLayout_any s t 4 20 3 _ _ w h
  have CH : Hid (∀ a z d w, Blk w a (slcells z 20) 80 → Blk w z (zcells d 6 6) 34 → a ≠ z → Calls Try.prog 45 #[.pointer (some ⟨a, 0, none⟩)] w fun e w' => e = .returned (.int .i64 3) ∧ Only [] w w') := fun a z d w h1 h2 h3 => slotChunks_any a z d 6 6 20 w h1 h2 h3 (by decide) (by decide) (by decide)
  have TX : Hid (∀ t z w, Blk w t (tcells z ⟨#[104, 105]⟩ 1 0 false) 98 → Calls Try.prog 35 #[.pointer (some ⟨t, 0, none⟩)] w fun e w' => e = .returned (.string ⟨#[104, 105]⟩) ∧ w = w') := fun t z w h => twinText_any t z _ _ _ _ w h
  have TG : Hid (∀ t z w, Blk w t (tcells z ⟨#[104, 105]⟩ 1 0 false) 98 → Calls Try.prog 36 #[.pointer (some ⟨t, 0, none⟩)] w fun e w' => e = .returned (.int .i64 1) ∧ w = w') := fun t z w h => twinGen_any t z _ _ _ _ w h
  have SV : Hid (∀ t z d F w, (pairR t (tcells z ⟨#[104, 105]⟩ 1 0 false) 98 (diskR d M1 F)).p w → Blk w z (zcells d 2 4) 34 → t ≠ z → z ∉ F → Calls Try.prog 38 #[.pointer (some ⟨t, 0, none⟩), .string ⟨#[104, 111]⟩] w fun e w' => ∃ F', e = .returned (.int .i64 0) ∧ (pairR t (tcells z ⟨#[104, 111]⟩ 2 1 false) 98 (diskR d M2 F')).p w' ∧ Turn (t :: F) (t :: F') w w') := fun t z d F w h1 h2 h3 h4 => by
    rw [e2]
    exact twinSave_yes t z d 2 4 M1 F ⟨#[104, 105]⟩ 1 ⟨#[104, 111]⟩ w 0 h1 h2 h3 h4 (by decide) (by decide) (by decide) (by rw [a3]; decide) (by rw [a2.lo]; decide) (by decide) (by decide) (by decide) (by decide) b1
  clear a1 a2 a3 a4 b1 b2 b3 b4 o1 o2 r0 e1 e2 hg hN hft hl18 s2 hf
  go_enter Try.func52, Try.ntmps52
  go_wp2_with (first
    | ((with_reducible refine wpL_skipS rfl ?_ ?_); focus (go_simp; done)) | ((with_reducible refine wpL_peel rfl ?_ ?_); focus (go_simp; done)) | ((with_reducible refine wpL_isAlloc rfl ?_); refine wpL_allocD hst rfl 84 rfl (.agg #[.int .i64 0, .int .i64 0, .int .i64 0]) [.int .i64 0, .int .i64 0, .int .i64 0] (by kernel_rfl) rfl _ rfl ?_; clear hst; intro w1 b1 hb1 hst) | ((with_reducible refine wpL_isStore rfl ?_); first | (refine wpL_storeD hst rfl (ty := 84) rfl 0 rfl rfl rfl (by kernel_rfl) (by kernel_rfl) rfl rfl ?_; clear hst; intro w1 hst; simp only [List.set] at hst) | (refine wpL_store1D hst rfl rfl 0 rfl rfl rfl rfl (by kernel_rfl) rfl ?_; clear hst; intro w1 hst; simp only [List.set] at hst)) | ((with_reducible refine wpL_peel rfl ?_ ?_); focus (go_simp; done)) | ((with_reducible refine wpL_isLoad rfl ?_); first | (refine wpL_loadAtS hst.st rfl (ty := 84) rfl 0 rfl rfl (by kernel_rfl) 3 (by kernel_rfl) [_, _, _] rfl rfl ?_) | (refine wpL_load1S hst.st rfl rfl 0 rfl rfl rfl (by kernel_rfl) ?_)) | (go_at_call 14; (with_reducible refine (DN.out _).mono ?_); rintro e1 w1 ⟨d, F, rfl, hd1, ho1, hg1⟩; replace hst := hst.add ho1 (r := diskR d _ F) hd1 hg1; clear hd1 ho1 hg1) | (go_at_call 54; (with_reducible refine (FM.out _ _ _ (hst.rs 0 rfl)).mono ?_); rintro e1 w1 ⟨t, zr, p, z0, a0, z1, a1, F1, rfl, hp1, hT1⟩; replace hst := hst.act 0 rfl (storeR _ _ F1 _ _ _ _ _ _ _ _ t zr p z0 a0 z1 a1) rfl hT1 hp1; clear hp1 hT1; simp only [List.set] at hst; unfold storeR at hst; replace hst := hst.split.split.split.split.split.split.split) | (go_at_call 56; (with_reducible refine (OP.out _ _ _ (hst.rs 0 rfl)).mono ?_); rintro e1 w1 ⟨u, zu, q, y0, b0, y1, b1, rfl, hn1⟩; replace hst := hst.news hn1; clear hn1; simp only [openN, madeN, List.cons_append, List.nil_append] at hst)
    | (go_at_call 58; (with_reducible refine (SL1.out _ _ _ _ _ (hst.blk 4 rfl)).mono ?_); rintro e1 w1 ⟨rfl, rfl⟩))
  replace hst := (hst.front 13 rfl)
  simp only [List.eraseIdx] at hst
  replace hst := (hst.front 13 rfl)
  simp only [List.eraseIdx] at hst
  replace hst := hst.drew
  refine wp_region_ord [1, 8, 16, 21, 27, 28, 33] [0, 1, 2, 3, 4, 5, 6, 7, 8, 9, 10, 11, 12, 13, 14, 15, 16, 17, 18, 19, 20, 22, 21, 23, 24, 25, 26, 27, 28, 29, 30, 31, 32, 33, 34, 35, 36, 37, 38, 39, 40, 41, 42, 43, 44] (by kernel_rfl) (by kernel_rfl) ?_
  generalize World.drew _ = W at *
  refine Ord.cut 1 0 rfl rfl rfl rfl (by kernel_rfl) (by kernel_rfl) ?_; simp only [List.take_succ_cons, List.take_zero, List.drop_succ_cons, List.drop_zero, List.filterMap_cons, List.filterMap_nil, List.getElem?_cons_zero]
  (try refine wpL_peel rfl rfl ?_)
  refine wpL_loadAtS hst.st rfl (ty := 84) rfl 14 rfl rfl (by kernel_rfl) 3 (by kernel_rfl) [_, _, _] rfl rfl ?_
  refine TextQ.mk ⟨fun h => by simp at h, ?_⟩ rfl
  refine Ord.cut 1 1 rfl rfl rfl rfl (by kernel_rfl) (by kernel_rfl) ?_; simp only [List.take_succ_cons, List.take_zero, List.drop_succ_cons, List.drop_zero, List.filterMap_cons, List.filterMap_nil, List.getElem?_cons_succ, List.getElem?_cons_zero]
  (try refine wpL_peel rfl rfl ?_)
  go_wp2_with (go_at_call 53; (with_reducible refine (ND.out _).mono ?_); rintro e1 w1 ⟨rfl, ho1⟩)
  refine TextQ.mk ⟨fun _ => ho1, ?_⟩ rfl
  replace hst := hst.keep ho1
  clear ho1
  refine Ord.cut 2 3 rfl rfl rfl rfl (by kernel_rfl) (by kernel_rfl) ?_; simp only [List.take_succ_cons, List.take_zero, List.drop_succ_cons, List.drop_zero, List.filterMap_cons, List.filterMap_nil, List.getElem?_cons_succ, List.getElem?_cons_zero]; go_wp2_with fail; refine TextQ.mk ⟨fun h => by simp at h, ?_⟩ rfl
  refine Ord.cut 3 6 rfl rfl rfl rfl (by kernel_rfl) (by kernel_rfl) ?_; simp only [List.take_succ_cons, List.take_zero, List.drop_succ_cons, List.drop_zero, List.filterMap_cons, List.filterMap_nil, List.getElem?_cons_succ, List.getElem?_cons_zero]; go_wp2_with fail; refine TextQ.mk ⟨fun h => by simp at h, ?_⟩ rfl
  refine Ord.cut 1 7 rfl rfl rfl rfl (by kernel_rfl) (by kernel_rfl) ?_; simp only [List.take_succ_cons, List.take_zero, List.drop_succ_cons, List.drop_zero, List.filterMap_cons, List.filterMap_nil, List.getElem?_cons_succ, List.getElem?_cons_zero]
  (try refine wpL_peel rfl rfl ?_)
  refine wpL_load1S hst.st rfl rfl 6 rfl rfl rfl (by kernel_rfl) ?_
  refine TextQ.mk ⟨fun h => by simp at h, ?_⟩ rfl
  refine Ord.cut 1 8 rfl rfl rfl rfl (by kernel_rfl) (by kernel_rfl) ?_; simp only [List.take_succ_cons, List.take_zero, List.drop_succ_cons, List.drop_zero, List.filterMap_cons, List.filterMap_nil, List.getElem?_cons_succ, List.getElem?_cons_zero]
  (try refine wpL_peel rfl rfl ?_)
  go_wp2_with (go_at_call 35; (with_reducible refine (TX.out _ _ _ (hst.blk 7 rfl)).mono ?_); rintro e1 w1 ⟨rfl, rfl⟩)
  refine TextQ.mk ⟨fun _ => Only.refl _ _, ?_⟩ rfl
  refine Ord.cut 1 9 rfl rfl rfl rfl (by kernel_rfl) (by kernel_rfl) ?_; simp only [List.take_succ_cons, List.take_zero, List.drop_succ_cons, List.drop_zero, List.filterMap_cons, List.filterMap_nil, List.getElem?_cons_succ, List.getElem?_cons_zero]
  (try refine wpL_peel rfl rfl ?_)
  refine wpL_eql_same rfl 9 _ _ _ rfl _ rfl rfl ?_
  refine TextQ.mk ⟨fun h => by simp at h, ?_⟩ rfl
  refine Ord.cut 2 11 rfl rfl rfl rfl (by kernel_rfl) (by kernel_rfl) ?_; simp only [List.take_succ_cons, List.take_zero, List.drop_succ_cons, List.drop_zero, List.filterMap_cons, List.filterMap_nil, List.getElem?_cons_succ, List.getElem?_cons_zero]; go_wp2_with fail; refine TextQ.mk ⟨fun h => by simp at h, ?_⟩ rfl
  refine Ord.cut 3 14 rfl rfl rfl rfl (by kernel_rfl) (by kernel_rfl) ?_; simp only [List.take_succ_cons, List.take_zero, List.drop_succ_cons, List.drop_zero, List.filterMap_cons, List.filterMap_nil, List.getElem?_cons_succ, List.getElem?_cons_zero]; go_wp2_with fail; refine TextQ.mk ⟨fun h => by simp at h, ?_⟩ rfl
  refine Ord.cut 1 15 rfl rfl rfl rfl (by kernel_rfl) (by kernel_rfl) ?_; simp only [List.take_succ_cons, List.take_zero, List.drop_succ_cons, List.drop_zero, List.filterMap_cons, List.filterMap_nil, List.getElem?_cons_succ, List.getElem?_cons_zero]
  (try refine wpL_peel rfl rfl ?_)
  refine wpL_load1S hst.st rfl rfl 6 rfl rfl rfl (by kernel_rfl) ?_
  refine TextQ.mk ⟨fun h => by simp at h, ?_⟩ rfl
  refine Ord.cut 1 16 rfl rfl rfl rfl (by kernel_rfl) (by kernel_rfl) ?_; simp only [List.take_succ_cons, List.take_zero, List.drop_succ_cons, List.drop_zero, List.filterMap_cons, List.filterMap_nil, List.getElem?_cons_succ, List.getElem?_cons_zero]
  (try refine wpL_peel rfl rfl ?_)
  go_wp2_with (go_at_call 36; (with_reducible refine (TG.out _ _ _ (hst.blk 7 rfl)).mono ?_); rintro e1 w1 ⟨rfl, rfl⟩)
  refine TextQ.mk ⟨fun _ => Only.refl _ _, ?_⟩ rfl
  refine Ord.cut 3 19 rfl rfl rfl rfl (by kernel_rfl) (by kernel_rfl) ?_; simp only [List.take_succ_cons, List.take_zero, List.drop_succ_cons, List.drop_zero, List.filterMap_cons, List.filterMap_nil, List.getElem?_cons_succ, List.getElem?_cons_zero]; go_wp2_with fail; refine TextQ.mk ⟨fun h => by simp at h, ?_⟩ rfl
  refine Ord.cut 1 20 rfl rfl rfl rfl (by kernel_rfl) (by kernel_rfl) ?_; simp only [List.take_succ_cons, List.take_zero, List.drop_succ_cons, List.drop_zero, List.filterMap_cons, List.filterMap_nil, List.getElem?_cons_succ, List.getElem?_cons_zero]; go_wp2_with fail; refine TextQ.mk ⟨fun h => by simp at h, ?_⟩ rfl
  refine Ord.cut 1 22 rfl rfl rfl rfl (by kernel_rfl) (by kernel_rfl) ?_; simp only [List.take_succ_cons, List.take_zero, List.drop_succ_cons, List.drop_zero, List.filterMap_cons, List.filterMap_nil, List.getElem?_cons_succ, List.getElem?_cons_zero]
  (try refine wpL_peel rfl rfl ?_)
  refine wpL_loadAtS hst.st rfl (ty := 84) rfl 14 rfl rfl (by kernel_rfl) 3 (by kernel_rfl) [_, _, _] rfl rfl ?_
  refine TextQ.mk ⟨fun h => by simp at h, ?_⟩ rfl
  refine Ord.cut 1 21 rfl rfl rfl rfl (by kernel_rfl) (by kernel_rfl) ?_; simp only [List.take_succ_cons, List.take_zero, List.drop_succ_cons, List.drop_zero, List.filterMap_cons, List.filterMap_nil, List.getElem?_cons_succ, List.getElem?_cons_zero]
  (try refine wpL_peel rfl rfl ?_)
  go_wp2_with (go_at_call 57; (with_reducible refine (LY.out _ _ _ _ _ (hst.blk 6 rfl)).mono ?_); rintro e1 w1 ⟨rfl, ho1⟩)
  refine TextQ.mk ⟨fun _ => ho1, ?_⟩ rfl
  replace hst := hst.keep ho1
  clear ho1
  refine Ord.cut 1 23 rfl rfl rfl rfl (by kernel_rfl) (by kernel_rfl) ?_; simp only [List.take_succ_cons, List.take_zero, List.drop_succ_cons, List.drop_zero, List.filterMap_cons, List.filterMap_nil, List.getElem?_cons_succ, List.getElem?_cons_zero]
  (try refine wpL_peel rfl rfl ?_)
  refine wpL_eql_lay rfl _ _ _ rfl _ _ _ rfl rfl ?_
  refine TextQ.mk ⟨fun h => by simp at h, ?_⟩ ?fine
  case fine => repeat' (first | exact rfl | exact fine_lay _ _ _ rfl rfl rfl | refine fine_cons ?_ ?_)
  refine Ord.cut 3 26 rfl rfl rfl rfl (by kernel_rfl) (by kernel_rfl) ?_; simp only [List.take_succ_cons, List.take_zero, List.drop_succ_cons, List.drop_zero, List.filterMap_cons, List.filterMap_nil, List.getElem?_cons_succ, List.getElem?_cons_zero]; go_wp2_with fail; refine TextQ.mk ⟨fun h => by simp at h, ?_⟩ rfl
  refine Ord.cut 1 27 rfl rfl rfl rfl (by kernel_rfl) (by kernel_rfl) ?_; simp only [List.take_succ_cons, List.take_zero, List.drop_succ_cons, List.drop_zero, List.filterMap_cons, List.filterMap_nil, List.getElem?_cons_succ, List.getElem?_cons_zero]
  (try refine wpL_peel rfl rfl ?_)
  go_wp2_with (go_at_call 58; (with_reducible refine (SL0.out _ _ _ _ _ (hst.blk 6 rfl)).mono ?_); rintro e1 w1 ⟨rfl, rfl⟩)
  refine TextQ.mk ⟨fun _ => Only.refl _ _, ?_⟩ rfl
  refine Ord.cut 1 28 rfl rfl rfl rfl (by kernel_rfl) (by kernel_rfl) ?_; simp only [List.take_succ_cons, List.take_zero, List.drop_succ_cons, List.drop_zero, List.filterMap_cons, List.filterMap_nil, List.getElem?_cons_succ, List.getElem?_cons_zero]
  (try refine wpL_peel rfl rfl ?_)
  go_wp2_with (go_at_call 45; (with_reducible refine (CH.out _ _ _ _ (hst.blk 4 rfl) (hst.blk 5 rfl) (hst.st.neq 4 5 rfl rfl (by decide))).mono ?_); rintro e1 w1 ⟨rfl, ho1⟩)
  refine TextQ.mk ⟨fun _ => ho1, ?_⟩ rfl
  replace hst := hst.keep ho1
  clear ho1
  refine Ord.cut 2 30 rfl rfl rfl rfl (by kernel_rfl) (by kernel_rfl) ?_; simp only [List.take_succ_cons, List.take_zero, List.drop_succ_cons, List.drop_zero, List.filterMap_cons, List.filterMap_nil, List.getElem?_cons_succ, List.getElem?_cons_zero]; go_wp2_with fail; refine TextQ.mk ⟨fun h => by simp at h, ?_⟩ rfl
  refine Ord.cut 2 32 rfl rfl rfl rfl (by kernel_rfl) (by kernel_rfl) ?_; simp only [List.take_succ_cons, List.take_zero, List.drop_succ_cons, List.drop_zero, List.filterMap_cons, List.filterMap_nil, List.getElem?_cons_succ, List.getElem?_cons_zero]; go_wp2_with fail; refine TextQ.mk ⟨fun h => by simp at h, ?_⟩ rfl
  refine Ord.cut 1 33 rfl rfl rfl rfl (by kernel_rfl) (by kernel_rfl) ?_; simp only [List.take_succ_cons, List.take_zero, List.drop_succ_cons, List.drop_zero, List.filterMap_cons, List.filterMap_nil, List.getElem?_cons_succ, List.getElem?_cons_zero]
  (try refine wpL_peel rfl rfl ?_)
  go_wp2_with (go_at_call 58; (with_reducible refine (SL2.out _ _ _ _ _ (hst.blk 6 rfl)).mono ?_); rintro e1 w1 ⟨rfl, rfl⟩)
  refine TextQ.mk ⟨fun _ => Only.refl _ _, ?_⟩ rfl
  refine Ord.cut 3 36 rfl rfl rfl rfl (by kernel_rfl) (by kernel_rfl) ?_; simp only [List.take_succ_cons, List.take_zero, List.drop_succ_cons, List.drop_zero, List.filterMap_cons, List.filterMap_nil, List.getElem?_cons_succ, List.getElem?_cons_zero]; go_wp2_with fail; refine TextQ.mk ⟨fun h => by simp at h, ?_⟩ rfl
  refine Ord.cut 3 39 rfl rfl rfl rfl (by kernel_rfl) (by kernel_rfl) ?_; simp only [List.take_succ_cons, List.take_zero, List.drop_succ_cons, List.drop_zero, List.filterMap_cons, List.filterMap_nil, List.getElem?_cons_succ, List.getElem?_cons_zero]; go_wp2_with fail; refine TextQ.mk ⟨fun h => by simp at h, ?_⟩ rfl
  refine Ord.cut 1 40 rfl rfl rfl rfl (by kernel_rfl) (by kernel_rfl) ?_; simp only [List.take_succ_cons, List.take_zero, List.drop_succ_cons, List.drop_zero, List.filterMap_cons, List.filterMap_nil, List.getElem?_cons_succ, List.getElem?_cons_zero]
  (try refine wpL_peel rfl rfl ?_)
  refine wpL_load1S hst.st rfl rfl 13 rfl rfl rfl (by kernel_rfl) ?_
  refine TextQ.mk ⟨fun h => by simp at h, ?_⟩ rfl
  refine Ord.cut 1 41 rfl rfl rfl rfl (by kernel_rfl) (by kernel_rfl) ?_; simp only [List.take_succ_cons, List.take_zero, List.drop_succ_cons, List.drop_zero, List.filterMap_cons, List.filterMap_nil, List.getElem?_cons_succ, List.getElem?_cons_zero]
  (try refine wpL_peel rfl rfl ?_)
  go_wp2_with (go_at_call 38; (with_reducible refine (SV.out _ _ _ _ _ (pair_mk (hst.blk 0 rfl) (hst.rs 0 rfl) (hst.away 0 0 rfl rfl)) (hst.blk 1 rfl) (hst.neq 0 1 rfl rfl (by decide)) (hst.away 1 0 rfl rfl)).mono ?_); rintro e1 w1 ⟨F3, rfl, hp1, hT1⟩; replace hst := ((hst.join rfl).act 0 rfl (pairR _ _ _ (diskR _ _ F3)) rfl hT1 hp1); simp only [List.set] at hst; replace hst := hst.split; clear hp1 hT1)
  refine TextQ.mk ⟨fun h => by simp at h, ?_⟩ rfl
  refine Ord.cut 1 42 rfl rfl rfl rfl (by kernel_rfl) (by kernel_rfl) ?_; simp only [List.take_succ_cons, List.take_zero, List.drop_succ_cons, List.drop_zero, List.filterMap_cons, List.filterMap_nil, List.getElem?_cons_succ, List.getElem?_cons_zero]; go_wp2_with fail; refine TextQ.mk ⟨fun h => by simp at h, ?_⟩ rfl
  refine Ord.cut 1 43 rfl rfl rfl rfl (by kernel_rfl) (by kernel_rfl) ?_; simp only [List.take_succ_cons, List.take_zero, List.drop_succ_cons, List.drop_zero, List.filterMap_cons, List.filterMap_nil, List.getElem?_cons_succ, List.getElem?_cons_zero]; go_wp2_with fail; refine TextQ.mk ⟨fun h => by simp at h, ?_⟩ rfl
  refine Ord.cut 1 44 rfl rfl rfl rfl (by kernel_rfl) (by kernel_rfl) ?_; simp only [List.take_succ_cons, List.take_zero, List.drop_succ_cons, List.drop_zero, List.filterMap_cons, List.filterMap_nil, List.getElem?_cons_succ, List.getElem?_cons_zero]; go_wp2_with fail; refine TextQ.mk ⟨fun h => by simp at h, ?_⟩ rfl
  refine Ord.done ?_
  go_wp2_with fail
  go_ret
  exact ⟨rfl, hst.only⟩
end Go.Proofs.Ytmogkiacakkmbaa
