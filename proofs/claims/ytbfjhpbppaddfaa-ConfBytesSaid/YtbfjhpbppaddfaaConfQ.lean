/- ConfBytes, walked: shapes as bytes. -/
import Derived.Test.YtbfjhpbppaddfaaConfP
namespace Go.Proofs.Ytbfjhpbppaddfaa
open Go.RowKit

section
variable {P : Program} {w : World} {ops : Array Oper} {rest : List Oper} {o : Oper} {a : Act} {Q : Exit → Act → World → Prop}
/-- A string, held against itself: no other. -/
theorem wpL_neq_self (hgd : o.guard = none) (t r : TypeId) (x y : Operand) (ho : o.op = .binOp .neq t x y r) (s : ByteArray) (hx : a.eval x = .string s) (hy : a.eval y = .string s)
    (h : wpList P ops Q rest (a.put o.dst (.bool false)) w) : wpList P ops Q (o :: rest) a w := by
  refine wpL_run hgd (v := .bool false) ?_ h
  unfold execOp
  simp only [ho, Sem.run_bind, hx, hy]
  simp [eqGuard, binOp, Op.stringOp]
theorem flat_cfg (c : Cfg) : flatV (.agg c.cells.toArray) = true := by
  have : c.cells.toArray.all scalarV = true := by
    rw [List.all_toArray]
    rfl
  unfold flatV
  rw [Bool.or_eq_true]
  exact .inr this
theorem fine_cfg {o : Oper} {a : Act} {op : BinOp} {t r : TypeId} {x y : Operand} (hop : o.op = .binOp op t x y r) {c d : Cfg} (hx : a.eval x = .agg c.cells.toArray) (hy : a.eval y = .agg d.cells.toArray) :
    (!asksGood o || !Region.wanted o (yielded ops a.tmps) || Good a o) = true := by
  have : Good a o = true := by simp [Good, hop, hx, hy, flat_cfg]
  simp [this]
end

set_option maxRecDepth 100000 in
set_option maxHeartbeats 4000000 in
theorem confBytes_long (c : Cfg) (t : ByteArray) (hl : 100 < t.size) (w : World) : Calls Try.prog 6 #[.agg c.cells.toArray, .string t] w fun e w' => e = .returned (.bool true) ∧ Only [] w w' := by
  have AW : Hid (∀ w, Calls Try.prog 13 #[] w fun e w' => e = .returned (.bool true) ∧ Only [] w w') := awake15_any
  have g1 : (100 : Int) < t.size := by omega
  obtain ⟨K, eK⟩ : ∃ K, K = c.cells := ⟨_, rfl⟩
  rw [← eK]
  clear eK hl
  go_enter Try.func6, Try.ntmps6
  go_wp2_with (go_at_call 13; refine (AW.out _).mono ?_)
  intro e w1 hx
  first | (subst hx; intro ho1) | (obtain ⟨rfl, ho1⟩ := hx)
  have a1 : Only [] w w1 := ((Only.refl [] w).alloc _).trans ho1
  go_wp2_with fail
  go_ret
  exact ⟨rfl, a1⟩

set_option maxRecDepth 100000 in
set_option maxHeartbeats 16000000 in
theorem confBytes_yy (c : Cfg) (t : ByteArray) (hl : t.size ≤ 100) (h : CanBe c) (hf : fits t) (w : World) : Calls Try.prog 6 #[.agg c.cells.toArray, .string t] w fun e w' => e = .returned (.bool true) ∧ Only [] w w' := by
  have hb0 := Blk.new w c.cells 39
  have AW : Hid (∀ w, Calls Try.prog 13 #[] w fun e w' => e = .returned (.bool true) ∧ Only [] w w') := awake15_any
  have RGD : Hid (∀ w, Calls Try.prog 14 #[.agg c.cells.toArray] w fun e w' => e = .returned (.bool true) ∧ Only [] w w') := refGood_yes c h
  have BY : Hid (∀ w, Calls Try.prog 25 #[.agg c.cells.toArray] w fun e w' => e = .returned (.string c.bytes) ∧ Only [] w w') := fun w => confBytes_any c w
  have RB : Hid (∀ w, Calls Try.prog 26 #[.agg c.cells.toArray] w fun e w' => e = .returned (.string c.bytes) ∧ Only [] w w') := fun w => refBytes_yes c h.fit w
  have P1 : Hid (∀ w, Calls Try.prog 24 #[.string c.bytes] w fun e w' => e = .returned (.tuple #[.agg c.cells.toArray, .int .i64 0]) ∧ Only [] w w') := fun w => confParse_any c.bytes _ (fun _ => by rw [six_bytes h.fit]) (fun hn => absurd (fits_bytes h) hn) w
  obtain ⟨B, eB⟩ : ∃ B, B = c.bytes := ⟨_, rfl⟩
  rw [← eB] at BY RB P1
  clear eB
  obtain ⟨d, ed⟩ : ∃ d : Cfg, d = sixCfg t := ⟨_, rfl⟩
  have P2 : Hid (∀ w, Calls Try.prog 24 #[.string t] w fun e w' => e = .returned (.tuple #[.agg d.cells.toArray, .int .i64 0]) ∧ Only [] w w') := fun w => by rw [ed]; exact confParse_any t _ (fun hh => rfl) (fun hh => absurd hf hh) w
  have P3 : Hid (∀ w, Calls Try.prog 27 #[.string t] w fun e w' => e = .returned (.tuple #[.agg d.cells.toArray, .bool true]) ∧ Only [] w w') := fun w => by rw [ed]; exact refParse_any t _ (fun hh => rfl) (fun hh => absurd hf hh) w
  have g1 : ¬ (100 : Int) < t.size := by omega
  have HL : Hid (c.cells.length = 6) := rfl
  have HO : Hid (c.cells.toArray.all (·.oneCell') = true) := c.cells_one
  have BU : Hid (Try.prog.built 42 [(0, .agg c.cells.toArray)] = some c.cells.toArray) := built_shp c
  have ML : Hid (d.cells.length = 6) := rfl
  have MO : Hid (d.cells.toArray.all (·.oneCell') = true) := d.cells_one
  obtain ⟨K, eK⟩ : ∃ K, K = c.cells := ⟨_, rfl⟩
  have EK : Hid (Value.agg K.toArray = .agg c.cells.toArray) := by rw [eK]; exact rfl
  rw [← eK] at hb0 RGD HL HO BU BY RB P1 ⊢
  obtain ⟨M, eM⟩ : ∃ M, M = d.cells := ⟨_, rfl⟩
  have EM : Hid (Value.agg M.toArray = .agg d.cells.toArray) := by rw [eM]; exact rfl
  rw [← eM] at P2 P3 ML MO
  obtain ⟨Z, eZ⟩ : ∃ Z, Z = zeros6 := ⟨_, rfl⟩
  have ZL : Hid (Z.length = 6) := by rw [eZ]; exact rfl
  have ZI : Hid ((Try.prog.info? 42).map (·.zero) = some (some (.agg Z.toArray))) := by rw [eZ]; show _ = _; kernel_rfl
  have ZJ : Hid ((Try.prog.info? 39).map (·.zero) = some (some (.agg Z.toArray))) := by rw [eZ]; show _ = _; kernel_rfl
  clear eK eM eZ ed hl h hf
  go_enter Try.func6, Try.ntmps6
  go_wp2_with (go_at_call 13; refine (AW.out _).mono ?_)
  intro e w1 hx
  first | (subst hx; intro ho1) | (obtain ⟨rfl, ho1⟩ := hx)
  have k1 := hb0.keep ho1
  have a1 : Only [] w w1 := ((Only.refl [] w).alloc _).trans ho1
  clear hb0 ho1
  go_wp2_with (first
    | (refine wpL_load rfl 39 _ rfl w.heap.size rfl _ _ _ k1 Try.underlying39 rfl cfgInfo HL.out ?_)
    | (go_at_call 14; refine (RGD.out _).mono ?_))
  intro e w2 hx
  first | (subst hx; intro ho2) | (obtain ⟨rfl, ho2⟩ := hx)
  have k2 := k1.keep ho2
  have a2 := a1.trans ho2
  clear k1 a1 ho2
  go_wp2_with (first
    | (refine wpL_load rfl 39 (.tmp 2) rfl w.heap.size rfl _ _ _ k2 Try.underlying39 rfl cfgInfo HL.out ?_)
    | (refine wpL_build1 rfl 42 0 (.tmp 19) rfl (.agg K.toArray) rfl K BU.out ?_)
    | (refine wpL_alloc rfl 5 rfl _ rfl (.agg Z.toArray) Z ZI.out rfl ?_; intro w3 ho3 hs3 hb3)
    | (refine wpL_store rfl 42 _ _ rfl w2.heap.size K.toArray rfl rfl _ _ hb3 shpInfo HL.out ZL.out HO.out ?_))
  intro w4 ho4 hs4 hb4
  have a4 : Only [] w w4 := (a2.trans ho3).step ho4 (fun i hi => .inr (by simp at hi; subst hi; exact a2.size))
  have k4 := (k2.keep ho3).only ho4 (by have := k2.lt; simp; omega)
  clear k2 a2 ho3 ho4 hs3 hs4 hb3
  generalize w2.heap.size = S at *
  go_wp2_with (first
    | (refine wpL_load rfl 42 (.tmp 5) rfl S rfl _ _ _ hb4 Try.underlying42 rfl shpInfo HL.out ?_)
    | (go_at_call 25; refine (BY.out _).mono ?_))
  intro e w5 hx
  first | (subst hx; intro ho5) | (obtain ⟨rfl, ho5⟩ := hx)
  go_wp2_with (go_at_call 24; refine (P1.out _).mono ?_)
  intro e w6 hx
  first | (subst hx; intro ho6) | (obtain ⟨rfl, ho6⟩ := hx)
  have k6 := (k4.keep ho5).keep ho6
  have s6 := (hb4.keep ho5).keep ho6
  have a6 := (a4.trans ho5).trans ho6
  clear k4 hb4 a4 ho5 ho6
  go_wp2_with (first
    | (refine wpL_alloc rfl 6 rfl _ rfl (.agg Z.toArray) Z ZI.out rfl ?_; intro w7 ho7 hs7 hb7)
    | (refine wpL_store rfl 42 _ _ rfl w6.heap.size K.toArray rfl rfl _ _ hb7 shpInfo HL.out ZL.out HO.out ?_))
  intro w8 ho8 hs8 hb8
  have a8 : Only [] w w8 := (a6.trans ho7).step ho8 (fun i hi => .inr (by simp at hi; subst hi; exact a6.size))
  have k8 := (k6.keep ho7).only ho8 (by have := k6.lt; simp; omega)
  have s8 := (s6.keep ho7).only ho8 (by have := s6.lt; simp; omega)
  clear k6 s6 a6 ho7 ho8 hs7 hs8 hb7
  generalize w6.heap.size = X at *
  have a9 := a8.drew
  have k9 := k8.drew
  have s9 := s8.drew
  have x9 := hb8.drew
  clear a8 k8 s8 hb8
  go_wp2_with fail
  refine wp_region_ord [1, 3] [0, 2, 1, 3, 4, 5, 6, 7, 8, 9, 10, 11, 12, 13] (by kernel_rfl) (by kernel_rfl) ?_
  generalize w8.drew = W at *
  refine Ord.cut 1 0 rfl rfl rfl rfl (by kernel_rfl) (by kernel_rfl) ?_
  simp only [List.take_succ_cons, List.take_zero, List.drop_succ_cons, List.drop_zero, List.filterMap_cons, List.filterMap_nil, List.getElem?_cons_succ, List.getElem?_cons_zero]
  refine wpL_load rfl 42 (.tmp 5) rfl S rfl _ _ _ s9 Try.underlying42 rfl shpInfo HL.out ?_
  refine TextQ.mk ⟨fun h => by simp at h, ?_⟩ rfl
  refine Ord.cut 1 2 rfl rfl rfl rfl (by kernel_rfl) (by kernel_rfl) ?_
  simp only [List.take_succ_cons, List.take_zero, List.drop_succ_cons, List.drop_zero, List.filterMap_cons, List.filterMap_nil, List.getElem?_cons_succ, List.getElem?_cons_zero]
  refine wpL_load rfl 39 (.tmp 2) rfl w.heap.size rfl _ _ _ k9 Try.underlying39 rfl cfgInfo HL.out ?_
  refine TextQ.mk ⟨fun h => by simp at h, ?_⟩ rfl
  refine Ord.cut 1 1 rfl rfl rfl rfl (by kernel_rfl) (by kernel_rfl) ?_
  simp only [List.take_succ_cons, List.take_zero, List.drop_succ_cons, List.drop_zero, List.filterMap_cons, List.filterMap_nil, List.getElem?_cons_succ, List.getElem?_cons_zero]
  go_wp2_with (go_at_call 25; refine (BY.out _).mono ?_; rintro e w10 ⟨rfl, ho10⟩)
  refine TextQ.mk ⟨fun _ => ho10, ?_⟩ rfl
  refine Ord.cut 1 3 rfl rfl rfl rfl (by kernel_rfl) (by kernel_rfl) ?_
  simp only [List.take_succ_cons, List.take_zero, List.drop_succ_cons, List.drop_zero, List.filterMap_cons, List.filterMap_nil, List.getElem?_cons_succ, List.getElem?_cons_zero]
  go_wp2_with (go_at_call 26; refine (RB.out _).mono ?_; rintro e w11 ⟨rfl, ho11⟩)
  refine TextQ.mk ⟨fun _ => ho11, ?_⟩ rfl
  have a11 := (a9.trans ho10).trans ho11
  have k11 := (k9.keep ho10).keep ho11
  have s11 := (s9.keep ho10).keep ho11
  have x11 := (x9.keep ho10).keep ho11
  clear a9 k9 s9 x9 ho10 ho11
  refine Ord.cut 6 9 rfl rfl rfl rfl (by kernel_rfl) (by kernel_rfl) ?_
  simp only [List.take_succ_cons, List.take_zero, List.drop_succ_cons, List.drop_zero, List.filterMap_cons, List.filterMap_nil, List.getElem?_cons_succ, List.getElem?_cons_zero]
  go_wp2_with (refine wpL_neq_self rfl 9 _ (.tmp 28) (.tmp 30) rfl B rfl rfl ?_)
  refine TextQ.mk ⟨fun h => by simp at h, ?_⟩ rfl
  refine Ord.cut 1 10 rfl rfl rfl rfl (by kernel_rfl) (by kernel_rfl) ?_
  simp only [List.take_succ_cons, List.take_zero, List.drop_succ_cons, List.drop_zero, List.filterMap_cons, List.filterMap_nil, List.getElem?_cons_succ, List.getElem?_cons_zero]
  refine wpL_yes rfl (wpL_load rfl 42 (.tmp 6) rfl X rfl _ _ _ x11 Try.underlying42 rfl shpInfo HL.out ?_)
  refine TextQ.mk ⟨fun h => by simp at h, ?_⟩ rfl
  refine Ord.cut 1 11 rfl rfl rfl rfl (by kernel_rfl) (by kernel_rfl) ?_
  simp only [List.take_succ_cons, List.take_zero, List.drop_succ_cons, List.drop_zero, List.filterMap_cons, List.filterMap_nil, List.getElem?_cons_succ, List.getElem?_cons_zero]
  refine wpL_yes rfl (wpL_load rfl 42 (.tmp 5) rfl S rfl _ _ _ s11 Try.underlying42 rfl shpInfo HL.out ?_)
  refine TextQ.mk ⟨fun h => by simp at h, ?_⟩ rfl
  refine Ord.cut 1 12 rfl rfl rfl rfl (by kernel_rfl) (by kernel_rfl) ?_
  simp only [List.take_succ_cons, List.take_zero, List.drop_succ_cons, List.drop_zero, List.filterMap_cons, List.filterMap_nil, List.getElem?_cons_succ, List.getElem?_cons_zero]
  refine wpL_yes rfl (wpL_neq_shp rfl _ (.tmp 37) (.tmp 38) rfl c EK.out EK.out ?_)
  refine TextQ.mk ⟨fun h => by simp at h, ?_⟩ ?_
  case refine_2 => repeat' (first | exact rfl | exact fine_cfg rfl EK.out EK.out | refine fine_cons ?_ ?_)
  refine Ord.cut 1 13 rfl rfl rfl rfl (by kernel_rfl) (by kernel_rfl) ?_
  simp only [List.take_succ_cons, List.take_zero, List.drop_succ_cons, List.drop_zero, List.filterMap_cons, List.filterMap_nil, List.getElem?_cons_succ, List.getElem?_cons_zero]
  go_wp2_with fail
  refine TextQ.mk ⟨fun h => by simp at h, ?_⟩ rfl
  refine Ord.done ?_
  clear k11
  go_wp2_with (go_at_call 24; refine (P2.out _).mono ?_)
  intro e w12 hx
  first | (subst hx; intro ho12) | (obtain ⟨rfl, ho12⟩ := hx)
  have a12 := a11.trans ho12
  clear a11 ho12
  go_wp2_with (first
    | (refine wpL_alloc rfl 8 rfl _ rfl (.agg Z.toArray) Z ZI.out rfl ?_; intro w13 ho13 hs13 hb13)
    | (refine wpL_store rfl 42 (.tmp 8) _ rfl w12.heap.size M.toArray rfl rfl _ _ hb13 shpInfo ML.out ZL.out MO.out ?_))
  intro w14 ho14 hs14 hb14
  have a14 : Only [] w w14 := (a12.trans ho13).step ho14 (fun i hi => .inr (by simp at hi; subst hi; exact a12.size))
  clear a12 ho13 ho14 hs13 hs14 hb13
  generalize w12.heap.size = Y at *
  go_wp2_with (go_at_call 27; refine (P3.out _).mono ?_)
  intro e w15 hx
  first | (subst hx; intro ho15) | (obtain ⟨rfl, ho15⟩ := hx)
  have a15 := a14.trans ho15
  have y15 := hb14.keep ho15
  clear a14 hb14 ho15
  go_wp2_with (first
    | (refine wpL_alloc rfl 10 rfl _ rfl (.agg Z.toArray) Z ZJ.out rfl ?_; intro w16 ho16 hs16 hb16)
    | (refine wpL_store rfl 39 (.tmp 10) _ rfl w15.heap.size M.toArray rfl rfl _ _ hb16 cfgInfo ML.out ZL.out MO.out ?_))
  intro w17 ho17 hs17 hb17
  have a17 : Only [] w w17 := (a15.trans ho16).step ho17 (fun i hi => .inr (by simp at hi; subst hi; exact a15.size))
  have y17 := (y15.keep ho16).only ho17 (by have := y15.lt; simp; omega)
  clear a15 y15 ho16 ho17 hs16 hs17 hb16
  generalize w15.heap.size = V at *
  go_wp2_with (first
    | (refine wpL_yes rfl (wpL_load rfl 39 (.tmp 63) rfl Y rfl _ _ _ y17 Try.underlying39 rfl cfgInfo ML.out ?_))
    | (refine wpL_yes rfl (wpL_load rfl 39 (.tmp 10) rfl V rfl _ _ _ hb17 Try.underlying39 rfl cfgInfo ML.out ?_))
    | (refine wpL_yes rfl (wpL_eql_cfg rfl _ (.tmp 64) (.tmp 65) rfl d EM.out EM.out ?_)))
  go_ret
  exact ⟨rfl, a17⟩

set_option maxRecDepth 100000 in
set_option maxHeartbeats 16000000 in
theorem confBytes_yn (c : Cfg) (t : ByteArray) (hl : t.size ≤ 100) (h : CanBe c) (hf : ¬ fits t) (w : World) : Calls Try.prog 6 #[.agg c.cells.toArray, .string t] w fun e w' => e = .returned (.bool true) ∧ Only [] w w' := by
  have hb0 := Blk.new w c.cells 39
  have AW : Hid (∀ w, Calls Try.prog 13 #[] w fun e w' => e = .returned (.bool true) ∧ Only [] w w') := awake15_any
  have RGD : Hid (∀ w, Calls Try.prog 14 #[.agg c.cells.toArray] w fun e w' => e = .returned (.bool true) ∧ Only [] w w') := refGood_yes c h
  have BY : Hid (∀ w, Calls Try.prog 25 #[.agg c.cells.toArray] w fun e w' => e = .returned (.string c.bytes) ∧ Only [] w w') := fun w => confBytes_any c w
  have RB : Hid (∀ w, Calls Try.prog 26 #[.agg c.cells.toArray] w fun e w' => e = .returned (.string c.bytes) ∧ Only [] w w') := fun w => refBytes_yes c h.fit w
  have P1 : Hid (∀ w, Calls Try.prog 24 #[.string c.bytes] w fun e w' => e = .returned (.tuple #[.agg c.cells.toArray, .int .i64 0]) ∧ Only [] w w') := fun w => confParse_any c.bytes _ (fun _ => by rw [six_bytes h.fit]) (fun hn => absurd (fits_bytes h) hn) w
  obtain ⟨B, eB⟩ : ∃ B, B = c.bytes := ⟨_, rfl⟩
  rw [← eB] at BY RB P1
  clear eB
  obtain ⟨d, ed⟩ : ∃ d : Cfg, d = ⟨0, 0, 0, 0, 0, 0⟩ := ⟨_, rfl⟩
  have P2 : Hid (∀ w, Calls Try.prog 24 #[.string t] w fun e w' => e = .returned (.tuple #[.agg d.cells.toArray, .int .i64 5]) ∧ Only [] w w') := fun w => by rw [ed]; exact confParse_any t _ (fun hh => absurd hh hf) (fun hh => rfl) w
  have P3 : Hid (∀ w, Calls Try.prog 27 #[.string t] w fun e w' => e = .returned (.tuple #[.agg d.cells.toArray, .bool false]) ∧ Only [] w w') := fun w => by rw [ed]; exact refParse_any t _ (fun hh => absurd hh hf) (fun hh => rfl) w
  have g1 : ¬ (100 : Int) < t.size := by omega
  have HL : Hid (c.cells.length = 6) := rfl
  have HO : Hid (c.cells.toArray.all (·.oneCell') = true) := c.cells_one
  have BU : Hid (Try.prog.built 42 [(0, .agg c.cells.toArray)] = some c.cells.toArray) := built_shp c
  have ML : Hid (d.cells.length = 6) := rfl
  have MO : Hid (d.cells.toArray.all (·.oneCell') = true) := d.cells_one
  obtain ⟨K, eK⟩ : ∃ K, K = c.cells := ⟨_, rfl⟩
  have EK : Hid (Value.agg K.toArray = .agg c.cells.toArray) := by rw [eK]; exact rfl
  rw [← eK] at hb0 RGD HL HO BU BY RB P1 ⊢
  obtain ⟨M, eM⟩ : ∃ M, M = d.cells := ⟨_, rfl⟩
  have EM : Hid (Value.agg M.toArray = .agg d.cells.toArray) := by rw [eM]; exact rfl
  rw [← eM] at P2 P3 ML MO
  obtain ⟨Z, eZ⟩ : ∃ Z, Z = zeros6 := ⟨_, rfl⟩
  have ZL : Hid (Z.length = 6) := by rw [eZ]; exact rfl
  have ZI : Hid ((Try.prog.info? 42).map (·.zero) = some (some (.agg Z.toArray))) := by rw [eZ]; show _ = _; kernel_rfl
  have ZJ : Hid ((Try.prog.info? 39).map (·.zero) = some (some (.agg Z.toArray))) := by rw [eZ]; show _ = _; kernel_rfl
  clear eK eM eZ ed hl h hf
  go_enter Try.func6, Try.ntmps6
  go_wp2_with (go_at_call 13; refine (AW.out _).mono ?_)
  intro e w1 hx
  first | (subst hx; intro ho1) | (obtain ⟨rfl, ho1⟩ := hx)
  have k1 := hb0.keep ho1
  have a1 : Only [] w w1 := ((Only.refl [] w).alloc _).trans ho1
  clear hb0 ho1
  go_wp2_with (first
    | (refine wpL_load rfl 39 _ rfl w.heap.size rfl _ _ _ k1 Try.underlying39 rfl cfgInfo HL.out ?_)
    | (go_at_call 14; refine (RGD.out _).mono ?_))
  intro e w2 hx
  first | (subst hx; intro ho2) | (obtain ⟨rfl, ho2⟩ := hx)
  have k2 := k1.keep ho2
  have a2 := a1.trans ho2
  clear k1 a1 ho2
  go_wp2_with (first
    | (refine wpL_load rfl 39 (.tmp 2) rfl w.heap.size rfl _ _ _ k2 Try.underlying39 rfl cfgInfo HL.out ?_)
    | (refine wpL_build1 rfl 42 0 (.tmp 19) rfl (.agg K.toArray) rfl K BU.out ?_)
    | (refine wpL_alloc rfl 5 rfl _ rfl (.agg Z.toArray) Z ZI.out rfl ?_; intro w3 ho3 hs3 hb3)
    | (refine wpL_store rfl 42 _ _ rfl w2.heap.size K.toArray rfl rfl _ _ hb3 shpInfo HL.out ZL.out HO.out ?_))
  intro w4 ho4 hs4 hb4
  have a4 : Only [] w w4 := (a2.trans ho3).step ho4 (fun i hi => .inr (by simp at hi; subst hi; exact a2.size))
  have k4 := (k2.keep ho3).only ho4 (by have := k2.lt; simp; omega)
  clear k2 a2 ho3 ho4 hs3 hs4 hb3
  generalize w2.heap.size = S at *
  go_wp2_with (first
    | (refine wpL_load rfl 42 (.tmp 5) rfl S rfl _ _ _ hb4 Try.underlying42 rfl shpInfo HL.out ?_)
    | (go_at_call 25; refine (BY.out _).mono ?_))
  intro e w5 hx
  first | (subst hx; intro ho5) | (obtain ⟨rfl, ho5⟩ := hx)
  go_wp2_with (go_at_call 24; refine (P1.out _).mono ?_)
  intro e w6 hx
  first | (subst hx; intro ho6) | (obtain ⟨rfl, ho6⟩ := hx)
  have k6 := (k4.keep ho5).keep ho6
  have s6 := (hb4.keep ho5).keep ho6
  have a6 := (a4.trans ho5).trans ho6
  clear k4 hb4 a4 ho5 ho6
  go_wp2_with (first
    | (refine wpL_alloc rfl 6 rfl _ rfl (.agg Z.toArray) Z ZI.out rfl ?_; intro w7 ho7 hs7 hb7)
    | (refine wpL_store rfl 42 _ _ rfl w6.heap.size K.toArray rfl rfl _ _ hb7 shpInfo HL.out ZL.out HO.out ?_))
  intro w8 ho8 hs8 hb8
  have a8 : Only [] w w8 := (a6.trans ho7).step ho8 (fun i hi => .inr (by simp at hi; subst hi; exact a6.size))
  have k8 := (k6.keep ho7).only ho8 (by have := k6.lt; simp; omega)
  have s8 := (s6.keep ho7).only ho8 (by have := s6.lt; simp; omega)
  clear k6 s6 a6 ho7 ho8 hs7 hs8 hb7
  generalize w6.heap.size = X at *
  have a9 := a8.drew
  have k9 := k8.drew
  have s9 := s8.drew
  have x9 := hb8.drew
  clear a8 k8 s8 hb8
  go_wp2_with fail
  refine wp_region_ord [1, 3] [0, 2, 1, 3, 4, 5, 6, 7, 8, 9, 10, 11, 12, 13] (by kernel_rfl) (by kernel_rfl) ?_
  generalize w8.drew = W at *
  refine Ord.cut 1 0 rfl rfl rfl rfl (by kernel_rfl) (by kernel_rfl) ?_
  simp only [List.take_succ_cons, List.take_zero, List.drop_succ_cons, List.drop_zero, List.filterMap_cons, List.filterMap_nil, List.getElem?_cons_succ, List.getElem?_cons_zero]
  refine wpL_load rfl 42 (.tmp 5) rfl S rfl _ _ _ s9 Try.underlying42 rfl shpInfo HL.out ?_
  refine TextQ.mk ⟨fun h => by simp at h, ?_⟩ rfl
  refine Ord.cut 1 2 rfl rfl rfl rfl (by kernel_rfl) (by kernel_rfl) ?_
  simp only [List.take_succ_cons, List.take_zero, List.drop_succ_cons, List.drop_zero, List.filterMap_cons, List.filterMap_nil, List.getElem?_cons_succ, List.getElem?_cons_zero]
  refine wpL_load rfl 39 (.tmp 2) rfl w.heap.size rfl _ _ _ k9 Try.underlying39 rfl cfgInfo HL.out ?_
  refine TextQ.mk ⟨fun h => by simp at h, ?_⟩ rfl
  refine Ord.cut 1 1 rfl rfl rfl rfl (by kernel_rfl) (by kernel_rfl) ?_
  simp only [List.take_succ_cons, List.take_zero, List.drop_succ_cons, List.drop_zero, List.filterMap_cons, List.filterMap_nil, List.getElem?_cons_succ, List.getElem?_cons_zero]
  go_wp2_with (go_at_call 25; refine (BY.out _).mono ?_; rintro e w10 ⟨rfl, ho10⟩)
  refine TextQ.mk ⟨fun _ => ho10, ?_⟩ rfl
  refine Ord.cut 1 3 rfl rfl rfl rfl (by kernel_rfl) (by kernel_rfl) ?_
  simp only [List.take_succ_cons, List.take_zero, List.drop_succ_cons, List.drop_zero, List.filterMap_cons, List.filterMap_nil, List.getElem?_cons_succ, List.getElem?_cons_zero]
  go_wp2_with (go_at_call 26; refine (RB.out _).mono ?_; rintro e w11 ⟨rfl, ho11⟩)
  refine TextQ.mk ⟨fun _ => ho11, ?_⟩ rfl
  have a11 := (a9.trans ho10).trans ho11
  have k11 := (k9.keep ho10).keep ho11
  have s11 := (s9.keep ho10).keep ho11
  have x11 := (x9.keep ho10).keep ho11
  clear a9 k9 s9 x9 ho10 ho11
  refine Ord.cut 6 9 rfl rfl rfl rfl (by kernel_rfl) (by kernel_rfl) ?_
  simp only [List.take_succ_cons, List.take_zero, List.drop_succ_cons, List.drop_zero, List.filterMap_cons, List.filterMap_nil, List.getElem?_cons_succ, List.getElem?_cons_zero]
  go_wp2_with (refine wpL_neq_self rfl 9 _ (.tmp 28) (.tmp 30) rfl B rfl rfl ?_)
  refine TextQ.mk ⟨fun h => by simp at h, ?_⟩ rfl
  refine Ord.cut 1 10 rfl rfl rfl rfl (by kernel_rfl) (by kernel_rfl) ?_
  simp only [List.take_succ_cons, List.take_zero, List.drop_succ_cons, List.drop_zero, List.filterMap_cons, List.filterMap_nil, List.getElem?_cons_succ, List.getElem?_cons_zero]
  refine wpL_yes rfl (wpL_load rfl 42 (.tmp 6) rfl X rfl _ _ _ x11 Try.underlying42 rfl shpInfo HL.out ?_)
  refine TextQ.mk ⟨fun h => by simp at h, ?_⟩ rfl
  refine Ord.cut 1 11 rfl rfl rfl rfl (by kernel_rfl) (by kernel_rfl) ?_
  simp only [List.take_succ_cons, List.take_zero, List.drop_succ_cons, List.drop_zero, List.filterMap_cons, List.filterMap_nil, List.getElem?_cons_succ, List.getElem?_cons_zero]
  refine wpL_yes rfl (wpL_load rfl 42 (.tmp 5) rfl S rfl _ _ _ s11 Try.underlying42 rfl shpInfo HL.out ?_)
  refine TextQ.mk ⟨fun h => by simp at h, ?_⟩ rfl
  refine Ord.cut 1 12 rfl rfl rfl rfl (by kernel_rfl) (by kernel_rfl) ?_
  simp only [List.take_succ_cons, List.take_zero, List.drop_succ_cons, List.drop_zero, List.filterMap_cons, List.filterMap_nil, List.getElem?_cons_succ, List.getElem?_cons_zero]
  refine wpL_yes rfl (wpL_neq_shp rfl _ (.tmp 37) (.tmp 38) rfl c EK.out EK.out ?_)
  refine TextQ.mk ⟨fun h => by simp at h, ?_⟩ ?_
  case refine_2 => repeat' (first | exact rfl | exact fine_cfg rfl EK.out EK.out | refine fine_cons ?_ ?_)
  refine Ord.cut 1 13 rfl rfl rfl rfl (by kernel_rfl) (by kernel_rfl) ?_
  simp only [List.take_succ_cons, List.take_zero, List.drop_succ_cons, List.drop_zero, List.filterMap_cons, List.filterMap_nil, List.getElem?_cons_succ, List.getElem?_cons_zero]
  go_wp2_with fail
  refine TextQ.mk ⟨fun h => by simp at h, ?_⟩ rfl
  refine Ord.done ?_
  clear k11
  go_wp2_with (go_at_call 24; refine (P2.out _).mono ?_)
  intro e w12 hx
  first | (subst hx; intro ho12) | (obtain ⟨rfl, ho12⟩ := hx)
  have a12 := a11.trans ho12
  clear a11 ho12
  go_wp2_with (first
    | (refine wpL_alloc rfl 8 rfl _ rfl (.agg Z.toArray) Z ZI.out rfl ?_; intro w13 ho13 hs13 hb13)
    | (refine wpL_store rfl 42 (.tmp 8) _ rfl w12.heap.size M.toArray rfl rfl _ _ hb13 shpInfo ML.out ZL.out MO.out ?_))
  intro w14 ho14 hs14 hb14
  have a14 : Only [] w w14 := (a12.trans ho13).step ho14 (fun i hi => .inr (by simp at hi; subst hi; exact a12.size))
  clear a12 ho13 ho14 hs13 hs14 hb13
  generalize w12.heap.size = Y at *
  go_wp2_with (go_at_call 27; refine (P3.out _).mono ?_)
  intro e w15 hx
  first | (subst hx; intro ho15) | (obtain ⟨rfl, ho15⟩ := hx)
  have a15 := a14.trans ho15
  have y15 := hb14.keep ho15
  clear a14 hb14 ho15
  go_wp2_with (first
    | (refine wpL_alloc rfl 10 rfl _ rfl (.agg Z.toArray) Z ZJ.out rfl ?_; intro w16 ho16 hs16 hb16)
    | (refine wpL_store rfl 39 (.tmp 10) _ rfl w15.heap.size M.toArray rfl rfl _ _ hb16 cfgInfo ML.out ZL.out MO.out ?_))
  intro w17 ho17 hs17 hb17
  have a17 : Only [] w w17 := (a15.trans ho16).step ho17 (fun i hi => .inr (by simp at hi; subst hi; exact a15.size))
  have y17 := (y15.keep ho16).only ho17 (by have := y15.lt; simp; omega)
  clear a15 y15 ho16 ho17 hs16 hs17 hb16
  generalize w15.heap.size = V at *
  go_wp2_with (first
    | (refine wpL_yes rfl (wpL_load rfl 39 (.tmp 63) rfl Y rfl _ _ _ y17 Try.underlying39 rfl cfgInfo ML.out ?_))
    | (refine wpL_yes rfl (wpL_load rfl 39 (.tmp 10) rfl V rfl _ _ _ hb17 Try.underlying39 rfl cfgInfo ML.out ?_))
    | (refine wpL_yes rfl (wpL_eql_cfg rfl _ (.tmp 64) (.tmp 65) rfl d EM.out EM.out ?_)))
  go_ret
  exact ⟨rfl, a17⟩

set_option maxRecDepth 100000 in
set_option maxHeartbeats 16000000 in
theorem confBytes_ny (c : Cfg) (t : ByteArray) (hl : t.size ≤ 100) (h : ¬ CanBe c) (hf : fits t) (w : World) : Calls Try.prog 6 #[.agg c.cells.toArray, .string t] w fun e w' => e = .returned (.bool true) ∧ Only [] w w' := by
  have hb0 := Blk.new w c.cells 39
  have AW : Hid (∀ w, Calls Try.prog 13 #[] w fun e w' => e = .returned (.bool true) ∧ Only [] w w') := awake15_any
  have RGD : Hid (∀ w, Calls Try.prog 14 #[.agg c.cells.toArray] w fun e w' => e = .returned (.bool false) ∧ Only [] w w') := refGood_no c h
  obtain ⟨d, ed⟩ : ∃ d : Cfg, d = sixCfg t := ⟨_, rfl⟩
  have P2 : Hid (∀ w, Calls Try.prog 24 #[.string t] w fun e w' => e = .returned (.tuple #[.agg d.cells.toArray, .int .i64 0]) ∧ Only [] w w') := fun w => by rw [ed]; exact confParse_any t _ (fun hh => rfl) (fun hh => absurd hf hh) w
  have P3 : Hid (∀ w, Calls Try.prog 27 #[.string t] w fun e w' => e = .returned (.tuple #[.agg d.cells.toArray, .bool true]) ∧ Only [] w w') := fun w => by rw [ed]; exact refParse_any t _ (fun hh => rfl) (fun hh => absurd hf hh) w
  have g1 : ¬ (100 : Int) < t.size := by omega
  have HL : Hid (c.cells.length = 6) := rfl
  have HO : Hid (c.cells.toArray.all (·.oneCell') = true) := c.cells_one
  have BU : Hid (Try.prog.built 42 [(0, .agg c.cells.toArray)] = some c.cells.toArray) := built_shp c
  have ML : Hid (d.cells.length = 6) := rfl
  have MO : Hid (d.cells.toArray.all (·.oneCell') = true) := d.cells_one
  obtain ⟨K, eK⟩ : ∃ K, K = c.cells := ⟨_, rfl⟩
  have EK : Hid (Value.agg K.toArray = .agg c.cells.toArray) := by rw [eK]; exact rfl
  rw [← eK] at hb0 RGD HL HO BU  ⊢
  obtain ⟨M, eM⟩ : ∃ M, M = d.cells := ⟨_, rfl⟩
  have EM : Hid (Value.agg M.toArray = .agg d.cells.toArray) := by rw [eM]; exact rfl
  rw [← eM] at P2 P3 ML MO
  obtain ⟨Z, eZ⟩ : ∃ Z, Z = zeros6 := ⟨_, rfl⟩
  have ZL : Hid (Z.length = 6) := by rw [eZ]; exact rfl
  have ZI : Hid ((Try.prog.info? 42).map (·.zero) = some (some (.agg Z.toArray))) := by rw [eZ]; show _ = _; kernel_rfl
  have ZJ : Hid ((Try.prog.info? 39).map (·.zero) = some (some (.agg Z.toArray))) := by rw [eZ]; show _ = _; kernel_rfl
  clear eK eM eZ ed hl h hf
  go_enter Try.func6, Try.ntmps6
  go_wp2_with (go_at_call 13; refine (AW.out _).mono ?_)
  intro e w1 hx
  first | (subst hx; intro ho1) | (obtain ⟨rfl, ho1⟩ := hx)
  have k1 := hb0.keep ho1
  have a1 : Only [] w w1 := ((Only.refl [] w).alloc _).trans ho1
  clear hb0 ho1
  go_wp2_with (first
    | (refine wpL_load rfl 39 _ rfl w.heap.size rfl _ _ _ k1 Try.underlying39 rfl cfgInfo HL.out ?_)
    | (go_at_call 14; refine (RGD.out _).mono ?_))
  intro e w2 hx
  first | (subst hx; intro ho2) | (obtain ⟨rfl, ho2⟩ := hx)
  have k2 := k1.keep ho2
  have a2 := a1.trans ho2
  clear k1 a1 ho2
  have a11 := a2
  have k11 := k2
  obtain ⟨w11, ew⟩ : ∃ w11, w11 = w2 := ⟨_, rfl⟩
  rw [← ew] at a11 k11 ⊢
  clear a2 k2 ew
  clear k11
  go_wp2_with (go_at_call 24; refine (P2.out _).mono ?_)
  intro e w12 hx
  first | (subst hx; intro ho12) | (obtain ⟨rfl, ho12⟩ := hx)
  have a12 := a11.trans ho12
  clear a11 ho12
  go_wp2_with (first
    | (refine wpL_alloc rfl 8 rfl _ rfl (.agg Z.toArray) Z ZI.out rfl ?_; intro w13 ho13 hs13 hb13)
    | (refine wpL_store rfl 42 (.tmp 8) _ rfl w12.heap.size M.toArray rfl rfl _ _ hb13 shpInfo ML.out ZL.out MO.out ?_))
  intro w14 ho14 hs14 hb14
  have a14 : Only [] w w14 := (a12.trans ho13).step ho14 (fun i hi => .inr (by simp at hi; subst hi; exact a12.size))
  clear a12 ho13 ho14 hs13 hs14 hb13
  generalize w12.heap.size = Y at *
  go_wp2_with (go_at_call 27; refine (P3.out _).mono ?_)
  intro e w15 hx
  first | (subst hx; intro ho15) | (obtain ⟨rfl, ho15⟩ := hx)
  have a15 := a14.trans ho15
  have y15 := hb14.keep ho15
  clear a14 hb14 ho15
  go_wp2_with (first
    | (refine wpL_alloc rfl 10 rfl _ rfl (.agg Z.toArray) Z ZJ.out rfl ?_; intro w16 ho16 hs16 hb16)
    | (refine wpL_store rfl 39 (.tmp 10) _ rfl w15.heap.size M.toArray rfl rfl _ _ hb16 cfgInfo ML.out ZL.out MO.out ?_))
  intro w17 ho17 hs17 hb17
  have a17 : Only [] w w17 := (a15.trans ho16).step ho17 (fun i hi => .inr (by simp at hi; subst hi; exact a15.size))
  have y17 := (y15.keep ho16).only ho17 (by have := y15.lt; simp; omega)
  clear a15 y15 ho16 ho17 hs16 hs17 hb16
  generalize w15.heap.size = V at *
  go_wp2_with (first
    | (refine wpL_yes rfl (wpL_load rfl 39 (.tmp 63) rfl Y rfl _ _ _ y17 Try.underlying39 rfl cfgInfo ML.out ?_))
    | (refine wpL_yes rfl (wpL_load rfl 39 (.tmp 10) rfl V rfl _ _ _ hb17 Try.underlying39 rfl cfgInfo ML.out ?_))
    | (refine wpL_yes rfl (wpL_eql_cfg rfl _ (.tmp 64) (.tmp 65) rfl d EM.out EM.out ?_)))
  go_ret
  exact ⟨rfl, a17⟩

set_option maxRecDepth 100000 in
set_option maxHeartbeats 16000000 in
theorem confBytes_nn (c : Cfg) (t : ByteArray) (hl : t.size ≤ 100) (h : ¬ CanBe c) (hf : ¬ fits t) (w : World) : Calls Try.prog 6 #[.agg c.cells.toArray, .string t] w fun e w' => e = .returned (.bool true) ∧ Only [] w w' := by
  have hb0 := Blk.new w c.cells 39
  have AW : Hid (∀ w, Calls Try.prog 13 #[] w fun e w' => e = .returned (.bool true) ∧ Only [] w w') := awake15_any
  have RGD : Hid (∀ w, Calls Try.prog 14 #[.agg c.cells.toArray] w fun e w' => e = .returned (.bool false) ∧ Only [] w w') := refGood_no c h
  obtain ⟨d, ed⟩ : ∃ d : Cfg, d = ⟨0, 0, 0, 0, 0, 0⟩ := ⟨_, rfl⟩
  have P2 : Hid (∀ w, Calls Try.prog 24 #[.string t] w fun e w' => e = .returned (.tuple #[.agg d.cells.toArray, .int .i64 5]) ∧ Only [] w w') := fun w => by rw [ed]; exact confParse_any t _ (fun hh => absurd hh hf) (fun hh => rfl) w
  have P3 : Hid (∀ w, Calls Try.prog 27 #[.string t] w fun e w' => e = .returned (.tuple #[.agg d.cells.toArray, .bool false]) ∧ Only [] w w') := fun w => by rw [ed]; exact refParse_any t _ (fun hh => absurd hh hf) (fun hh => rfl) w
  have g1 : ¬ (100 : Int) < t.size := by omega
  have HL : Hid (c.cells.length = 6) := rfl
  have HO : Hid (c.cells.toArray.all (·.oneCell') = true) := c.cells_one
  have BU : Hid (Try.prog.built 42 [(0, .agg c.cells.toArray)] = some c.cells.toArray) := built_shp c
  have ML : Hid (d.cells.length = 6) := rfl
  have MO : Hid (d.cells.toArray.all (·.oneCell') = true) := d.cells_one
  obtain ⟨K, eK⟩ : ∃ K, K = c.cells := ⟨_, rfl⟩
  have EK : Hid (Value.agg K.toArray = .agg c.cells.toArray) := by rw [eK]; exact rfl
  rw [← eK] at hb0 RGD HL HO BU  ⊢
  obtain ⟨M, eM⟩ : ∃ M, M = d.cells := ⟨_, rfl⟩
  have EM : Hid (Value.agg M.toArray = .agg d.cells.toArray) := by rw [eM]; exact rfl
  rw [← eM] at P2 P3 ML MO
  obtain ⟨Z, eZ⟩ : ∃ Z, Z = zeros6 := ⟨_, rfl⟩
  have ZL : Hid (Z.length = 6) := by rw [eZ]; exact rfl
  have ZI : Hid ((Try.prog.info? 42).map (·.zero) = some (some (.agg Z.toArray))) := by rw [eZ]; show _ = _; kernel_rfl
  have ZJ : Hid ((Try.prog.info? 39).map (·.zero) = some (some (.agg Z.toArray))) := by rw [eZ]; show _ = _; kernel_rfl
  clear eK eM eZ ed hl h hf
  go_enter Try.func6, Try.ntmps6
  go_wp2_with (go_at_call 13; refine (AW.out _).mono ?_)
  intro e w1 hx
  first | (subst hx; intro ho1) | (obtain ⟨rfl, ho1⟩ := hx)
  have k1 := hb0.keep ho1
  have a1 : Only [] w w1 := ((Only.refl [] w).alloc _).trans ho1
  clear hb0 ho1
  go_wp2_with (first
    | (refine wpL_load rfl 39 _ rfl w.heap.size rfl _ _ _ k1 Try.underlying39 rfl cfgInfo HL.out ?_)
    | (go_at_call 14; refine (RGD.out _).mono ?_))
  intro e w2 hx
  first | (subst hx; intro ho2) | (obtain ⟨rfl, ho2⟩ := hx)
  have k2 := k1.keep ho2
  have a2 := a1.trans ho2
  clear k1 a1 ho2
  have a11 := a2
  have k11 := k2
  obtain ⟨w11, ew⟩ : ∃ w11, w11 = w2 := ⟨_, rfl⟩
  rw [← ew] at a11 k11 ⊢
  clear a2 k2 ew
  clear k11
  go_wp2_with (go_at_call 24; refine (P2.out _).mono ?_)
  intro e w12 hx
  first | (subst hx; intro ho12) | (obtain ⟨rfl, ho12⟩ := hx)
  have a12 := a11.trans ho12
  clear a11 ho12
  go_wp2_with (first
    | (refine wpL_alloc rfl 8 rfl _ rfl (.agg Z.toArray) Z ZI.out rfl ?_; intro w13 ho13 hs13 hb13)
    | (refine wpL_store rfl 42 (.tmp 8) _ rfl w12.heap.size M.toArray rfl rfl _ _ hb13 shpInfo ML.out ZL.out MO.out ?_))
  intro w14 ho14 hs14 hb14
  have a14 : Only [] w w14 := (a12.trans ho13).step ho14 (fun i hi => .inr (by simp at hi; subst hi; exact a12.size))
  clear a12 ho13 ho14 hs13 hs14 hb13
  generalize w12.heap.size = Y at *
  go_wp2_with (go_at_call 27; refine (P3.out _).mono ?_)
  intro e w15 hx
  first | (subst hx; intro ho15) | (obtain ⟨rfl, ho15⟩ := hx)
  have a15 := a14.trans ho15
  have y15 := hb14.keep ho15
  clear a14 hb14 ho15
  go_wp2_with (first
    | (refine wpL_alloc rfl 10 rfl _ rfl (.agg Z.toArray) Z ZJ.out rfl ?_; intro w16 ho16 hs16 hb16)
    | (refine wpL_store rfl 39 (.tmp 10) _ rfl w15.heap.size M.toArray rfl rfl _ _ hb16 cfgInfo ML.out ZL.out MO.out ?_))
  intro w17 ho17 hs17 hb17
  have a17 : Only [] w w17 := (a15.trans ho16).step ho17 (fun i hi => .inr (by simp at hi; subst hi; exact a15.size))
  have y17 := (y15.keep ho16).only ho17 (by have := y15.lt; simp; omega)
  clear a15 y15 ho16 ho17 hs16 hs17 hb16
  generalize w15.heap.size = V at *
  go_wp2_with (first
    | (refine wpL_yes rfl (wpL_load rfl 39 (.tmp 63) rfl Y rfl _ _ _ y17 Try.underlying39 rfl cfgInfo ML.out ?_))
    | (refine wpL_yes rfl (wpL_load rfl 39 (.tmp 10) rfl V rfl _ _ _ hb17 Try.underlying39 rfl cfgInfo ML.out ?_))
    | (refine wpL_yes rfl (wpL_eql_cfg rfl _ (.tmp 64) (.tmp 65) rfl d EM.out EM.out ?_)))
  go_ret
  exact ⟨rfl, a17⟩

theorem confBytesLaw_any (c : Cfg) (t : ByteArray) (w : World) : Calls Try.prog 6 #[.agg c.cells.toArray, .string t] w fun e w' => e = .returned (.bool true) ∧ Only [] w w' := by
  by_cases hl : 100 < t.size
  · exact confBytes_long c t hl w
  by_cases h : CanBe c
  · by_cases hf : fits t
    · exact confBytes_yy c t (by omega) h hf w
    · exact confBytes_yn c t (by omega) h hf w
  · by_cases hf : fits t
    · exact confBytes_ny c t (by omega) h hf w
    · exact confBytes_nn c t (by omega) h hf w

end Go.Proofs.Ytbfjhpbppaddfaa
