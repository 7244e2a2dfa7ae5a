/- ConfExact, walked: the program's answers are the document's. -/
import Derived.Test.YtbfjhpbppaddfaaConfK
namespace Go.Proofs.Ytbfjhpbppaddfaa
open Go.RowKit

section
variable {P : Program} {w : World} {ops : Array Oper} {rest : List Oper} {o : Oper} {a : Act} {Q : Exit → Act → World → Prop}
/-- A row made of one part. -/
theorem wpL_build1 (hg : o.guard = none) (t : TypeId) (i : Nat) (x : Operand) (ho : o.op = .build t #[(i, x)]) (v : Value) (hx : a.eval x = v) (C : List Value)
    (hf : P.built t [(i, v)] = some C.toArray) (h : wpList P ops Q rest (a.put o.dst (.agg C.toArray)) w) : wpList P ops Q (o :: rest) a w :=
  wpL_build hg t _ ho C (by simpa [hx] using hf) h
end

theorem built_shp (c : Cfg) : Try.prog.built 42 [(0, .agg c.cells.toArray)] = some c.cells.toArray := by
  obtain ⟨V, D, H, B, F, C⟩ := c
  kernel_rfl

set_option maxRecDepth 100000 in
set_option maxHeartbeats 16000000 in
theorem confExact_yes (c : Cfg) (p b : Int) (h : CanBe c) (w : World) : Calls Try.prog 4 #[.agg c.cells.toArray, .int .i64 p, .int .i64 b] w fun e w' => e = .returned (.bool true) ∧ Only [] w w' := by
  have hb0 := Blk.new w c.cells 39
  have AW : Hid (∀ w, Calls Try.prog 13 #[] w fun e w' => e = .returned (.bool true) ∧ Only [] w w') := awake15_any
  have RGD : Hid (∀ w, Calls Try.prog 14 #[.agg c.cells.toArray] w fun e w' => e = .returned (.bool true) ∧ Only [] w w') := refGood_yes c h
  have CGD : Hid (∀ w, Calls Try.prog 16 #[.agg c.cells.toArray] w fun e w' => e = .returned (.bool true) ∧ Only [] w w') := confGood_yes c h
  obtain ⟨x, ex⟩ : ∃ x, x = (c.side p).1 := ⟨_, rfl⟩
  obtain ⟨y, ey⟩ : ∃ y, y = (c.side p).2 := ⟨_, rfl⟩
  obtain ⟨u, v, z, et⟩ := told_form c p b
  obtain ⟨T, eT⟩ : ∃ T, T = c.all := ⟨_, rfl⟩
  obtain ⟨V, eV⟩ : ∃ V, V = c.V := ⟨_, rfl⟩
  obtain ⟨D, eD⟩ : ∃ D, D = c.D := ⟨_, rfl⟩
  obtain ⟨H, eH⟩ : ∃ H, H = c.H := ⟨_, rfl⟩
  obtain ⟨B, eB⟩ : ∃ B, B = c.B := ⟨_, rfl⟩
  obtain ⟨F, eF⟩ : ∃ F, F = c.F := ⟨_, rfl⟩
  obtain ⟨C, eC⟩ : ∃ C, C = c.C := ⟨_, rfl⟩
  have OF : Hid (∀ w, Calls Try.prog 15 #[.int .i64 V, .int .i64 D, .int .i64 H, .int .i64 B, .int .i64 F, .int .i64 C] w fun e w' => e = .returned (.tuple #[.agg c.cells.toArray, .int .i64 0]) ∧ Only [] w w') := fun w => by rw [eV, eD, eH, eB, eF, eC]; exact of_yes c h w
  have RSZ : Hid (∀ w, Calls Try.prog 17 #[.agg c.cells.toArray] w fun e w' => e = .returned (.int .i64 T) ∧ Only [] w w') := fun w => by rw [eT]; exact refSize_any c h.fit w
  have SZ : Hid (∀ w, Calls Try.prog 22 #[.agg c.cells.toArray] w fun e w' => e = .returned (.int .i64 T) ∧ Only [] w w') := fun w => by rw [eT]; exact size_yes c h w
  have HDM : Hid (∀ w, Calls Try.prog 23 #[.agg c.cells.toArray] w fun e w' => e = .returned (.int .i64 (D / H)) ∧ Only [] w w') := fun w => by rw [eD, eH]; exact head_yes c h w
  have SD : Hid (∀ w, Calls Try.prog 18 #[.agg c.cells.toArray, .int .i64 p] w fun e w' => e = .returned (.tuple #[.int .i64 x, .int .i64 y]) ∧ Only [] w w') := fun w => by rw [ex, ey]; exact side_yes c p h w
  have RSD : Hid (∀ w, Calls Try.prog 19 #[.agg c.cells.toArray, .int .i64 p] w fun e w' => e = .returned (.tuple #[.int .i64 x, .int .i64 y]) ∧ Only [] w w') := fun w => by rw [ex, ey]; exact refSideP_yes c p h w
  have RNG : Hid (∀ w, Calls Try.prog 20 #[.agg c.cells.toArray, .int .i64 p, .int .i64 b] w fun e w' => e = .returned (.tuple #[.int .i64 u, .int .i64 v, .bool z]) ∧ Only [] w w') := fun w => by rw [← et]; exact range_told c p b h w
  have RRN : Hid (∀ w, Calls Try.prog 21 #[.agg c.cells.toArray, .int .i64 p, .int .i64 b] w fun e w' => e = .returned (.tuple #[.int .i64 u, .int .i64 v, .bool z]) ∧ Only [] w w') := fun w => by rw [← et]; exact refRange_told c p b h w
  have d0 := h.fit.d0
  have d1 := h.fit.d1
  have h0 := h.fit.h0
  have h1 := h.fit.h1
  rw [← eD] at d0 d1
  rw [← eH] at h0 h1
  have hne : ¬ H = 0 := by omega
  have e0 : Hid (c.cells[0]? = some (.int .i64 V)) := by rw [eV]; exact rfl
  have e1 : Hid (c.cells[1]? = some (.int .i64 D)) := by rw [eD]; exact rfl
  have e2 : Hid (c.cells[2]? = some (.int .i64 H)) := by rw [eH]; exact rfl
  have e3 : Hid (c.cells[3]? = some (.int .i64 B)) := by rw [eB]; exact rfl
  have e4 : Hid (c.cells[4]? = some (.int .i64 F)) := by rw [eF]; exact rfl
  have e5 : Hid (c.cells[5]? = some (.int .i64 C)) := by rw [eC]; exact rfl
  have HL : Hid (c.cells.length = 6) := rfl
  have HO : Hid (c.cells.toArray.all (·.oneCell') = true) := c.cells_one
  have BU : Hid (Try.prog.built 42 [(0, .agg c.cells.toArray)] = some c.cells.toArray) := built_shp c
  obtain ⟨K, eK⟩ : ∃ K, K = c.cells := ⟨_, rfl⟩
  have EK : Hid (Value.agg K.toArray = .agg c.cells.toArray) := by rw [eK]; exact rfl
  rw [← eK] at hb0 RGD CGD OF SZ HDM SD RSD RNG RRN e0 e1 e2 e3 e4 e5 HL HO BU RSZ ⊢
  clear eK eV eD eH eB eF eC ex ey et eT h
  obtain ⟨Z, eZ⟩ : ∃ Z, Z = zeros6 := ⟨_, rfl⟩
  have ZL : Hid (Z.length = 6) := by rw [eZ]; exact rfl
  have ZI : Hid ((Try.prog.info? 42).map (·.zero) = some (some (.agg Z.toArray))) := by rw [eZ]; show _ = _; kernel_rfl
  clear eZ
  go_enter Try.func4, Try.ntmps4
  go_wp2_with (go_at_call 13; refine (AW.out _).mono ?_)
  intro e w1 hx
  first | (subst hx; intro ho1) | (obtain ⟨rfl, ho1⟩ := hx)
  have k1 := hb0.keep ho1
  have a1 : Only [] w w1 := ((Only.refl [] w).alloc _).trans ho1
  clear hb0 ho1
  go_wp2_with (first
    | (refine wpL_load rfl 39 _ rfl w.heap.size rfl _ _ _ k1 Try.underlying39 rfl cfgInfo HL.out ?_)
    | (go_at_call 14; refine (RGD.out _).mono ?_))
  intro e w2 hx
  first | (subst hx; intro ho2) | (obtain ⟨rfl, ho2⟩ := hx)
  have k2 := k1.keep ho2
  have a2 := a1.trans ho2
  have c0 := k2.cell e0.out
  have c1 := k2.cell e1.out
  have c2 := k2.cell e2.out
  have c3 := k2.cell e3.out
  have c4 := k2.cell e4.out
  have c5 := k2.cell e5.out
  clear k1 a1 ho2
  go_wp2_with (go_at_call 15; refine (OF.out _).mono ?_)
  intro e w3 hx
  first | (subst hx; intro ho3) | (obtain ⟨rfl, ho3⟩ := hx)
  clear c0 c1 c2 c3 c4 c5
  go_wp2_with (first
    | (refine wpL_alloc rfl 8 rfl _ rfl (.agg Z.toArray) Z ZI.out rfl ?_; intro w4 ho4 hs4 hb4)
    | (refine wpL_store rfl 42 _ _ rfl w3.heap.size K.toArray rfl rfl _ _ hb4 shpInfo HL.out ZL.out HO.out ?_))
  intro w5 ho5 hs5 hb5
  have a3 := a2.trans ho3
  have a5 : Only [] w w5 := (a3.trans ho4).step ho5 (fun i hi => .inr (by simp at hi; subst hi; exact a3.size))
  have k5 := ((k2.keep ho3).keep ho4).only ho5 (by have := (k2.keep ho3).lt; simp; omega)
  clear k2 a2 a3 ho3 ho4 ho5 hs4 hs5 hb4
  go_wp2_with (first
    | (refine wpL_load rfl 39 (.tmp 3) rfl w.heap.size rfl _ _ _ k5 Try.underlying39 rfl cfgInfo HL.out ?_)
    | (go_at_call 16; refine (CGD.out _).mono ?_))
  intro e w6 hx
  first | (subst hx; intro ho6) | (obtain ⟨rfl, ho6⟩ := hx)
  have k6 := k5.keep ho6
  have a6 := a5.trans ho6
  have s6 := hb5.keep ho6
  clear k5 a5 ho6 hb5
  go_wp2_with (first
    | (refine wpL_yes rfl (wpL_load rfl 39 (.tmp 69) rfl w3.heap.size rfl _ _ _ s6 Try.underlying39 rfl cfgInfo HL.out ?_))
    | (refine wpL_yes rfl (wpL_load rfl 39 (.tmp 3) rfl w.heap.size rfl _ _ _ k6 Try.underlying39 rfl cfgInfo HL.out ?_))
    | (refine wpL_yes rfl (wpL_neq_cfg rfl _ (.tmp 70) (.tmp 71) rfl c EK.out EK.out ?_))
    | (refine wpL_load rfl 39 (.tmp 3) rfl w.heap.size rfl _ _ _ k6 Try.underlying39 rfl cfgInfo HL.out ?_)
    | (refine wpL_build1 rfl 42 0 (.tmp 75) rfl (.agg K.toArray) rfl K BU.out ?_)
    | (refine wpL_alloc rfl 10 rfl _ rfl (.agg Z.toArray) Z ZI.out rfl ?_; intro w7 ho7 hs7 hb7)
    | (refine wpL_store rfl 42 _ _ rfl w6.heap.size K.toArray rfl rfl _ _ hb7 shpInfo HL.out ZL.out HO.out ?_))
  intro w8 ho8 hs8 hb8
  have a8 : Only [] w w8 := (a6.trans ho7).step ho8 (fun i hi => .inr (by simp at hi; subst hi; exact a6.size))
  have k8 := (k6.keep ho7).only ho8 (by have := k6.lt; simp; omega)
  clear k6 a6 s6 ho7 ho8 hs7 hs8 hb7
  go_wp2_with (first
    | (refine wpL_load rfl 39 (.tmp 3) rfl w.heap.size rfl _ _ _ k8 Try.underlying39 rfl cfgInfo HL.out ?_)
    | (go_at_call 17; refine (RSZ.out _).mono ?_))
  intro e w9 hx
  first | (subst hx; intro ho9) | (obtain ⟨rfl, ho9⟩ := hx)
  have k9 := k8.keep ho9
  have hb9 := hb8.keep ho9
  have a9 := a8.trans ho9
  clear k8 hb8 a8 ho9
  have c1 := k9.cell e1.out
  have c2 := k9.cell e2.out
  go_wp2_with (first
    | (refine wpL_load rfl 42 (.tmp 10) rfl w6.heap.size rfl _ _ _ hb9 Try.underlying42 rfl shpInfo HL.out ?_)
    | (go_at_call 18; refine (SD.out _).mono ?_))
  intro e w10 hx
  first | (subst hx; intro ho10) | (obtain ⟨rfl, ho10⟩ := hx)
  have k10 := k9.keep ho10
  have hb10 := hb9.keep ho10
  have a10 := a9.trans ho10
  clear k9 hb9 a9 ho10
  clear c1 c2
  go_wp2_with (first
    | (refine wpL_load rfl 39 (.tmp 3) rfl w.heap.size rfl _ _ _ k10 Try.underlying39 rfl cfgInfo HL.out ?_)
    | (go_at_call 19; refine (RSD.out _).mono ?_))
  intro e w11 hx
  first | (subst hx; intro ho11) | (obtain ⟨rfl, ho11⟩ := hx)
  have k11 := k10.keep ho11
  have hb11 := hb10.keep ho11
  have a11 := a10.trans ho11
  clear k10 hb10 a10 ho11
  go_wp2_with (first
    | (refine wpL_load rfl 42 (.tmp 10) rfl w6.heap.size rfl _ _ _ hb11 Try.underlying42 rfl shpInfo HL.out ?_)
    | (go_at_call 20; refine (RNG.out _).mono ?_))
  intro e w12 hx
  first | (subst hx; intro ho12) | (obtain ⟨rfl, ho12⟩ := hx)
  have k12 := k11.keep ho12
  have hb12 := hb11.keep ho12
  have a12 := a11.trans ho12
  clear k11 hb11 a11 ho12
  go_wp2_with (first
    | (refine wpL_load rfl 39 (.tmp 3) rfl w.heap.size rfl _ _ _ k12 Try.underlying39 rfl cfgInfo HL.out ?_)
    | (go_at_call 21; refine (RRN.out _).mono ?_))
  intro e w13 hx
  first | (subst hx; intro ho13) | (obtain ⟨rfl, ho13⟩ := hx)
  have k13 := k12.keep ho13
  have hb13 := hb12.keep ho13
  have a13 := a12.trans ho13
  clear k12 hb12 a12 ho13
  go_wp2_with (first
    | (refine wpL_load rfl 42 (.tmp 10) rfl w6.heap.size rfl _ _ _ hb13 Try.underlying42 rfl shpInfo HL.out ?_)
    | (go_at_call 22; refine (SZ.out _).mono ?_))
  intro e w14 hx
  first | (subst hx; intro ho14) | (obtain ⟨rfl, ho14⟩ := hx)
  have k14 := k13.keep ho14
  have hb14 := hb13.keep ho14
  have a14 := a13.trans ho14
  clear k13 hb13 a13 ho14
  go_wp2_with (first
    | (refine wpL_yes rfl (wpL_load rfl 42 (.tmp 10) rfl w6.heap.size rfl _ _ _ hb14 Try.underlying42 rfl shpInfo HL.out ?_))
    | (go_at_call 23; refine (HDM.out _).mono ?_))
  intro e w15 hx
  first | (subst hx; intro ho15) | (obtain ⟨rfl, ho15⟩ := hx)
  have k15 := k14.keep ho15
  have hb15 := hb14.keep ho15
  have a15 := a14.trans ho15
  clear k14 hb14 a14 ho15
  go_wp2_with fail
  go_ret
  exact ⟨rfl, a15⟩

set_option maxRecDepth 100000 in
set_option maxHeartbeats 16000000 in
theorem confExact_no (c : Cfg) (p b : Int) (h : ¬ CanBe c) (w : World) : Calls Try.prog 4 #[.agg c.cells.toArray, .int .i64 p, .int .i64 b] w fun e w' => e = .returned (.bool true) ∧ Only [] w w' := by
  have hb0 := Blk.new w c.cells 39
  have AW : Hid (∀ w, Calls Try.prog 13 #[] w fun e w' => e = .returned (.bool true) ∧ Only [] w w') := awake15_any
  have RGD : Hid (∀ w, Calls Try.prog 14 #[.agg c.cells.toArray] w fun e w' => e = .returned (.bool false) ∧ Only [] w w') := refGood_no c h
  have CGD : Hid (∀ w, Calls Try.prog 16 #[.agg c.cells.toArray] w fun e w' => e = .returned (.bool false) ∧ Only [] w w') := confGood_no c h
  obtain ⟨V, eV⟩ : ∃ V, V = c.V := ⟨_, rfl⟩
  obtain ⟨D, eD⟩ : ∃ D, D = c.D := ⟨_, rfl⟩
  obtain ⟨H, eH⟩ : ∃ H, H = c.H := ⟨_, rfl⟩
  obtain ⟨B, eB⟩ : ∃ B, B = c.B := ⟨_, rfl⟩
  obtain ⟨F, eF⟩ : ∃ F, F = c.F := ⟨_, rfl⟩
  obtain ⟨C, eC⟩ : ∃ C, C = c.C := ⟨_, rfl⟩
  have OF : Hid (∀ w, Calls Try.prog 15 #[.int .i64 V, .int .i64 D, .int .i64 H, .int .i64 B, .int .i64 F, .int .i64 C] w fun e w' => e = .returned (.tuple #[.agg zeros6.toArray, .int .i64 1]) ∧ Only [] w w') := fun w => by rw [eV, eD, eH, eB, eF, eC]; exact of_no c h w
  have SZ : Hid (∀ w, Calls Try.prog 22 #[.agg c.cells.toArray] w fun e w' => e = .returned (.int .i64 0) ∧ Only [] w w') := fun w => size_no c h w
  have HDM : Hid (∀ w, Calls Try.prog 23 #[.agg c.cells.toArray] w fun e w' => e = .returned (.int .i64 0) ∧ Only [] w w') := fun w => head_no c h w
  have SD : Hid (∀ w, Calls Try.prog 18 #[.agg c.cells.toArray, .int .i64 p] w fun e w' => e = .returned (.tuple #[.int .i64 0, .int .i64 0]) ∧ Only [] w w') := fun w => side_no c p h w
  have RSD : Hid (∀ w, Calls Try.prog 19 #[.agg c.cells.toArray, .int .i64 p] w fun e w' => e = .returned (.tuple #[.int .i64 0, .int .i64 0]) ∧ Only [] w w') := fun w => refSideP_no c p h w
  have RNG : Hid (∀ w, Calls Try.prog 20 #[.agg c.cells.toArray, .int .i64 p, .int .i64 b] w fun e w' => e = .returned (.tuple #[.int .i64 0, .int .i64 0, .bool false]) ∧ Only [] w w') := fun w => range_no c p b h w
  have RRN : Hid (∀ w, Calls Try.prog 21 #[.agg c.cells.toArray, .int .i64 p, .int .i64 b] w fun e w' => e = .returned (.tuple #[.int .i64 0, .int .i64 0, .bool false]) ∧ Only [] w w') := fun w => refRange_no c p b h w
  have e0 : Hid (c.cells[0]? = some (.int .i64 V)) := by rw [eV]; exact rfl
  have e1 : Hid (c.cells[1]? = some (.int .i64 D)) := by rw [eD]; exact rfl
  have e2 : Hid (c.cells[2]? = some (.int .i64 H)) := by rw [eH]; exact rfl
  have e3 : Hid (c.cells[3]? = some (.int .i64 B)) := by rw [eB]; exact rfl
  have e4 : Hid (c.cells[4]? = some (.int .i64 F)) := by rw [eF]; exact rfl
  have e5 : Hid (c.cells[5]? = some (.int .i64 C)) := by rw [eC]; exact rfl
  have HL : Hid (c.cells.length = 6) := rfl
  have HO : Hid (c.cells.toArray.all (·.oneCell') = true) := c.cells_one
  have BU : Hid (Try.prog.built 42 [(0, .agg c.cells.toArray)] = some c.cells.toArray) := built_shp c
  obtain ⟨K, eK⟩ : ∃ K, K = c.cells := ⟨_, rfl⟩
  have EK : Hid (Value.agg K.toArray = .agg c.cells.toArray) := by rw [eK]; exact rfl
  rw [← eK] at hb0 RGD CGD  SZ HDM SD RSD RNG RRN e0 e1 e2 e3 e4 e5 HL HO BU ⊢
  have ZO := Lib.hid zeros6_one
  have ZL : Hid (zeros6.length = 6) := rfl
  obtain ⟨Z, eZ⟩ : ∃ Z, Z = zeros6 := ⟨_, rfl⟩
  have EZ : Hid (Value.agg Z.toArray = .agg (⟨0, 0, 0, 0, 0, 0⟩ : Cfg).cells.toArray) := by rw [eZ]; exact rfl
  rw [← eZ] at ZO ZL OF
  have ZI : Hid ((Try.prog.info? 42).map (·.zero) = some (some (.agg Z.toArray))) := by rw [eZ]; show _ = _; kernel_rfl
  clear eK eV eD eH eB eF eC eZ h
  go_enter Try.func4, Try.ntmps4
  go_wp2_with (go_at_call 13; refine (AW.out _).mono ?_)
  intro e w1 hx
  first | (subst hx; intro ho1) | (obtain ⟨rfl, ho1⟩ := hx)
  have k1 := hb0.keep ho1
  have a1 : Only [] w w1 := ((Only.refl [] w).alloc _).trans ho1
  clear hb0 ho1
  go_wp2_with (first
    | (refine wpL_load rfl 39 _ rfl w.heap.size rfl _ _ _ k1 Try.underlying39 rfl cfgInfo HL.out ?_)
    | (go_at_call 14; refine (RGD.out _).mono ?_))
  intro e w2 hx
  first | (subst hx; intro ho2) | (obtain ⟨rfl, ho2⟩ := hx)
  have k2 := k1.keep ho2
  have a2 := a1.trans ho2
  have c0 := k2.cell e0.out
  have c1 := k2.cell e1.out
  have c2 := k2.cell e2.out
  have c3 := k2.cell e3.out
  have c4 := k2.cell e4.out
  have c5 := k2.cell e5.out
  clear k1 a1 ho2
  go_wp2_with (go_at_call 15; refine (OF.out _).mono ?_)
  intro e w3 hx
  first | (subst hx; intro ho3) | (obtain ⟨rfl, ho3⟩ := hx)
  clear c0 c1 c2 c3 c4 c5
  go_wp2_with (first
    | (refine wpL_alloc rfl 8 rfl _ rfl (.agg Z.toArray) Z ZI.out rfl ?_; intro w4 ho4 hs4 hb4)
    | (refine wpL_store rfl 42 _ _ rfl w3.heap.size Z.toArray rfl rfl _ _ hb4 shpInfo ZL.out ZL.out ZO.out ?_))
  intro w5 ho5 hs5 hb5
  have a3 := a2.trans ho3
  have a5 : Only [] w w5 := (a3.trans ho4).step ho5 (fun i hi => .inr (by simp at hi; subst hi; exact a3.size))
  have k5 := ((k2.keep ho3).keep ho4).only ho5 (by have := (k2.keep ho3).lt; simp; omega)
  clear k2 a2 a3 ho3 ho4 ho5 hs4 hs5 hb4
  go_wp2_with (first
    | (refine wpL_load rfl 39 (.tmp 3) rfl w.heap.size rfl _ _ _ k5 Try.underlying39 rfl cfgInfo HL.out ?_)
    | (go_at_call 16; refine (CGD.out _).mono ?_))
  intro e w6 hx
  first | (subst hx; intro ho6) | (obtain ⟨rfl, ho6⟩ := hx)
  have k6 := k5.keep ho6
  have a6 := a5.trans ho6
  have s6 := hb5.keep ho6
  clear k5 a5 ho6 hb5
  go_wp2_with (first
    | (refine wpL_yes rfl (wpL_load rfl 42 (.tmp 8) rfl w3.heap.size rfl _ _ _ s6 Try.underlying42 rfl shpInfo ZL.out ?_))
    | (refine wpL_yes rfl (wpL_build rfl 42 #[] rfl zeros6 (by kernel_rfl) ?_))
    | (refine wpL_yes rfl (wpL_neq_shp rfl _ (.tmp 60) (.tmp 61) rfl ⟨0, 0, 0, 0, 0, 0⟩ EZ.out rfl ?_))
    | (refine wpL_load rfl 39 (.tmp 3) rfl w.heap.size rfl _ _ _ k6 Try.underlying39 rfl cfgInfo HL.out ?_)
    | (refine wpL_build1 rfl 42 0 (.tmp 75) rfl (.agg K.toArray) rfl K BU.out ?_)
    | (refine wpL_alloc rfl 10 rfl _ rfl (.agg Z.toArray) Z ZI.out rfl ?_; intro w7 ho7 hs7 hb7)
    | (refine wpL_store rfl 42 _ _ rfl w6.heap.size K.toArray rfl rfl _ _ hb7 shpInfo HL.out ZL.out HO.out ?_))
  intro w8 ho8 hs8 hb8
  have a8 : Only [] w w8 := (a6.trans ho7).step ho8 (fun i hi => .inr (by simp at hi; subst hi; exact a6.size))
  have k8 := (k6.keep ho7).only ho8 (by have := k6.lt; simp; omega)
  clear k6 a6 s6 ho7 ho8 hs7 hs8 hb7
  go_wp2_with (first
    | (refine wpL_load rfl 42 (.tmp 10) rfl w6.heap.size rfl _ _ _ hb8 Try.underlying42 rfl shpInfo HL.out ?_)
    | (go_at_call 18; refine (SD.out _).mono ?_))
  intro e w9 hx
  first | (subst hx; intro ho9) | (obtain ⟨rfl, ho9⟩ := hx)
  have k9 := k8.keep ho9
  have hb9 := hb8.keep ho9
  have a9 := a8.trans ho9
  clear k8 hb8 a8 ho9
  go_wp2_with (first
    | (refine wpL_load rfl 39 (.tmp 3) rfl w.heap.size rfl _ _ _ k9 Try.underlying39 rfl cfgInfo HL.out ?_)
    | (go_at_call 19; refine (RSD.out _).mono ?_))
  intro e w10 hx
  first | (subst hx; intro ho10) | (obtain ⟨rfl, ho10⟩ := hx)
  have k10 := k9.keep ho10
  have hb10 := hb9.keep ho10
  have a10 := a9.trans ho10
  clear k9 hb9 a9 ho10
  go_wp2_with (first
    | (refine wpL_load rfl 42 (.tmp 10) rfl w6.heap.size rfl _ _ _ hb10 Try.underlying42 rfl shpInfo HL.out ?_)
    | (go_at_call 20; refine (RNG.out _).mono ?_))
  intro e w11 hx
  first | (subst hx; intro ho11) | (obtain ⟨rfl, ho11⟩ := hx)
  have k11 := k10.keep ho11
  have hb11 := hb10.keep ho11
  have a11 := a10.trans ho11
  clear k10 hb10 a10 ho11
  go_wp2_with (first
    | (refine wpL_load rfl 39 (.tmp 3) rfl w.heap.size rfl _ _ _ k11 Try.underlying39 rfl cfgInfo HL.out ?_)
    | (go_at_call 21; refine (RRN.out _).mono ?_))
  intro e w12 hx
  first | (subst hx; intro ho12) | (obtain ⟨rfl, ho12⟩ := hx)
  have k12 := k11.keep ho12
  have hb12 := hb11.keep ho12
  have a12 := a11.trans ho12
  clear k11 hb11 a11 ho12
  go_wp2_with (first
    | (refine wpL_load rfl 42 (.tmp 10) rfl w6.heap.size rfl _ _ _ hb12 Try.underlying42 rfl shpInfo HL.out ?_)
    | (go_at_call 22; refine (SZ.out _).mono ?_))
  intro e w13 hx
  first | (subst hx; intro ho13) | (obtain ⟨rfl, ho13⟩ := hx)
  have k13 := k12.keep ho13
  have hb13 := hb12.keep ho13
  have a13 := a12.trans ho13
  clear k12 hb12 a12 ho13
  go_wp2_with (first
    | (refine wpL_yes rfl (wpL_load rfl 42 (.tmp 10) rfl w6.heap.size rfl _ _ _ hb13 Try.underlying42 rfl shpInfo HL.out ?_))
    | (go_at_call 23; refine (HDM.out _).mono ?_))
  intro e w14 hx
  first | (subst hx; intro ho14) | (obtain ⟨rfl, ho14⟩ := hx)
  have k14 := k13.keep ho14
  have hb14 := hb13.keep ho14
  have a14 := a13.trans ho14
  clear k13 hb13 a13 ho14
  go_wp2_with fail
  go_ret
  exact ⟨rfl, a14⟩

theorem confExact_any (c : Cfg) (p b : Int) (w : World) : Calls Try.prog 4 #[.agg c.cells.toArray, .int .i64 p, .int .i64 b] w fun e w' => e = .returned (.bool true) ∧ Only [] w w' := by
  by_cases h : CanBe c
  · exact confExact_yes c p b h w
  · exact confExact_no c p b h w

end Go.Proofs.Ytbfjhpbppaddfaa
