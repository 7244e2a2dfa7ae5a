/- Models: made of a shape and weights. -/
import Derived.Test.YtgdifegbpbnekaaVecsB
import Derived.Test.YtgdifegbpbnekaaConfP
namespace Go.Proofs.Ytgdifegbpbnekaa
open Go.RowKit

section
variable {P : Program} {w : World} {ops : Array Oper} {rest : List Oper} {o : Oper} {a : Act} {Q : Exit → Act → World → Prop}
/-- A row made of two parts. -/
theorem wpL_build2 (hg : o.guard = none) (t : TypeId) (i j : Nat) (x y : Operand) (ho : o.op = .build t #[(i, x), (j, y)]) (u v : Value) (hx : a.eval x = u) (hy : a.eval y = v) (C : List Value)
    (hf : P.built t [(i, u), (j, v)] = some C.toArray) (h : wpList P ops Q rest (a.put o.dst (.agg C.toArray)) w) : wpList P ops Q (o :: rest) a w :=
  wpL_build hg t _ ho C (by simpa [hx, hy] using hf) h
end

theorem brnInfo : (Try.prog.info? 38).map (·.size) = some 7 := by kernel_rfl
/-- A model's cells. -/
def brnC (c : Cfg) (s : ByteArray) : List Value := c.cells ++ [.string s]
theorem built_brn (c : Cfg) (s : ByteArray) : Try.prog.built 38 [(0, .agg c.cells.toArray), (1, .string s)] = some (brnC c s).toArray := by
  obtain ⟨V, D, H, B, F, C⟩ := c
  kernel_rfl

set_option maxRecDepth 100000 in
set_option maxHeartbeats 4000000 in
theorem brainOf_bad (c : Cfg) (s : ByteArray) (h : ¬ CanBe c) (w : World) : Calls Try.prog 14 #[.agg c.cells.toArray, .string s] w fun e w' => e = .returned (.tuple #[.pointer none, .int .i64 1]) ∧ Only [] w w' := by
  have hb0 := Blk.new w c.cells 23
  have a0 : Only [] w (w.alloc (.cells c.cells.toArray 23)) := (Only.refl [] w).alloc _
  have GN : Hid (∀ w, Calls Try.prog 83 #[.agg c.cells.toArray] w fun e w' => e = .returned (.bool false) ∧ Only [] w w') := confGood_no c h
  have BU : Hid (Try.prog.built 36 [(0, .agg c.cells.toArray)] = some c.cells.toArray) := built_shp c
  have HL : Hid (c.cells.length = 6) := rfl
  have HO : Hid (c.cells.toArray.all (·.oneCell') = true) := c.cells_one
  have ZL : Hid (zeros6.length = 6) := rfl
  have ZI : Hid ((Try.prog.info? 36).map (·.zero) = some (some (.agg zeros6.toArray))) := by show _ = _; kernel_rfl
  obtain ⟨Z, eZ⟩ : ∃ Z, Z = zeros6 := ⟨_, rfl⟩
  rw [← eZ] at ZL ZI
  obtain ⟨K, eK⟩ : ∃ K, K = c.cells := ⟨_, rfl⟩
  rw [← eK] at hb0 a0 GN BU HL HO ⊢
  clear eK eZ h
  go_enter Try.func14, Try.ntmps14
  go_wp2_with (first
    | (refine wpL_load rfl 23 (.tmp 2) rfl w.heap.size rfl _ _ _ hb0 Try.underlying23 rfl cfgInfo HL.out ?_)
    | (refine wpL_build1 rfl 36 0 (.tmp 7) rfl (.agg K.toArray) rfl K BU.out ?_)
    | (refine wpL_alloc rfl 6 rfl _ rfl (.agg Z.toArray) Z ZI.out rfl ?_))
  intro w1 ho1 hs1 hb1
  have hb1' : Blk w1 (w.heap.size + 1) Z 36 := by simpa using hb1
  have k1 := hb0.keep ho1
  have hlt := hb1'.lt
  refine wpL_store rfl 36 (.tmp 6) (.tmp 8) rfl (w.heap.size + 1) K.toArray rfl rfl _ _ hb1' shpInfo HL.out ZL.out HO.out ?_
  intro w2 ho2 hs2 hb2
  have a2 : Only [] w w2 := (a0.trans ho1).step ho2 (fun i hi => .inr (by simp at hi; omega))
  have k2 := k1.only ho2 (by simp)
  clear hb0 a0 hb1 hb1' ho1 ho2 hs1 hs2 k1
  go_wp2_with (first
    | (refine wpL_load rfl 23 (.tmp 2) rfl w.heap.size rfl _ _ _ k2 Try.underlying23 rfl cfgInfo HL.out ?_)
    | (go_at_call 83; refine (GN.out _).mono ?_))
  intro e w3 hx
  first | (subst hx; intro ho3) | (obtain ⟨rfl, ho3⟩ := hx)
  go_wp2_with fail
  go_ret2
  exact ⟨rfl, a2.trans ho3⟩

set_option maxRecDepth 100000 in
set_option maxHeartbeats 4000000 in
theorem brainOf_len (c : Cfg) (s : ByteArray) (h : CanBe c) (HC : (s.size : Int) ≠ c.all) (w : World) : Calls Try.prog 14 #[.agg c.cells.toArray, .string s] w fun e w' => e = .returned (.tuple #[.pointer none, .int .i64 5]) ∧ Only [] w w' := by
  have hb0 := Blk.new w c.cells 23
  have a0 : Only [] w (w.alloc (.cells c.cells.toArray 23)) := (Only.refl [] w).alloc _
  have GN : Hid (∀ w, Calls Try.prog 83 #[.agg c.cells.toArray] w fun e w' => e = .returned (.bool true) ∧ Only [] w w') := confGood_yes c h
  have SZ : Hid (∀ w, Calls Try.prog 18 #[.agg c.cells.toArray] w fun e w' => e = .returned (.int .i64 c.all) ∧ Only [] w w') := size_yes c h
  have BB : Hid (Try.prog.built 38 [(0, .agg c.cells.toArray), (1, .string s)] = some (brnC c s).toArray) := built_brn c s
  have hle : ((s.size : Int) != c.all) = true := by rw [bne_iff_ne]; exact HC
  obtain ⟨T, eT⟩ : ∃ T, T = c.all := ⟨_, rfl⟩
  rw [← eT] at SZ hle
  have BU : Hid (Try.prog.built 36 [(0, .agg c.cells.toArray)] = some c.cells.toArray) := built_shp c
  have HL : Hid (c.cells.length = 6) := rfl
  have HO : Hid (c.cells.toArray.all (·.oneCell') = true) := c.cells_one
  have ZL : Hid (zeros6.length = 6) := rfl
  have ZI : Hid ((Try.prog.info? 36).map (·.zero) = some (some (.agg zeros6.toArray))) := by show _ = _; kernel_rfl
  obtain ⟨Z, eZ⟩ : ∃ Z, Z = zeros6 := ⟨_, rfl⟩
  rw [← eZ] at ZL ZI
  obtain ⟨K, eK⟩ : ∃ K, K = c.cells := ⟨_, rfl⟩
  rw [← eK] at hb0 a0 GN BU HL HO SZ BB ⊢
  clear eK eZ h eT HC
  go_enter Try.func14, Try.ntmps14
  go_wp2_with (first
    | (refine wpL_load rfl 23 (.tmp 2) rfl w.heap.size rfl _ _ _ hb0 Try.underlying23 rfl cfgInfo HL.out ?_)
    | (refine wpL_build1 rfl 36 0 (.tmp 7) rfl (.agg K.toArray) rfl K BU.out ?_)
    | (refine wpL_alloc rfl 6 rfl _ rfl (.agg Z.toArray) Z ZI.out rfl ?_))
  intro w1 ho1 hs1 hb1
  have hb1' : Blk w1 (w.heap.size + 1) Z 36 := by simpa using hb1
  have k1 := hb0.keep ho1
  have hlt := hb1'.lt
  refine wpL_store rfl 36 (.tmp 6) (.tmp 8) rfl (w.heap.size + 1) K.toArray rfl rfl _ _ hb1' shpInfo HL.out ZL.out HO.out ?_
  intro w2 ho2 hs2 hb2
  have a2 : Only [] w w2 := (a0.trans ho1).step ho2 (fun i hi => .inr (by simp at hi; omega))
  have k2 := k1.only ho2 (by simp)
  clear hb0 a0 hb1 hb1' ho1 ho2 hs1 hs2 k1
  go_wp2_with (first
    | (refine wpL_load rfl 23 (.tmp 2) rfl w.heap.size rfl _ _ _ k2 Try.underlying23 rfl cfgInfo HL.out ?_)
    | (go_at_call 83; refine (GN.out _).mono ?_))
  intro e w3 hx
  first | (subst hx; intro ho3) | (obtain ⟨rfl, ho3⟩ := hx)
  have hb3 := hb2.keep ho3
  have a3 := a2.trans ho3
  go_wp2_with (first
    | (refine wpL_load rfl 36 (.tmp 6) rfl (w.heap.size + 1) rfl _ _ _ hb3 Try.underlying36 rfl shpInfo HL.out ?_)
    | (go_at_call 18; refine (SZ.out _).mono ?_))
  intro e w4 hx
  first | (subst hx; intro ho4) | (obtain ⟨rfl, ho4⟩ := hx)
  have hb4 := hb3.keep ho4
  have a4 := a3.trans ho4
  go_wp2_with fail
  go_ret2
  exact ⟨rfl, a4⟩

set_option maxRecDepth 100000 in
set_option maxHeartbeats 4000000 in
theorem brainOf_yes (c : Cfg) (s : ByteArray) (h : CanBe c) (HC : (s.size : Int) = c.all) (w : World) : Calls Try.prog 14 #[.agg c.cells.toArray, .string s] w fun e w' => ∃ b, e = .returned (.tuple #[.pointer (some ⟨b, 0, none⟩), .int .i64 0]) ∧ w.heap.size ≤ b ∧ Blk w' b (brnC c s) 38 ∧ Only [] w w' := by
  have hb0 := Blk.new w c.cells 23
  have a0 : Only [] w (w.alloc (.cells c.cells.toArray 23)) := (Only.refl [] w).alloc _
  have GN : Hid (∀ w, Calls Try.prog 83 #[.agg c.cells.toArray] w fun e w' => e = .returned (.bool true) ∧ Only [] w w') := confGood_yes c h
  have SZ : Hid (∀ w, Calls Try.prog 18 #[.agg c.cells.toArray] w fun e w' => e = .returned (.int .i64 c.all) ∧ Only [] w w') := size_yes c h
  have BB : Hid (Try.prog.built 38 [(0, .agg c.cells.toArray), (1, .string s)] = some (brnC c s).toArray) := built_brn c s
  have hle : ((s.size : Int) != c.all) = false := by rw [HC]; simp
  obtain ⟨T, eT⟩ : ∃ T, T = c.all := ⟨_, rfl⟩
  rw [← eT] at SZ hle
  have BU : Hid (Try.prog.built 36 [(0, .agg c.cells.toArray)] = some c.cells.toArray) := built_shp c
  have HL : Hid (c.cells.length = 6) := rfl
  have HO : Hid (c.cells.toArray.all (·.oneCell') = true) := c.cells_one
  have ZL : Hid (zeros6.length = 6) := rfl
  have ZI : Hid ((Try.prog.info? 36).map (·.zero) = some (some (.agg zeros6.toArray))) := by show _ = _; kernel_rfl
  obtain ⟨Z, eZ⟩ : ∃ Z, Z = zeros6 := ⟨_, rfl⟩
  rw [← eZ] at ZL ZI
  obtain ⟨K, eK⟩ : ∃ K, K = c.cells := ⟨_, rfl⟩
  rw [← eK] at hb0 a0 GN BU HL HO SZ BB ⊢
  clear eK eZ h eT HC
  go_enter Try.func14, Try.ntmps14
  go_wp2_with (first
    | (refine wpL_load rfl 23 (.tmp 2) rfl w.heap.size rfl _ _ _ hb0 Try.underlying23 rfl cfgInfo HL.out ?_)
    | (refine wpL_build1 rfl 36 0 (.tmp 7) rfl (.agg K.toArray) rfl K BU.out ?_)
    | (refine wpL_alloc rfl 6 rfl _ rfl (.agg Z.toArray) Z ZI.out rfl ?_))
  intro w1 ho1 hs1 hb1
  have hb1' : Blk w1 (w.heap.size + 1) Z 36 := by simpa using hb1
  have k1 := hb0.keep ho1
  have hlt := hb1'.lt
  refine wpL_store rfl 36 (.tmp 6) (.tmp 8) rfl (w.heap.size + 1) K.toArray rfl rfl _ _ hb1' shpInfo HL.out ZL.out HO.out ?_
  intro w2 ho2 hs2 hb2
  have a2 : Only [] w w2 := (a0.trans ho1).step ho2 (fun i hi => .inr (by simp at hi; omega))
  have k2 := k1.only ho2 (by simp)
  clear hb0 a0 hb1 hb1' ho1 ho2 hs1 hs2 k1
  go_wp2_with (first
    | (refine wpL_load rfl 23 (.tmp 2) rfl w.heap.size rfl _ _ _ k2 Try.underlying23 rfl cfgInfo HL.out ?_)
    | (go_at_call 83; refine (GN.out _).mono ?_))
  intro e w3 hx
  first | (subst hx; intro ho3) | (obtain ⟨rfl, ho3⟩ := hx)
  have hb3 := hb2.keep ho3
  have a3 := a2.trans ho3
  go_wp2_with (first
    | (refine wpL_load rfl 36 (.tmp 6) rfl (w.heap.size + 1) rfl _ _ _ hb3 Try.underlying36 rfl shpInfo HL.out ?_)
    | (go_at_call 18; refine (SZ.out _).mono ?_))
  intro e w4 hx
  first | (subst hx; intro ho4) | (obtain ⟨rfl, ho4⟩ := hx)
  have hb4 := hb3.keep ho4
  have a4 := a3.trans ho4
  obtain ⟨BC, eBC⟩ : ∃ BC, BC = brnC c s := ⟨_, rfl⟩
  have EBC := Lib.hid eBC
  rw [← eBC] at BB
  clear eBC
  go_wp2_with (first
    | (refine wpL_load rfl 36 (.tmp 6) rfl (w.heap.size + 1) rfl _ _ _ hb4 Try.underlying36 rfl shpInfo HL.out ?_)
    | (refine wpL_build2 rfl 38 0 1 (.tmp 19) (.tmp 20) rfl (.agg K.toArray) (.string s) rfl rfl BC BB.out ?_))
  go_ret2
  exact ⟨_, rfl, a4.size, by rw [← EBC.out]; exact Blk.new w4 BC 38, a4.alloc _⟩

end Go.Proofs.Ytgdifegbpbnekaa
