/- Shapes: their bytes; the numbers that awake asks for. -/
import Derived.Test.YtgdifegbpbnekaaConfH
import Derived.Test.YtgdifegbpbnekaaPen
namespace Go.Proofs.Ytgdifegbpbnekaa
open Go.RowKit

theorem penInfo2 : (Try.prog.info? 157).map (·.zero) = some (some (.agg #[.pointer none, .slice none 0 0, .bool false])) := by kernel_rfl

set_option maxRecDepth 100000 in
set_option maxHeartbeats 1000000 in
theorem penBytes2_any (b : Nat) (x : Value) (v : Value) (l : List UInt8) (w : World) (h : BldF w b [x] 157 v l) :
    Calls Try.prog 97 #[.pointer (some ⟨b, 0, none⟩)] w fun e w' => e = .returned (.string ⟨l.toArray⟩) ∧ BldF w' b [x] 157 v l ∧ Only v.ownBlock.toList w w' := by
  go_enter Try.func97, Try.ntmps97
  go_wp2_with (go_at_call 145; refine (string_any _ _ _ _ _ _ h).mono ?_; rintro e w' ⟨rfl, hb, ho⟩)
  go_ret
  exact ⟨rfl, hb, ho⟩

/-- A shape's six numbers. -/
def Cfg.nums (c : Cfg) : List Int := [c.V, c.D, c.H, c.B, c.F, c.C]

set_option maxRecDepth 100000 in
set_option maxHeartbeats 4000000 in
theorem confBytes_any (c : Cfg) (w : World) : Calls Try.prog 107 #[.agg c.cells.toArray] w fun e w' => e = .returned (.string ⟨((c.nums).map num4).flatten.toArray⟩) ∧ Only [] w w' := by
  obtain ⟨V, D, H, B, F, C⟩ := c
  show Calls Try.prog 107 #[.agg #[.int .i64 V, .int .i64 D, .int .i64 H, .int .i64 B, .int .i64 F, .int .i64 C]] w fun e w' => e = .returned (.string ⟨([V, D, H, B, F, C].map num4).flatten.toArray⟩) ∧ Only [] w w'
  have hb0 := Blk.new w [.int .i64 V, .int .i64 D, .int .i64 H, .int .i64 B, .int .i64 F, .int .i64 C] 36
  have hw0 : Only [] w (w.alloc (.cells #[.int .i64 V, .int .i64 D, .int .i64 H, .int .i64 B, .int .i64 F, .int .i64 C] 36)) := (Only.refl [] w).alloc _
  have hsz : (w.alloc (.cells #[.int .i64 V, .int .i64 D, .int .i64 H, .int .i64 B, .int .i64 F, .int .i64 C] 36)).heap.size = w.heap.size + 1 := by simp
  go_enter Try.func107, Try.ntmps107
  go_wp2_with (refine wpL_alloc rfl 3 rfl _ rfl (.agg #[.pointer none, .slice none 0 0, .bool false]) [.pointer none, .slice none 0 0, .bool false] penInfo2 rfl ?_)
  intro w1 ho1 hs1 hb1
  have hb01 := hb0.keep ho1
  have c0 := hb01.cell (i := 0) rfl
  have c1 := hb01.cell (i := 1) rfl
  have c2 := hb01.cell (i := 2) rfl
  have c3 := hb01.cell (i := 3) rfl
  have c4 := hb01.cell (i := 4) rfl
  have c5 := hb01.cell (i := 5) rfl
  have hs1' := hs1.out
  have NN : Hid (Calls Try.prog 95 #[.pointer (some ⟨w.heap.size + 1, 0, none⟩), .slice (some ⟨w1.heap.size, 0, none⟩) 6 6] (w1.alloc (.cells #[.int .i64 V, .int .i64 D, .int .i64 H, .int .i64 B, .int .i64 F, .int .i64 C] 3)) fun e w' => e = .returned (.tuple #[]) ∧ ∃ v', Bld w' (w.heap.size + 1) [.bool (false || [V, D, H, B, F, C].any (fun n => !told n))] 157 v' ([] ++ ([V, D, H, B, F, C].map num4).flatten) ∧ Wrote (w1.alloc (.cells #[.int .i64 V, .int .i64 D, .int .i64 H, .int .i64 B, .int .i64 F, .int .i64 C] 3)) w' (w.heap.size + 1) (.slice none 0 0) v') := by
    have hbl : Bld (w1.alloc (.cells #[.int .i64 V, .int .i64 D, .int .i64 H, .int .i64 B, .int .i64 F, .int .i64 C] 3)) (w.heap.size + 1) [.bool false] 157 (.slice none 0 0) [] := (Bld.new hb1).keep ((Only.refl [] _).alloc _)
    exact penNum_any (w.heap.size + 1) false (.slice none 0 0) [] _ [V, D, H, B, F, C] _ hbl (Ints.made w1 [V, D, H, B, F, C] 3) (by
      intro a n' c hh
      injection hh with e1
      injection e1 with e1
      subst e1
      simp [Value.ownBlock]
      omega) (by simp) (by simp)
  have hall1 : Only [] w w1 := hw0.trans ho1
  clear hb0 hb01 hsz hs1 hs1' hb1 hw0 ho1
  go_wp2_with (go_at_call 95; refine NN.out.mono ?_)
  rintro e w2 ⟨rfl, v2, hb2, hw2⟩
  have hm2 := (Made.start (b := w.heap.size + 1) (hall1.alloc (.cells #[.int .i64 V, .int .i64 D, .int .i64 H, .int .i64 B, .int .i64 F, .int .i64 C] 3)) (Nat.le_succ _)).wrote hw2
  have hb2' := hb2.F
  rw [List.nil_append] at hb2'
  obtain ⟨R, eR⟩ : ∃ R, R = ([V, D, H, B, F, C].map num4).flatten := ⟨_, rfl⟩
  rw [← eR] at hb2'
  have ER := Lib.hid eR
  clear eR hb2 NN c0 c1 c2 c3 c4 c5
  go_wp2_with (go_at_call 97; refine (penBytes2_any _ _ _ _ _ hb2').mono ?_)
  rintro e w3 ⟨rfl, _, ho3⟩
  go_wp2_with fail
  go_ret
  refine ⟨?_, (hm2.told ho3).1⟩
  rw [← ER.out]
  rfl

end Go.Proofs.Ytgdifegbpbnekaa
