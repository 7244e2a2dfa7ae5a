/- Shapes: the numbers that the laws of shapes hold fast. -/
import Derived.Test.YtbfjhpbppaddfaaConfJ
namespace Go.Proofs.Ytbfjhpbppaddfaa
open Go.RowKit

section
variable {P : Program} {w : World} {ops : Array Oper} {rest : List Oper} {o : Oper} {a : Act} {Q : Exit → Act → World → Prop}
/-- A guarded operation whose guard is met. -/
theorem wpL_yes (hg : Region.wanted o (yielded ops a.tmps) = true) (h : wpList P ops Q ({ o with guard := none } :: rest) a w) : wpList P ops Q (o :: rest) a w := by
  rw [wpList, if_pos hg]
  exact (if_pos (show Region.wanted { o with guard := none } (yielded ops a.tmps) = true from rfl)).mp h
end

def cfgA : Cfg := ⟨4, 2, 1, 1, 2, 3⟩
def cfgB : Cfg := ⟨4, 3, 2, 1, 2, 3⟩
theorem canA : CanBe cfgA := ⟨⟨by decide, by decide, by decide, by decide, by decide, by decide, by decide, by decide, by decide, by decide, by decide, by decide⟩, by decide, by decide⟩
theorem canB : ¬ CanBe cfgB := fun h => absurd h.div (by decide)

set_option maxRecDepth 100000 in
set_option maxHeartbeats 8000000 in
theorem awake15_any (w : World) : Calls Try.prog 13 #[] w fun e w' => e = .returned (.bool true) ∧ Only [] w w' := by
  have OA : Hid (∀ w, Calls Try.prog 15 #[.int .i64 4, .int .i64 2, .int .i64 1, .int .i64 1, .int .i64 2, .int .i64 3] w fun e w' => e = .returned (.tuple #[.agg cfgA.cells.toArray, .int .i64 0]) ∧ Only [] w w') := fun w => of_yes cfgA canA w
  have OB : Hid (∀ w, Calls Try.prog 15 #[.int .i64 4, .int .i64 3, .int .i64 2, .int .i64 1, .int .i64 2, .int .i64 3] w fun e w' => e = .returned (.tuple #[.agg zeros6.toArray, .int .i64 1]) ∧ Only [] w w') := fun w => of_no cfgB canB w
  have RG : Hid (∀ w, Calls Try.prog 20 #[.agg cfgA.cells.toArray, .int .i64 10, .int .i64 0] w fun e w' => e = .returned (.tuple #[.int .i64 42, .int .i64 4, .bool true]) ∧ Only [] w w') := fun w => range_mid cfgA canA 8 0 (by decide) (by decide) (by decide) w
  have SZ : Hid (∀ w, Calls Try.prog 22 #[.agg cfgA.cells.toArray] w fun e w' => e = .returned (.int .i64 48) ∧ Only [] w w') := fun w => size_yes cfgA canA w
  have HD : Hid (∀ w, Calls Try.prog 23 #[.agg cfgA.cells.toArray] w fun e w' => e = .returned (.int .i64 2) ∧ Only [] w w') := fun w => head_yes cfgA canA w
  have BY : Hid (∀ w, Calls Try.prog 25 #[.agg cfgA.cells.toArray] w fun e w' => e = .returned (.string ⟨((cfgA.nums).map num4).flatten.toArray⟩) ∧ Only [] w w') := fun w => confBytes_any cfgA w
  obtain ⟨T, eT⟩ : ∃ T : ByteArray, T = ⟨((cfgA.nums).map num4).flatten.toArray⟩ := ⟨_, rfl⟩
  have hTs : T.size = 24 := by rw [eT]; rfl
  rw [← eT] at BY
  have HL : Hid (cfgA.cells.length = 6) := rfl
  have HO : Hid (cfgA.cells.toArray.all (·.oneCell') = true) := cfgA.cells_one
  have HV : Hid (cfgA.cells[0]? = some (.int .i64 4)) := rfl
  obtain ⟨K, eK⟩ : ∃ K, K = cfgA.cells := ⟨_, rfl⟩
  rw [← eK] at OA RG SZ HD BY HL HO HV
  have HZ := Lib.hid zeros6_one
  have HZL : Hid (zeros6.length = 6) := rfl
  obtain ⟨Z, eZ⟩ : ∃ Z, Z = zeros6 := ⟨_, rfl⟩
  rw [← eZ] at OB HZ HZL
  have ZI : Hid ((Try.prog.info? 42).map (·.zero) = some (some (.agg Z.toArray))) := by rw [eZ]; show _ = _; kernel_rfl
  clear eK eT eZ
  go_enter Try.func13, Try.ntmps13
  go_wp2_with (first
    | (go_at_call 15; refine (OA.out _).mono ?_))
  intro e w1 hx
  first | (subst hx; intro ho1) | (obtain ⟨rfl, ho1⟩ := hx)
  go_wp2_with (first
    | (refine wpL_alloc rfl 1 rfl _ rfl (.agg Z.toArray) Z ZI.out rfl ?_; intro w2 ho2 hs2 hb2)
    | (refine wpL_store rfl 42 _ _ rfl w1.heap.size K.toArray rfl rfl _ _ hb2 shpInfo HL.out HZL.out HO.out ?_))
  intro w3 ho3 hs3 hb3
  go_wp2_with (first
    | (go_at_call 15; refine (OB.out _).mono ?_))
  intro e w4 hx
  first | (subst hx; intro ho4) | (obtain ⟨rfl, ho4⟩ := hx)
  go_wp2_with (first
    | (refine wpL_alloc rfl 3 rfl _ rfl (.agg Z.toArray) Z ZI.out rfl ?_; intro w5 ho5 hs5 hb5)
    | (refine wpL_store rfl 42 _ _ rfl w4.heap.size Z.toArray rfl rfl _ _ hb5 shpInfo HZL.out HZL.out HZ.out ?_))
  intro w6 ho6 hs6 hb6
  have hall1 : Only [] w w4 := ((ho1.trans ho2).step ho3 (fun i hi => .inr (by simp at hi; subst hi; exact ho1.size))).trans ho4
  have hall : Only [] w w6 := (hall1.trans ho5).step ho6 (fun i hi => .inr (by simp at hi; subst hi; exact hall1.size))
  have hb3' := ((hb3.keep ho4).keep ho5).only ho6 (by have := (hb3.keep ho4).lt; simp; omega)
  clear ho1 ho2 ho3 ho4 ho5 ho6 hs2 hs3 hs5 hs6 hb2 hb3 hb5 hb6 OA OB HZ HZL hall1
  go_wp2_with (first
    | (refine wpL_load rfl 42 _ rfl w1.heap.size rfl _ _ _ hb3' Try.underlying42 rfl shpInfo HL.out ?_)
    | (go_at_call 20; refine (RG.out _).mono ?_))
  intro e w7 hx
  first | (subst hx; intro ho7) | (obtain ⟨rfl, ho7⟩ := hx)
  have k7 := hb3'.keep ho7
  go_wp2_with (first
    | (refine wpL_yes rfl (wpL_load rfl 42 (.tmp 1) rfl w1.heap.size rfl _ _ _ k7 Try.underlying42 rfl shpInfo HL.out ?_))
    | (go_at_call 22; refine (SZ.out _).mono ?_))
  intro e w8 hx
  first | (subst hx; intro ho8) | (obtain ⟨rfl, ho8⟩ := hx)
  have k8 := k7.keep ho8
  have c8 := k8.cell (i := 0) HV.out
  go_wp2_with (first
    | (refine wpL_yes rfl (wpL_load rfl 42 (.tmp 1) rfl w1.heap.size rfl _ _ _ k8 Try.underlying42 rfl shpInfo HL.out ?_))
    | (go_at_call 23; refine (HD.out _).mono ?_))
  intro e w9 hx
  first | (subst hx; intro ho9) | (obtain ⟨rfl, ho9⟩ := hx)
  have k9 := k8.keep ho9
  go_wp2_with (first
    | (refine wpL_yes rfl (wpL_load rfl 42 (.tmp 1) rfl w1.heap.size rfl _ _ _ k9 Try.underlying42 rfl shpInfo HL.out ?_))
    | (go_at_call 25; refine (BY.out _).mono ?_))
  intro e w10 hx
  first | (subst hx; intro ho10) | (obtain ⟨rfl, ho10⟩ := hx)
  go_wp2_with fail
  go_ret
  exact ⟨rfl, (((hall.trans ho7).trans ho8).trans ho9).trans ho10⟩

end Go.Proofs.Ytbfjhpbppaddfaa
