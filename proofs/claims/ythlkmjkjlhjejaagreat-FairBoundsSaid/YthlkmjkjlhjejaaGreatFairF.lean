/- How many picks a request takes; no server is drained. -/
import Derived.Test.YthlkmjkjlhjejaaGreatFairE
namespace Go.Proofs.YthlkmjkjlhjejaaGreat
open Go.RowKit

theorem cmdInfo : (Tryz.prog.info? 24).map (·.size) = some 7 := by kernel_rfl
/-- The length of a prompt and a number, less one. -/
def lessOne (n1 : Nat) (n : Int) : Int := wrap64 (wrap64 ((n1 : Int) + n) - 1)

set_option maxRecDepth 100000 in
set_option maxHeartbeats 4000000 in
theorem places_any (k i n : Int) (g : Bool) (a1 : Option Addr) (n1 c1 : Nat) (d : Value) (s : ByteArray) (w : World) :
    Calls Tryz.prog 6 #[.agg (cmdC k i n g (.slice a1 n1 c1) d s).toArray] w fun e w' => e = .returned (.int .i64 (if k = 1 then (if lessOne n1 n < 0 then 0 else lessOne n1 n) else 0)) ∧ Only [] w w' := by
  have hb0 := Blk.new w (cmdC k i n g (.slice a1 n1 c1) d s) 24
  have c0 := hb0.cell (i := 0) rfl
  have c2 := hb0.cell (i := 2) rfl
  have c4 := hb0.cell (i := 4) rfl
  obtain ⟨K, eK⟩ : ∃ K, K = cmdC k i n g (.slice a1 n1 c1) d s := ⟨_, rfl⟩
  rw [← eK] at c0 c2 c4 ⊢
  have ho : Only [] w (w.alloc (.cells K.toArray 24)) := (Only.refl [] w).alloc _
  clear eK hb0
  by_cases hk : k = 1
  · have e1 : (k != 1) = false := by rw [bne_eq_false_iff_eq]; exact hk
    rw [if_pos hk]
    clear hk
    by_cases hz : wrap64 (wrap64 ((n1 : Int) + n) - 1) < 0
    · have E : Hid ((if lessOne n1 n < 0 then 0 else lessOne n1 n) = 0) := by show _ = _; unfold lessOne; rw [if_pos hz]
      rw [E.out]
      go_enter Tryz.func6, Tryz.ntmps6
      go_wp2
      go_ret
      exact ⟨rfl, ho⟩
    · have E : Hid ((if lessOne n1 n < 0 then 0 else lessOne n1 n) = wrap64 (wrap64 ((n1 : Int) + n) - 1)) := by show _ = _; unfold lessOne; rw [if_neg hz]
      rw [E.out]
      go_enter Tryz.func6, Tryz.ntmps6
      go_wp2
      go_ret
      exact ⟨rfl, ho⟩
  · have e1 : (k != 1) = true := by rw [bne_iff_ne]; exact hk
    rw [if_neg hk]
    clear hk
    go_enter Tryz.func6, Tryz.ntmps6
    go_wp2
    go_ret
    exact ⟨rfl, ho⟩

end Go.Proofs.YthlkmjkjlhjejaaGreat
