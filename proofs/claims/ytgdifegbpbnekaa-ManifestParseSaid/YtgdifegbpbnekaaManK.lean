/- Manifests: compared whole. -/
import Derived.Test.YtgdifegbpbnekaaManJ
namespace Go.Proofs.Ytgdifegbpbnekaa
open Go.RowKit

set_option maxRecDepth 100000 in
set_option maxHeartbeats 8000000 in
theorem manSame_yes (b v z k : Int) (a1 a2 : Option Addr) (n c1 c2 : Nat) (r : List UInt8) (ds : List (List UInt8)) (w : World) (hr : r.length = 32) (h1 : Digs w (.slice a1 n c1) ds) (h2 : Digs w (.slice a2 n c2) ds) (hw : Wide ds) (hn : ds.length ≤ 1000) :
    Calls Try.prog 33 #[.agg (Value.int .i64 b :: .int .i64 v :: .int .i64 z :: .int .i64 k :: .slice a1 n c1 :: Lib.byteCells r).toArray, .agg (Value.int .i64 b :: .int .i64 v :: .int .i64 z :: .int .i64 k :: .slice a2 n c2 :: Lib.byteCells r).toArray] w fun e w' => e = .returned (.bool true) ∧ Only [] w w' := by
  have hsz : ∀ o, (w.alloc o).heap.size = w.heap.size + 1 := fun o => by simp
  have hst := ((St.start w []).box (.int .i64 b :: .int .i64 v :: .int .i64 z :: .int .i64 k :: .slice a1 n c1 :: Lib.byteCells r) 50).box (.int .i64 b :: .int .i64 v :: .int .i64 z :: .int .i64 k :: .slice a2 n c2 :: Lib.byteCells r) 50
  rw [hsz] at hst
  have EQ : Hid (∀ w', Only [] w w' → Calls Try.prog 94 #[.slice a1 n c1, .slice a2 n c2] w' fun e w'' => e = .returned (.bool true) ∧ Only [] w' w'') := fun w' ho => digsEqual_same _ _ ds w' (h1.keep ho) (h2.keep ho) hw hn
  have HR := Lib.hid hr
  have HRL := Lib.hid (digLen r hr)
  have HD5 : Hid (∀ V, ((Value.int .i64 b :: .int .i64 v :: .int .i64 z :: .int .i64 k :: V :: Lib.byteCells r).drop 5).take 32 = Lib.byteCells r) := fun V => List.take_of_length_le (by simp [digLen r hr])
  clear hsz h1 h2 hw hn hr
  go_enter Try.func33, Try.ntmps33
  go_wp2_with (first
    | ((with_reducible refine wpL_peel rfl ?_ ?_); focus (go_simp; done))
    | ((with_reducible refine wpL_isLoad rfl ?_); first | (refine wpL_loadAtS hst rfl (ty := 48) rfl 0 rfl rfl (by kernel_rfl) 32 (by kernel_rfl) _ (HD5.out _) HRL.out ?_) | (refine wpL_loadAtS hst rfl (ty := 48) rfl 1 rfl rfl (by kernel_rfl) 32 (by kernel_rfl) _ (HD5.out _) HRL.out ?_))
    | ((with_reducible refine wpL_peel rfl ?_ ?_); focus (go_simp; done)) | ((with_reducible refine wpL_isLoad rfl ?_); first | (refine wpL_load1S hst rfl rfl 0 rfl rfl rfl (by kernel_rfl) ?_) | (refine wpL_load1S hst rfl rfl 1 rfl rfl rfl (by kernel_rfl) ?_) | (refine wpL_load1S hst rfl rfl 2 rfl rfl rfl (by kernel_rfl) ?_) | (refine wpL_load1S hst rfl rfl 3 rfl rfl rfl (by kernel_rfl) ?_))
    | ((with_reducible refine wpL_isBin rfl ?_); refine wpL_neqB rfl 48 _ _ _ rfl 5 32 Try.underlying48 Try.underlying5 (by kernel_rfl) (by kernel_rfl) r r rfl rfl HR.out HR.out true (by simp) ?_)
    | (go_at_call 94; (with_reducible refine (EQ.out _ hst.only).mono ?_); rintro e1 w1 ⟨rfl, ho1⟩; replace hst := hst.keep ho1; clear ho1))
  go_ret
  exact ⟨rfl, hst.only⟩

set_option maxRecDepth 100000 in
set_option maxHeartbeats 4000000 in
theorem manSame_ver (b v u z k z' k' : Int) (V1 V2 : Value) (R1 R2 : List Value) (w : World) (hv : v ≠ u) :
    Calls Try.prog 33 #[.agg (Value.int .i64 b :: .int .i64 v :: .int .i64 z :: .int .i64 k :: V1 :: R1).toArray, .agg (Value.int .i64 b :: .int .i64 u :: .int .i64 z' :: .int .i64 k' :: V2 :: R2).toArray] w fun e w' => e = .returned (.bool false) ∧ Only [] w w' := by
  have hsz : ∀ o, (w.alloc o).heap.size = w.heap.size + 1 := fun o => by simp
  have hst := ((St.start w []).box (.int .i64 b :: .int .i64 v :: .int .i64 z :: .int .i64 k :: V1 :: R1) 50).box (.int .i64 b :: .int .i64 u :: .int .i64 z' :: .int .i64 k' :: V2 :: R2) 50
  rw [hsz] at hst
  have e1 : (v != u) = true := by rw [bne_iff_ne]; exact hv
  clear hsz hv
  go_enter Try.func33, Try.ntmps33
  go_wp2_with (first | ((with_reducible refine wpL_peel rfl ?_ ?_); focus (go_simp; done)) | ((with_reducible refine wpL_isLoad rfl ?_); first | (refine wpL_load1S hst rfl rfl 0 rfl rfl rfl (by kernel_rfl) ?_) | (refine wpL_load1S hst rfl rfl 1 rfl rfl rfl (by kernel_rfl) ?_) | (refine wpL_load1S hst rfl rfl 2 rfl rfl rfl (by kernel_rfl) ?_) | (refine wpL_load1S hst rfl rfl 3 rfl rfl rfl (by kernel_rfl) ?_)))
  go_ret
  exact ⟨rfl, hst.only⟩

end Go.Proofs.Ytgdifegbpbnekaa
