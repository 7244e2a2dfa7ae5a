/- Manifests: compared whole. -/
import Derived.Test.YtmogkiacakkmbaaManI
namespace Go.Proofs.Ytmogkiacakkmbaa
open Go.RowKit

theorem Digs.form {w : World} {v : Value} {ds : List (List UInt8)} (h : Digs w v ds) : ∃ bk o c, v = .slice (some ⟨bk, o, none⟩) ds.length c ∧ bk < w.heap.size ∧ ∀ j u, (digCells ds)[j]? = some u → w.cell? ⟨bk, o + j, none⟩ = some u := by
  obtain ⟨bk, o, c, e, _, h2, h3⟩ := h
  exact ⟨bk, o, c, e, h2, h3⟩

set_option maxRecDepth 100000 in
set_option maxHeartbeats 8000000 in
theorem digsEqual_same (v1 v2 : Value) (ds : List (List UInt8)) (w : World) (h1 : Digs w v1 ds) (h2 : Digs w v2 ds) (hw : Wide ds) (hn : ds.length ≤ 1000) :
    Calls Try.prog 127 #[v1, v2] w fun e w' => e = .returned (.bool true) ∧ Only [] w w' := by
  obtain ⟨b1, o1, c1, rfl, l1, x1⟩ := h1.form
  obtain ⟨b2, o2, c2, rfl, l2, x2⟩ := h2.form
  obtain ⟨n, en⟩ : ∃ n, n = ds.length := ⟨_, rfl⟩
  have EN := Lib.hid en
  have HW := Lib.hid hw
  have X1 := Lib.hid x1
  have X2 := Lib.hid x2
  rw [← en] at hn ⊢
  have hnI : (n : Int) ≤ 1000 := by omega
  clear h1 h2 hw x1 x2 en
  go_enter Try.func127, Try.ntmps127
  go_wp2_with fail
  go_loopw [13] (fun i wr => ∃ (j : Nat), j ≤ n ∧ i = .int .i64 (j : Int) ∧ Only [] w wr) (fun i _ => n - (intOf i).toNat)
  case atStart => exact ⟨0, by omega, rfl, Only.refl _ _⟩
  case round =>
    obtain ⟨j, hj, rfl, hor⟩ := hrel
    by_cases hlt : j < n
    · have j64 : (j : Int) < n := by omega
      have j0 : (0 : Int) ≤ j := by omega
      have hjd : j < ds.length := by rw [← EN.out]; exact hlt
      obtain ⟨d, ed⟩ : ∃ d, d = ds.getD j [] := ⟨_, rfl⟩
      have hd32 : d.length = 32 := by rw [ed, List.getD_eq_getElem?_getD, List.getElem?_eq_getElem hjd]; exact HW.out _ (List.getElem_mem hjd)
      have HD := Lib.hid hd32
      have HD32 := Lib.hid (digLen d hd32)
      have C1 : Hid (∀ w', Only [] w w' → ∀ k u, (Lib.byteCells d)[k]? = some u → w'.cell? ⟨b1, o1 + j * 32 + k, none⟩ = some u) := fun w' ho k u hu => by
        rw [ho.cellAt _ _ l1 (by simp)]
        rw [ed] at hu
        exact digCells_atM HW.out hjd X1.out k u hu
      have C2 : Hid (∀ w', Only [] w w' → ∀ k u, (Lib.byteCells d)[k]? = some u → w'.cell? ⟨b2, o2 + j * 32 + k, none⟩ = some u) := fun w' ho k u hu => by
        rw [ho.cellAt _ _ l2 (by simp)]
        rw [ed] at hu
        exact digCells_atM HW.out hjd X2.out k u hu
      have hor2 := hor.drew
      clear ed hd32 hjd
      go_wp2_with fail
      refine wp_region_ord [] [0, 1, 2, 3, 4, 5, 6, 7, 8] (by kernel_rfl) (by kernel_rfl) ?_
      generalize World.drew _ = W at *
      refine Ord.cut 3 2 rfl rfl rfl rfl (by kernel_rfl) (by kernel_rfl) ?_; simp only [List.take_succ_cons, List.take_zero, List.drop_succ_cons, List.drop_zero, List.filterMap_cons, List.filterMap_nil, List.getElem?_cons_succ, List.getElem?_cons_zero]; go_wp2_with fail; refine TextQ.mk ⟨fun h => by simp at h, ?_⟩ rfl
      refine Ord.cut 1 3 rfl rfl rfl rfl (by kernel_rfl) (by kernel_rfl) ?_; simp only [List.take_succ_cons, List.take_zero, List.drop_succ_cons, List.drop_zero, List.filterMap_cons, List.filterMap_nil, List.getElem?_cons_succ, List.getElem?_cons_zero]
      refine wpL_load_at rfl 102 _ rfl b1 (o1 + j * 32) rfl (Lib.byteCells d) _ (C1.out _ hor2) Try.underlying102 rfl digInfo HD32.out ?_
      refine TextQ.mk ⟨fun h => by simp at h, ?_⟩ rfl
      refine Ord.cut 3 6 rfl rfl rfl rfl (by kernel_rfl) (by kernel_rfl) ?_; simp only [List.take_succ_cons, List.take_zero, List.drop_succ_cons, List.drop_zero, List.filterMap_cons, List.filterMap_nil, List.getElem?_cons_succ, List.getElem?_cons_zero]; go_wp2_with fail; refine TextQ.mk ⟨fun h => by simp at h, ?_⟩ rfl
      refine Ord.cut 1 7 rfl rfl rfl rfl (by kernel_rfl) (by kernel_rfl) ?_; simp only [List.take_succ_cons, List.take_zero, List.drop_succ_cons, List.drop_zero, List.filterMap_cons, List.filterMap_nil, List.getElem?_cons_succ, List.getElem?_cons_zero]
      refine wpL_load_at rfl 102 _ rfl b2 (o2 + j * 32) rfl (Lib.byteCells d) _ (C2.out _ hor2) Try.underlying102 rfl digInfo HD32.out ?_
      refine TextQ.mk ⟨fun h => by simp at h, ?_⟩ rfl
      refine Ord.cut 1 8 rfl rfl rfl rfl (by kernel_rfl) (by kernel_rfl) ?_; simp only [List.take_succ_cons, List.take_zero, List.drop_succ_cons, List.drop_zero, List.filterMap_cons, List.filterMap_nil, List.getElem?_cons_succ, List.getElem?_cons_zero]
      refine wpL_neqB rfl 102 _ _ _ rfl 5 32 Try.underlying102 Try.underlying5 (by kernel_rfl) (by kernel_rfl) d d rfl rfl HD.out HD.out true (by simp) ?_
      refine TextQ.mk ⟨fun h => by simp at h, ?_⟩ ?_
      case refine_2 => repeat' (first | exact rfl | exact fine_bytes rfl rfl rfl | refine fine_cons ?_ ?_)
      refine Ord.done ?_
      go_wp2_with fail
      go_roundw
      case rel => exact ⟨j + 1, by omega, by go_num, hor2⟩
      case measure => simp [intOf]; omega
    · obtain rfl : j = n := by omega
      have j64 : ¬ (j : Int) < j := by omega
      go_wp2_with fail
      go_ret
      exact ⟨rfl, hor⟩

end Go.Proofs.Ytmogkiacakkmbaa

namespace Go.Proofs.Ytmogkiacakkmbaa
open Go.RowKit

set_option maxRecDepth 100000 in
set_option maxHeartbeats 8000000 in
theorem manSame_yes (b v z k : Int) (a1 a2 : Option Addr) (n c1 c2 : Nat) (r : List UInt8) (ds : List (List UInt8)) (w : World) (hr : r.length = 32) (h1 : Digs w (.slice a1 n c1) ds) (h2 : Digs w (.slice a2 n c2) ds) (hw : Wide ds) (hn : ds.length ≤ 1000) :
    Calls Try.prog 72 #[.agg (Value.int .i64 b :: .int .i64 v :: .int .i64 z :: .int .i64 k :: .slice a1 n c1 :: Lib.byteCells r).toArray, .agg (Value.int .i64 b :: .int .i64 v :: .int .i64 z :: .int .i64 k :: .slice a2 n c2 :: Lib.byteCells r).toArray] w fun e w' => e = .returned (.bool true) ∧ Only [] w w' := by
  have hsz : ∀ o, (w.alloc o).heap.size = w.heap.size + 1 := fun o => by simp
  have hst := ((St.start w []).box (.int .i64 b :: .int .i64 v :: .int .i64 z :: .int .i64 k :: .slice a1 n c1 :: Lib.byteCells r) 104).box (.int .i64 b :: .int .i64 v :: .int .i64 z :: .int .i64 k :: .slice a2 n c2 :: Lib.byteCells r) 104
  rw [hsz] at hst
  have EQ : Hid (∀ w', Only [] w w' → Calls Try.prog 127 #[.slice a1 n c1, .slice a2 n c2] w' fun e w'' => e = .returned (.bool true) ∧ Only [] w' w'') := fun w' ho => digsEqual_same _ _ ds w' (h1.keep ho) (h2.keep ho) hw hn
  have HR := Lib.hid hr
  have HRL := Lib.hid (digLen r hr)
  have HD5 : Hid (∀ V, ((Value.int .i64 b :: .int .i64 v :: .int .i64 z :: .int .i64 k :: V :: Lib.byteCells r).drop 5).take 32 = Lib.byteCells r) := fun V => List.take_of_length_le (by simp [digLen r hr])
  clear hsz h1 h2 hw hn hr
  go_enter Try.func72, Try.ntmps72
  go_wp2_with (first
    | ((with_reducible refine wpL_peel rfl ?_ ?_); focus (go_simp; done))
    | ((with_reducible refine wpL_isLoad rfl ?_); first | (refine wpL_loadAtS hst rfl (ty := 102) rfl 0 rfl rfl (by kernel_rfl) 32 (by kernel_rfl) _ (HD5.out _) HRL.out ?_) | (refine wpL_loadAtS hst rfl (ty := 102) rfl 1 rfl rfl (by kernel_rfl) 32 (by kernel_rfl) _ (HD5.out _) HRL.out ?_))
    | ((with_reducible refine wpL_peel rfl ?_ ?_); focus (go_simp; done)) | ((with_reducible refine wpL_isLoad rfl ?_); first | (refine wpL_load1S hst rfl rfl 0 rfl rfl rfl (by kernel_rfl) ?_) | (refine wpL_load1S hst rfl rfl 1 rfl rfl rfl (by kernel_rfl) ?_) | (refine wpL_load1S hst rfl rfl 2 rfl rfl rfl (by kernel_rfl) ?_) | (refine wpL_load1S hst rfl rfl 3 rfl rfl rfl (by kernel_rfl) ?_))
    | ((with_reducible refine wpL_isBin rfl ?_); refine wpL_neqB rfl 102 _ _ _ rfl 5 32 Try.underlying102 Try.underlying5 (by kernel_rfl) (by kernel_rfl) r r rfl rfl HR.out HR.out true (by simp) ?_)
    | (go_at_call 127; (with_reducible refine (EQ.out _ hst.only).mono ?_); rintro e1 w1 ⟨rfl, ho1⟩; replace hst := hst.keep ho1; clear ho1))
  go_ret
  exact ⟨rfl, hst.only⟩

set_option maxRecDepth 100000 in
set_option maxHeartbeats 4000000 in
theorem manSame_ver (b v u z k z' k' : Int) (V1 V2 : Value) (R1 R2 : List Value) (w : World) (hv : v ≠ u) :
    Calls Try.prog 72 #[.agg (Value.int .i64 b :: .int .i64 v :: .int .i64 z :: .int .i64 k :: V1 :: R1).toArray, .agg (Value.int .i64 b :: .int .i64 u :: .int .i64 z' :: .int .i64 k' :: V2 :: R2).toArray] w fun e w' => e = .returned (.bool false) ∧ Only [] w w' := by
  have hsz : ∀ o, (w.alloc o).heap.size = w.heap.size + 1 := fun o => by simp
  have hst := ((St.start w []).box (.int .i64 b :: .int .i64 v :: .int .i64 z :: .int .i64 k :: V1 :: R1) 104).box (.int .i64 b :: .int .i64 u :: .int .i64 z' :: .int .i64 k' :: V2 :: R2) 104
  rw [hsz] at hst
  have e1 : (v != u) = true := by rw [bne_iff_ne]; exact hv
  clear hsz hv
  go_enter Try.func72, Try.ntmps72
  go_wp2_with (first | ((with_reducible refine wpL_peel rfl ?_ ?_); focus (go_simp; done)) | ((with_reducible refine wpL_isLoad rfl ?_); first | (refine wpL_load1S hst rfl rfl 0 rfl rfl rfl (by kernel_rfl) ?_) | (refine wpL_load1S hst rfl rfl 1 rfl rfl rfl (by kernel_rfl) ?_) | (refine wpL_load1S hst rfl rfl 2 rfl rfl rfl (by kernel_rfl) ?_) | (refine wpL_load1S hst rfl rfl 3 rfl rfl rfl (by kernel_rfl) ?_)))
  go_ret
  exact ⟨rfl, hst.only⟩

end Go.Proofs.Ytmogkiacakkmbaa
