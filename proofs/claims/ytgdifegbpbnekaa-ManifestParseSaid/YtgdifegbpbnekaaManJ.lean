/- Manifests: compared. -/
import Derived.Test.YtgdifegbpbnekaaManI
namespace Go.Proofs.Ytgdifegbpbnekaa
open Go.RowKit

theorem Digs.form {w : World} {v : Value} {ds : List (List UInt8)} (h : Digs w v ds) : ∃ bk o c, v = .slice (some ⟨bk, o, none⟩) ds.length c ∧ bk < w.heap.size ∧ ∀ j u, (digCells ds)[j]? = some u → w.cell? ⟨bk, o + j, none⟩ = some u := by
  obtain ⟨bk, o, c, e, _, h2, h3⟩ := h
  exact ⟨bk, o, c, e, h2, h3⟩

set_option maxRecDepth 100000 in
set_option maxHeartbeats 8000000 in
theorem digsEqual_same (v1 v2 : Value) (ds : List (List UInt8)) (w : World) (h1 : Digs w v1 ds) (h2 : Digs w v2 ds) (hw : Wide ds) (hn : ds.length ≤ 1000) :
    Calls Try.prog 94 #[v1, v2] w fun e w' => e = .returned (.bool true) ∧ Only [] w w' := by
  obtain ⟨b1, o1, c1, rfl, l1, x1⟩ := h1.form
  obtain ⟨b2, o2, c2, rfl, l2, x2⟩ := h2.form
  obtain ⟨n, en⟩ : ∃ n, n = ds.length := ⟨_, rfl⟩
  have EN := Lib.hid en
  have HW := Lib.hid hw
  have X1 := Lib.hid x1
  have X2 := Lib.hid x2
  rw [← en] at hn ⊢
  have hnI : (n : Int) ≤ 1000 := by omega
  clear h1 h2 hw x1 x2 en
  go_enter Try.func94, Try.ntmps94
  go_wp2_with fail
  go_loopw [13] (fun i wr => ∃ (j : Nat), j ≤ n ∧ i = .int .i64 (j : Int) ∧ Only [] w wr) (fun i _ => n - (intOf i).toNat)
  case atStart => exact ⟨0, by omega, rfl, Only.refl _ _⟩
  case round =>
    obtain ⟨j, hj, rfl, hor⟩ := hrel
    by_cases hlt : j < n
    · have j64 : (j : Int) < n := by omega
      have j0 : (0 : Int) ≤ j := by omega
      have hjd : j < ds.length := by rw [← EN.out]; exact hlt
      obtain ⟨d, ed⟩ : ∃ d, d = ds.getD j [] := ⟨_, rfl⟩
      have hd32 : d.length = 32 := by rw [ed, List.getD_eq_getElem?_getD, List.getElem?_eq_getElem hjd]; exact HW.out _ (List.getElem_mem hjd)
      have HD := Lib.hid hd32
      have HD32 := Lib.hid (digLen d hd32)
      have C1 : Hid (∀ w', Only [] w w' → ∀ k u, (Lib.byteCells d)[k]? = some u → w'.cell? ⟨b1, o1 + j * 32 + k, none⟩ = some u) := fun w' ho k u hu => by
        rw [ho.cellAt _ _ l1 (by simp)]
        rw [ed] at hu
        exact digCells_atM HW.out hjd X1.out k u hu
      have C2 : Hid (∀ w', Only [] w w' → ∀ k u, (Lib.byteCells d)[k]? = some u → w'.cell? ⟨b2, o2 + j * 32 + k, none⟩ = some u) := fun w' ho k u hu => by
        rw [ho.cellAt _ _ l2 (by simp)]
        rw [ed] at hu
        exact digCells_atM HW.out hjd X2.out k u hu
      have hor2 := hor.drew
      clear ed hd32 hjd
      go_wp2_with fail
      refine wp_region_ord [] [0, 1, 2, 3, 4, 5, 6, 7, 8] (by kernel_rfl) (by kernel_rfl) ?_
      generalize World.drew _ = W at *
      refine Ord.cut 3 2 rfl rfl rfl rfl (by kernel_rfl) (by kernel_rfl) ?_; simp only [List.take_succ_cons, List.take_zero, List.drop_succ_cons, List.drop_zero, List.filterMap_cons, List.filterMap_nil, List.getElem?_cons_succ, List.getElem?_cons_zero]; go_wp2_with fail; refine TextQ.mk ⟨fun h => by simp at h, ?_⟩ rfl
      refine Ord.cut 1 3 rfl rfl rfl rfl (by kernel_rfl) (by kernel_rfl) ?_; simp only [List.take_succ_cons, List.take_zero, List.drop_succ_cons, List.drop_zero, List.filterMap_cons, List.filterMap_nil, List.getElem?_cons_succ, List.getElem?_cons_zero]
      refine wpL_load_at rfl 48 _ rfl b1 (o1 + j * 32) rfl (Lib.byteCells d) _ (C1.out _ hor2) Try.underlying48 rfl digInfo HD32.out ?_
      refine TextQ.mk ⟨fun h => by simp at h, ?_⟩ rfl
      refine Ord.cut 3 6 rfl rfl rfl rfl (by kernel_rfl) (by kernel_rfl) ?_; simp only [List.take_succ_cons, List.take_zero, List.drop_succ_cons, List.drop_zero, List.filterMap_cons, List.filterMap_nil, List.getElem?_cons_succ, List.getElem?_cons_zero]; go_wp2_with fail; refine TextQ.mk ⟨fun h => by simp at h, ?_⟩ rfl
      refine Ord.cut 1 7 rfl rfl rfl rfl (by kernel_rfl) (by kernel_rfl) ?_; simp only [List.take_succ_cons, List.take_zero, List.drop_succ_cons, List.drop_zero, List.filterMap_cons, List.filterMap_nil, List.getElem?_cons_succ, List.getElem?_cons_zero]
      refine wpL_load_at rfl 48 _ rfl b2 (o2 + j * 32) rfl (Lib.byteCells d) _ (C2.out _ hor2) Try.underlying48 rfl digInfo HD32.out ?_
      refine TextQ.mk ⟨fun h => by simp at h, ?_⟩ rfl
      refine Ord.cut 1 8 rfl rfl rfl rfl (by kernel_rfl) (by kernel_rfl) ?_; simp only [List.take_succ_cons, List.take_zero, List.drop_succ_cons, List.drop_zero, List.filterMap_cons, List.filterMap_nil, List.getElem?_cons_succ, List.getElem?_cons_zero]
      refine wpL_neqB rfl 48 _ _ _ rfl 5 32 Try.underlying48 Try.underlying5 (by kernel_rfl) (by kernel_rfl) d d rfl rfl HD.out HD.out true (by simp) ?_
      refine TextQ.mk ⟨fun h => by simp at h, ?_⟩ ?_
      case refine_2 => repeat' (first | exact rfl | exact fine_bytes rfl rfl rfl | refine fine_cons ?_ ?_)
      refine Ord.done ?_
      go_wp2_with fail
      go_roundw
      case rel => exact ⟨j + 1, by omega, by go_num, hor2⟩
      case measure => simp [intOf]; omega
    · obtain rfl : j = n := by omega
      have j64 : ¬ (j : Int) < j := by omega
      go_wp2_with fail
      go_ret
      exact ⟨rfl, hor⟩

end Go.Proofs.Ytgdifegbpbnekaa
