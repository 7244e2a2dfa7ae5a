/- Models: as bytes. -/
import Derived.Test.YtgdifegbpbnekaaBrainA
import Derived.Test.YtgdifegbpbnekaaSt
namespace Go.Proofs.Ytgdifegbpbnekaa
open Go.RowKit

set_option maxRecDepth 100000 in
set_option maxHeartbeats 2000000 in
theorem brainBytes_nil (w : World) : Calls Try.prog 41 #[.pointer none] w fun e w' => e = .returned (.string ⟨#[]⟩) ∧ Only [] w w' := by
  go_enter Try.func41, Try.ntmps41
  go_wp2
  go_ret
  exact ⟨rfl, Only.refl _ _⟩

set_option maxRecDepth 100000 in
set_option maxHeartbeats 8000000 in
theorem brainBytes_any (b : Nat) (c : Cfg) (s : ByteArray) (w : World) (h : Blk w b (brnC c s) 38) (hs : s.size ≤ 100000) : Calls Try.prog 41 #[.pointer (some ⟨b, 0, none⟩)] w fun e w' => e = .returned (.string (c.bytes ++ s)) ∧ Only [] w w' := by
  have BY : Hid (∀ w, Calls Try.prog 107 #[.agg #[.int .i64 c.V, .int .i64 c.D, .int .i64 c.H, .int .i64 c.B, .int .i64 c.F, .int .i64 c.C]] w fun e w' => e = .returned (.string c.bytes) ∧ Only [] w w') := fun w => confBytes_any c w
  have hbs : c.bytes.size = 24 := rfl
  have hst := (St.with (S := []) h).drew
  unfold brnC Cfg.cells at hst
  simp only [List.cons_append, List.nil_append] at hst
  obtain ⟨T, eT⟩ : ∃ T, T = c.bytes := ⟨_, rfl⟩
  rw [← eT] at BY hbs ⊢
  generalize c.V = V at *
  generalize c.D = D at *
  generalize c.H = H at *
  generalize c.B = B at *
  generalize c.F = F at *
  generalize c.C = C at *
  clear h eT
  go_enter Try.func41, Try.ntmps41
  go_wp2_with fail
  refine wp_region_ord [4] [0, 1, 2, 3, 5, 6, 7, 8, 4, 9, 10] (by kernel_rfl) (by kernel_rfl) ?_
  generalize w.drew = W at *
  refine Ord.cut 3 2 rfl rfl rfl rfl (by kernel_rfl) (by kernel_rfl) ?_; simp only [List.take_succ_cons, List.take_zero, List.drop_succ_cons, List.drop_zero, List.filterMap_cons, List.filterMap_nil, List.getElem?_cons_succ, List.getElem?_cons_zero]
  go_wp2_with fail
  refine TextQ.mk ⟨fun h => by simp at h, ?_⟩ rfl
  refine Ord.cut 1 3 rfl rfl rfl rfl (by kernel_rfl) (by kernel_rfl) ?_; simp only [List.take_succ_cons, List.take_zero, List.drop_succ_cons, List.drop_zero, List.filterMap_cons, List.filterMap_nil, List.getElem?_cons_succ, List.getElem?_cons_zero]
  refine wpL_loadAtS hst rfl (ty := 36) rfl 0 rfl rfl (by kernel_rfl) 6 (by kernel_rfl) [_, _, _, _, _, _] rfl rfl ?_
  refine TextQ.mk ⟨fun h => by simp at h, ?_⟩ rfl
  refine Ord.cut 3 7 rfl rfl rfl rfl (by kernel_rfl) (by kernel_rfl) ?_; simp only [List.take_succ_cons, List.take_zero, List.drop_succ_cons, List.drop_zero, List.filterMap_cons, List.filterMap_nil, List.getElem?_cons_succ, List.getElem?_cons_zero]
  go_wp2_with fail
  refine TextQ.mk ⟨fun h => by simp at h, ?_⟩ rfl
  refine Ord.cut 1 8 rfl rfl rfl rfl (by kernel_rfl) (by kernel_rfl) ?_; simp only [List.take_succ_cons, List.take_zero, List.drop_succ_cons, List.drop_zero, List.filterMap_cons, List.filterMap_nil, List.getElem?_cons_succ, List.getElem?_cons_zero]
  refine wpL_load1S hst rfl rfl 0 rfl rfl rfl (by kernel_rfl) ?_
  refine TextQ.mk ⟨fun h => by simp at h, ?_⟩ rfl
  refine Ord.cut 1 4 rfl rfl rfl rfl (by kernel_rfl) (by kernel_rfl) ?_; simp only [List.take_succ_cons, List.take_zero, List.drop_succ_cons, List.drop_zero, List.filterMap_cons, List.filterMap_nil, List.getElem?_cons_succ, List.getElem?_cons_zero]
  go_wp2_with (go_at_call 107; refine (BY.out _).mono ?_; rintro e w2 ⟨rfl, ho2⟩)
  refine TextQ.mk ⟨fun _ => ho2, ?_⟩ rfl
  refine Ord.cut 2 10 rfl rfl rfl rfl (by kernel_rfl) (by kernel_rfl) ?_; simp only [List.take_succ_cons, List.take_zero, List.drop_succ_cons, List.drop_zero, List.filterMap_cons, List.filterMap_nil, List.getElem?_cons_succ, List.getElem?_cons_zero]
  go_wp2_with fail
  refine TextQ.mk ⟨fun h => by simp at h, ?_⟩ rfl
  refine Ord.done ?_
  go_wp2_with fail
  go_ret
  exact ⟨rfl, hst.only.trans ho2⟩

set_option maxRecDepth 100000 in
set_option maxHeartbeats 2000000 in
theorem brainWeights_any (b : Nat) (c : Cfg) (s : ByteArray) (w : World) (h : Blk w b (brnC c s) 38) : Calls Try.prog 44 #[.pointer (some ⟨b, 0, none⟩)] w fun e w' => e = .returned (.string s) ∧ Only [] w w' := by
  have c6 := h.cell (i := 6) (v := .string s) rfl
  go_enter Try.func44, Try.ntmps44
  go_wp2
  go_ret
  exact ⟨rfl, Only.refl _ _⟩

end Go.Proofs.Ytgdifegbpbnekaa
