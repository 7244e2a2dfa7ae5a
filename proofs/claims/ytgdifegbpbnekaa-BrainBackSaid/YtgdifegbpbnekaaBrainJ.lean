/- BrainBack, walked: a model comes back from its bytes. -/
import Derived.Test.YtgdifegbpbnekaaBrainI
namespace Go.Proofs.Ytgdifegbpbnekaa
open Go.RowKit

set_option maxRecDepth 100000 in
set_option maxHeartbeats 8000000 in
theorem back_no (c : Cfg) (s : ByteArray) (p k a : Int) (w : World) (h : ¬ (CanBe c ∧ (s.size : Int) = c.all)) :
    Calls Try.prog 8 #[.agg #[.int .i64 c.V, .int .i64 c.D, .int .i64 c.H, .int .i64 c.B, .int .i64 c.F, .int .i64 c.C], .string s, .int .i64 p, .int .i64 k, .int .i64 a] w fun e w' => e = .returned (.bool true) ∧ Only [] w w' := by
  have hst := (St.start w []).box [.int .i64 c.V, .int .i64 c.D, .int .i64 c.H, .int .i64 c.B, .int .i64 c.F, .int .i64 c.C] 23
  have OF : Hid (∀ w, Calls Try.prog 14 #[.agg #[.int .i64 c.V, .int .i64 c.D, .int .i64 c.H, .int .i64 c.B, .int .i64 c.F, .int .i64 c.C], .string s] w fun e w' => ∃ k : Int, e = .returned (.tuple #[.pointer none, .int .i64 k]) ∧ (k != 0) = true ∧ Only [] w w') := fun w => by
    by_cases h1 : CanBe c
    · refine (brainOf_len c s h1 (fun h2 => h ⟨h1, h2⟩) w).mono ?_
      rintro e w' ⟨rfl, ho⟩
      exact ⟨5, rfl, rfl, ho⟩
    · refine (brainOf_bad c s h1 w).mono ?_
      rintro e w' ⟨rfl, ho⟩
      exact ⟨1, rfl, rfl, ho⟩
  have AW := Lib.hid awake16_any
  generalize c.V = V at *
  generalize c.D = D at *
  generalize c.H = H at *
  generalize c.B = B at *
  generalize c.F = F at *
  generalize c.C = C at *
  clear h
  go_enter Try.func8, Try.ntmps8
  go_wp2_with (first
    | ((with_reducible refine wpL_peel rfl ?_ ?_); focus (go_simp; done)) | ((with_reducible refine wpL_isLoad rfl ?_); first | (refine wpL_loadAtS hst rfl (ty := 23) rfl 0 rfl rfl (by kernel_rfl) 6 (by kernel_rfl) [_, _, _, _, _, _] rfl rfl ?_) | (refine wpL_loadAtS hst rfl (ty := 23) rfl 1 rfl rfl (by kernel_rfl) 6 (by kernel_rfl) [_, _, _, _, _, _] rfl rfl ?_) | (refine wpL_loadAtS hst rfl (ty := 23) rfl 2 rfl rfl (by kernel_rfl) 6 (by kernel_rfl) [_, _, _, _, _, _] rfl rfl ?_) | (refine wpL_loadAtS hst rfl (ty := 23) rfl 3 rfl rfl (by kernel_rfl) 6 (by kernel_rfl) [_, _, _, _, _, _] rfl rfl ?_) | (refine wpL_load1S hst rfl rfl 0 rfl rfl rfl (by kernel_rfl) ?_) | (refine wpL_load1S hst rfl rfl 1 rfl rfl rfl (by kernel_rfl) ?_) | (refine wpL_load1S hst rfl rfl 2 rfl rfl rfl (by kernel_rfl) ?_) | (refine wpL_load1S hst rfl rfl 3 rfl rfl rfl (by kernel_rfl) ?_))
    | (go_at_call 13; (with_reducible refine (AW.out _).mono ?_); rintro e1 w1 ⟨rfl, ho1⟩; replace hst := hst.keep ho1; clear ho1)
    | (go_at_call 14; refine (OF.out _).mono ?_; rintro e1 w1 ⟨k, rfl, hk, ho1⟩; replace hst := hst.keep ho1; clear ho1))
  go_ret
  exact ⟨rfl, hst.only⟩

theorem flat_cfgB (c : Cfg) : flatV (.agg c.cells.toArray) = true := by
  have : c.cells.toArray.all scalarV = true := by
    rw [List.all_toArray]
    rfl
  unfold flatV
  rw [Bool.or_eq_true]
  exact .inr this
theorem fine_cfgB {ops : Array Oper} {o : Oper} {a : Act} {op : BinOp} {t r : TypeId} {x y : Operand} (c : Cfg) (hop : o.op = .binOp op t x y r) (hx : a.eval x = .agg c.cells.toArray) (hy : a.eval y = .agg c.cells.toArray) :
    (!asksGood o || !Region.wanted o (yielded ops a.tmps) || Good a o) = true := by
  have : Good a o = true := by simp [Good, hop, hx, hy, flat_cfgB]
  simp [this]
theorem app_assoc (a b c : ByteArray) : a ++ b ++ c = a ++ (b ++ c) := by
  have hap : ∀ x y : ByteArray, bl (x ++ y) = bl x ++ bl y := fun x y => by unfold bl; rw [ByteArray.data_append, Array.toList_append]
  exact bl_ext (by rw [hap, hap, hap, hap, List.append_assoc])
theorem bytes_short (c : Cfg) (s : ByteArray) (m : Nat) (hm : (c.bytes ++ s).size = m + 1) (hs : 1 ≤ s.size) : (c.bytes ++ s).extract 0 m = c.bytes ++ s.extract 0 (s.size - 1) := by
  have hap : ∀ x y : ByteArray, bl (x ++ y) = bl x ++ bl y := fun x y => by unfold bl; rw [ByteArray.data_append, Array.toList_append]
  have hb : (bl c.bytes).length = 24 := by rw [bl_length]; rfl
  rw [bytes_size] at hm
  refine bl_ext ?_
  rw [hap, bl_extract, bl_extract, hap, List.drop_zero, List.drop_zero, List.take_append, hb, List.take_of_length_le (by omega), show m - 24 = s.size - 1 by omega]

set_option maxRecDepth 100000 in
set_option maxHeartbeats 16000000 in
theorem back_yes (c : Cfg) (s : ByteArray) (p k a : Int) (w : World) (h : CanBe c) (hs : (s.size : Int) = c.all) :
    Calls Try.prog 8 #[.agg #[.int .i64 c.V, .int .i64 c.D, .int .i64 c.H, .int .i64 c.B, .int .i64 c.F, .int .i64 c.C], .string s, .int .i64 p, .int .i64 k, .int .i64 a] w fun e w' => e = .returned (.bool true) ∧ Only [] w w' := by
  have hst := (St.start w []).box [.int .i64 c.V, .int .i64 c.D, .int .i64 c.H, .int .i64 c.B, .int .i64 c.F, .int .i64 c.C] 23
  have AW := Lib.hid awake16_any
  have hall := h.all
  have hs1 : 1 ≤ s.size := by have := inR_place h.fit (inR_last h.fit); have := h.fit.d0; have e : c.sz 11 = 1 * c.D := rfl; omega
  have hs8 : s.size ≤ 100000 := by omega
  have hsz := bytes_size c s
  have OF : Hid (∀ w, Calls Try.prog 14 #[.agg #[.int .i64 c.V, .int .i64 c.D, .int .i64 c.H, .int .i64 c.B, .int .i64 c.F, .int .i64 c.C], .string s] w fun e w' => ∃ b, e = .returned (.tuple #[.pointer (some ⟨b, 0, none⟩), .int .i64 0]) ∧ w.heap.size ≤ b ∧ Blk w' b (.int .i64 c.V :: .int .i64 c.D :: .int .i64 c.H :: .int .i64 c.B :: .int .i64 c.F :: .int .i64 c.C :: [.string s]) 38 ∧ Only [] w w') := fun w => brainOf_yes c s h hs w
  obtain ⟨T, eT⟩ : ∃ T, T = c.bytes ++ s := ⟨_, rfl⟩
  have BY : Hid (∀ b w, Blk w b (.int .i64 c.V :: .int .i64 c.D :: .int .i64 c.H :: .int .i64 c.B :: .int .i64 c.F :: .int .i64 c.C :: [.string s]) 38 → Calls Try.prog 41 #[.pointer (some ⟨b, 0, none⟩)] w fun e w' => e = .returned (.string T) ∧ Only [] w w') := fun b w hb => by rw [eT]; exact brainBytes_any b c s w hb hs8
  have PA : Hid (∀ w, Calls Try.prog 42 #[.string T] w fun e w' => ∃ b, e = .returned (.tuple #[.pointer (some ⟨b, 0, none⟩), .int .i64 0]) ∧ w.heap.size ≤ b ∧ Blk w' b (.int .i64 c.V :: .int .i64 c.D :: .int .i64 c.H :: .int .i64 c.B :: .int .i64 c.F :: .int .i64 c.C :: [.string s]) 38 ∧ Only [] w w') := fun w => by rw [eT]; exact brainParse_yes c s h hs w
  have PX : Hid (∀ w, Calls Try.prog 42 #[.string (T ++ ⟨#[120]⟩)] w fun e w' => e = .returned (.tuple #[.pointer none, .int .i64 5]) ∧ Only [] w w') := fun w => by
    have hz : (s ++ ⟨#[120]⟩).size = s.size + 1 := by rw [ByteArray.size_append]; rfl
    rw [eT, app_assoc]
    exact brainParse_len c _ h (by rw [hz]; omega) (by rw [hz]; omega) w
  obtain ⟨m, hm⟩ : ∃ m : Nat, T.size = m + 1 := ⟨T.size - 1, by rw [eT, hsz]; omega⟩
  have PY : Hid (∀ w, Calls Try.prog 42 #[.string (T.extract 0 m)] w fun e w' => e = .returned (.tuple #[.pointer none, .int .i64 5]) ∧ Only [] w w') := fun w => by
    have hz : (s.extract 0 (s.size - 1)).size = s.size - 1 := by rw [ext_size _ _ _ (by omega) (by omega)]; rfl
    rw [eT, bytes_short c s m (by rw [← eT, hm]) hs1]
    exact brainParse_len c _ h (by rw [hz]; omega) (by rw [hz]; omega) w
  have SM : Hid (∀ b1 b2 w, Blk w b1 (.int .i64 c.V :: .int .i64 c.D :: .int .i64 c.H :: .int .i64 c.B :: .int .i64 c.F :: .int .i64 c.C :: [.string s]) 38 → Blk w b2 (.int .i64 c.V :: .int .i64 c.D :: .int .i64 c.H :: .int .i64 c.B :: .int .i64 c.F :: .int .i64 c.C :: [.string s]) 38 → Calls Try.prog 19 #[.pointer (some ⟨b1, 0, none⟩), .pointer (some ⟨b2, 0, none⟩)] w fun e w' => e = .returned (.bool true) ∧ Only [] w w') := fun b1 b2 w h1 h2 => brainSame_yes b1 b2 c s w h1 h2 hs8
  obtain ⟨d, ed⟩ : ∃ d, d = Sha.sum (bl (c.bytes ++ s)) := ⟨_, rfl⟩
  have HD : Hid (d.length = 32) := by rw [ed]; exact Sha.sum_length _
  have DG : Hid (∀ b w, Blk w b (.int .i64 c.V :: .int .i64 c.D :: .int .i64 c.H :: .int .i64 c.B :: .int .i64 c.F :: .int .i64 c.C :: [.string s]) 38 → Calls Try.prog 43 #[.pointer (some ⟨b, 0, none⟩)] w fun e w' => e = .returned (.agg (Lib.byteCells d).toArray) ∧ Only [] w w') := fun b w hb => by rw [ed]; exact brainDigest_any b c s w hb hs8
  have WG : Hid (∀ b w, Blk w b (.int .i64 c.V :: .int .i64 c.D :: .int .i64 c.H :: .int .i64 c.B :: .int .i64 c.F :: .int .i64 c.C :: [.string s]) 38 → Calls Try.prog 44 #[.pointer (some ⟨b, 0, none⟩)] w fun e w' => e = .returned (.string s) ∧ Only [] w w') := fun b w hb => brainWeights_any b c s w hb
  obtain ⟨xs, exs⟩ : ∃ xs, xs = rowB c s p k a := ⟨_, rfl⟩
  have RW : Hid (∀ b w, Blk w b (.int .i64 c.V :: .int .i64 c.D :: .int .i64 c.H :: .int .i64 c.B :: .int .i64 c.F :: .int .i64 c.C :: [.string s]) 38 → Calls Try.prog 46 #[.pointer (some ⟨b, 0, none⟩), .int .i64 p, .int .i64 k, .int .i64 a] w fun e w' => ∃ V, e = .returned V ∧ Ints w' V xs ∧ Only [] w w') := fun b w hb => by rw [exs]; exact brainRow_any b c s p k a h hs w hb
  have hxs : xs.length ≤ 9223372036854775807 := by
    rw [exs]
    unfold rowB
    split
    · rename_i hh
      have hts := tabS_size h.fit hs hh.1
      have hpl := inR_place h.fit hh.1
      have e1 : (c.side p).1 * (c.side p).2 = c.sz p := rfl
      have : (rowI (bl (tabS c s p k)) (c.side p).2.toNat a.toNat).length ≤ (bl (tabS c s p k)).length := by simp [rowI]; omega
      rw [bl_length] at this
      omega
    · simp
  have IN : Hid (∀ V1 V2 w, Ints w V1 xs → Ints w V2 xs → Calls Try.prog 45 #[V1, V2] w fun e w' => e = .returned (.bool true) ∧ Only [] w w') := fun V1 V2 w h1 h2 => ints16_same V1 V2 xs w h1 h2 hxs
  obtain ⟨q, eq⟩ : ∃ q, q = c.D / c.H := ⟨_, rfl⟩
  have HDM : Hid (∀ w, Calls Try.prog 47 #[.agg #[.int .i64 c.V, .int .i64 c.D, .int .i64 c.H, .int .i64 c.B, .int .i64 c.F, .int .i64 c.C]] w fun e w' => e = .returned (.int .i64 q) ∧ Only [] w w') := fun w => by rw [eq]; exact head_yes c h w
  have hqD : q * c.H = c.D := by rw [eq]; exact Int.ediv_mul_cancel (Int.dvd_of_emod_eq_zero h.div)
  have hqe : (q * c.H == c.D) = true := by rw [hqD]; simp
  have q0 : 0 ≤ q * c.H := by rw [hqD]; have := h.fit.d0; omega
  have q1 : q * c.H ≤ 16 := by rw [hqD]; exact h.fit.d1
  have hm1 : (T.size : Int) - 1 = (m : Int) := by omega
  have hT2 : (T.size : Int) ≤ 100000 := by rw [eT, hsz]; omega
  have hTm : (m : Int) ≤ T.size := by omega
  have hT3 : T.size ≤ 100000 := by omega
  clear eT hsz hs h hall ed exs hxs hqD eq hm hs8 hs1
  generalize c.V = V at *
  generalize c.D = D at *
  generalize c.H = H at *
  generalize c.B = B at *
  generalize c.F = F at *
  generalize c.C = C at *
  go_enter Try.func8, Try.ntmps8
  go_wp2_with (first
    | ((with_reducible refine wpL_peel rfl ?_ ?_); focus (go_simp; done)) | ((with_reducible refine wpL_isLoad rfl ?_); first | (refine wpL_loadAtS hst rfl (ty := 23) rfl 0 rfl rfl (by kernel_rfl) 6 (by kernel_rfl) [_, _, _, _, _, _] rfl rfl ?_) | (refine wpL_loadAtS hst rfl (ty := 23) rfl 1 rfl rfl (by kernel_rfl) 6 (by kernel_rfl) [_, _, _, _, _, _] rfl rfl ?_) | (refine wpL_loadAtS hst rfl (ty := 23) rfl 2 rfl rfl (by kernel_rfl) 6 (by kernel_rfl) [_, _, _, _, _, _] rfl rfl ?_) | (refine wpL_loadAtS hst rfl (ty := 23) rfl 3 rfl rfl (by kernel_rfl) 6 (by kernel_rfl) [_, _, _, _, _, _] rfl rfl ?_) | (refine wpL_load1S hst rfl rfl 0 rfl rfl rfl (by kernel_rfl) ?_) | (refine wpL_load1S hst rfl rfl 1 rfl rfl rfl (by kernel_rfl) ?_) | (refine wpL_load1S hst rfl rfl 2 rfl rfl rfl (by kernel_rfl) ?_) | (refine wpL_load1S hst rfl rfl 3 rfl rfl rfl (by kernel_rfl) ?_))
    | (go_at_call 13; (with_reducible refine (AW.out _).mono ?_); rintro e1 w1 ⟨rfl, ho1⟩; replace hst := hst.keep ho1; clear ho1)
    | (go_at_call 14; refine (OF.out _).mono ?_; rintro e1 w1 ⟨b, rfl, hb, hB, ho1⟩; replace hst := hst.new ho1 hB hb; clear ho1 hB)
    | (go_at_call 41; (with_reducible refine (BY.out _ _ (hst.blk 0 rfl)).mono ?_); rintro e1 w1 ⟨rfl, ho1⟩; replace hst := hst.keep ho1; clear ho1)
    | (go_at_call 42; refine (PA.out _).mono ?_; rintro e1 w1 ⟨x, rfl, hx, hB, ho1⟩; replace hst := hst.new ho1 hB hx; clear ho1 hB))
  replace hst := hst.drew
  refine wp_region_ord [5, 10, 12, 17, 35, 40, 41] [0, 1, 2, 3, 4, 5, 6, 7, 8, 9, 10, 11, 12, 13, 14, 15, 16, 17, 18, 19, 20, 21, 22, 23, 24, 25, 26, 27, 28, 29, 30, 31, 32, 33, 34, 35, 36, 37, 38, 39, 40, 41, 42, 43] (by kernel_rfl) (by kernel_rfl) ?_
  generalize World.drew _ = W at *
  refine Ord.cut 5 4 rfl rfl rfl rfl (by kernel_rfl) (by kernel_rfl) ?_; simp only [List.take_succ_cons, List.take_zero, List.drop_succ_cons, List.drop_zero, List.filterMap_cons, List.filterMap_nil, List.getElem?_cons_succ, List.getElem?_cons_zero]; go_wp2_with fail; refine TextQ.mk ⟨fun h => by simp at h, ?_⟩ rfl
  refine Ord.cut 1 5 rfl rfl rfl rfl (by kernel_rfl) (by kernel_rfl) ?_; simp only [List.take_succ_cons, List.take_zero, List.drop_succ_cons, List.drop_zero, List.filterMap_cons, List.filterMap_nil, List.getElem?_cons_succ, List.getElem?_cons_zero]
  go_wp2_with (go_at_call 19; refine (SM.out _ _ _ (hst.blk 0 rfl) (hst.blk 1 rfl)).mono ?_; rintro e1 w1 ⟨rfl, ho1⟩)
  refine TextQ.mk ⟨fun _ => ho1, ?_⟩ rfl
  replace hst := hst.keep ho1
  clear ho1
  refine Ord.cut 4 9 rfl rfl rfl rfl (by kernel_rfl) (by kernel_rfl) ?_; simp only [List.take_succ_cons, List.take_zero, List.drop_succ_cons, List.drop_zero, List.filterMap_cons, List.filterMap_nil, List.getElem?_cons_succ, List.getElem?_cons_zero]; go_wp2_with fail; refine TextQ.mk ⟨fun h => by simp at h, ?_⟩ rfl
  refine Ord.cut 1 10 rfl rfl rfl rfl (by kernel_rfl) (by kernel_rfl) ?_; simp only [List.take_succ_cons, List.take_zero, List.drop_succ_cons, List.drop_zero, List.filterMap_cons, List.filterMap_nil, List.getElem?_cons_succ, List.getElem?_cons_zero]
  go_wp2_with (go_at_call 43; refine (DG.out _ _ (hst.blk 0 rfl)).mono ?_; rintro e1 w1 ⟨rfl, ho1⟩)
  refine TextQ.mk ⟨fun _ => ho1, ?_⟩ rfl
  replace hst := hst.keep ho1
  clear ho1
  refine Ord.cut 1 11 rfl rfl rfl rfl (by kernel_rfl) (by kernel_rfl) ?_; simp only [List.take_succ_cons, List.take_zero, List.drop_succ_cons, List.drop_zero, List.filterMap_cons, List.filterMap_nil, List.getElem?_cons_succ, List.getElem?_cons_zero]; go_wp2_with fail; refine TextQ.mk ⟨fun h => by simp at h, ?_⟩ rfl
  refine Ord.cut 1 12 rfl rfl rfl rfl (by kernel_rfl) (by kernel_rfl) ?_; simp only [List.take_succ_cons, List.take_zero, List.drop_succ_cons, List.drop_zero, List.filterMap_cons, List.filterMap_nil, List.getElem?_cons_succ, List.getElem?_cons_zero]
  go_wp2_with (go_at_call 43; refine (DG.out _ _ (hst.blk 1 rfl)).mono ?_; rintro e1 w1 ⟨rfl, ho1⟩)
  refine TextQ.mk ⟨fun _ => ho1, ?_⟩ rfl
  replace hst := hst.keep ho1
  clear ho1
  refine Ord.cut 1 13 rfl rfl rfl rfl (by kernel_rfl) (by kernel_rfl) ?_; simp only [List.take_succ_cons, List.take_zero, List.drop_succ_cons, List.drop_zero, List.filterMap_cons, List.filterMap_nil, List.getElem?_cons_succ, List.getElem?_cons_zero]
  refine wpL_yes rfl (wpL_neqB rfl 48 _ _ _ rfl 5 32 Try.underlying48 Try.underlying5 (by kernel_rfl) (by kernel_rfl) d d rfl rfl HD.out HD.out true (by simp) ?_)
  refine TextQ.mk ⟨fun h => by simp at h, ?_⟩ ?_
  case refine_2 => repeat' (first | exact rfl | exact fine_bytes rfl rfl rfl | refine fine_cons ?_ ?_)
  refine Ord.cut 3 16 rfl rfl rfl rfl (by kernel_rfl) (by kernel_rfl) ?_; simp only [List.take_succ_cons, List.take_zero, List.drop_succ_cons, List.drop_zero, List.filterMap_cons, List.filterMap_nil, List.getElem?_cons_succ, List.getElem?_cons_zero]; go_wp2_with fail; refine TextQ.mk ⟨fun h => by simp at h, ?_⟩ rfl
  refine Ord.cut 1 17 rfl rfl rfl rfl (by kernel_rfl) (by kernel_rfl) ?_; simp only [List.take_succ_cons, List.take_zero, List.drop_succ_cons, List.drop_zero, List.filterMap_cons, List.filterMap_nil, List.getElem?_cons_succ, List.getElem?_cons_zero]
  go_wp2_with (go_at_call 44; refine (WG.out _ _ (hst.blk 0 rfl)).mono ?_; rintro e1 w1 ⟨rfl, ho1⟩)
  refine TextQ.mk ⟨fun _ => ho1, ?_⟩ rfl
  replace hst := hst.keep ho1
  clear ho1
  refine Ord.cut 8 25 rfl rfl rfl rfl (by kernel_rfl) (by kernel_rfl) ?_; simp only [List.take_succ_cons, List.take_zero, List.drop_succ_cons, List.drop_zero, List.filterMap_cons, List.filterMap_nil, List.getElem?_cons_succ, List.getElem?_cons_zero]; go_wp2_with fail; refine TextQ.mk ⟨fun h => by simp at h, ?_⟩ rfl
  refine Ord.cut 1 26 rfl rfl rfl rfl (by kernel_rfl) (by kernel_rfl) ?_; simp only [List.take_succ_cons, List.take_zero, List.drop_succ_cons, List.drop_zero, List.filterMap_cons, List.filterMap_nil, List.getElem?_cons_succ, List.getElem?_cons_zero]; (try refine wpL_peel rfl rfl ?_); (first | (refine wpL_loadAtS hst rfl (ty := 23) rfl 0 rfl rfl (by kernel_rfl) 6 (by kernel_rfl) [_, _, _, _, _, _] rfl rfl ?_) | (refine wpL_loadAtS hst rfl (ty := 23) rfl 1 rfl rfl (by kernel_rfl) 6 (by kernel_rfl) [_, _, _, _, _, _] rfl rfl ?_) | (refine wpL_loadAtS hst rfl (ty := 23) rfl 2 rfl rfl (by kernel_rfl) 6 (by kernel_rfl) [_, _, _, _, _, _] rfl rfl ?_) | (refine wpL_loadAtS hst rfl (ty := 23) rfl 3 rfl rfl (by kernel_rfl) 6 (by kernel_rfl) [_, _, _, _, _, _] rfl rfl ?_) | (refine wpL_load1S hst rfl rfl 0 rfl rfl rfl (by kernel_rfl) ?_) | (refine wpL_load1S hst rfl rfl 1 rfl rfl rfl (by kernel_rfl) ?_) | (refine wpL_load1S hst rfl rfl 2 rfl rfl rfl (by kernel_rfl) ?_) | (refine wpL_load1S hst rfl rfl 3 rfl rfl rfl (by kernel_rfl) ?_)); refine TextQ.mk ⟨fun h => by simp at h, ?_⟩ rfl
  refine Ord.cut 1 27 rfl rfl rfl rfl (by kernel_rfl) (by kernel_rfl) ?_; simp only [List.take_succ_cons, List.take_zero, List.drop_succ_cons, List.drop_zero, List.filterMap_cons, List.filterMap_nil, List.getElem?_cons_succ, List.getElem?_cons_zero]; (try refine wpL_peel rfl rfl ?_); (first | (refine wpL_loadAtS hst rfl (ty := 23) rfl 0 rfl rfl (by kernel_rfl) 6 (by kernel_rfl) [_, _, _, _, _, _] rfl rfl ?_) | (refine wpL_loadAtS hst rfl (ty := 23) rfl 1 rfl rfl (by kernel_rfl) 6 (by kernel_rfl) [_, _, _, _, _, _] rfl rfl ?_) | (refine wpL_loadAtS hst rfl (ty := 23) rfl 2 rfl rfl (by kernel_rfl) 6 (by kernel_rfl) [_, _, _, _, _, _] rfl rfl ?_) | (refine wpL_loadAtS hst rfl (ty := 23) rfl 3 rfl rfl (by kernel_rfl) 6 (by kernel_rfl) [_, _, _, _, _, _] rfl rfl ?_) | (refine wpL_load1S hst rfl rfl 0 rfl rfl rfl (by kernel_rfl) ?_) | (refine wpL_load1S hst rfl rfl 1 rfl rfl rfl (by kernel_rfl) ?_) | (refine wpL_load1S hst rfl rfl 2 rfl rfl rfl (by kernel_rfl) ?_) | (refine wpL_load1S hst rfl rfl 3 rfl rfl rfl (by kernel_rfl) ?_)); refine TextQ.mk ⟨fun h => by simp at h, ?_⟩ rfl
  refine Ord.cut 1 28 rfl rfl rfl rfl (by kernel_rfl) (by kernel_rfl) ?_; simp only [List.take_succ_cons, List.take_zero, List.drop_succ_cons, List.drop_zero, List.filterMap_cons, List.filterMap_nil, List.getElem?_cons_succ, List.getElem?_cons_zero]
  refine wpL_yes rfl (wpL_neq_cfg rfl _ _ _ rfl ⟨V, D, H, B, F, C⟩ rfl rfl ?_)
  refine TextQ.mk ⟨fun h => by simp at h, ?_⟩ ?_
  case refine_2 => repeat' (first | exact rfl | exact fine_cfgB ⟨V, D, H, B, F, C⟩ rfl rfl rfl | refine fine_cons ?_ ?_)
  refine Ord.cut 6 34 rfl rfl rfl rfl (by kernel_rfl) (by kernel_rfl) ?_; simp only [List.take_succ_cons, List.take_zero, List.drop_succ_cons, List.drop_zero, List.filterMap_cons, List.filterMap_nil, List.getElem?_cons_succ, List.getElem?_cons_zero]; go_wp2_with fail; refine TextQ.mk ⟨fun h => by simp at h, ?_⟩ rfl
  refine Ord.cut 1 35 rfl rfl rfl rfl (by kernel_rfl) (by kernel_rfl) ?_; simp only [List.take_succ_cons, List.take_zero, List.drop_succ_cons, List.drop_zero, List.filterMap_cons, List.filterMap_nil, List.getElem?_cons_succ, List.getElem?_cons_zero]
  go_wp2_with (go_at_call 46; refine (RW.out _ _ (hst.blk 0 rfl)).mono ?_; rintro e1 w1 ⟨V1, rfl, hV1, ho1⟩)
  refine TextQ.mk ⟨fun _ => ho1, ?_⟩ rfl
  replace hst := hst.keep ho1
  clear ho1
  refine Ord.cut 4 39 rfl rfl rfl rfl (by kernel_rfl) (by kernel_rfl) ?_; simp only [List.take_succ_cons, List.take_zero, List.drop_succ_cons, List.drop_zero, List.filterMap_cons, List.filterMap_nil, List.getElem?_cons_succ, List.getElem?_cons_zero]; go_wp2_with fail; refine TextQ.mk ⟨fun h => by simp at h, ?_⟩ rfl
  refine Ord.cut 1 40 rfl rfl rfl rfl (by kernel_rfl) (by kernel_rfl) ?_; simp only [List.take_succ_cons, List.take_zero, List.drop_succ_cons, List.drop_zero, List.filterMap_cons, List.filterMap_nil, List.getElem?_cons_succ, List.getElem?_cons_zero]
  go_wp2_with (go_at_call 46; refine (RW.out _ _ (hst.blk 1 rfl)).mono ?_; rintro e1 w1 ⟨V2, rfl, hV2, ho1⟩)
  refine TextQ.mk ⟨fun _ => ho1, ?_⟩ rfl
  replace hst := hst.keep ho1
  replace hV1 := hV1.keep ho1
  clear ho1
  refine Ord.cut 1 41 rfl rfl rfl rfl (by kernel_rfl) (by kernel_rfl) ?_; simp only [List.take_succ_cons, List.take_zero, List.drop_succ_cons, List.drop_zero, List.filterMap_cons, List.filterMap_nil, List.getElem?_cons_succ, List.getElem?_cons_zero]
  go_wp2_with (go_at_call 45; refine (IN.out _ _ _ hV1 hV2).mono ?_; rintro e1 w1 ⟨rfl, ho1⟩)
  refine TextQ.mk ⟨fun _ => ho1, ?_⟩ rfl
  replace hst := hst.keep ho1
  clear ho1 hV1 hV2
  refine Ord.cut 2 43 rfl rfl rfl rfl (by kernel_rfl) (by kernel_rfl) ?_; simp only [List.take_succ_cons, List.take_zero, List.drop_succ_cons, List.drop_zero, List.filterMap_cons, List.filterMap_nil, List.getElem?_cons_succ, List.getElem?_cons_zero]; go_wp2_with fail; refine TextQ.mk ⟨fun h => by simp at h, ?_⟩ rfl
  refine Ord.done ?_
  go_wp2_with (first
    | (refine wpL_catS rfl rfl _ _ _ rfl rfl rfl (by simp; omega) ?_)
    | (go_at_call 42; (with_reducible refine (PX.out _).mono ?_); rintro e1 w1 ⟨rfl, ho1⟩; replace hst := hst.keep ho1; clear ho1)
    | (go_at_call 42; (with_reducible refine (PY.out _).mono ?_); rintro e1 w1 ⟨rfl, ho1⟩; replace hst := hst.keep ho1; clear ho1))
  replace hst := hst.drew
  refine wp_region_ord [11] [0, 1, 2, 3, 4, 5, 6, 7, 8, 9, 10, 12, 13, 14, 15, 16, 17, 19, 20, 21, 22, 23, 24, 11, 18, 25, 26, 27] (by kernel_rfl) (by kernel_rfl) ?_
  generalize World.drew _ = W at *
  refine Ord.cut 10 9 rfl rfl rfl rfl (by kernel_rfl) (by kernel_rfl) ?_; simp only [List.take_succ_cons, List.take_zero, List.drop_succ_cons, List.drop_zero, List.filterMap_cons, List.filterMap_nil, List.getElem?_cons_succ, List.getElem?_cons_zero]; go_wp2_with fail; refine TextQ.mk ⟨fun h => by simp at h, ?_⟩ rfl
  refine Ord.cut 1 10 rfl rfl rfl rfl (by kernel_rfl) (by kernel_rfl) ?_; simp only [List.take_succ_cons, List.take_zero, List.drop_succ_cons, List.drop_zero, List.filterMap_cons, List.filterMap_nil, List.getElem?_cons_succ, List.getElem?_cons_zero]; (try refine wpL_peel rfl rfl ?_); (first | (refine wpL_loadAtS hst rfl (ty := 36) rfl 0 rfl rfl (by kernel_rfl) 6 (by kernel_rfl) [_, _, _, _, _, _] rfl rfl ?_) | (refine wpL_loadAtS hst rfl (ty := 36) rfl 1 rfl rfl (by kernel_rfl) 6 (by kernel_rfl) [_, _, _, _, _, _] rfl rfl ?_) | (refine wpL_loadAtS hst rfl (ty := 36) rfl 2 rfl rfl (by kernel_rfl) 6 (by kernel_rfl) [_, _, _, _, _, _] rfl rfl ?_) | (refine wpL_loadAtS hst rfl (ty := 36) rfl 3 rfl rfl (by kernel_rfl) 6 (by kernel_rfl) [_, _, _, _, _, _] rfl rfl ?_) | (refine wpL_load1S hst rfl rfl 0 rfl rfl rfl (by kernel_rfl) ?_) | (refine wpL_load1S hst rfl rfl 1 rfl rfl rfl (by kernel_rfl) ?_) | (refine wpL_load1S hst rfl rfl 2 rfl rfl rfl (by kernel_rfl) ?_) | (refine wpL_load1S hst rfl rfl 3 rfl rfl rfl (by kernel_rfl) ?_)); refine TextQ.mk ⟨fun h => by simp at h, ?_⟩ rfl
  refine Ord.cut 5 16 rfl rfl rfl rfl (by kernel_rfl) (by kernel_rfl) ?_; simp only [List.take_succ_cons, List.take_zero, List.drop_succ_cons, List.drop_zero, List.filterMap_cons, List.filterMap_nil, List.getElem?_cons_succ, List.getElem?_cons_zero]; go_wp2_with fail; refine TextQ.mk ⟨fun h => by simp at h, ?_⟩ rfl
  refine Ord.cut 1 17 rfl rfl rfl rfl (by kernel_rfl) (by kernel_rfl) ?_; simp only [List.take_succ_cons, List.take_zero, List.drop_succ_cons, List.drop_zero, List.filterMap_cons, List.filterMap_nil, List.getElem?_cons_succ, List.getElem?_cons_zero]; (try refine wpL_peel rfl rfl ?_); (first | (refine wpL_load1S hst rfl rfl 0 rfl rfl rfl (by kernel_rfl) ?_) | (refine wpL_load1S hst rfl rfl 1 rfl rfl rfl (by kernel_rfl) ?_) | (refine wpL_load1S hst rfl rfl 2 rfl rfl rfl (by kernel_rfl) ?_) | (refine wpL_load1S hst rfl rfl 3 rfl rfl rfl (by kernel_rfl) ?_)); refine TextQ.mk ⟨fun h => by simp at h, ?_⟩ rfl
  refine Ord.cut 5 23 rfl rfl rfl rfl (by kernel_rfl) (by kernel_rfl) ?_; simp only [List.take_succ_cons, List.take_zero, List.drop_succ_cons, List.drop_zero, List.filterMap_cons, List.filterMap_nil, List.getElem?_cons_succ, List.getElem?_cons_zero]; go_wp2_with fail; refine TextQ.mk ⟨fun h => by simp at h, ?_⟩ rfl
  refine Ord.cut 1 24 rfl rfl rfl rfl (by kernel_rfl) (by kernel_rfl) ?_; simp only [List.take_succ_cons, List.take_zero, List.drop_succ_cons, List.drop_zero, List.filterMap_cons, List.filterMap_nil, List.getElem?_cons_succ, List.getElem?_cons_zero]; (try refine wpL_peel rfl rfl ?_); (first | (refine wpL_load1S hst rfl rfl 0 rfl rfl rfl (by kernel_rfl) ?_) | (refine wpL_load1S hst rfl rfl 1 rfl rfl rfl (by kernel_rfl) ?_) | (refine wpL_load1S hst rfl rfl 2 rfl rfl rfl (by kernel_rfl) ?_) | (refine wpL_load1S hst rfl rfl 3 rfl rfl rfl (by kernel_rfl) ?_)); refine TextQ.mk ⟨fun h => by simp at h, ?_⟩ rfl
  refine Ord.cut 1 11 rfl rfl rfl rfl (by kernel_rfl) (by kernel_rfl) ?_; simp only [List.take_succ_cons, List.take_zero, List.drop_succ_cons, List.drop_zero, List.filterMap_cons, List.filterMap_nil, List.getElem?_cons_succ, List.getElem?_cons_zero]
  go_wp2_with (go_at_call 47; refine (HDM.out _).mono ?_; rintro e1 w1 ⟨rfl, ho1⟩)
  refine TextQ.mk ⟨fun _ => ho1, ?_⟩ rfl
  replace hst := hst.keep ho1
  clear ho1
  refine Ord.cut 4 27 rfl rfl rfl rfl (by kernel_rfl) (by kernel_rfl) ?_; simp only [List.take_succ_cons, List.take_zero, List.drop_succ_cons, List.drop_zero, List.filterMap_cons, List.filterMap_nil, List.getElem?_cons_succ, List.getElem?_cons_zero]; go_wp2_with fail; refine TextQ.mk ⟨fun h => by simp at h, ?_⟩ rfl
  refine Ord.done ?_
  go_wp2_with fail
  go_ret
  exact ⟨rfl, hst.only⟩

theorem back_any (c : Cfg) (s : ByteArray) (p k a : Int) (w : World) :
    Calls Try.prog 8 #[.agg c.cells.toArray, .string s, .int .i64 p, .int .i64 k, .int .i64 a] w fun e w' => e = .returned (.bool true) ∧ Only [] w w' := by
  by_cases h : CanBe c ∧ (s.size : Int) = c.all
  · exact back_yes c s p k a w h.1 h.2
  · exact back_no c s p k a w h

end Go.Proofs.Ytgdifegbpbnekaa
