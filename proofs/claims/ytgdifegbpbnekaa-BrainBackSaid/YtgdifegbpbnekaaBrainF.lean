/- Models: read from bytes; compared. -/
import Derived.Test.YtgdifegbpbnekaaBrainE
namespace Go.Proofs.Ytgdifegbpbnekaa
open Go.RowKit

set_option maxRecDepth 100000 in
set_option maxHeartbeats 4000000 in
theorem brainSame_yes (b1 b2 : Nat) (c : Cfg) (s : ByteArray) (w : World) (h1 : Blk w b1 (brnC c s) 38) (h2 : Blk w b2 (brnC c s) 38) (hs : s.size ≤ 100000) :
    Calls Try.prog 19 #[.pointer (some ⟨b1, 0, none⟩), .pointer (some ⟨b2, 0, none⟩)] w fun e w' => e = .returned (.bool true) ∧ Only [] w w' := by
  have B1 : Hid (∀ w', Only [] w w' → Calls Try.prog 41 #[.pointer (some ⟨b1, 0, none⟩)] w' fun e w'' => e = .returned (.string (c.bytes ++ s)) ∧ Only [] w' w'') := fun w' ho => brainBytes_any b1 c s w' (h1.keep ho) hs
  have B2 : Hid (∀ w', Only [] w w' → Calls Try.prog 41 #[.pointer (some ⟨b2, 0, none⟩)] w' fun e w'' => e = .returned (.string (c.bytes ++ s)) ∧ Only [] w' w'') := fun w' ho => brainBytes_any b2 c s w' (h2.keep ho) hs
  have hst := St.start w []
  generalize c.bytes ++ s = T at *
  clear h1 h2
  go_enter Try.func19, Try.ntmps19
  go_wp2_with (first
    | ((with_reducible refine wpL_peel rfl ?_ ?_); focus (go_simp; done)) | ((with_reducible refine wpL_isLoad rfl ?_); first | (refine wpL_load1S hst rfl rfl 0 rfl rfl rfl (by kernel_rfl) ?_) | (refine wpL_load1S hst rfl rfl 1 rfl rfl rfl (by kernel_rfl) ?_) | (refine wpL_load1S hst rfl rfl 2 rfl rfl rfl (by kernel_rfl) ?_) | (refine wpL_load1S hst rfl rfl 3 rfl rfl rfl (by kernel_rfl) ?_))
    | (go_at_call 41; (with_reducible refine (B1.out _ hst.only).mono ?_); rintro e1 w1 ⟨rfl, ho1⟩; replace hst := hst.keep ho1; clear ho1)
    | (go_at_call 41; (with_reducible refine (B2.out _ hst.only).mono ?_); rintro e1 w1 ⟨rfl, ho1⟩; replace hst := hst.keep ho1; clear ho1)
    | (refine wpL_eql_same rfl _ _ _ _ rfl T rfl rfl ?_))
  go_ret
  exact ⟨rfl, hst.only⟩

set_option maxRecDepth 100000 in
set_option maxHeartbeats 4000000 in
theorem brainSame_no (b1 b2 : Nat) (c1 c2 : Cfg) (s1 s2 : ByteArray) (w : World) (h1 : Blk w b1 (brnC c1 s1) 38) (h2 : Blk w b2 (brnC c2 s2) 38) (hs1 : s1.size ≤ 100000) (hs2 : s2.size ≤ 100000) (hne : c1.bytes ++ s1 ≠ c2.bytes ++ s2) :
    Calls Try.prog 19 #[.pointer (some ⟨b1, 0, none⟩), .pointer (some ⟨b2, 0, none⟩)] w fun e w' => e = .returned (.bool false) ∧ Only [] w w' := by
  have B1 : Hid (∀ w', Only [] w w' → Calls Try.prog 41 #[.pointer (some ⟨b1, 0, none⟩)] w' fun e w'' => e = .returned (.string (c1.bytes ++ s1)) ∧ Only [] w' w'') := fun w' ho => brainBytes_any b1 c1 s1 w' (h1.keep ho) hs1
  have B2 : Hid (∀ w', Only [] w w' → Calls Try.prog 41 #[.pointer (some ⟨b2, 0, none⟩)] w' fun e w'' => e = .returned (.string (c2.bytes ++ s2)) ∧ Only [] w' w'') := fun w' ho => brainBytes_any b2 c2 s2 w' (h2.keep ho) hs2
  have hst := St.start w []
  generalize c1.bytes ++ s1 = T1 at *
  generalize c2.bytes ++ s2 = T2 at *
  have hq := str_neq hne
  clear h1 h2 hne
  go_enter Try.func19, Try.ntmps19
  go_wp2_with (first
    | ((with_reducible refine wpL_peel rfl ?_ ?_); focus (go_simp; done)) | ((with_reducible refine wpL_isLoad rfl ?_); first | (refine wpL_load1S hst rfl rfl 0 rfl rfl rfl (by kernel_rfl) ?_) | (refine wpL_load1S hst rfl rfl 1 rfl rfl rfl (by kernel_rfl) ?_) | (refine wpL_load1S hst rfl rfl 2 rfl rfl rfl (by kernel_rfl) ?_) | (refine wpL_load1S hst rfl rfl 3 rfl rfl rfl (by kernel_rfl) ?_))
    | (go_at_call 41; (with_reducible refine (B1.out _ hst.only).mono ?_); rintro e1 w1 ⟨rfl, ho1⟩; replace hst := hst.keep ho1; clear ho1)
    | (go_at_call 41; (with_reducible refine (B2.out _ hst.only).mono ?_); rintro e1 w1 ⟨rfl, ho1⟩; replace hst := hst.keep ho1; clear ho1))
  go_ret
  exact ⟨rfl, hst.only⟩

theorem bytes_cut (c : Cfg) (t : ByteArray) : (c.bytes ++ t).extract 0 24 = c.bytes ∧ (c.bytes ++ t).extract 24 (c.bytes ++ t).size = t := by
  have hb : (bl c.bytes).length = 24 := by rw [bl_length]; rfl
  have hap : bl (c.bytes ++ t) = bl c.bytes ++ bl t := by unfold bl; rw [ByteArray.data_append, Array.toList_append]
  constructor
  · refine bl_ext ?_
    rw [bl_extract, hap, List.drop_zero, List.take_left' hb]
  · refine bl_ext ?_
    rw [bl_extract, ← bl_length (c.bytes ++ t), List.take_length, hap, List.drop_left' hb]
theorem bytes_size (c : Cfg) (t : ByteArray) : (c.bytes ++ t).size = 24 + t.size := by
  rw [ByteArray.size_append]
  rfl

set_option maxRecDepth 100000 in
set_option maxHeartbeats 4000000 in
theorem brainParse_yes (c : Cfg) (t : ByteArray) (h : CanBe c) (ht : (t.size : Int) = c.all) (w : World) :
    Calls Try.prog 42 #[.string (c.bytes ++ t)] w fun e w' => ∃ b, e = .returned (.tuple #[.pointer (some ⟨b, 0, none⟩), .int .i64 0]) ∧ w.heap.size ≤ b ∧ Blk w' b (brnC c t) 38 ∧ Only [] w w' := by
  have hst := St.start w []
  have PC : Hid (∀ w, Calls Try.prog 108 #[.string ((c.bytes ++ t).extract 0 24)] w fun e w' => e = .returned (.tuple #[.agg #[.int .i64 c.V, .int .i64 c.D, .int .i64 c.H, .int .i64 c.B, .int .i64 c.F, .int .i64 c.C], .int .i64 0]) ∧ Only [] w w') := fun w => by
    rw [(bytes_cut c t).1]
    exact confParse_any c.bytes _ (fun _ => by rw [six_bytes h.fit]; rfl) (fun hn => absurd (fits_bytes h) hn) w
  have OF : Hid (∀ w, Calls Try.prog 14 #[.agg #[.int .i64 c.V, .int .i64 c.D, .int .i64 c.H, .int .i64 c.B, .int .i64 c.F, .int .i64 c.C], .string ((c.bytes ++ t).extract 24 (c.bytes ++ t).size)] w fun e w' => ∃ b, e = .returned (.tuple #[.pointer (some ⟨b, 0, none⟩), .int .i64 0]) ∧ w.heap.size ≤ b ∧ Blk w' b (brnC c t) 38 ∧ Only [] w w') := fun w => by
    rw [(bytes_cut c t).2]
    exact brainOf_yes c t h ht w
  have hsz := bytes_size c t
  have hall := h.all
  have z1 : (24 : Int) ≤ (c.bytes ++ t).size := by omega
  have z2 : ((c.bytes ++ t).size : Int) ≤ 9000 := by omega
  have d1 : decide (((c.bytes ++ t).size : Int) < 24) = false := decide_eq_false (by omega)
  generalize c.bytes ++ t = T at *
  generalize c.V = V at *
  generalize c.D = D at *
  generalize c.H = H at *
  generalize c.B = B at *
  generalize c.F = F at *
  generalize c.C = C at *
  clear h ht hall hsz
  go_enter Try.func42, Try.ntmps42
  go_wp2_with (first
    | ((with_reducible refine wpL_peel rfl ?_ ?_); focus (go_simp; done)) | ((with_reducible refine wpL_isLoad rfl ?_); first | (refine wpL_loadAtS hst rfl (ty := 23) rfl 0 rfl rfl (by kernel_rfl) 6 (by kernel_rfl) [_, _, _, _, _, _] rfl rfl ?_) | (refine wpL_loadAtS hst rfl (ty := 23) rfl 1 rfl rfl (by kernel_rfl) 6 (by kernel_rfl) [_, _, _, _, _, _] rfl rfl ?_) | (refine wpL_loadAtS hst rfl (ty := 23) rfl 2 rfl rfl (by kernel_rfl) 6 (by kernel_rfl) [_, _, _, _, _, _] rfl rfl ?_) | (refine wpL_loadAtS hst rfl (ty := 23) rfl 3 rfl rfl (by kernel_rfl) 6 (by kernel_rfl) [_, _, _, _, _, _] rfl rfl ?_) | (refine wpL_load1S hst rfl rfl 0 rfl rfl rfl (by kernel_rfl) ?_) | (refine wpL_load1S hst rfl rfl 1 rfl rfl rfl (by kernel_rfl) ?_) | (refine wpL_load1S hst rfl rfl 2 rfl rfl rfl (by kernel_rfl) ?_) | (refine wpL_load1S hst rfl rfl 3 rfl rfl rfl (by kernel_rfl) ?_))
    | ((with_reducible refine wpL_isStore rfl ?_); first | (refine wpL_storeS hst rfl (ty := 36) rfl 0 rfl rfl rfl (by kernel_rfl) (by kernel_rfl) rfl rfl ?_; clear hst; intro w1 hst; simp only [List.set] at hst) | (refine wpL_storeS hst rfl (ty := 36) rfl 1 rfl rfl rfl (by kernel_rfl) (by kernel_rfl) rfl rfl ?_; clear hst; intro w1 hst; simp only [List.set] at hst) | (refine wpL_storeS hst rfl (ty := 36) rfl 2 rfl rfl rfl (by kernel_rfl) (by kernel_rfl) rfl rfl ?_; clear hst; intro w1 hst; simp only [List.set] at hst) | (refine wpL_storeS hst rfl (ty := 36) rfl 3 rfl rfl rfl (by kernel_rfl) (by kernel_rfl) rfl rfl ?_; clear hst; intro w1 hst; simp only [List.set] at hst) | (refine wpL_store1S hst rfl rfl 0 rfl rfl rfl rfl (by kernel_rfl) rfl ?_; clear hst; intro w1 hst; simp only [List.set] at hst) | (refine wpL_store1S hst rfl rfl 1 rfl rfl rfl rfl (by kernel_rfl) rfl ?_; clear hst; intro w1 hst; simp only [List.set] at hst) | (refine wpL_store1S hst rfl rfl 2 rfl rfl rfl rfl (by kernel_rfl) rfl ?_; clear hst; intro w1 hst; simp only [List.set] at hst) | (refine wpL_store1S hst rfl rfl 3 rfl rfl rfl rfl (by kernel_rfl) rfl ?_; clear hst; intro w1 hst; simp only [List.set] at hst))
    | ((with_reducible refine wpL_isAlloc rfl ?_); refine wpL_allocS hst rfl 36 rfl (.agg #[.int .i64 0, .int .i64 0, .int .i64 0, .int .i64 0, .int .i64 0, .int .i64 0]) [.int .i64 0, .int .i64 0, .int .i64 0, .int .i64 0, .int .i64 0, .int .i64 0] (by kernel_rfl) rfl _ rfl ?_; clear hst; intro w1 b1 hb1 hst)
    | (go_at_call 108; (with_reducible refine (PC.out _).mono ?_); rintro e1 w1 ⟨rfl, ho1⟩; replace hst := hst.keep ho1; clear ho1))
  refine wp_region_ord [4] [0, 1, 2, 3, 4, 5, 6, 7, 8] (by kernel_rfl) (by kernel_rfl) ?_
  have hst := hst.drew
  generalize World.drew _ = W at *
  refine Ord.cut 1 0 rfl rfl rfl rfl (by kernel_rfl) (by kernel_rfl) ?_; simp only [List.take_succ_cons, List.take_zero, List.drop_succ_cons, List.drop_zero, List.filterMap_cons, List.filterMap_nil, List.getElem?_cons_succ, List.getElem?_cons_zero]
  go_wp2_with fail
  refine TextQ.mk ⟨fun h => by simp at h, ?_⟩ rfl
  refine Ord.cut 1 1 rfl rfl rfl rfl (by kernel_rfl) (by kernel_rfl) ?_; simp only [List.take_succ_cons, List.take_zero, List.drop_succ_cons, List.drop_zero, List.filterMap_cons, List.filterMap_nil, List.getElem?_cons_succ, List.getElem?_cons_zero]
  (first | (refine wpL_loadAtS hst rfl (ty := 23) rfl 0 rfl rfl (by kernel_rfl) 6 (by kernel_rfl) [_, _, _, _, _, _] rfl rfl ?_) | (refine wpL_loadAtS hst rfl (ty := 23) rfl 1 rfl rfl (by kernel_rfl) 6 (by kernel_rfl) [_, _, _, _, _, _] rfl rfl ?_) | (refine wpL_loadAtS hst rfl (ty := 23) rfl 2 rfl rfl (by kernel_rfl) 6 (by kernel_rfl) [_, _, _, _, _, _] rfl rfl ?_) | (refine wpL_loadAtS hst rfl (ty := 23) rfl 3 rfl rfl (by kernel_rfl) 6 (by kernel_rfl) [_, _, _, _, _, _] rfl rfl ?_) | (refine wpL_load1S hst rfl rfl 0 rfl rfl rfl (by kernel_rfl) ?_) | (refine wpL_load1S hst rfl rfl 1 rfl rfl rfl (by kernel_rfl) ?_) | (refine wpL_load1S hst rfl rfl 2 rfl rfl rfl (by kernel_rfl) ?_) | (refine wpL_load1S hst rfl rfl 3 rfl rfl rfl (by kernel_rfl) ?_))
  refine TextQ.mk ⟨fun h => by simp at h, ?_⟩ rfl
  refine Ord.cut 2 3 rfl rfl rfl rfl (by kernel_rfl) (by kernel_rfl) ?_; simp only [List.take_succ_cons, List.take_zero, List.drop_succ_cons, List.drop_zero, List.filterMap_cons, List.filterMap_nil, List.getElem?_cons_succ, List.getElem?_cons_zero]
  go_wp2_with fail
  refine TextQ.mk ⟨fun h => by simp at h, ?_⟩ rfl
  refine Ord.cut 1 4 rfl rfl rfl rfl (by kernel_rfl) (by kernel_rfl) ?_; simp only [List.take_succ_cons, List.take_zero, List.drop_succ_cons, List.drop_zero, List.filterMap_cons, List.filterMap_nil, List.getElem?_cons_succ, List.getElem?_cons_zero]
  go_wp2_with (go_at_call 14; refine (OF.out _).mono ?_; rintro e w2 ⟨b, rfl, hb, hB, ho2⟩)
  refine TextQ.mk ⟨fun _ => ho2, ?_⟩ rfl
  have hge : w.heap.size ≤ b := Nat.le_trans hst.only.size hb
  refine Ord.cut 4 8 rfl rfl rfl rfl (by kernel_rfl) (by kernel_rfl) ?_; simp only [List.take_succ_cons, List.take_zero, List.drop_succ_cons, List.drop_zero, List.filterMap_cons, List.filterMap_nil, List.getElem?_cons_succ, List.getElem?_cons_zero]
  go_wp2_with fail
  refine TextQ.mk ⟨fun h => by simp at h, ?_⟩ rfl
  refine Ord.done ?_
  go_wp2_with fail
  go_ret2
  exact ⟨b, rfl, hge, hB, hst.only.trans ho2⟩

set_option maxRecDepth 100000 in
set_option maxHeartbeats 4000000 in
theorem brainParse_len (c : Cfg) (t : ByteArray) (h : CanBe c) (ht : (t.size : Int) ≠ c.all) (hs : t.size ≤ 100000) (w : World) :
    Calls Try.prog 42 #[.string (c.bytes ++ t)] w fun e w' => e = .returned (.tuple #[.pointer none, .int .i64 5]) ∧ Only [] w w' := by
  have hst := St.start w []
  have PC : Hid (∀ w, Calls Try.prog 108 #[.string ((c.bytes ++ t).extract 0 24)] w fun e w' => e = .returned (.tuple #[.agg #[.int .i64 c.V, .int .i64 c.D, .int .i64 c.H, .int .i64 c.B, .int .i64 c.F, .int .i64 c.C], .int .i64 0]) ∧ Only [] w w') := fun w => by
    rw [(bytes_cut c t).1]
    exact confParse_any c.bytes _ (fun _ => by rw [six_bytes h.fit]; rfl) (fun hn => absurd (fits_bytes h) hn) w
  have OF : Hid (∀ w, Calls Try.prog 14 #[.agg #[.int .i64 c.V, .int .i64 c.D, .int .i64 c.H, .int .i64 c.B, .int .i64 c.F, .int .i64 c.C], .string ((c.bytes ++ t).extract 24 (c.bytes ++ t).size)] w fun e w' => e = .returned (.tuple #[.pointer none, .int .i64 5]) ∧ Only [] w w') := fun w => by
    rw [(bytes_cut c t).2]
    exact brainOf_len c t h ht w
  have hsz := bytes_size c t
  have z1 : (24 : Int) ≤ (c.bytes ++ t).size := by omega
  have z2 : ((c.bytes ++ t).size : Int) ≤ 101000 := by omega
  have d1 : decide (((c.bytes ++ t).size : Int) < 24) = false := decide_eq_false (by omega)
  generalize c.bytes ++ t = T at *
  generalize c.V = V at *
  generalize c.D = D at *
  generalize c.H = H at *
  generalize c.B = B at *
  generalize c.F = F at *
  generalize c.C = C at *
  clear h ht hsz hs
  go_enter Try.func42, Try.ntmps42
  go_wp2_with (first
    | ((with_reducible refine wpL_peel rfl ?_ ?_); focus (go_simp; done)) | ((with_reducible refine wpL_isLoad rfl ?_); first | (refine wpL_loadAtS hst rfl (ty := 23) rfl 0 rfl rfl (by kernel_rfl) 6 (by kernel_rfl) [_, _, _, _, _, _] rfl rfl ?_) | (refine wpL_loadAtS hst rfl (ty := 23) rfl 1 rfl rfl (by kernel_rfl) 6 (by kernel_rfl) [_, _, _, _, _, _] rfl rfl ?_) | (refine wpL_loadAtS hst rfl (ty := 23) rfl 2 rfl rfl (by kernel_rfl) 6 (by kernel_rfl) [_, _, _, _, _, _] rfl rfl ?_) | (refine wpL_loadAtS hst rfl (ty := 23) rfl 3 rfl rfl (by kernel_rfl) 6 (by kernel_rfl) [_, _, _, _, _, _] rfl rfl ?_) | (refine wpL_load1S hst rfl rfl 0 rfl rfl rfl (by kernel_rfl) ?_) | (refine wpL_load1S hst rfl rfl 1 rfl rfl rfl (by kernel_rfl) ?_) | (refine wpL_load1S hst rfl rfl 2 rfl rfl rfl (by kernel_rfl) ?_) | (refine wpL_load1S hst rfl rfl 3 rfl rfl rfl (by kernel_rfl) ?_))
    | ((with_reducible refine wpL_isStore rfl ?_); first | (refine wpL_storeS hst rfl (ty := 36) rfl 0 rfl rfl rfl (by kernel_rfl) (by kernel_rfl) rfl rfl ?_; clear hst; intro w1 hst; simp only [List.set] at hst) | (refine wpL_storeS hst rfl (ty := 36) rfl 1 rfl rfl rfl (by kernel_rfl) (by kernel_rfl) rfl rfl ?_; clear hst; intro w1 hst; simp only [List.set] at hst) | (refine wpL_storeS hst rfl (ty := 36) rfl 2 rfl rfl rfl (by kernel_rfl) (by kernel_rfl) rfl rfl ?_; clear hst; intro w1 hst; simp only [List.set] at hst) | (refine wpL_storeS hst rfl (ty := 36) rfl 3 rfl rfl rfl (by kernel_rfl) (by kernel_rfl) rfl rfl ?_; clear hst; intro w1 hst; simp only [List.set] at hst) | (refine wpL_store1S hst rfl rfl 0 rfl rfl rfl rfl (by kernel_rfl) rfl ?_; clear hst; intro w1 hst; simp only [List.set] at hst) | (refine wpL_store1S hst rfl rfl 1 rfl rfl rfl rfl (by kernel_rfl) rfl ?_; clear hst; intro w1 hst; simp only [List.set] at hst) | (refine wpL_store1S hst rfl rfl 2 rfl rfl rfl rfl (by kernel_rfl) rfl ?_; clear hst; intro w1 hst; simp only [List.set] at hst) | (refine wpL_store1S hst rfl rfl 3 rfl rfl rfl rfl (by kernel_rfl) rfl ?_; clear hst; intro w1 hst; simp only [List.set] at hst))
    | ((with_reducible refine wpL_isAlloc rfl ?_); refine wpL_allocS hst rfl 36 rfl (.agg #[.int .i64 0, .int .i64 0, .int .i64 0, .int .i64 0, .int .i64 0, .int .i64 0]) [.int .i64 0, .int .i64 0, .int .i64 0, .int .i64 0, .int .i64 0, .int .i64 0] (by kernel_rfl) rfl _ rfl ?_; clear hst; intro w1 b1 hb1 hst)
    | (go_at_call 108; (with_reducible refine (PC.out _).mono ?_); rintro e1 w1 ⟨rfl, ho1⟩; replace hst := hst.keep ho1; clear ho1))
  refine wp_region_ord [4] [0, 1, 2, 3, 4, 5, 6, 7, 8] (by kernel_rfl) (by kernel_rfl) ?_
  have hst := hst.drew
  generalize World.drew _ = W at *
  refine Ord.cut 1 0 rfl rfl rfl rfl (by kernel_rfl) (by kernel_rfl) ?_; simp only [List.take_succ_cons, List.take_zero, List.drop_succ_cons, List.drop_zero, List.filterMap_cons, List.filterMap_nil, List.getElem?_cons_succ, List.getElem?_cons_zero]
  go_wp2_with fail
  refine TextQ.mk ⟨fun h => by simp at h, ?_⟩ rfl
  refine Ord.cut 1 1 rfl rfl rfl rfl (by kernel_rfl) (by kernel_rfl) ?_; simp only [List.take_succ_cons, List.take_zero, List.drop_succ_cons, List.drop_zero, List.filterMap_cons, List.filterMap_nil, List.getElem?_cons_succ, List.getElem?_cons_zero]
  (first | (refine wpL_loadAtS hst rfl (ty := 23) rfl 0 rfl rfl (by kernel_rfl) 6 (by kernel_rfl) [_, _, _, _, _, _] rfl rfl ?_) | (refine wpL_loadAtS hst rfl (ty := 23) rfl 1 rfl rfl (by kernel_rfl) 6 (by kernel_rfl) [_, _, _, _, _, _] rfl rfl ?_) | (refine wpL_loadAtS hst rfl (ty := 23) rfl 2 rfl rfl (by kernel_rfl) 6 (by kernel_rfl) [_, _, _, _, _, _] rfl rfl ?_) | (refine wpL_loadAtS hst rfl (ty := 23) rfl 3 rfl rfl (by kernel_rfl) 6 (by kernel_rfl) [_, _, _, _, _, _] rfl rfl ?_) | (refine wpL_load1S hst rfl rfl 0 rfl rfl rfl (by kernel_rfl) ?_) | (refine wpL_load1S hst rfl rfl 1 rfl rfl rfl (by kernel_rfl) ?_) | (refine wpL_load1S hst rfl rfl 2 rfl rfl rfl (by kernel_rfl) ?_) | (refine wpL_load1S hst rfl rfl 3 rfl rfl rfl (by kernel_rfl) ?_))
  refine TextQ.mk ⟨fun h => by simp at h, ?_⟩ rfl
  refine Ord.cut 2 3 rfl rfl rfl rfl (by kernel_rfl) (by kernel_rfl) ?_; simp only [List.take_succ_cons, List.take_zero, List.drop_succ_cons, List.drop_zero, List.filterMap_cons, List.filterMap_nil, List.getElem?_cons_succ, List.getElem?_cons_zero]
  go_wp2_with fail
  refine TextQ.mk ⟨fun h => by simp at h, ?_⟩ rfl
  refine Ord.cut 1 4 rfl rfl rfl rfl (by kernel_rfl) (by kernel_rfl) ?_; simp only [List.take_succ_cons, List.take_zero, List.drop_succ_cons, List.drop_zero, List.filterMap_cons, List.filterMap_nil, List.getElem?_cons_succ, List.getElem?_cons_zero]
  go_wp2_with (go_at_call 14; refine (OF.out _).mono ?_; rintro e w2 ⟨rfl, ho2⟩)
  refine TextQ.mk ⟨fun _ => ho2, ?_⟩ rfl
  refine Ord.cut 4 8 rfl rfl rfl rfl (by kernel_rfl) (by kernel_rfl) ?_; simp only [List.take_succ_cons, List.take_zero, List.drop_succ_cons, List.drop_zero, List.filterMap_cons, List.filterMap_nil, List.getElem?_cons_succ, List.getElem?_cons_zero]
  go_wp2_with fail
  refine TextQ.mk ⟨fun h => by simp at h, ?_⟩ rfl
  refine Ord.done ?_
  go_wp2_with fail
  go_ret2
  exact ⟨rfl, hst.only.trans ho2⟩

end Go.Proofs.Ytgdifegbpbnekaa
