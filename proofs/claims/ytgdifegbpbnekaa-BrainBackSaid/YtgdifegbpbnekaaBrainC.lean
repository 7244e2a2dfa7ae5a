/- Models: their tables. -/
import Derived.Test.YtgdifegbpbnekaaBrainB
import Derived.Test.YtgdifegbpbnekaaBrainP
import Derived.Test.YtgdifegbpbnekaaSt
namespace Go.Proofs.Ytgdifegbpbnekaa
open Go.RowKit

set_option maxRecDepth 100000 in
set_option maxHeartbeats 4000000 in
theorem brainTable_no (b : Nat) (c : Cfg) (s : ByteArray) (p k : Int) (h : CanBe c) (hi : inR c p k = false) (w : World) (hb : Blk w b (brnC c s) 38) :
    Calls Try.prog 15 #[.pointer (some ⟨b, 0, none⟩), .int .i64 p, .int .i64 k] w fun e w' => e = .returned (.tuple #[.agg #[.int .i64 0, .int .i64 0, .slice none 0 0], .bool false]) ∧ Only [] w w' := by
  have RG : Hid (∀ w, Calls Try.prog 84 #[.agg #[.int .i64 c.V, .int .i64 c.D, .int .i64 c.H, .int .i64 c.B, .int .i64 c.F, .int .i64 c.C], .int .i64 p, .int .i64 k] w fun e w' => e = .returned (.tuple #[.int .i64 0, .int .i64 0, .bool false]) ∧ Only [] w w') := fun w => by rw [← told_out h.fit hi]; exact range_told c p k h w
  have hst := St.with (S := []) hb
  unfold brnC Cfg.cells at hst
  simp only [List.cons_append, List.nil_append] at hst
  generalize c.V = V at *
  generalize c.D = D at *
  generalize c.H = H at *
  generalize c.B = B at *
  generalize c.F = F at *
  generalize c.C = C at *
  clear hb hi h
  go_enter Try.func15, Try.ntmps15
  go_wp2_with (first
    | ((with_reducible refine wpL_isAlloc rfl ?_); refine wpL_allocS hst rfl 31 rfl (.agg #[.int .i64 0, .int .i64 0, .slice none 0 0]) [.int .i64 0, .int .i64 0, .slice none 0 0] (by kernel_rfl) rfl _ rfl ?_; clear hst; intro w1 b1 hb1 hst)
    | ((with_reducible refine wpL_peel rfl ?_ ?_); focus (go_simp; done)) | ((with_reducible refine wpL_isLoad rfl ?_); first | (refine wpL_loadAtS hst rfl (ty := 36) rfl 0 rfl rfl (by kernel_rfl) 6 (by kernel_rfl) [_, _, _, _, _, _] rfl rfl ?_) | (refine wpL_loadAtS hst rfl (ty := 36) rfl 1 rfl rfl (by kernel_rfl) 6 (by kernel_rfl) [_, _, _, _, _, _] rfl rfl ?_) | (refine wpL_loadAtS hst rfl (ty := 36) rfl 2 rfl rfl (by kernel_rfl) 6 (by kernel_rfl) [_, _, _, _, _, _] rfl rfl ?_) | (refine wpL_loadAtS hst rfl (ty := 36) rfl 3 rfl rfl (by kernel_rfl) 6 (by kernel_rfl) [_, _, _, _, _, _] rfl rfl ?_) | (refine wpL_load1S hst rfl rfl 0 rfl rfl rfl (by kernel_rfl) ?_) | (refine wpL_load1S hst rfl rfl 1 rfl rfl rfl (by kernel_rfl) ?_) | (refine wpL_load1S hst rfl rfl 2 rfl rfl rfl (by kernel_rfl) ?_) | (refine wpL_load1S hst rfl rfl 3 rfl rfl rfl (by kernel_rfl) ?_))
    | (go_at_call 84; (with_reducible refine (RG.out _).mono ?_); rintro e1 w1 ⟨rfl, ho1⟩; replace hst := hst.keep ho1; clear ho1)
    | ((with_reducible refine wpL_isStore rfl ?_); first | (refine wpL_storeS hst rfl (ty := 31) rfl 0 rfl rfl rfl (by kernel_rfl) (by kernel_rfl) rfl rfl ?_; clear hst; intro w1 hst; simp only [List.set] at hst) | (refine wpL_storeS hst rfl (ty := 31) rfl 1 rfl rfl rfl (by kernel_rfl) (by kernel_rfl) rfl rfl ?_; clear hst; intro w1 hst; simp only [List.set] at hst) | (refine wpL_storeS hst rfl (ty := 31) rfl 2 rfl rfl rfl (by kernel_rfl) (by kernel_rfl) rfl rfl ?_; clear hst; intro w1 hst; simp only [List.set] at hst) | (refine wpL_storeS hst rfl (ty := 31) rfl 3 rfl rfl rfl (by kernel_rfl) (by kernel_rfl) rfl rfl ?_; clear hst; intro w1 hst; simp only [List.set] at hst) | (refine wpL_store1S hst rfl rfl 0 rfl rfl rfl rfl (by kernel_rfl) rfl ?_; clear hst; intro w1 hst; simp only [List.set] at hst) | (refine wpL_store1S hst rfl rfl 1 rfl rfl rfl rfl (by kernel_rfl) rfl ?_; clear hst; intro w1 hst; simp only [List.set] at hst) | (refine wpL_store1S hst rfl rfl 2 rfl rfl rfl rfl (by kernel_rfl) rfl ?_; clear hst; intro w1 hst; simp only [List.set] at hst) | (refine wpL_store1S hst rfl rfl 3 rfl rfl rfl rfl (by kernel_rfl) rfl ?_; clear hst; intro w1 hst; simp only [List.set] at hst)))
  refine end_row_tmp2 (ty := 31) Try.results15 rfl (hst.blk 0 rfl) Try.underlying31 rfl tabInfo rfl rfl rfl ⟨rfl, hst.only⟩

theorem vecsOf_row (x y : Int) (t : ByteArray) (w : World) (hx1 : 1 ≤ x) (hx2 : x ≤ 64) (hy1 : 1 ≤ y) (hy2 : y ≤ 64) (ht : (t.size : Int) = x * y) :
    Calls Try.prog 85 #[.int .i64 x, .int .i64 y, .string t] w fun e w' => ∃ g cp rest, e = .returned (.tuple #[.agg #[.int .i64 x, .int .i64 y, .slice (some ⟨g, 0, none⟩) t.size cp], .int .i64 0]) ∧ t.size ≤ cp ∧ w.heap.size ≤ g ∧ Blk w' g (i8s (bl t) ++ rest) 142 ∧ Only [] w w' := by
  refine (vecsOf_yes x y t w hx1 hx2 hy1 hy2 ht).mono ?_
  rintro e w' ⟨V, rfl, hV, ho⟩
  have h1 : 1 * 1 ≤ x * y := Int.mul_le_mul hx1 hy1 (by omega) (by omega)
  obtain ⟨g, cp, rest, rfl, hc, hb, hB⟩ := ownsRow_blk hV (by omega)
  exact ⟨g, cp, rest, rfl, hc, hb, hB, ho⟩

set_option maxRecDepth 100000 in
set_option maxHeartbeats 4000000 in
theorem brainTable_yes (b : Nat) (c : Cfg) (s : ByteArray) (p k : Int) (h : CanBe c) (hs : (s.size : Int) = c.all) (hi : inR c p k = true) (w : World) (hb : Blk w b (brnC c s) 38) :
    Calls Try.prog 15 #[.pointer (some ⟨b, 0, none⟩), .int .i64 p, .int .i64 k] w fun e w' => ∃ g cp rest, e = .returned (.tuple #[.agg #[.int .i64 (c.side p).1, .int .i64 (c.side p).2, .slice (some ⟨g, 0, none⟩) (tabS c s p k).size cp], .bool true]) ∧ (tabS c s p k).size ≤ cp ∧ w.heap.size ≤ g ∧ Blk w' g (i8s (bl (tabS c s p k)) ++ rest) 142 ∧ Only [] w w' := by
  have hpl := inR_place h.fit hi
  have hsd := inR_side h.fit hi
  have hts := tabS_size h.fit hs hi
  have RG : Hid (∀ w, Calls Try.prog 84 #[.agg #[.int .i64 c.V, .int .i64 c.D, .int .i64 c.H, .int .i64 c.B, .int .i64 c.F, .int .i64 c.C], .int .i64 p, .int .i64 k] w fun e w' => e = .returned (.tuple #[.int .i64 (c.place p k), .int .i64 (c.sz p), .bool true]) ∧ Only [] w w') := fun w => by rw [← told_in h.fit hi]; exact range_told c p k h w
  have SD : Hid (∀ w, Calls Try.prog 17 #[.agg #[.int .i64 c.V, .int .i64 c.D, .int .i64 c.H, .int .i64 c.B, .int .i64 c.F, .int .i64 c.C], .int .i64 p] w fun e w' => e = .returned (.tuple #[.int .i64 (c.side p).1, .int .i64 (c.side p).2]) ∧ Only [] w w') := fun w => side_yes c p h w
  have OF : Hid (∀ w, Calls Try.prog 85 #[.int .i64 (c.side p).1, .int .i64 (c.side p).2, .string (tabS c s p k)] w fun e w' => ∃ g cp rest, e = .returned (.tuple #[.agg #[.int .i64 (c.side p).1, .int .i64 (c.side p).2, .slice (some ⟨g, 0, none⟩) (tabS c s p k).size cp], .int .i64 0]) ∧ (tabS c s p k).size ≤ cp ∧ w.heap.size ≤ g ∧ Blk w' g (i8s (bl (tabS c s p k)) ++ rest) 142 ∧ Only [] w w') := fun w => vecsOf_row _ _ _ w hsd.1 (by omega) hsd.2.2.1 (by omega) hts
  have hall := h.all
  obtain ⟨A, hA⟩ : ∃ A : Nat, c.place p k = (A : Int) := ⟨(c.place p k).toNat, by omega⟩
  obtain ⟨N, hN⟩ : ∃ N : Nat, c.sz p = (N : Int) := ⟨(c.sz p).toNat, by omega⟩
  have hsize : (A : Int) + N ≤ s.size := by omega
  have hs2 : (s.size : Int) ≤ 8192 := by omega
  have ET : Hid (tabS c s p k = s.extract A (A + N)) := by
    show tabS c s p k = _
    unfold tabS
    rw [hA, hN, Int.toNat_natCast, show ((A : Int) + N).toNat = A + N by omega]
  rw [hA, hN] at RG
  generalize tabS c s p k = t at *
  have hst := St.with (S := []) hb
  unfold brnC Cfg.cells at hst
  simp only [List.cons_append, List.nil_append] at hst
  generalize (c.side p).1 = x at *
  generalize (c.side p).2 = y at *
  generalize c.V = V at *
  generalize c.D = D at *
  generalize c.H = H at *
  generalize c.B = B at *
  generalize c.F = F at *
  generalize c.C = C at *
  clear hb hi h hts hA hN hpl hsd hs hall
  go_enter Try.func15, Try.ntmps15
  go_wp2_with (first
    | ((with_reducible refine wpL_isAlloc rfl ?_); refine wpL_allocS hst rfl 31 rfl (.agg #[.int .i64 0, .int .i64 0, .slice none 0 0]) [.int .i64 0, .int .i64 0, .slice none 0 0] (by kernel_rfl) rfl _ rfl ?_; clear hst; intro w1 b1 hb1 hst)
    | ((with_reducible refine wpL_peel rfl ?_ ?_); focus (go_simp; done)) | ((with_reducible refine wpL_isLoad rfl ?_); first | (refine wpL_loadAtS hst rfl (ty := 36) rfl 0 rfl rfl (by kernel_rfl) 6 (by kernel_rfl) [_, _, _, _, _, _] rfl rfl ?_) | (refine wpL_loadAtS hst rfl (ty := 36) rfl 1 rfl rfl (by kernel_rfl) 6 (by kernel_rfl) [_, _, _, _, _, _] rfl rfl ?_) | (refine wpL_loadAtS hst rfl (ty := 36) rfl 2 rfl rfl (by kernel_rfl) 6 (by kernel_rfl) [_, _, _, _, _, _] rfl rfl ?_) | (refine wpL_loadAtS hst rfl (ty := 36) rfl 3 rfl rfl (by kernel_rfl) 6 (by kernel_rfl) [_, _, _, _, _, _] rfl rfl ?_) | (refine wpL_loadAtS hst rfl (ty := 31) rfl 0 rfl rfl (by kernel_rfl) 3 (by kernel_rfl) [_, _, _] rfl rfl ?_) | (refine wpL_loadAtS hst rfl (ty := 31) rfl 1 rfl rfl (by kernel_rfl) 3 (by kernel_rfl) [_, _, _] rfl rfl ?_) | (refine wpL_loadAtS hst rfl (ty := 31) rfl 2 rfl rfl (by kernel_rfl) 3 (by kernel_rfl) [_, _, _] rfl rfl ?_) | (refine wpL_loadAtS hst rfl (ty := 31) rfl 3 rfl rfl (by kernel_rfl) 3 (by kernel_rfl) [_, _, _] rfl rfl ?_) | (refine wpL_load1S hst rfl rfl 0 rfl rfl rfl (by kernel_rfl) ?_) | (refine wpL_load1S hst rfl rfl 1 rfl rfl rfl (by kernel_rfl) ?_) | (refine wpL_load1S hst rfl rfl 2 rfl rfl rfl (by kernel_rfl) ?_) | (refine wpL_load1S hst rfl rfl 3 rfl rfl rfl (by kernel_rfl) ?_))
    | (go_at_call 84; (with_reducible refine (RG.out _).mono ?_); rintro e1 w1 ⟨rfl, ho1⟩; replace hst := hst.keep ho1; clear ho1)
    | (go_at_call 17; (with_reducible refine (SD.out _).mono ?_); rintro e1 w1 ⟨rfl, ho1⟩; replace hst := hst.keep ho1; clear ho1)
    | (go_at_call 85; rw [← ET.out]; refine (OF.out _).mono ?_; rintro e1 w1 ⟨g, cp, rest, rfl, hcp, hg, hV, ho1⟩; have hg0 := Nat.le_trans hst.only.size hg; replace hst := hst.new ho1 hV hg; clear ho1 hV)
    | ((with_reducible refine wpL_isStore rfl ?_); first | (refine wpL_storeS hst rfl (ty := 31) rfl 0 rfl rfl rfl (by kernel_rfl) (by kernel_rfl) rfl rfl ?_; clear hst; intro w1 hst; simp only [List.set] at hst) | (refine wpL_storeS hst rfl (ty := 31) rfl 1 rfl rfl rfl (by kernel_rfl) (by kernel_rfl) rfl rfl ?_; clear hst; intro w1 hst; simp only [List.set] at hst) | (refine wpL_storeS hst rfl (ty := 31) rfl 2 rfl rfl rfl (by kernel_rfl) (by kernel_rfl) rfl rfl ?_; clear hst; intro w1 hst; simp only [List.set] at hst) | (refine wpL_storeS hst rfl (ty := 31) rfl 3 rfl rfl rfl (by kernel_rfl) (by kernel_rfl) rfl rfl ?_; clear hst; intro w1 hst; simp only [List.set] at hst) | (refine wpL_store1S hst rfl rfl 0 rfl rfl rfl rfl (by kernel_rfl) rfl ?_; clear hst; intro w1 hst; simp only [List.set] at hst) | (refine wpL_store1S hst rfl rfl 1 rfl rfl rfl rfl (by kernel_rfl) rfl ?_; clear hst; intro w1 hst; simp only [List.set] at hst) | (refine wpL_store1S hst rfl rfl 2 rfl rfl rfl rfl (by kernel_rfl) rfl ?_; clear hst; intro w1 hst; simp only [List.set] at hst) | (refine wpL_store1S hst rfl rfl 3 rfl rfl rfl rfl (by kernel_rfl) rfl ?_; clear hst; intro w1 hst; simp only [List.set] at hst)))
  refine end_row_tmp2 (ty := 31) Try.results15 rfl (hst.blk 2 rfl) Try.underlying31 rfl tabInfo rfl rfl rfl ⟨g, cp, rest, rfl, hcp, hg0, hst.blk 1 rfl, hst.only⟩

/-- A table's bytes, as a table is told. -/
theorem vecsBytes_row (x y : Int) (g cp : Nat) (t : ByteArray) (rest : List Value) (w : World) (hB : Blk w g (i8s (bl t) ++ rest) 142) (hs : t.size ≤ 100000) :
    Calls Try.prog 16 #[.agg #[.int .i64 x, .int .i64 y, .slice (some ⟨g, 0, none⟩) t.size cp]] w fun e w' => e = .returned (.string t) ∧ Only [] w w' :=
  vecsBytes_any x y _ t w (.inr ⟨g, cp, by rw [bl_length], fun j v hv => hB.cell (by rw [List.getElem?_append_left (List.getElem?_eq_some_iff.1 hv).1]; exact hv), hB.lt⟩) hs

end Go.Proofs.Ytgdifegbpbnekaa
