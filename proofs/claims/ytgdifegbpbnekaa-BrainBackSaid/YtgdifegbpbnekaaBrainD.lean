/- Models: rows of tables. -/
import Derived.Test.YtgdifegbpbnekaaBrainC
namespace Go.Proofs.Ytgdifegbpbnekaa
open Go.RowKit

set_option maxRecDepth 100000 in
set_option maxHeartbeats 2000000 in
theorem vecsGood_yes (x y : Int) (ad : Option Addr) (n cp : Nat) (w : World) (hx1 : 1 ≤ x) (hx2 : x ≤ 64) (hy1 : 1 ≤ y) (hy2 : y ≤ 64) (hn : (n : Int) = x * y) :
    Calls Try.prog 150 #[.agg #[.int .i64 x, .int .i64 y, .slice ad n cp]] w fun e w' => e = .returned (.bool true) ∧ Only [] w w' := by
  have SX := Lib.hid (isSide_yes x hx1 hx2)
  have SY := Lib.hid (isSide_yes y hy1 hy2)
  have z0 : 0 ≤ x * y := Int.mul_nonneg (by omega) (by omega)
  have z1 : x * y ≤ 4096 := Int.le_trans (Int.mul_le_mul hx2 hy2 (by omega) (by decide)) (by decide)
  have hne : ((n : Int) == x * y) = true := by rw [hn]; simp
  have hst := (St.start w []).box [.int .i64 x, .int .i64 y, .slice ad n cp] 31
  clear hn
  go_enter Try.func150, Try.ntmps150
  go_wp2_with (first
    | ((with_reducible refine wpL_peel rfl ?_ ?_); focus (go_simp; done)) | ((with_reducible refine wpL_isLoad rfl ?_); first | (refine wpL_loadAtS hst rfl (ty := 31) rfl 0 rfl rfl (by kernel_rfl) 3 (by kernel_rfl) [_, _, _] rfl rfl ?_) | (refine wpL_loadAtS hst rfl (ty := 31) rfl 1 rfl rfl (by kernel_rfl) 3 (by kernel_rfl) [_, _, _] rfl rfl ?_) | (refine wpL_loadAtS hst rfl (ty := 31) rfl 2 rfl rfl (by kernel_rfl) 3 (by kernel_rfl) [_, _, _] rfl rfl ?_) | (refine wpL_loadAtS hst rfl (ty := 31) rfl 3 rfl rfl (by kernel_rfl) 3 (by kernel_rfl) [_, _, _] rfl rfl ?_) | (refine wpL_load1S hst rfl rfl 0 rfl rfl rfl (by kernel_rfl) ?_) | (refine wpL_load1S hst rfl rfl 1 rfl rfl rfl (by kernel_rfl) ?_) | (refine wpL_load1S hst rfl rfl 2 rfl rfl rfl (by kernel_rfl) ?_) | (refine wpL_load1S hst rfl rfl 3 rfl rfl rfl (by kernel_rfl) ?_))
    | (go_at_call 136; (with_reducible refine (SX.out _).mono ?_); rintro e1 w1 ⟨rfl, rfl⟩)
    | (go_at_call 136; (with_reducible refine (SY.out _).mono ?_); rintro e1 w1 ⟨rfl, rfl⟩))
  go_ret
  exact ⟨rfl, hst.only⟩

/-- A row of a table, as numbers. -/
def rowI (t : List UInt8) (y a : Nat) : List Int := ((t.drop (a * y)).take y).map fun c => sgn c.toNat
theorem rowI_length (t : List UInt8) (y a : Nat) (h : (a + 1) * y ≤ t.length) : (rowI t y a).length = y := by
  rw [Nat.add_mul, Nat.one_mul] at h
  simp [rowI]
  omega
theorem rowI_get (t : List UInt8) (y a j : Nat) (hj : j < y) (h : (a + 1) * y ≤ t.length) : (rowI t y a)[j]? = some (sgn (t.getD (a * y + j) 0).toNat) := by
  rw [Nat.add_mul, Nat.one_mul] at h
  unfold rowI
  rw [List.getElem?_map, List.getElem?_take, if_pos hj, List.getElem?_drop, List.getD_eq_getElem?_getD, List.getElem?_eq_getElem (by omega)]
  rfl
theorem i64Info : (Try.prog.info? 3).map (fun i => (i.zero, i.size, i.bytes)) = some (some (.int .i64 0), 1, 8) := by kernel_rfl

set_option maxRecDepth 100000 in
set_option maxHeartbeats 2000000 in
theorem vecsRow_no (x y : Int) (ad : Option Addr) (n cp : Nat) (a : Int) (w : World) (hx1 : 1 ≤ x) (hx2 : x ≤ 64) (hy1 : 1 ≤ y) (hy2 : y ≤ 64) (hn : (n : Int) = x * y) (ha : a < 0 ∨ x ≤ a) :
    Calls Try.prog 109 #[.agg #[.int .i64 x, .int .i64 y, .slice ad n cp], .int .i64 a] w fun e w' => e = .returned (.slice none 0 0) ∧ Only [] w w' := by
  have GD : Hid (∀ w, Calls Try.prog 150 #[.agg #[.int .i64 x, .int .i64 y, .slice ad n cp]] w fun e w' => e = .returned (.bool true) ∧ Only [] w w') := fun w => vecsGood_yes x y ad n cp w hx1 hx2 hy1 hy2 hn
  have hst := (St.start w []).box [.int .i64 x, .int .i64 y, .slice ad n cp] 31
  clear hn
  by_cases h0 : a < 0
  · clear ha
    go_enter Try.func109, Try.ntmps109
    go_wp2_with (first
      | ((with_reducible refine wpL_peel rfl ?_ ?_); focus (go_simp; done)) | ((with_reducible refine wpL_isLoad rfl ?_); first | (refine wpL_loadAtS hst rfl (ty := 31) rfl 0 rfl rfl (by kernel_rfl) 3 (by kernel_rfl) [_, _, _] rfl rfl ?_) | (refine wpL_loadAtS hst rfl (ty := 31) rfl 1 rfl rfl (by kernel_rfl) 3 (by kernel_rfl) [_, _, _] rfl rfl ?_) | (refine wpL_loadAtS hst rfl (ty := 31) rfl 2 rfl rfl (by kernel_rfl) 3 (by kernel_rfl) [_, _, _] rfl rfl ?_) | (refine wpL_loadAtS hst rfl (ty := 31) rfl 3 rfl rfl (by kernel_rfl) 3 (by kernel_rfl) [_, _, _] rfl rfl ?_) | (refine wpL_load1S hst rfl rfl 0 rfl rfl rfl (by kernel_rfl) ?_) | (refine wpL_load1S hst rfl rfl 1 rfl rfl rfl (by kernel_rfl) ?_) | (refine wpL_load1S hst rfl rfl 2 rfl rfl rfl (by kernel_rfl) ?_) | (refine wpL_load1S hst rfl rfl 3 rfl rfl rfl (by kernel_rfl) ?_))
      | (go_at_call 150; (with_reducible refine (GD.out _).mono ?_); rintro e1 w1 ⟨rfl, ho1⟩; replace hst := hst.keep ho1; clear ho1))
    go_ret
    exact ⟨rfl, hst.only⟩
  · have h1 : x ≤ a := by omega
    have h2 : 0 ≤ a := by omega
    have d0 : decide (a < 0) = false := decide_eq_false (by omega)
    clear ha h0
    go_enter Try.func109, Try.ntmps109
    go_wp2_with (first
      | ((with_reducible refine wpL_peel rfl ?_ ?_); focus (go_simp; done)) | ((with_reducible refine wpL_isLoad rfl ?_); first | (refine wpL_loadAtS hst rfl (ty := 31) rfl 0 rfl rfl (by kernel_rfl) 3 (by kernel_rfl) [_, _, _] rfl rfl ?_) | (refine wpL_loadAtS hst rfl (ty := 31) rfl 1 rfl rfl (by kernel_rfl) 3 (by kernel_rfl) [_, _, _] rfl rfl ?_) | (refine wpL_loadAtS hst rfl (ty := 31) rfl 2 rfl rfl (by kernel_rfl) 3 (by kernel_rfl) [_, _, _] rfl rfl ?_) | (refine wpL_loadAtS hst rfl (ty := 31) rfl 3 rfl rfl (by kernel_rfl) 3 (by kernel_rfl) [_, _, _] rfl rfl ?_) | (refine wpL_load1S hst rfl rfl 0 rfl rfl rfl (by kernel_rfl) ?_) | (refine wpL_load1S hst rfl rfl 1 rfl rfl rfl (by kernel_rfl) ?_) | (refine wpL_load1S hst rfl rfl 2 rfl rfl rfl (by kernel_rfl) ?_) | (refine wpL_load1S hst rfl rfl 3 rfl rfl rfl (by kernel_rfl) ?_))
      | (go_at_call 150; (with_reducible refine (GD.out _).mono ?_); rintro e1 w1 ⟨rfl, ho1⟩; replace hst := hst.keep ho1; clear ho1))
    go_ret
    exact ⟨rfl, hst.only⟩

end Go.Proofs.Ytgdifegbpbnekaa
