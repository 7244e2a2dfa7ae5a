/- Models: a row of a table. -/
import Derived.Test.YtgdifegbpbnekaaBrainD
namespace Go.Proofs.Ytgdifegbpbnekaa
open Go.RowKit

theorem sgn_range (c : Nat) : -128 ≤ sgn c ∧ sgn c ≤ 127 := by
  unfold sgn IntKind.wrap
  simp [IntKind.signed, IntKind.bits]
  omega

set_option maxRecDepth 100000 in
set_option maxHeartbeats 8000000 in
theorem vecsRow_yes (x y : Int) (g cp : Nat) (t : ByteArray) (rest : List Value) (a : Int) (w : World) (hx1 : 1 ≤ x) (hx2 : x ≤ 64) (hy1 : 1 ≤ y) (hy2 : y ≤ 64) (hn : (t.size : Int) = x * y) (a0 : 0 ≤ a) (a1 : a < x) (hcp : t.size ≤ cp)
    (hB : Blk w g (i8s (bl t) ++ rest) 142) :
    Calls Try.prog 109 #[.agg #[.int .i64 x, .int .i64 y, .slice (some ⟨g, 0, none⟩) t.size cp], .int .i64 a] w fun e w' => ∃ V, e = .returned V ∧ w'.ownsRow w.heap.size 3 1 V y.toNat ((rowI (bl t) y.toNat a.toNat).map (Value.int .i64)) ∧ Only [] w w' := by
  have GD : Hid (∀ w, Calls Try.prog 150 #[.agg #[.int .i64 x, .int .i64 y, .slice (some ⟨g, 0, none⟩) t.size cp]] w fun e w' => e = .returned (.bool true) ∧ Only [] w w') := fun w => vecsGood_yes x y _ _ cp w (by omega) (by omega) (by omega) (by omega) hn
  have hst := (St.with (S := []) hB).box [.int .i64 x, .int .i64 y, .slice (some ⟨g, 0, none⟩) t.size cp] 31
  obtain ⟨yn, rfl⟩ : ∃ n : Nat, y = (n : Int) := ⟨y.toNat, by omega⟩
  obtain ⟨an, ea⟩ : ∃ n : Nat, a = (n : Int) := ⟨a.toNat, by omega⟩
  obtain ⟨xn, ex⟩ : ∃ n : Nat, x = (n : Int) := ⟨x.toNat, by omega⟩
  obtain ⟨p, hp⟩ : ∃ p : Nat, p = an * yn := ⟨_, rfl⟩
  have hts : t.size = xn * yn := by rw [ex] at hn; have : ((xn * yn : Nat) : Int) = (xn : Int) * yn := by simp
                                    omega
  have hay : (an + 1) * yn ≤ t.size := by rw [hts]; exact Nat.mul_le_mul_right _ (by omega)
  have hlen : (an + 1) * yn ≤ (bl t).length := by rw [bl_length]; exact hay
  have hxy : xn * yn ≤ 64 * 64 := Nat.mul_le_mul (by omega) (by omega)
  have hq : (an + 1) * yn = p + yn := by rw [hp, Nat.add_mul, Nat.one_mul]
  have m1 : a * (yn : Int) = (p : Int) := by rw [hp, ea]; simp
  have m2 : (a + 1) * (yn : Int) = (p : Int) + yn := by rw [Int.add_mul, m1]; omega
  have z2 : (p : Int) + yn ≤ t.size := by omega
  have z3 : (t.size : Int) ≤ cp := by omega
  have z4 : (t.size : Int) ≤ 4096 := by omega
  have d0 : decide (a < 0) = false := decide_eq_false (by omega)
  have d1 : decide (x ≤ a) = false := decide_eq_false (by omega)
  rw [show ((yn : Int)).toNat = yn by omega, show a.toNat = an by omega]
  have HR := Lib.hid (fun j (hj : j < yn) => rowI_get (bl t) yn an j hj hlen)
  have HRL := Lib.hid (rowI_length (bl t) yn an hlen)
  have HB := Lib.hid (fun (j : Nat) (hj : j < yn) => (show (i8s (bl t) ++ rest)[p + j]? = some (.int .i8 (sgn ((bl t).getD (an * yn + j) 0).toNat)) from by
    rw [List.getElem?_append_left (by rw [i8s_length]; omega)]
    unfold i8s
    rw [List.getElem?_map, ← hp, List.getD_eq_getElem?_getD, List.getElem?_eq_getElem (by omega)]
    rfl))
  obtain ⟨L, eL⟩ : ∃ L, L = rowI (bl t) yn an := ⟨_, rfl⟩
  rw [← eL] at HR HRL ⊢
  obtain ⟨R, eR⟩ : ∃ R, R = i8s (bl t) ++ rest := ⟨_, rfl⟩
  rw [← eR] at HB hst
  clear hB hay hlen hxy hp hq eL eR hn ea ex hts
  go_enter Try.func109, Try.ntmps109
  go_wp2_with (first
    | ((with_reducible refine wpL_peel rfl ?_ ?_); focus (go_simp; done)) | ((with_reducible refine wpL_isLoad rfl ?_); first | (refine wpL_loadAtS hst rfl (ty := 31) rfl 0 rfl rfl (by kernel_rfl) 3 (by kernel_rfl) [_, _, _] rfl rfl ?_) | (refine wpL_loadAtS hst rfl (ty := 31) rfl 1 rfl rfl (by kernel_rfl) 3 (by kernel_rfl) [_, _, _] rfl rfl ?_) | (refine wpL_loadAtS hst rfl (ty := 31) rfl 2 rfl rfl (by kernel_rfl) 3 (by kernel_rfl) [_, _, _] rfl rfl ?_) | (refine wpL_loadAtS hst rfl (ty := 31) rfl 3 rfl rfl (by kernel_rfl) 3 (by kernel_rfl) [_, _, _] rfl rfl ?_) | (refine wpL_load1S hst rfl rfl 0 rfl rfl rfl (by kernel_rfl) ?_) | (refine wpL_load1S hst rfl rfl 1 rfl rfl rfl (by kernel_rfl) ?_) | (refine wpL_load1S hst rfl rfl 2 rfl rfl rfl (by kernel_rfl) ?_) | (refine wpL_load1S hst rfl rfl 3 rfl rfl rfl (by kernel_rfl) ?_))
    | (go_at_call 150; (with_reducible refine (GD.out _).mono ?_); rintro e1 w1 ⟨rfl, ho1⟩; replace hst := hst.keep ho1; clear ho1))
  obtain ⟨B, hB⟩ : ∃ B, B = w1.heap.size := ⟨_, rfl⟩
  have hB0 : B ≤ w1.heap.size := by omega
  have hB00 : w1.heap.size ≤ B := by omega
  have hB1 : w.heap.size ≤ B := by have := hst.only.size; omega
  have hgB : g < B := by rw [hB]; exact (hst.blk 1 rfl).lt
  have hpB : w.heap.size < B := by rw [hB]; exact (hst.blk 0 rfl).lt
  clear hB
  rw [Nat.add_sub_cancel_left]
  go_loopw [34, 5] (fun i v wr => ∃ (j : Nat), j ≤ yn ∧ i = .int .i64 (j : Int) ∧ wr.ownsRow B 3 1 v j ((L.take j).map (Value.int .i64)) ∧ Only [] w1 wr) (fun i _ _ => yn - (intOf i).toNat)
  case atStart => exact ⟨0, by omega, rfl, ⟨by simp, .inl ⟨rfl, rfl⟩⟩, Only.refl _ _⟩
  case round =>
    obtain ⟨j, hj, rfl, hV, hor⟩ := hrel
    obtain ⟨ad, vn, vc, rfl⟩ : ∃ ad n cp, u5 = .slice ad n cp := by
      rcases hV.2 with ⟨rfl, _⟩ | ⟨g, cap, cur, rfl, _⟩
      · exact ⟨_, _, _, rfl⟩
      · exact ⟨_, _, _, rfl⟩
    by_cases hlt : j < yn
    · have j64 : (j : Int) < yn := by omega
      have hc0 := ((hst.blk 1 rfl).keep hor).cell (HB.out j hlt)
      obtain ⟨z, ez⟩ : ∃ z, z = sgn ((bl t).getD (an * yn + j) 0).toNat := ⟨_, rfl⟩
      have hc : wr.cell? ⟨g, p + j, none⟩ = some (.int .i8 z) := by rw [ez]; exact hc0
      have HT : Hid ((L.take (j + 1)).map (Value.int .i64) = (L.take j).map (Value.int .i64) ++ [.int .i64 z]) := by
        show _ = _
        rw [List.take_add_one, HR.out j hlt, ← ez, List.map_append]
        rfl
      have hz : -128 ≤ z ∧ z ≤ 127 := by rw [ez]; exact sgn_range _
      have hz0 := hz.1
      have hz1 := hz.2
      clear hc0 ez hz
      go_wp2_with (refine wpL_slice_lit rfl 85 1 _ rfl Try.underlying85 i64Info (by decide) (by decide) [.int .i64 z] rfl rfl (by simp [Value.cells]) ?_)
      intro w6 ho6 hs6 hb6
      have hlen := hV.1
      refine wpL_append rfl (.tmp 38) (.tmp 41) 85 rfl B 3 Try.underlying85 i64Info rfl (by decide) (.slice ad vn vc) j ((L.take j).map (Value.int .i64)) rfl (ownsRow_only hV ho6 (by simp)) ⟨wr.heap.size, 0, none⟩ 1 1 [.int .i64 z] rfl rfl ?hn ?h1 ?h63 ?hby ?hba ?_
      case hn => exact fun k u hu => by rw [show (⟨wr.heap.size, 0, none⟩ : Addr).add k = ⟨wr.heap.size, k, none⟩ by unfold Addr.add; split <;> simp_all]; exact hb6.cell hu
      case h1 =>
        intro u hu
        simp only [List.mem_singleton] at hu
        subst hu
        rfl
      case h63 => unfold maxLen; omega
      case hby => omega
      case hba => have := hor.size; have := ho6.size; omega
      intro v' w7 hown7 hg7 hv7 hiff7
      have o67 := Only.of_grown hg7
      have ho7 : Only [] w1 w7 := (hor.step ho6 (by simp)).step o67 (fun i hi => .inr (by
        simp only [Option.mem_toList] at hi
        have := (World.ownsRow.lt hV i hi).1
        omega))
      have hown8 := hown7
      rw [← HT.out] at hown8
      clear hc hown7 hg7 hv7 hiff7 o67 hb6 ho6 hs6 hV hor hlen HB HR HT
      go_wp2_with fail
      go_roundw
      case rel => exact ⟨j + 1, by omega, by go_num, hown8, ho7⟩
      case measure => simp [intOf]; omega
    · obtain rfl : j = yn := by omega
      have j64 : ¬ (j : Int) < j := by omega
      have HT : Hid (L.take j = L) := List.take_of_length_le (by rw [HRL.out]; exact Nat.le_refl _)
      rw [HT.out] at hV
      go_wp2_with fail
      go_ret
      refine ⟨_, rfl, ?_, hst.only.trans hor⟩
      refine ⟨hV.1, ?_⟩
      rcases hV.2 with h | ⟨g, cap, cur, b1, b2, b3⟩
      · exact .inl h
      · exact .inr ⟨g, cap, cur, b1, by omega, b3⟩

end Go.Proofs.Ytgdifegbpbnekaa
