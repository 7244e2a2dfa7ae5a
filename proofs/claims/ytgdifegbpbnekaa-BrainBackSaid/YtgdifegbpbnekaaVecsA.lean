/- Tables of small numbers: made of bytes, and turned into bytes. -/
import Derived.Test.YtgdifegbpbnekaaConfD
namespace Go.Proofs.Ytgdifegbpbnekaa
open Go.RowKit

set_option maxRecDepth 100000 in
set_option maxHeartbeats 1000000 in
theorem isSide_yes (n : Int) (h1 : 1 ≤ n) (h2 : n ≤ 64) (w : World) : Calls Try.prog 136 #[.int .i64 n] w fun e w' => e = .returned (.bool true) ∧ w = w' := by
  go_enter Try.func136, Try.ntmps136
  go_wp2
  go_ret
  exact ⟨by simp, rfl⟩

/-- A byte, signed. -/
def sgn (c : Nat) : Int := IntKind.i8.wrap (c : Int)
/-- Bytes as signed numbers. -/
def i8s (l : List UInt8) : List Value := l.map fun c => .int .i8 (sgn c.toNat)
theorem i8s_length (l : List UInt8) : (i8s l).length = l.length := by simp [i8s]
theorem i8Info : (Try.prog.info? 142).map (fun i => (i.zero, i.size, i.bytes)) = some (some (.int .i8 0), 1, 1) := by kernel_rfl
theorem tabInfo : (Try.prog.info? 31).map (·.size) = some 3 := by kernel_rfl

/-- A slice of signed numbers, as it can be read. -/
def Bits8 (w : World) (v : Value) (l : List UInt8) : Prop :=
  ((∃ a c, v = .slice a 0 c) ∧ l = []) ∨ ∃ bk c, v = .slice (some ⟨bk, 0, none⟩) l.length c ∧ (∀ (j : Nat) x, (i8s l)[j]? = some x → w.cell? ⟨bk, j, none⟩ = some x) ∧ bk < w.heap.size

set_option maxRecDepth 100000 in
set_option maxHeartbeats 8000000 in
theorem vecsOf_yes (x y : Int) (s : ByteArray) (w : World) (hx1 : 1 ≤ x) (hx2 : x ≤ 64) (hy1 : 1 ≤ y) (hy2 : y ≤ 64) (hs : (s.size : Int) = x * y) :
    Calls Try.prog 85 #[.int .i64 x, .int .i64 y, .string s] w fun e w' => ∃ V, e = .returned (.tuple #[.agg #[.int .i64 x, .int .i64 y, V], .int .i64 0]) ∧ w'.ownsRow w.heap.size 142 1 V s.size (i8s (bl s)) ∧ Only [] w w' := by
  have SX : Hid (∀ w, Calls Try.prog 136 #[.int .i64 x] w fun e w' => e = .returned (.bool true) ∧ w = w') := isSide_yes x hx1 hx2
  have SY : Hid (∀ w, Calls Try.prog 136 #[.int .i64 y] w fun e w' => e = .returned (.bool true) ∧ w = w') := isSide_yes y hy1 hy2
  have z0 : 0 ≤ x * y := Int.mul_nonneg (by omega) (by omega)
  have z1 : x * y ≤ 4096 := Int.le_trans (Int.mul_le_mul hx2 hy2 (by omega) (by decide)) (by decide)
  have hne : ((s.size : Int) != x * y) = false := by rw [hs]; simp
  have hb : s.size ≤ 4096 := by omega
  have ONE : Hid ((#[.int .i64 x, .int .i64 y, .slice none 0 0] : Array Value).all (·.oneCell') = true) := by show _ = _; simp [Value.oneCell']
  clear hs
  go_enter Try.func85, Try.ntmps85
  go_wp2_with (first
    | (refine wpL_alloc rfl 6 rfl _ rfl (.agg #[.int .i64 0, .int .i64 0, .slice none 0 0]) [.int .i64 0, .int .i64 0, .slice none 0 0] (by kernel_rfl) rfl ?_; intro w1 ho1 hs1 hb1)
    | (go_at_call 136; refine (SX.out _).mono ?_; rintro e w2 ⟨rfl, rfl⟩)
    | (go_at_call 136; refine (SY.out _).mono ?_; rintro e w2 ⟨rfl, rfl⟩)
    | (refine wpL_alloc rfl 8 rfl _ rfl (.agg #[.int .i64 0, .int .i64 0, .slice none 0 0]) [.int .i64 0, .int .i64 0, .slice none 0 0] (by kernel_rfl) rfl ?_; intro w3 ho3 hs3 hb3)
    | (refine wpL_store rfl 31 (.tmp 8) _ rfl w1.heap.size #[.int .i64 x, .int .i64 y, .slice none 0 0] rfl rfl _ _ hb3 tabInfo rfl rfl ONE.out ?_; intro w4 ho4 hs4 hb4)
    | (refine wpL_bytes rfl _ _ 5 _ rfl s rfl Try.underlying9 Try.underlying43 Try.underlying5 ?_; intro cap w5 hcap hs5 ho5 hcell))
  have s1 : w.heap.size < w1.heap.size := by have := hs1.out; omega
  have s3 : w1.heap.size < w3.heap.size := by have := hs3.out; omega
  have s4 : w3.heap.size = w4.heap.size := hs4.out.symm
  have s5 : w4.heap.size < w5.heap.size := by have := hs5.out; omega
  have hb5 := hb4.keep ho5
  have hR5 : Blk w5 w.heap.size [.int .i64 0, .int .i64 0, .slice none 0 0] 31 := ((hb1.keep ho3).only ho4 (by simp; omega)).keep ho5
  have a5 : Only [] w w5 := ((ho1.trans ho3).step ho4 (fun i hi => .inr (by simp at hi; omega))).trans ho5
  have HC := Lib.hid hcell
  clear hcell ho1 ho3 ho4 ho5 hs1 hs3 hs4 hs5 hb1 hb3 hb4
  go_loopw [35] (fun i wr => ∃ (j : Nat) (V : Value), j ≤ s.size ∧ i = .int .i64 (j : Int) ∧ Blk wr w1.heap.size [.int .i64 x, .int .i64 y, V] 31 ∧ wr.ownsRow w5.heap.size 142 1 V j (i8s ((bl s).take j)) ∧ Only [w1.heap.size] w5 wr) (fun i _ => s.size - (intOf i).toNat)
  case atStart => exact ⟨0, .slice none 0 0, by omega, rfl, hb5, ⟨by simp [i8s], .inl ⟨rfl, rfl⟩⟩, Only.refl _ _⟩
  case round =>
    obtain ⟨j, V, hj, rfl, hT, hV, hor⟩ := hrel
    by_cases hlt : j < s.size
    · have j64 : (j : Int) < s.size := by omega
      have hc : wr.cell? ⟨w4.heap.size, j, none⟩ = some (.int .u8 (((bl s).getD j 0).toNat : Int)) := by rw [hor.cellAt _ _ s5 (by simp; omega)]; exact HC.out j hlt
      have hl : j < (bl s).length := by rw [bl_length]; exact hlt
      have HT : Hid (i8s ((bl s).take (j + 1)) = i8s ((bl s).take j) ++ [.int .i8 (sgn ((bl s).getD j 0).toNat)]) := by
        show _ = _
        rw [List.take_succ_eq_append_getElem hl, List.getD_eq_getElem?_getD, List.getElem?_eq_getElem hl]
        unfold i8s
        rw [List.map_append]
        rfl
      have hc256 := ((bl s).getD j 0).toNat_lt
      obtain ⟨c, ec⟩ : ∃ c, c = ((bl s).getD j 0).toNat := ⟨_, rfl⟩
      rw [← ec] at hc HT hc256
      clear ec
      obtain ⟨ad, n, cp, rfl⟩ : ∃ ad n cp, V = .slice ad n cp := by
        rcases hV.2 with ⟨rfl, _⟩ | ⟨g, cap, cur, rfl, _⟩
        · exact ⟨_, _, _, rfl⟩
        · exact ⟨_, _, _, rfl⟩
      have c2 := hT.cell (i := 2) rfl
      have f2 := hT.free 2
      go_wp2_with (refine wpL_slice_lit rfl 29 1 _ rfl Try.underlying29 i8Info (by decide) (by decide) [.int .i8 (sgn c)] rfl rfl (by simp [Value.cells]) ?_)
      intro w6 ho6 hs6 hb6
      have hb6' : Blk w6 wr.heap.size [.int .i8 (sgn c)] 142 := by simpa [Value.cells] using hb6
      have hlen := hV.1
      refine wpL_append rfl (.tmp 40) (.tmp 43) 29 rfl w5.heap.size 142 Try.underlying29 i8Info rfl (by decide) (.slice ad n cp) j (i8s ((bl s).take j)) rfl (ownsRow_only hV ho6 (by simp)) ⟨wr.heap.size, 0, none⟩ 1 1 [.int .i8 (sgn c)] rfl rfl ?hn ?h1 ?h63 ?hby ?hba ?_
      case hn => exact fun k u hu => by rw [show (⟨wr.heap.size, 0, none⟩ : Addr).add k = ⟨wr.heap.size, k, none⟩ by unfold Addr.add; split <;> simp_all]; exact hb6'.cell hu
      case h1 =>
        intro u hu
        simp only [List.mem_singleton] at hu
        subst hu
        rfl
      case h63 => unfold maxLen; omega
      case hby => omega
      case hba => have := hor.size; have := ho6.size; omega
      intro v' w7 hown7 hg7 hv7 hiff7
      have o67 := Only.of_grown hg7
      have hT7 := (hT.keep ho6).only o67 (fun h => by
        simp only [Option.mem_toList] at h
        have := (World.ownsRow.lt hV _ h).1
        omega)
      have ho7 : Only [w1.heap.size] w5 w7 := (hor.step ho6 (by simp)).step o67 (fun i hi => .inr (by
        simp only [Option.mem_toList] at hi
        have := (World.ownsRow.lt hV i hi).1
        omega))
      obtain ⟨ad', n', cp', rfl⟩ : ∃ ad n cp, v' = .slice ad n cp := by
        rcases hown7.2 with ⟨rfl, _⟩ | ⟨g, cap, cur, rfl, _⟩
        · exact ⟨_, _, _, rfl⟩
        · exact ⟨_, _, _, rfl⟩
      have c7 := hT7.cell (i := 2) rfl
      have f7 := hT7.free 2
      have hown8 : (w7.setCell ⟨w1.heap.size, 2, none⟩ (.slice ad' n' cp')).ownsRow w5.heap.size 142 1 (.slice ad' n' cp') (j + 1) (i8s ((bl s).take (j + 1))) := by
        rw [HT.out]
        refine ownsRow_only hown7 (S := [w1.heap.size]) ((Only.refl _ w7).set (p := ⟨w1.heap.size, 2, none⟩) (.inl (by simp)) _) fun k hk => ?_
        have := (World.ownsRow.lt hown7 k hk).1
        simp
        omega
      clear c2 f2 hc hown7 hg7 hv7 hiff7 o67 hb6 hb6' ho6 hs6 hV hT hor hlen HC HT
      go_wp2_with fail
      go_roundw
      case rel => exact ⟨j + 1, _, by omega, by go_num, hT7.set 2 _, hown8, ho7.set (p := ⟨w1.heap.size, 2, none⟩) (.inl (by simp)) _⟩
      case measure => simp [intOf]; omega
    · obtain rfl : j = s.size := by omega
      have j64 : ¬ (s.size : Int) < s.size := by omega
      have HT : Hid ((bl s).take s.size = bl s) := List.take_of_length_le (by rw [bl_length]; exact Nat.le_refl _)
      rw [HT.out] at hV
      obtain ⟨ad, n, cp, rfl⟩ : ∃ ad n cp, V = .slice ad n cp := by
        rcases hV.2 with ⟨rfl, _⟩ | ⟨g, cap, cur, rfl, _⟩
        · exact ⟨_, _, _, rfl⟩
        · exact ⟨_, _, _, rfl⟩
      have hR := hR5.only hor (by simp; omega)
      have VO : Hid ((#[.int .i64 x, .int .i64 y, .slice ad n cp] : Array Value).all (·.oneCell') = true) := by show _ = _; simp [Value.oneCell']
      go_wp2_with (first
        | (refine wpL_load rfl 31 (.tmp 8) rfl w1.heap.size rfl _ _ _ hT Try.underlying31 rfl tabInfo rfl ?_)
        | (refine wpL_store rfl 31 (.tmp 6) _ rfl w.heap.size #[.int .i64 x, .int .i64 y, .slice ad n cp] rfl rfl _ _ hR tabInfo rfl rfl VO.out ?_))
      intro w9 ho9 hs9 hb9
      go_wp2_with fail
      refine end_row_tmp2 (ty := 31) Try.results85 rfl hb9 Try.underlying31 rfl tabInfo rfl rfl rfl ⟨_, rfl, ?_, ?_⟩
      · have hv9 : w9.ownsRow w5.heap.size 142 1 (.slice ad n cp) s.size (i8s (bl s)) := ownsRow_only hV ho9 fun k hk => by
          have := (World.ownsRow.lt hV k hk).1
          simp
          omega
        refine ⟨hv9.1, ?_⟩
        rcases hv9.2 with h | ⟨g, cap, cur, b1, b2, b3⟩
        · exact .inl h
        · exact .inr ⟨g, cap, cur, b1, by omega, b3⟩
      · exact (a5.step hor (fun i hi => .inr (by simp at hi; omega))).step ho9 (fun i hi => .inr (by simp at hi; omega))

end Go.Proofs.Ytgdifegbpbnekaa
