/- The law ShaParts. -/
import Derived.Test.YtlciphmjkbihkaaShaF
import Derived.Test.YtlciphmjkbihkaaHeld
namespace Go.Proofs.Ytlciphmjkbihkaa
open Go.RowKit

set_option maxRecDepth 100000 in
set_option maxHeartbeats 1000000 in
theorem parts_far (s : ByteArray) (x y : Int) (w : World) (h : 500 < s.size) : Calls Try.prog 8 #[.string s, .int .i64 x, .int .i64 y] w fun e w' => e = .returned (.bool true) ∧ Only [] w w' := by
  have h' : (500 : Int) < s.size := by omega
  go_enter Try.func8, Try.ntmps8
  go_wp2_with (go_at_call 32; refine (awake_any _).mono ?_; rintro e w1 ⟨rfl, ho1⟩)
  go_ret
  exact ⟨rfl, ho1⟩

theorem rem_nat (z : Int) (n : Nat) : ∃ i : Nat, (IntKind.u64.wrap z).tmod ((n : Int) + 1) = (i : Int) ∧ i ≤ n := by
  have h0 : 0 ≤ IntKind.u64.wrap z := by
    have : IntKind.u64.wrap z = z % 18446744073709551616 := rfl
    rw [this]
    exact Int.emod_nonneg _ (by decide)
  have h1 : 0 ≤ (IntKind.u64.wrap z).tmod ((n : Int) + 1) := Int.tmod_nonneg _ h0
  have h2 : (IntKind.u64.wrap z).tmod ((n : Int) + 1) < (n : Int) + 1 := Int.tmod_lt_of_pos _ (by omega)
  exact ⟨((IntKind.u64.wrap z).tmod ((n : Int) + 1)).toNat, by omega, by omega⟩

set_option maxRecDepth 100000 in
set_option maxHeartbeats 1000000 in
theorem parts_near (s : ByteArray) (x y : Int) (w : World) (h : ¬ 500 < s.size) : Calls Try.prog 8 #[.string s, .int .i64 x, .int .i64 y] w fun e w' => e = .returned (.bool true) ∧ Only [] w w' := by
  have h' : ¬ (500 : Int) < s.size := by omega
  obtain ⟨i, hi, hil⟩ := rem_nat x s.size
  obtain ⟨j, hj, hjl⟩ := rem_nat y (s.size - i)
  rw [show ((s.size - i : Nat) : Int) = (s.size : Int) - i by omega] at hj
  obtain ⟨d, ed⟩ : ∃ d, d = Sha.sum (bl s) := ⟨_, rfl⟩
  have D32 : Hid (d.length = 32) := by rw [ed]; exact Sha.sum_length _
  have O1 : Hid (∀ w : World, Calls Try.prog 33 #[.slice (some ⟨w.heap.size, 0, none⟩) 1 1] (w.alloc (.cells #[.string s] 9)) fun e w' => e = .returned (.agg (Lib.byteCells d).toArray) ∧ Only [] (w.alloc (.cells #[.string s] 9)) w') := fun w => by
    have := of_any _ [s] _ (Strs.made w [s] 9) (by simp) (by simp [cat, bl_length]; omega)
    rwa [show cat [s] = bl s by simp [cat], ← ed] at this
  have hc2 : cat [s.extract 0 i, s.extract i s.size] = bl s := by simp [cat, bl_extract, bl_length, List.take_of_length_le]
  have O2 : Hid (∀ w : World, Calls Try.prog 33 #[.slice (some ⟨w.heap.size, 0, none⟩) 2 2] (w.alloc (.cells #[.string (s.extract 0 i), .string (s.extract i s.size)] 9)).drew fun e w' => e = .returned (.agg (Lib.byteCells d).toArray) ∧ Only [] (w.alloc (.cells #[.string (s.extract 0 i), .string (s.extract i s.size)] 9)).drew w') := fun w => by
    have := of_any _ [s.extract 0 i, s.extract i s.size] _ ((Strs.made w [s.extract 0 i, s.extract i s.size] 9).keep (Only.refl [] _).drew) (by simp) (by rw [hc2, bl_length]; omega)
    rwa [hc2, ← ed] at this
  have hc4 : cat [s.extract 0 i, s.extract i (i + j), ⟨#[]⟩, s.extract (i + j) s.size] = bl s := by
    have e0 : bl ⟨#[]⟩ = [] := rfl
    simp only [cat, List.map_cons, List.map_nil, List.flatten_cons, List.flatten_nil, bl_extract, e0, List.nil_append, List.append_nil, List.drop_zero]
    rw [List.take_of_length_le (l := bl s) (i := s.size) (by rw [bl_length]; omega), ← List.append_assoc]
    have e1 : (bl s).take i ++ ((bl s).take (i + j)).drop i = (bl s).take (i + j) := by
      have := List.take_append_drop i ((bl s).take (i + j))
      rwa [List.take_take, Nat.min_eq_left (by omega)] at this
    rw [e1, List.take_append_drop]
  have O4 : Hid (∀ w : World, Calls Try.prog 33 #[.slice (some ⟨w.heap.size, 0, none⟩) 4 4] (w.alloc (.cells #[.string (s.extract 0 i), .string (s.extract i (i + j)), .string ⟨#[]⟩, .string (s.extract (i + j) s.size)] 9)) fun e w' => e = .returned (.agg (Lib.byteCells d).toArray) ∧ Only [] (w.alloc (.cells #[.string (s.extract 0 i), .string (s.extract i (i + j)), .string ⟨#[]⟩, .string (s.extract (i + j) s.size)] 9)) w') := fun w => by
    have := of_any _ [s.extract 0 i, s.extract i (i + j), ⟨#[]⟩, s.extract (i + j) s.size] _ (Strs.made w [s.extract 0 i, s.extract i (i + j), ⟨#[]⟩, s.extract (i + j) s.size] 9) (by simp) (by rw [hc4, bl_length]; omega)
    rwa [hc4, ← ed] at this
  clear hc2 hc4
  have ED := Lib.hid ed
  clear ed
  go_enter Try.func8, Try.ntmps8
  go_wp2_with (first
    | (go_at_call 32; refine (awake_any _).mono ?_; rintro e w1 ⟨rfl, ho1⟩)
    | (go_at_call 33; refine (O1.out _).mono ?_; rintro e w2 ⟨rfl, ho2⟩)
    | (refine wpL_alloc rfl 9 rfl _ rfl (.agg zeros32.toArray) zeros32 (by kernel_rfl) rfl ?_; intro w3 ho3 hs3 hb3)
    | (refine wpL_store rfl _ _ _ rfl w2.heap.size _ rfl rfl _ _ hb3 digInfo (by simp [byteCells_length, D32.out]) rfl (byteCells_one _) ?_; intro w4 ho4 hs4 hb4))
  have HB : Hid (Blk w4.drew w2.heap.size (Lib.byteCells d) 57) := hb4
  refine wp_region_held [8, 23, 27, 30] [9] (fun w' => Blk w' w2.heap.size (Lib.byteCells d) 57) (by kernel_rfl) (by kernel_rfl) ?_ HB.out ?_
  · intro i hi
    simp only [List.mem_cons, List.not_mem_nil, or_false] at hi
    rcases hi with rfl | rfl | rfl | rfl
    all_goals exact ⟨_, .agg (Lib.byteCells d).toArray, rfl, rfl, fun b w' hA hw => held_load rfl (by simp) rfl (Lib.byteCells d) _ (fun w' hw' j u hu => by rw [Nat.zero_add]; exact Blk.cell (cs := Lib.byteCells d) (ty := 57) hw' hu) Try.underlying57 rfl digInfo (by rw [byteCells_length, D32.out]) b w' hA hw⟩
  refine Held.cut 7 rfl rfl rfl (by kernel_rfl) ?_
  simp only [List.take_succ_cons, List.take_zero, List.drop_succ_cons, List.drop_zero, List.length_cons, List.length_nil]
  go_wp2
  refine TextQ.mk ⟨(hb4.alloc _).drew, ?_⟩ rfl
  refine Held.cut 1 rfl rfl rfl (by kernel_rfl) ?_
  simp only [List.take_succ_cons, List.take_zero, List.drop_succ_cons, List.drop_zero, List.length_cons, List.length_nil]
  go_wp2_with (go_at_call 33; refine (O2.out _).mono ?_; rintro e w5 ⟨rfl, ho5⟩)
  have hb5 : Blk w5 w2.heap.size (Lib.byteCells d) 57 := (hb4.alloc _).drew.keep ho5
  refine TextQ.mk ⟨hb5, ?_⟩ rfl
  refine Held.cut 14 rfl rfl rfl (by kernel_rfl) ?_
  simp only [List.take_succ_cons, List.take_zero, List.drop_succ_cons, List.drop_zero, List.length_cons, List.length_nil]
  go_wp2_with (first
    | (refine wpL_load rfl 57 _ rfl w2.heap.size rfl _ (Lib.byteCells d) _ hb5 Try.underlying57 rfl digInfo (by rw [byteCells_length, D32.out]) ?_)
    | (refine wpL_eql_bytes rfl 57 _ (.tmp 45) (.tmp 46) rfl 5 32 Try.underlying57 Try.underlying5 (by kernel_rfl) (by kernel_rfl) d d rfl rfl D32.out D32.out true (by simp) ?_))
  refine TextQ.mk ⟨hb5.alloc _, ?_⟩ ?_
  case refine_2 => repeat' (first | exact rfl | exact fine_bytes rfl rfl rfl | refine fine_cons ?_ ?_)
  refine Held.cut 1 rfl rfl rfl (by kernel_rfl) ?_
  simp only [List.take_succ_cons, List.take_zero, List.drop_succ_cons, List.drop_zero, List.length_cons, List.length_nil]
  go_wp2_with (go_at_call 33; refine (O4.out _).mono ?_; rintro e w6 ⟨rfl, ho6⟩)
  have hb6 : Blk w6 w2.heap.size (Lib.byteCells d) 57 := (hb5.alloc _).keep ho6
  refine TextQ.mk ⟨hb6, ?_⟩ rfl
  refine Held.cut 6 rfl rfl rfl (by kernel_rfl) ?_
  simp only [List.take_succ_cons, List.take_zero, List.drop_succ_cons, List.drop_zero, List.length_cons, List.length_nil]
  go_wp2_with (first
    | (refine wpL_yes rfl (wpL_load rfl 57 _ rfl w2.heap.size rfl _ (Lib.byteCells d) _ hb6 Try.underlying57 rfl digInfo (by rw [byteCells_length, D32.out]) ?_))
    | (refine wpL_yes rfl (wpL_eql_bytes rfl 57 _ (.tmp 60) (.tmp 61) rfl 5 32 Try.underlying57 Try.underlying5 (by kernel_rfl) (by kernel_rfl) d d rfl rfl D32.out D32.out true (by simp) ?_))
    | (refine wpL_yes rfl (wpL_slice_lit rfl 62 1 _ rfl Try.underlying62 digInfo3 (by decide) (by decide) [.agg (Lib.byteCells d).toArray] ?hv rfl (by simp [byteCells_length, D32.out, Value.cells]) ?_); (case hv => rfl); intro w7 ho7 hs7 hb7))
  have hb7' : Blk w7 w6.heap.size (Lib.byteCells d) 57 := by simpa [Value.cells] using hb7
  have hb6' := hb6.keep ho7
  have hdg : Digs w7 (.slice (some ⟨w6.heap.size, 0, none⟩) 1 1) [d] := ⟨w6.heap.size, 0, 1, rfl, Nat.le_refl _, hb7'.lt, fun j u hu => by rw [Nat.zero_add]; exact hb7'.cell (by simpa [digCells] using hu)⟩
  have T1 := Lib.hid (tree_one d _ w7 D32.out hdg)
  refine TextQ.mk ⟨hb6', ?_⟩ ?_
  case refine_2 => repeat' (first | exact rfl | exact fine_bytes rfl rfl rfl | refine fine_cons ?_ ?_)
  refine Held.cut 1 rfl rfl rfl (by kernel_rfl) ?_
  simp only [List.take_succ_cons, List.take_zero, List.drop_succ_cons, List.drop_zero, List.length_cons, List.length_nil]
  go_wp2_with (go_at_call 38; refine T1.out.mono ?_; rintro e w8 ⟨rfl, ho8⟩)
  have hb8 := hb6'.keep ho8
  refine TextQ.mk ⟨hb8, ?_⟩ rfl
  refine Held.cut 4 rfl rfl rfl (by kernel_rfl) ?_
  simp only [List.take_succ_cons, List.take_zero, List.drop_succ_cons, List.drop_zero, List.length_cons, List.length_nil]
  go_wp2_with (first
    | (refine wpL_yes rfl (wpL_load rfl 57 _ rfl w2.heap.size rfl _ (Lib.byteCells d) _ hb8 Try.underlying57 rfl digInfo (by rw [byteCells_length, D32.out]) ?_))
    | (refine wpL_yes rfl (wpL_eql_bytes rfl 57 _ (.tmp 67) (.tmp 68) rfl 5 32 Try.underlying57 Try.underlying5 (by kernel_rfl) (by kernel_rfl) d d rfl rfl D32.out D32.out true (by simp) ?_)))
  refine TextQ.mk ⟨hb8, ?_⟩ ?_
  case refine_2 => repeat' (first | exact rfl | exact fine_bytes rfl rfl rfl | refine fine_cons ?_ ?_)
  refine Held.done ?_
  go_wp2_with fail
  go_ret
  refine ⟨rfl, ?_⟩
  have o4 : Only [] w w4 := (((((ho1.alloc _).trans ho2).trans ho3).step ho4 (by
    intro i hi
    simp only [List.mem_singleton] at hi
    subst hi
    exact .inr (Nat.le_trans (ho1.alloc _).size ho2.size))))
  exact (((((o4.alloc _).drew.trans ho5).alloc _).trans ho6).trans ho7).trans ho8

end Go.Proofs.Ytlciphmjkbihkaa
