/- Bytes read, by the document. -/
import Derived.Test.YtmogkiacakkmbaaEyeA
namespace Go.Proofs.Ytmogkiacakkmbaa
open Go.RowKit

set_option maxRecDepth 100000 in
set_option maxHeartbeats 2000000 in
theorem refFail_any (b : Nat) (s : ByteArray) (bad : Bool) (w : World) (h : Blk w b [.string s, .bool bad] 155) : Calls Try.prog 141 #[.pointer (some ⟨b, 0, none⟩)] w fun e w' => e = .returned (.tuple #[]) ∧ Blk w' b [.string ⟨#[]⟩, .bool true] 155 ∧ Only [b] w w' := by
  have c0 := h.cell (i := 0) rfl
  have c1 := h.cell (i := 1) rfl
  have f0 := h.free 0
  have f1 := h.free 1
  go_enter Try.func141, Try.ntmps141
  go_wp2
  go_end0
  exact ⟨rfl, (h.set 1 _).set 0 _, ((Only.refl _ w).set (by simp) _).set (by simp) _⟩

set_option maxRecDepth 100000 in
set_option maxHeartbeats 2000000 in
theorem refTake_yes (b : Nat) (s : ByteArray) (n : Nat) (w : World) (h : Blk w b [.string s, .bool false] 155) (hn : n ≤ s.size) : Calls Try.prog 140 #[.pointer (some ⟨b, 0, none⟩), .int .i64 n] w fun e w' => e = .returned (.string (s.extract 0 n)) ∧ Blk w' b [.string (s.extract n s.size), .bool false] 155 ∧ Only [b] w w' := by
  have c0 := h.cell (i := 0) rfl
  have c1 := h.cell (i := 1) rfl
  have f0 := h.free 0
  have g1 : ¬ (s.size : Int) < n := by omega
  go_enter Try.func140, Try.ntmps140
  go_wp2
  go_ret
  exact ⟨rfl, h.set 0 _, (Only.refl _ w).set (by simp) _⟩

set_option maxRecDepth 100000 in
set_option maxHeartbeats 2000000 in
theorem refTake_no (b : Nat) (s : ByteArray) (bad : Bool) (n : Nat) (w : World) (h : Blk w b [.string s, .bool bad] 155) (hn : bad = true ∨ (s.size : Int) < n) : Calls Try.prog 140 #[.pointer (some ⟨b, 0, none⟩), .int .i64 n] w fun e w' => e = .returned (.string ⟨#[]⟩) ∧ Blk w' b [.string ⟨#[]⟩, .bool true] 155 ∧ Only [b] w w' := by
  have c0 := h.cell (i := 0) rfl
  have c1 := h.cell (i := 1) rfl
  have FL := Lib.hid (refFail_any b s bad w h)
  cases bad with
  | true =>
    go_enter Try.func140, Try.ntmps140
    go_wp2_with (go_at_call 141; refine FL.out.mono ?_; rintro e w1 ⟨rfl, hb1, ho1⟩)
    go_ret
    exact ⟨rfl, hb1, ho1⟩
  | false =>
    have g1 : (s.size : Int) < n := by simpa using hn
    clear hn
    go_enter Try.func140, Try.ntmps140
    go_wp2_with (go_at_call 141; refine FL.out.mono ?_; rintro e w1 ⟨rfl, hb1, ho1⟩)
    go_ret
    exact ⟨rfl, hb1, ho1⟩

set_option maxRecDepth 100000 in
set_option maxHeartbeats 4000000 in
theorem refEyeNum_no (b : Nat) (s : ByteArray) (bad : Bool) (most : Int) (w : World) (h : Blk w b [.string s, .bool bad] 155) (hn : bad = true ∨ (s.size : Int) < 4) :
    Calls Try.prog 95 #[.pointer (some ⟨b, 0, none⟩), .int .i64 most] w fun e w' => e = .returned (.int .i64 (eyeNum most s bad).1) ∧ Blk w' b [.string (eyeNum most s bad).2.1, .bool (eyeNum most s bad).2.2] 155 ∧ Only [b] w w' := by
  rw [eyeNum_bad most s bad hn]
  have TK := Lib.hid (refTake_no b s bad 4 w h hn)
  clear hn
  go_enter Try.func95, Try.ntmps95
  go_wp2_with (go_at_call 140; refine TK.out.mono ?_; rintro e w1 ⟨rfl, hb1, ho1⟩; have c1 := hb1.cell (i := 1) rfl)
  go_ret
  exact ⟨rfl, hb1, ho1⟩

set_option maxRecDepth 100000 in
set_option maxHeartbeats 8000000 in
theorem refEyeNum_yes (b : Nat) (s : ByteArray) (most : Int) (w : World) (h : Blk w b [.string s, .bool false] 155) (h4 : 4 ≤ s.size) :
    Calls Try.prog 95 #[.pointer (some ⟨b, 0, none⟩), .int .i64 most] w fun e w' => e = .returned (.int .i64 (eyeNum most s false).1) ∧ Blk w' b [.string (eyeNum most s false).2.1, .bool (eyeNum most s false).2.2] 155 ∧ Only [b] w w' := by
  have TK := Lib.hid (refTake_yes b s 4 w h h4)
  have E1 := Lib.hid (eyeNum_over most s h4)
  have E2 := Lib.hid (eyeNum_ok most s h4)
  have hT4 := bl_extract4 s h4
  obtain ⟨T, eT⟩ : ∃ T, T = s.extract 0 4 := ⟨_, rfl⟩
  rw [← eT] at TK E1 E2 hT4
  obtain ⟨R, eR⟩ : ∃ R, R = s.extract 4 s.size := ⟨_, rfl⟩
  rw [← eR] at TK E2
  obtain ⟨x0, x1, x2, x3, hx⟩ : ∃ x0 x1 x2 x3, bl T = [x0, x1, x2, x3] := by
    have hl : (bl T).length = 4 := by rw [bl_length, hT4]
    match bl T, hl with
    | [a, b, c, d], _ => exact ⟨a, b, c, d, rfl⟩
  have l0 := x0.toNat_lt
  have l1 := x1.toNat_lt
  have l2 := x2.toNat_lt
  have l3 := x3.toNat_lt
  have hv : leNat (bl T) = x0.toNat + x1.toNat * 256 + x2.toNat * 65536 + x3.toNat * 16777216 := by
    rw [hx]
    simp only [leNat]
    omega
  obtain ⟨a0, e0⟩ : ∃ a, a = x0.toNat := ⟨_, rfl⟩
  obtain ⟨a1, e1⟩ : ∃ a, a = x1.toNat := ⟨_, rfl⟩
  obtain ⟨a2, e2⟩ : ∃ a, a = x2.toNat := ⟨_, rfl⟩
  obtain ⟨a3, e3⟩ : ∃ a, a = x3.toNat := ⟨_, rfl⟩
  have I0 : Hid (a0 = ((bl T).getD (0 : Int).toNat 0).toNat) := by rw [hx]; exact e0
  have I1 : Hid (a1 = ((bl T).getD (1 : Int).toNat 0).toNat) := by rw [hx]; exact e1
  have I2 : Hid (a2 = ((bl T).getD (2 : Int).toNat 0).toNat) := by rw [hx]; exact e2
  have I3 : Hid (a3 = ((bl T).getD (3 : Int).toNat 0).toNat) := by rw [hx]; exact e3
  rw [← e0, ← e1, ← e2, ← e3] at hv
  rw [← e0] at l0
  rw [← e1] at l1
  rw [← e2] at l2
  rw [← e3] at l3
  rw [hv] at E1 E2
  clear eT eR h4 h hx e0 e1 e2 e3 hv
  by_cases hov : most < ((a0 + a1 * 256 + a2 * 65536 + a3 * 16777216 : Nat) : Int)
  · rw [E1.out hov]
    clear E1 E2
    have hov' : most < (a0 : Int) + a1 * 256 + a2 * 65536 + a3 * 16777216 := by omega
    clear hov
    go_enter Try.func95, Try.ntmps95
    go_wp2_with (go_at_call 140; refine TK.out.mono ?_; rintro e w1 ⟨rfl, hb1, ho1⟩; have c1 := hb1.cell (i := 1) rfl)
    refine wp_region_text (by kernel_rfl) (by kernel_rfl) ?_
    have hb1d := hb1.drew
    have ho1d := ho1.drew
    go_wp2_with (first
      | (refine wpL_index_byte rfl _ _ (.const (.int .i64 0)) rfl T rfl rfl Try.underlying9 (by decide) (by rw [hT4]; decide) a0 I0 ?_)
      | (refine wpL_index_byte rfl _ _ (.const (.int .i64 1)) rfl T rfl rfl Try.underlying9 (by decide) (by rw [hT4]; decide) a1 I1 ?_)
      | (refine wpL_index_byte rfl _ _ (.const (.int .i64 2)) rfl T rfl rfl Try.underlying9 (by decide) (by rw [hT4]; decide) a2 I2 ?_)
      | (refine wpL_index_byte rfl _ _ (.const (.int .i64 3)) rfl T rfl rfl Try.underlying9 (by decide) (by rw [hT4]; decide) a3 I3 ?_))
    refine TextQ.mk ?_ rfl
    go_wp2_with (go_at_call 141; refine (refFail_any b R false _ hb1d).mono ?_; rintro e w3 ⟨rfl, hb3, ho3⟩)
    go_ret
    exact ⟨rfl, hb3, ho1d.trans ho3⟩
  · rw [E2.out hov]
    clear E1 E2
    have hov' : ¬ most < (a0 : Int) + a1 * 256 + a2 * 65536 + a3 * 16777216 := by omega
    clear hov
    go_enter Try.func95, Try.ntmps95
    go_wp2_with (go_at_call 140; refine TK.out.mono ?_; rintro e w1 ⟨rfl, hb1, ho1⟩; have c1 := hb1.cell (i := 1) rfl)
    refine wp_region_text (by kernel_rfl) (by kernel_rfl) ?_
    have hb1d := hb1.drew
    have ho1d := ho1.drew
    go_wp2_with (first
      | (refine wpL_index_byte rfl _ _ (.const (.int .i64 0)) rfl T rfl rfl Try.underlying9 (by decide) (by rw [hT4]; decide) a0 I0 ?_)
      | (refine wpL_index_byte rfl _ _ (.const (.int .i64 1)) rfl T rfl rfl Try.underlying9 (by decide) (by rw [hT4]; decide) a1 I1 ?_)
      | (refine wpL_index_byte rfl _ _ (.const (.int .i64 2)) rfl T rfl rfl Try.underlying9 (by decide) (by rw [hT4]; decide) a2 I2 ?_)
      | (refine wpL_index_byte rfl _ _ (.const (.int .i64 3)) rfl T rfl rfl Try.underlying9 (by decide) (by rw [hT4]; decide) a3 I3 ?_))
    refine TextQ.mk ?_ rfl
    go_wp2_with fail
    go_ret
    refine ⟨?_, hb1d, ho1d⟩
    simp

theorem refEyeNum_any (b : Nat) (s : ByteArray) (bad : Bool) (most : Int) (w : World) (h : Blk w b [.string s, .bool bad] 155) :
    Calls Try.prog 95 #[.pointer (some ⟨b, 0, none⟩), .int .i64 most] w fun e w' => e = .returned (.int .i64 (eyeNum most s bad).1) ∧ Blk w' b [.string (eyeNum most s bad).2.1, .bool (eyeNum most s bad).2.2] 155 ∧ Only [b] w w' := by
  by_cases hn : bad = true ∨ (s.size : Int) < 4
  · exact refEyeNum_no b s bad most w h hn
  · have hb : bad = false := by cases bad <;> simp_all
    subst hb
    exact refEyeNum_yes b s most w h (by omega)

end Go.Proofs.Ytmogkiacakkmbaa
