/- What the laws of picks hold fast: answers fixed by number. -/
import Derived.Test.YtbfjhpbppaddfaaFairD
namespace Go.Proofs.Ytbfjhpbppaddfaa
open Go.RowKit

/-- A command, as its cells stand: the kind, the id, the number, a flag, two rows and a text. -/
def cmdC (k i n : Int) (g : Bool) (p d : Value) (s : ByteArray) : List Value := [.int .i64 k, .int .i64 i, .int .i64 n, .bool g, p, d, .string s]

set_option maxRecDepth 100000 in
set_option maxHeartbeats 2000000 in
theorem places3_any (ad : Option Addr) (w : World) : Calls Try.prog 29 #[.agg #[.int .i64 1, .int .i64 0, .int .i64 2, .bool false, .slice ad 2 2, .slice none 0 0, .string ⟨#[]⟩]] w fun e w' => e = .returned (.int .i64 3) ∧ Only [] w w' := by
  go_enter Try.func29, Try.ntmps29
  go_wp2
  go_ret
  exact ⟨rfl, (Only.refl [] w).alloc _⟩

theorem next_bounds (f : Int → Int) (id : Int) (xs : List Int) (h : ∀ x, 0 ≤ f x ∧ f x ≤ 1000) (x : Int) : 0 ≤ nextF f id xs x ∧ nextF f id xs x ≤ 1001 := by
  have := h x
  unfold nextF
  split <;> omega

theorem wfi12 : ∀ x ∈ ([1, 2] : List Int), wfi x := fun x hx => by
  simp only [List.mem_cons, List.not_mem_nil, or_false] at hx
  rcases hx with rfl | rfl <;> exact wfi_of (by omega) (by omega)
def f0 : Int → Int := fun _ => 0
def f1 : Int → Int := nextF f0 1 [1, 2]
theorem f0_b (x : Int) : 0 ≤ f0 x ∧ f0 x ≤ 1000 := by unfold f0; omega
theorem f1_b (x : Int) : 0 ≤ f1 x ∧ f1 x ≤ 1001 := next_bounds f0 1 [1, 2] f0_b x

theorem see12 (f : Int → Int) (r : Bool) (hr : okAll f 1 2 [1, 2] = r) (hf : ∀ x, 0 ≤ f x ∧ f x ≤ 1000000) (n : Nat) (w : World) (a b : Nat) (ha : Blk w a [.int .i64 2, .map (some b)] 67) (hm : WMap w b n f) :
    Calls Try.prog 9 #[.pointer (some ⟨a, 0, none⟩), .int .i64 1, .slice (some ⟨w.heap.size, 0, none⟩) 2 2] (w.alloc (.cells #[.int .i64 1, .int .i64 2] 3)) fun e w' => e = .returned (.bool r) ∧ (∃ b', Blk w' a [.int .i64 2, .map (some b')] 67 ∧ WMap w' b' 2 (nextF f 1 [1, 2])) ∧ Only [a] w w' := by
  have ho : Only [] w (w.alloc (.cells #[.int .i64 1, .int .i64 2] 3)) := (Only.refl [] w).alloc _
  refine (see_any a b n 2 1 f [1, 2] _ _ (ha.keep ho) (hm.keep ho) (Ints.made w [1, 2] 3) hf wfi12 (by decide)).mono ?_
  rintro e w' ⟨rfl, h1, h2, h3⟩
  exact ⟨by rw [hr], ⟨_, h1, h2⟩, ((Only.refl [a] w).alloc _).trans h3⟩
theorem due12 (f : Int → Int) (r : Int) (hr : dueOf f 2 [1, 2] = r) (hf : ∀ x, 0 ≤ f x ∧ f x ≤ 1000000) (n : Nat) (w : World) (a b : Nat) (ha : Blk w a [.int .i64 2, .map (some b)] 67) (hm : WMap w b n f) :
    Calls Try.prog 11 #[.pointer (some ⟨a, 0, none⟩), .slice (some ⟨w.heap.size, 0, none⟩) 2 2] (w.alloc (.cells #[.int .i64 1, .int .i64 2] 3)) fun e w' => e = .returned (.int .i64 r) ∧ Only [] w w' := by
  have ho : Only [] w (w.alloc (.cells #[.int .i64 1, .int .i64 2] 3)) := (Only.refl [] w).alloc _
  refine (due_any a b n 2 f [1, 2] _ _ (ha.keep ho) (hm.keep ho) (Ints.made w [1, 2] 3) hf wfi12 (by omega) (by decide)).mono ?_
  rintro e w' ⟨rfl, h3⟩
  exact ⟨by rw [hr], ho.trans h3⟩
theorem bound14 (w : World) : Calls Try.prog 28 #[.int .i64 2, .slice (some ⟨w.heap.size, 0, none⟩) 2 2] (w.alloc (.cells #[.int .i64 3, .int .i64 4] 3)) fun e w' => e = .returned (.int .i64 14) ∧ Only [] w w' := by
  refine (bound_any 2 [3, 4] _ _ (Ints.made w [3, 4] 3) (by decide)).mono ?_
  rintro e w' ⟨rfl, rfl⟩
  exact ⟨by rw [show boundOf 2 [3, 4] = 14 by decide], (Only.refl [] w).alloc _⟩

set_option maxRecDepth 100000 in
set_option maxHeartbeats 16000000 in
theorem awake38_any (w : World) : Calls Try.prog 7 #[] w fun e w' => e = .returned (.bool true) ∧ Only [] w w' := by
  have N2 : Hid (∀ w, Calls Try.prog 8 #[.int .i64 2] w fun e w' => e = .returned (.pointer (some ⟨w.heap.size + 1, 0, none⟩)) ∧ Blk w' (w.heap.size + 1) [.int .i64 2, .map (some w.heap.size)] 67 ∧ WMap w' w.heap.size 0 f0 ∧ Only [] w w') := fun w => fairNew_yes 2 (by omega) (by omega) w
  have N0 : Hid (∀ w, Calls Try.prog 8 #[.int .i64 0] w fun e w' => e = .returned (.pointer none) ∧ w = w') := fun w => fairNew_no 0 (by omega) w
  have S1 := Lib.hid (see12 f0 true (by decide) (fun x => by have := f0_b x; omega))
  have D1 := Lib.hid (due12 f1 2 (by decide) (fun x => by have := f1_b x; omega))
  have S2 := Lib.hid (see12 f1 false (by decide) (fun x => by have := f1_b x; omega))
  have B14 := Lib.hid bound14
  have P3 := Lib.hid places3_any
  go_enter Try.func7, Try.ntmps7
  go_wp2_with (go_at_call 8; refine (N2.out _).mono ?_)
  rintro e w1 ⟨rfl, ha1, hm1, ho1⟩
  obtain ⟨a, ea⟩ : ∃ a, a = w.heap.size + 1 := ⟨_, rfl⟩
  have hal : w.heap.size ≤ a := by omega
  rw [← ea] at ha1 ⊢
  clear ea
  go_wp2_with (go_at_call 8; refine (N0.out _).mono ?_; rintro e w2 ⟨rfl, rfl⟩)
  refine (S1.out 0 w1 a w.heap.size ha1 hm1).mono ?_
  rintro e w3 ⟨rfl, ⟨b3, ha3, hm3⟩, ho3⟩
  have a3 : Only [] w w3 := ho1.step ho3 (fun i hi => .inr (by simp at hi; omega))
  clear ha1 hm1 ho1 ho3 S1
  go_wp2_with fail
  refine (D1.out 2 w3 a b3 ha3 hm3).mono ?_
  rintro e w4 ⟨rfl, ho4⟩
  have a4 := a3.trans ho4
  have ha4 := ha3.keep ho4
  have hm4 := hm3.keep ho4
  clear ha3 hm3 a3 ho4 D1
  go_wp2_with fail
  refine (S2.out 2 w4 a b3 ha4 hm4).mono ?_
  rintro e w5 ⟨rfl, ⟨b5, ha5, hm5⟩, ho5⟩
  have a5 : Only [] w w5 := a4.step ho5 (fun i hi => .inr (by simp at hi; omega))
  clear ha4 hm4 a4 ho5 S2 ha5 hm5
  go_wp2_with fail
  refine (B14.out w5).mono ?_
  rintro e w6 ⟨rfl, ho6⟩
  have a6 := a5.trans ho6
  clear a5 ho6 B14
  go_wp2_with (go_at_call 29; refine (P3.out _ _).mono ?_)
  rintro e w7 ⟨rfl, ho7⟩
  have a7 := (a6.alloc (.cells #[.int .i64 1, .int .i64 1] 3)).trans ho7
  clear a6 ho7
  go_wp2_with fail
  go_ret
  exact ⟨rfl, a7⟩

end Go.Proofs.Ytbfjhpbppaddfaa
