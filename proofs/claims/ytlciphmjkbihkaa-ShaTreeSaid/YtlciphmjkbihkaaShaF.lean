/- Walks: what the laws of sha are made of. -/
import Derived.Test.YtlciphmjkbihkaaShaE
namespace Go.Proofs.Ytlciphmjkbihkaa
open Go.RowKit

section
variable {P : Program} {w : World} {ops : Array Oper} {rest : List Oper} {o : Oper} {a : Act} {Q : Exit → Act → World → Prop}

/-- A guarded operation whose guard is met. -/
theorem wpL_yes (hg : Region.wanted o (yielded ops a.tmps) = true) (h : wpList P ops Q ({ o with guard := none } :: rest) a w) : wpList P ops Q (o :: rest) a w := by
  rw [wpList, if_pos hg]
  exact (if_pos (show Region.wanted { o with guard := none } (yielded ops a.tmps) = true from rfl)).mp h

/-- Two rows of bytes, compared. -/
theorem wpL_eql_bytes (hgd : o.guard = none) (t r : TypeId) (x y : Operand) (ho : o.op = .binOp .eql t x y r) (e : TypeId) (n : Nat) (ht : P.underlying t = some (.array n e)) (he : P.underlying e = some (.int .u8)) (hsz : (P.info? e).map (·.size) = some 1) (hgt : P.eqGuardType P.depth t = false)
    (xs ys : List UInt8) (hx : a.eval x = .agg (Lib.byteCells xs).toArray) (hy : a.eval y = .agg (Lib.byteCells ys).toArray) (hlx : xs.length = n) (hly : ys.length = n) (b : Bool) (hb : (xs == ys) = b)
    (h : wpList P ops Q rest (a.put o.dst (.bool b)) w) : wpList P ops Q (o :: rest) a w := by
  refine wpL_run hgd (v := .bool b) ?_ h
  obtain ⟨i, hi, hs⟩ : ∃ i, P.info? e = some i ∧ i.size = 1 := by
    cases hi : P.info? e with
    | none => simp [hi] at hsz
    | some i => exact ⟨i, rfl, by simpa [hi] using hsz⟩
  have hr := run_eql_bytes (P := P) w t e n ht he (fun w => by simp [sizeOf, typeInfo, hi, hs]) xs ys hlx hly
  subst hb
  have e1 : Lib.byteCells = fun xs => xs.map Extern.Stop.cell := rfl
  unfold execOp
  simp only [ho, Sem.run_bind, hx, hy, run_eqGuard_agg w .eql t x y _ _ hgt, e1, hr, Result.andThen_ok, Sem.run_pure]
/-- A string, compared with itself. -/
theorem wpL_eql_same (hgd : o.guard = none) (t r : TypeId) (x y : Operand) (ho : o.op = .binOp .eql t x y r) (s : ByteArray) (hx : a.eval x = .string s) (hy : a.eval y = .string s)
    (h : wpList P ops Q rest (a.put o.dst (.bool true)) w) : wpList P ops Q (o :: rest) a w := by
  refine wpL_run hgd (v := .bool true) ?_ h
  unfold execOp
  simp only [ho, Sem.run_bind, hx, hy]
  simp [eqGuard, binOp, Op.stringOp]
end

set_option maxRecDepth 100000 in
theorem awake_text1 : Sha.text (Sha.sum (cat [⟨#[97]⟩, ⟨#[98, 99]⟩])) = [98, 97, 55, 56, 49, 54, 98, 102, 56, 102, 48, 49, 99, 102, 101, 97, 52, 49, 52, 49, 52, 48, 100, 101, 53, 100, 97, 101, 50, 50, 50, 51, 98, 48, 48, 51, 54, 49, 97, 51, 57, 54, 49, 55, 55, 97, 57, 99, 98, 52, 49, 48, 102, 102, 54, 49, 102, 50, 48, 48, 49, 53, 97, 100] := by decide +kernel
set_option maxRecDepth 100000 in
theorem awake_text2 : Sha.text (Sha.sum (cat [⟨#[]⟩])) = [101, 51, 98, 48, 99, 52, 52, 50, 57, 56, 102, 99, 49, 99, 49, 52, 57, 97, 102, 98, 102, 52, 99, 56, 57, 57, 54, 102, 98, 57, 50, 52, 50, 55, 97, 101, 52, 49, 101, 52, 54, 52, 57, 98, 57, 51, 52, 99, 97, 52, 57, 53, 57, 57, 49, 98, 55, 56, 53, 50, 98, 56, 53, 53] := by decide +kernel

set_option maxRecDepth 100000 in
set_option maxHeartbeats 1000000 in
theorem awake_any (w : World) : Calls Try.prog 32 #[] w fun e w' => e = .returned (.bool true) ∧ Only [] w w' := by
  obtain ⟨d1, e1⟩ : ∃ d, d = Sha.sum (cat [⟨#[97]⟩, ⟨#[98, 99]⟩]) := ⟨_, rfl⟩
  obtain ⟨d2, e2⟩ : ∃ d, d = Sha.sum (cat []) := ⟨_, rfl⟩
  obtain ⟨d3, e3⟩ : ∃ d, d = Sha.sum (cat [⟨#[]⟩]) := ⟨_, rfl⟩
  have O1 : Hid (∀ w : World, Calls Try.prog 33 #[.slice (some ⟨w.heap.size, 0, none⟩) 2 2] (w.alloc (.cells #[.string ⟨#[97]⟩, .string ⟨#[98, 99]⟩] 9)) fun e w' => e = .returned (.agg (Lib.byteCells d1).toArray) ∧ Only [] (w.alloc (.cells #[.string ⟨#[97]⟩, .string ⟨#[98, 99]⟩] 9)) w') := fun w => by
    rw [e1]
    exact of_any _ [⟨#[97]⟩, ⟨#[98, 99]⟩] _ (Strs.made w [⟨#[97]⟩, ⟨#[98, 99]⟩] 9) (by decide) (by decide)
  have O3 : Hid (∀ w : World, Calls Try.prog 33 #[.slice (some ⟨w.heap.size, 0, none⟩) 1 1] (w.alloc (.cells #[.string ⟨#[]⟩] 9)) fun e w' => e = .returned (.agg (Lib.byteCells d3).toArray) ∧ Only [] (w.alloc (.cells #[.string ⟨#[]⟩] 9)) w') := fun w => by
    rw [e3]
    exact of_any _ [⟨#[]⟩] _ (Strs.made w [⟨#[]⟩] 9) (by decide) (by decide)
  have O2 : Hid (∀ w : World, Calls Try.prog 33 #[.slice none 0 0] w fun e w' => e = .returned (.agg (Lib.byteCells d2).toArray) ∧ Only [] w w') := fun w => by
    rw [e2]
    exact of_any _ [] _ (.inl ⟨⟨none, 0, rfl⟩, rfl⟩) (by decide) (by decide)
  have T2 : Hid (∀ w : World, Calls Try.prog 38 #[.slice none 0 0] w fun e w' => e = .returned (.agg (Lib.byteCells d2).toArray) ∧ Only [] w w') := fun w => by
    rw [e2]
    exact tree_none none 0 w
  have X1 : Hid (∀ w : World, Calls Try.prog 51 #[.agg (Lib.byteCells d1).toArray] w fun e w' => e = .returned (.string ⟨#[98, 97, 55, 56, 49, 54, 98, 102, 56, 102, 48, 49, 99, 102, 101, 97, 52, 49, 52, 49, 52, 48, 100, 101, 53, 100, 97, 101, 50, 50, 50, 51, 98, 48, 48, 51, 54, 49, 97, 51, 57, 54, 49, 55, 55, 97, 57, 99, 98, 52, 49, 48, 102, 102, 54, 49, 102, 50, 48, 48, 49, 53, 97, 100]⟩) ∧ Only [] w w') := fun w => by
    have := text_any d1 w (by rw [e1]; exact Sha.sum_length _)
    rwa [e1, awake_text1, ← e1] at this
  have X3 : Hid (∀ w : World, Calls Try.prog 51 #[.agg (Lib.byteCells d3).toArray] w fun e w' => e = .returned (.string ⟨#[101, 51, 98, 48, 99, 52, 52, 50, 57, 56, 102, 99, 49, 99, 49, 52, 57, 97, 102, 98, 102, 52, 99, 56, 57, 57, 54, 102, 98, 57, 50, 52, 50, 55, 97, 101, 52, 49, 101, 52, 54, 52, 57, 98, 57, 51, 52, 99, 97, 52, 57, 53, 57, 57, 49, 98, 55, 56, 53, 50, 98, 56, 53, 53]⟩) ∧ Only [] w w') := fun w => by
    have := text_any d3 w (by rw [e3]; exact Sha.sum_length _)
    rwa [e3, awake_text2, ← e3] at this
  have L2 : Hid (d2.length = 32) := by rw [e2]; exact Sha.sum_length _
  clear e1 e2 e3
  go_enter Try.func32, Try.ntmps32
  go_wp2_with (first
    | (go_at_call 33; refine (O1.out _).mono ?_; rintro e w1 ⟨rfl, ho1⟩)
    | (go_at_call 51; refine (X1.out _).mono ?_))
  rintro e w2 ⟨rfl, ho2⟩
  go_wp2_with (first
    | (refine wpL_eql_same rfl 9 _ (.tmp 3) _ rfl _ rfl rfl ?_)
    | (go_at_call 38; refine (T2.out _).mono ?_; rintro e w3 ⟨rfl, ho3⟩)
    | (go_at_call 33; refine (O2.out _).mono ?_))
  rintro e w4 ⟨rfl, ho4⟩
  go_wp2_with (first
    | (refine wpL_yes rfl (wpL_eql_bytes rfl 57 _ (.tmp 6) (.tmp 7) rfl 5 32 Try.underlying57 Try.underlying5 (by kernel_rfl) (by kernel_rfl) d2 d2 rfl rfl L2.out L2.out true (by simp) ?_))
    | (go_at_call 33; refine (O3.out _).mono ?_; rintro e w5 ⟨rfl, ho5⟩)
    | (go_at_call 51; refine (X3.out _).mono ?_; rintro e w6 ⟨rfl, ho6⟩)
    | (refine wpL_yes rfl (wpL_eql_same rfl 9 _ (.tmp 13) _ rfl _ rfl rfl ?_)))
  go_ret
  exact ⟨rfl, (((((((Only.refl [] w).alloc _).trans ho1).trans ho2).trans ho3).trans ho4).alloc _).trans ho5 |>.trans ho6⟩

end Go.Proofs.Ytlciphmjkbihkaa
