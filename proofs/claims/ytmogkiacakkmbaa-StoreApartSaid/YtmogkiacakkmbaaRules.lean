/- Rules and facts that several layers share: results, comparisons, sums of one text, places by a remainder. -/
import Derived.Test.YtmogkiacakkmbaaSt
import Derived.Test.YtmogkiacakkmbaaShaC
import Derived.Laws.ResultCell
namespace Go.Proofs.Ytmogkiacakkmbaa
open Go.RowKit

section
variable {P : Program} {fn : Func} {R : Ending → World → Prop} {a : Act} {w : World}
/-- The end of a call that gives a row in memory and a value. -/
theorem end_row_tmp2 {p q : Tmp} {ty t : TypeId} {b : Nat} {cs : List Value} {d : TypeDesc} {v : Value} (h : fn.results = #[.cell p ty, .tmp q]) (hp : a.tmps.getD p undef = .pointer (some ⟨b, 0, none⟩)) (hg : Blk w b cs t)
    (hu : P.underlying ty = some d) (hd : (match d with | .struct _ | .array _ _ => true | _ => false) = true) {n : Nat} (hi : (P.info? ty).map (·.size) = some n) (hn : cs.length = n) (hdef : a.defers = []) (hq : a.tmps.getD q undef = v)
    (hR : R (.returned (.tuple #[.agg cs.toArray, v])) w) : bodyPost P fn R .ret a w := by
  refine bodyPost_ret (v := .tuple #[.agg cs.toArray, v]) ?_ hdef hR
  rw [results_cell_tmp h, hp, hq]
  have hl := run_loadVar_row w b t ty cs.toArray (0, 0) d hg hu hd (by rw [hi, ← hn]; simp)
  simp [asAddr, hl, Result.andThen]
end

section
variable {P : Program} {w : World} {ops : Array Oper} {rest : List Oper} {o : Oper} {a : Act} {Q : Exit → Act → World → Prop}
/-- Two rows of bytes, compared the other way. -/
theorem wpL_neqB (hgd : o.guard = none) (t r : TypeId) (x y : Operand) (ho : o.op = .binOp .neq t x y r) (e : TypeId) (n : Nat) (ht : P.underlying t = some (.array n e)) (he : P.underlying e = some (.int .u8)) (hsz : (P.info? e).map (·.size) = some 1) (hgt : P.eqGuardType P.depth t = false)
    (xs ys : List UInt8) (hx : a.eval x = .agg (Lib.byteCells xs).toArray) (hy : a.eval y = .agg (Lib.byteCells ys).toArray) (hlx : xs.length = n) (hly : ys.length = n) (b : Bool) (hb : (xs == ys) = b)
    (h : wpList P ops Q rest (a.put o.dst (.bool !b)) w) : wpList P ops Q (o :: rest) a w := by
  refine wpL_run hgd (v := .bool !b) ?_ h
  obtain ⟨i, hi, hs⟩ : ∃ i, P.info? e = some i ∧ i.size = 1 := by
    cases hi : P.info? e with
    | none => simp [hi] at hsz
    | some i => exact ⟨i, rfl, by simpa [hi] using hsz⟩
  have hr := run_eql_bytes (P := P) w t e n ht he (fun w => by simp [sizeOf, typeInfo, hi, hs]) xs ys hlx hly
  subst hb
  have e1 : Lib.byteCells = fun xs => xs.map Extern.Stop.cell := rfl
  have hn : (binOp .neq t (.agg (xs.map Extern.Stop.cell).toArray) (.agg (ys.map Extern.Stop.cell).toArray)).run P w = .ok (.bool !(xs == ys)) w := by
    rw [run_eql_struct] at hr
    rw [run_neq_struct]
    cases hq : (Op.equalIn 10000 t (.agg (xs.map Extern.Stop.cell).toArray) (.agg (ys.map Extern.Stop.cell).toArray)).run P w with
    | halt y w' => rw [hq] at hr; simp [Result.andThen] at hr
    | ok v w' =>
      rw [hq] at hr
      simp [Result.andThen] at hr ⊢
      obtain ⟨rfl, rfl⟩ := hr
      exact ⟨rfl, rfl⟩
  unfold execOp
  simp only [ho, Sem.run_bind, hx, hy, run_eqGuard_agg w .neq t x y _ _ hgt, e1, hn, Result.andThen_ok, Sem.run_pure]
end

theorem strInfo : (Try.prog.info? 9).map (fun i => (i.zero, i.size, i.bytes)) = some (some (.string ⟨#[]⟩), 1, 16) := by kernel_rfl
theorem Strs.one {w : World} {b : Nat} {s : ByteArray} {ty : TypeId} (h : Blk w b [.string s] ty) : Strs w (.slice (some ⟨b, 0, none⟩) 1 1) [s] :=
  .inr ⟨b, 0, 1, rfl, fun j x hx => h.cell (by
    cases j with
    | zero => simp at hx; subst hx; rfl
    | succ j => simp at hx), h.lt, Nat.le_refl _⟩
theorem cat_one (s : ByteArray) : cat [s] = bl s := by simp [cat]
/-- The sum of one text. -/
theorem of_one (b : Nat) (s : ByteArray) (w : World) (ty : TypeId) (h : Blk w b [.string s] ty) (hs : s.size ≤ 1000000) : Calls Try.prog 121 #[.slice (some ⟨b, 0, none⟩) 1 1] w fun e w' => e = .returned (.agg (Lib.byteCells (Sha.sum (bl s))).toArray) ∧ Only [] w w' := by
  have := of_any _ [s] w (Strs.one h) (by simp) (by rw [cat_one, bl_length]; omega)
  rwa [cat_one] at this

theorem i64Info : (Try.prog.info? 3).map (fun i => (i.zero, i.size, i.bytes)) = some (some (.int .i64 0), 1, 8) := by kernel_rfl

theorem ext_size (s : ByteArray) (a b : Nat) (h : a ≤ b) (hb : b ≤ s.size) : (s.extract a b).size = b - a := by
  rw [← bl_length, bl_extract, List.length_drop, List.length_take, bl_length]
  omega
theorem rem_idx (z : Int) (n : Nat) (h : 0 < n) : ∃ i : Nat, (IntKind.u64.wrap z).tmod (n : Int) = (i : Int) ∧ i < n := by
  have h0 : 0 ≤ IntKind.u64.wrap z := by
    unfold IntKind.wrap
    simp [IntKind.signed, IntKind.bits]
    omega
  refine ⟨((IntKind.u64.wrap z) % (n : Int)).toNat, ?_, ?_⟩
  · rw [Int.tmod_eq_emod_of_nonneg h0]
    have := Int.emod_nonneg (IntKind.u64.wrap z) (b := (n : Int)) (by omega)
    omega
  · have := Int.emod_lt_of_pos (IntKind.u64.wrap z) (b := (n : Int)) (by omega)
    have := Int.emod_nonneg (IntKind.u64.wrap z) (b := (n : Int)) (by omega)
    omega

end Go.Proofs.Ytmogkiacakkmbaa
