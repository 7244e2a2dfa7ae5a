/- Models: their sums; BrainBack, walked. -/
import Derived.Test.YtgdifegbpbnekaaBrainH
import Derived.Test.YtgdifegbpbnekaaShaE
namespace Go.Proofs.Ytgdifegbpbnekaa
open Go.RowKit

section
variable {P : Program} {w : World} {ops : Array Oper} {rest : List Oper} {o : Oper} {a : Act} {Q : Exit → Act → World → Prop}
/-- Two rows of bytes, compared the other way. -/
theorem wpL_neqB (hgd : o.guard = none) (t r : TypeId) (x y : Operand) (ho : o.op = .binOp .neq t x y r) (e : TypeId) (n : Nat) (ht : P.underlying t = some (.array n e)) (he : P.underlying e = some (.int .u8)) (hsz : (P.info? e).map (·.size) = some 1) (hgt : P.eqGuardType P.depth t = false)
    (xs ys : List UInt8) (hx : a.eval x = .agg (Lib.byteCells xs).toArray) (hy : a.eval y = .agg (Lib.byteCells ys).toArray) (hlx : xs.length = n) (hly : ys.length = n) (b : Bool) (hb : (xs == ys) = b)
    (h : wpList P ops Q rest (a.put o.dst (.bool !b)) w) : wpList P ops Q (o :: rest) a w := by
  refine wpL_run hgd (v := .bool !b) ?_ h
  obtain ⟨i, hi, hs⟩ : ∃ i, P.info? e = some i ∧ i.size = 1 := by
    cases hi : P.info? e with
    | none => simp [hi] at hsz
    | some i => exact ⟨i, rfl, by simpa [hi] using hsz⟩
  have hr := run_eql_bytes (P := P) w t e n ht he (fun w => by simp [sizeOf, typeInfo, hi, hs]) xs ys hlx hly
  subst hb
  have e1 : Lib.byteCells = fun xs => xs.map Extern.Stop.cell := rfl
  have hn : (binOp .neq t (.agg (xs.map Extern.Stop.cell).toArray) (.agg (ys.map Extern.Stop.cell).toArray)).run P w = .ok (.bool !(xs == ys)) w := by
    rw [run_eql_struct] at hr
    rw [run_neq_struct]
    cases hq : (Op.equalIn 10000 t (.agg (xs.map Extern.Stop.cell).toArray) (.agg (ys.map Extern.Stop.cell).toArray)).run P w with
    | halt y w' => rw [hq] at hr; simp [Result.andThen] at hr
    | ok v w' =>
      rw [hq] at hr
      simp [Result.andThen] at hr ⊢
      obtain ⟨rfl, rfl⟩ := hr
      exact ⟨rfl, rfl⟩
  unfold execOp
  simp only [ho, Sem.run_bind, hx, hy, run_eqGuard_agg w .neq t x y _ _ hgt, e1, hn, Result.andThen_ok, Sem.run_pure]
end

theorem strInfo : (Try.prog.info? 9).map (fun i => (i.zero, i.size, i.bytes)) = some (some (.string ⟨#[]⟩), 1, 16) := by kernel_rfl
theorem Strs.one {w : World} {b : Nat} {s : ByteArray} {ty : TypeId} (h : Blk w b [.string s] ty) : Strs w (.slice (some ⟨b, 0, none⟩) 1 1) [s] :=
  .inr ⟨b, 0, 1, rfl, fun j x hx => h.cell (by
    cases j with
    | zero => simp at hx; subst hx; rfl
    | succ j => simp at hx), h.lt, Nat.le_refl _⟩
theorem cat_one (s : ByteArray) : cat [s] = bl s := by simp [cat]
/-- The sum of one text. -/
theorem of_one (b : Nat) (s : ByteArray) (w : World) (ty : TypeId) (h : Blk w b [.string s] ty) (hs : s.size ≤ 1000000) : Calls Try.prog 88 #[.slice (some ⟨b, 0, none⟩) 1 1] w fun e w' => e = .returned (.agg (Lib.byteCells (Sha.sum (bl s))).toArray) ∧ Only [] w w' := by
  have := of_any _ [s] w (Strs.one h) (by simp) (by rw [cat_one, bl_length]; omega)
  rwa [cat_one] at this

set_option maxRecDepth 100000 in
set_option maxHeartbeats 4000000 in
theorem brainDigest_any (b : Nat) (c : Cfg) (s : ByteArray) (w : World) (hb : Blk w b (brnC c s) 38) (hs : s.size ≤ 100000) :
    Calls Try.prog 43 #[.pointer (some ⟨b, 0, none⟩)] w fun e w' => e = .returned (.agg (Lib.byteCells (Sha.sum (bl (c.bytes ++ s)))).toArray) ∧ Only [] w w' := by
  have BY : Hid (∀ w', Only [] w w' → Calls Try.prog 41 #[.pointer (some ⟨b, 0, none⟩)] w' fun e w'' => e = .returned (.string (c.bytes ++ s)) ∧ Only [] w' w'') := fun w' ho => brainBytes_any b c s w' (hb.keep ho) hs
  have hsz := bytes_size c s
  have OO : Hid (∀ b w, Blk w b [.string (c.bytes ++ s)] 9 → Calls Try.prog 88 #[.slice (some ⟨b, 0, none⟩) 1 1] w fun e w' => e = .returned (.agg (Lib.byteCells (Sha.sum (bl (c.bytes ++ s)))).toArray) ∧ Only [] w w') := fun b w h => of_one b _ w _ h (by omega)
  have hst := St.start w []
  have HL : Hid ((Lib.byteCells (Sha.sum (bl (c.bytes ++ s)))).length = zeros32.length) := by show _ = _; simp [Lib.byteCells, zeros32, Sha.sum_length]
  have H1 : Hid ((Lib.byteCells (Sha.sum (bl (c.bytes ++ s)))).all (·.oneCell') = true) := by
    show _ = _
    rw [List.all_eq_true]
    exact byteCells_ones _
  generalize Lib.byteCells (Sha.sum (bl (c.bytes ++ s))) = R at *
  generalize c.bytes ++ s = T at *
  clear hb hs hsz
  go_enter Try.func43, Try.ntmps43
  go_wp2_with (first
    | (refine wpL_allocS hst rfl 48 rfl (.agg zeros32.toArray) zeros32 (by kernel_rfl) rfl _ rfl ?_; clear hst; intro w1 b1 hb1 hst)
    | (go_at_call 41; (with_reducible refine (BY.out _ hst.only).mono ?_); rintro e1 w1 ⟨rfl, ho1⟩; replace hst := hst.keep ho1; clear ho1)
    | (refine wpL_sliceS hst rfl 127 1 _ rfl Try.underlying127 strInfo (by decide) (by decide) [.string T] rfl rfl (by simp [Value.cells]) ?_; clear hst; intro w1 b2 hb2 hst)
    | (go_at_call 88; (with_reducible refine (OO.out _ _ (hst.blk 0 rfl)).mono ?_); rintro e1 w1 ⟨rfl, ho1⟩; replace hst := hst.keep ho1; clear ho1)
    | (refine wpL_storeS hst rfl (ty := 48) rfl 1 rfl rfl (D := R) rfl (by kernel_rfl) (by kernel_rfl) HL.out H1.out ?_; clear hst; intro w1 hst; simp only [List.set] at hst))
  refine end_row Try.results43 rfl (hst.blk 1 rfl) Try.underlying48 rfl digInfo (by rw [HL.out]; rfl) rfl ⟨rfl, hst.only⟩

end Go.Proofs.Ytgdifegbpbnekaa
