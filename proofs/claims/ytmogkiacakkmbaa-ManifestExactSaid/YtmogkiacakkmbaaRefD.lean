/- Walks: the reference's pair; texts put one behind the other; the law ShaExact. -/
import Derived.Test.YtmogkiacakkmbaaRefC
import Derived.Test.YtmogkiacakkmbaaShaE
namespace Go.Proofs.Ytmogkiacakkmbaa
open Go.RowKit

theorem bl_append (s t : ByteArray) : bl (s ++ t) = bl s ++ bl t := by
  unfold bl
  rw [ByteArray.data_append, Array.toList_append]

theorem cat_append (xs ys : List ByteArray) : cat (xs ++ ys) = cat xs ++ cat ys := by simp [cat]
theorem cat_cons (x : ByteArray) (xs : List ByteArray) : cat (x :: xs) = bl x ++ cat xs := by simp [cat]
theorem cat_take (xs : List ByteArray) (k : Nat) (h : k < xs.length) : cat (xs.take (k + 1)) = cat (xs.take k) ++ bl xs[k] := by
  rw [List.take_succ_eq_append_getElem h, cat_append]
  simp [cat]
section
variable {P : Program} {w : World} {ops : Array Oper} {rest : List Oper} {o : Oper} {a : Act} {Q : Exit → Act → World → Prop}
theorem run_concat (t r : TypeId) (x y : Operand) (ho : o.op = .binOp .add t x y r) (s u : ByteArray) (hx : a.eval x = .string s) (hy : a.eval y = .string u) (hl : s.size + u.size ≤ 9223372036854775807) :
    (execOp a.eval o).run P w = .ok (.value (.string (s ++ u))) w := by
  have h : ¬ ((s.size + u.size : Nat) : Int) > IntKind.i64.max := by
    rw [show IntKind.i64.max = 9223372036854775807 from rfl]
    omega
  unfold execOp
  simp only [ho, Sem.run_bind, hx, hy]
  simp only [eqGuard, binOp, Op.stringOp, if_neg h]
  rfl
/-- Two texts, one behind the other. -/
theorem wpL_concat (hgd : o.guard = none) (t r : TypeId) (x y : Operand) (ho : o.op = .binOp .add t x y r) (s u : ByteArray) (hx : a.eval x = .string s) (hy : a.eval y = .string u) (hl : s.size + u.size ≤ 9223372036854775807)
    (h : wpList P ops Q rest (a.put o.dst (.string (s ++ u))) w) : wpList P ops Q (o :: rest) a w := wpL_run hgd (run_concat t r x y ho s u hx hy hl) h
end

set_option maxRecDepth 100000 in
set_option maxHeartbeats 1000000 in
theorem refPair_any (a b : List UInt8) (w : World) (ha : a.length = 32) (hb : b.length = 32) :
    Calls Try.prog 126 #[.agg (Lib.byteCells a).toArray, .agg (Lib.byteCells b).toArray] w fun e w' => e = .returned (.agg (Lib.byteCells (Sha.pair a b)).toArray) ∧ Only [] w w' := by
  have hA := Blk.new w (Lib.byteCells a) 101
  have hB := Blk.new (w.alloc (.cells (Lib.byteCells a).toArray 101)) (Lib.byteCells b) 101
  have HA := Lib.hid (hA.alloc (.cells (Lib.byteCells b).toArray 101))
  have HB := Lib.hid hB
  have HLA := Lib.hid ha
  have HLB := Lib.hid hb
  clear ha hb hA hB
  go_enter Try.func126, Try.ntmps126
  go_wp2_with (refine wpL_alloc rfl 4 rfl _ rfl (.agg zeros32.toArray) zeros32 (by kernel_rfl) rfl ?_; intro w1 ho1 hs1 hb1)
  go_frame
  have hA1 := HA.out.keep ho1
  have hB1 := HB.out.keep ho1
  have hca : (convert 56 9 (.slice (some ⟨w.heap.size, 0, none⟩) 32 32)).run Try.prog w1.drew = .ok (.string ⟨a.toArray⟩) w1.drew := by
    have := run_bytes_text (P := Try.prog) hA1.drew (src := 56) (dst := 9) Try.underlying56 Try.underlying5 Try.underlying9 32
    rwa [HLA.out] at this
  have hcb : (convert 56 9 (.slice (some ⟨w.heap.size + 1, 0, none⟩) 32 32)).run Try.prog w1.drew = .ok (.string ⟨b.toArray⟩) w1.drew := by
    have := run_bytes_text (P := Try.prog) hB1.drew (src := 56) (dst := 9) Try.underlying56 Try.underlying5 Try.underlying9 32
    rw [HLB.out] at this
    simpa using this
  have hs1 : (⟨a.toArray⟩ : ByteArray).size = 32 := HLA.out
  have hs2 : (⟨b.toArray⟩ : ByteArray).size = 32 := HLB.out
  have HO : Hid (∀ w, Calls Try.prog 93 #[.string ((⟨#[1]⟩ ++ ⟨a.toArray⟩) ++ ⟨b.toArray⟩)] w fun e w' => e = .returned (.agg (Lib.byteCells (Sha.pair a b)).toArray) ∧ Only [] w w') := fun w => by
    have := refOf_any ((⟨#[1]⟩ ++ ⟨a.toArray⟩) ++ ⟨b.toArray⟩) w (by rw [← bl_length, bl_append, bl_append]; simp [bl_length, hs1, hs2]; decide)
    rw [bl_append, bl_append] at this
    exact this
  go_still_tail 6, (by kernel_rfl)
  change wpList _ _ _ _ _ w1.drew
  have hz1 : Blk w1 (w.heap.size + 1 + 1) zeros32 101 := by simpa using hb1
  have hov : Only [] w w1.drew := ((((Only.refl [] w).alloc _).alloc _).trans ho1).drew
  go_wp2_with (go_at_call 93; refine (HO.out _).mono ?_)
  rintro e w2 ⟨rfl, ho2⟩
  have hz2 := hz1.drew.keep ho2
  go_wp2_with (refine wpL_store rfl _ _ _ rfl (w.heap.size + 1 + 1) (Lib.byteCells (Sha.pair a b)).toArray rfl rfl _ _ hz2 (by kernel_rfl : (Try.prog.info? 101).map (·.size) = some 32) (by rw [List.size_toArray, byteCells_length]; exact Sha.sum_length _) rfl (byteCells_one _) ?_; intro w3 ho3 hs3 hb3)
  refine end_row (ty := 101) Try.results126 rfl hb3 Try.underlying101 rfl (by kernel_rfl : (Try.prog.info? 101).map (·.size) = some 32) (by rw [byteCells_length]; exact Sha.sum_length _) rfl ⟨rfl, (hov.trans ho2).step ho3 (by simp; omega)⟩

end Go.Proofs.Ytmogkiacakkmbaa
