/- Manifests in the reference: bytes of the form, read; the law ManifestParse, walked. -/
import Derived.Test.YtmogkiacakkmbaaMrA
namespace Go.Proofs.Ytmogkiacakkmbaa
open Go.RowKit

section
variable {P : Program} {w : World} {ops : Array Oper} {rest : List Oper} {o : Oper} {a : Act} {Q : Exit → Act → World → Prop}
/-- Two texts, compared the other way. -/
theorem wpL_neqStr (hgd : o.guard = none) {t r : TypeId} {x y : Operand} (ho : o.op = .binOp .neq t x y r) (s u : ByteArray) (hx : a.eval x = .string s) (hy : a.eval y = .string u) (β : Bool) (hβ : decide (s = u) = β)
    (h : wpList P ops Q rest (a.put o.dst (.bool !β)) w) : wpList P ops Q (o :: rest) a w := by
  refine wpL_run hgd (v := .bool !β) ?_ h
  subst hβ
  have e : (s.toList == u.toList) = decide (s = u) := by
    by_cases hs : s = u
    · rw [str_eqq hs, decide_eq_true hs]
    · rw [str_neq hs, decide_eq_false hs]
  unfold execOp
  simp only [ho, Sem.run_bind, hx, hy]
  simp [eqGuard, binOp, Op.stringOp]
  exact e
end
/-- The last sum is told by the bytes. -/
theorem sum_told {b v z k : Int} {ds : List (List UInt8)} {r t : List UInt8} (h : manB b v z k ds r = ([b, v, z, k].map num4).flatten ++ sumX ds r t 0) : t = Sha.tree ds := by
  rw [manB_sumT, ← sumX_tree] at h
  have h1 := List.append_cancel_left h
  unfold sumX at h1
  have h2 := List.append_cancel_left h1
  simp only [List.flatten_cons, List.flatten_nil, List.append_nil] at h2
  exact (List.append_cancel_left h2).symm
theorem rtake_list (b : Nat) (d t : List UInt8) (w : World) (hd : d.length = 32) (h : Blk w b [.string ⟨(d ++ t).toArray⟩, .bool false] 155) :
    Calls Try.prog 140 #[.pointer (some ⟨b, 0, none⟩), .int .i64 32] w fun e w' => e = .returned (.string ⟨d.toArray⟩) ∧ Blk w' b [.string ⟨t.toArray⟩, .bool false] 155 ∧ Only [b] w w' := by
  obtain ⟨h1, h2, h3⟩ := digs_take d t hd
  have := refTake_yes b _ 32 w h h3
  rw [h1, h2] at this
  exact this
end Go.Proofs.Ytmogkiacakkmbaa

namespace Go.Proofs.Ytmogkiacakkmbaa
open Go.RowKit

def zeroB : List UInt8 := List.replicate 32 0
theorem mfZ_none : mfZ = Value.int .i64 0 :: .int .i64 0 :: .int .i64 0 :: .int .i64 0 :: .slice none 0 0 :: Lib.byteCells zeroB := by kernel_rfl

end Go.Proofs.Ytmogkiacakkmbaa
