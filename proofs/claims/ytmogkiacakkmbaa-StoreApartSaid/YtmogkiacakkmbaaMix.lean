/- Rules that several layers share: numbers held against each other; bytes that become a text; bytes written onto a pen. -/
import Derived.Test.YtmogkiacakkmbaaPen
import Derived.Test.YtmogkiacakkmbaaOrd
namespace Go.Proofs.Ytmogkiacakkmbaa
open Go.RowKit

section
variable {P : Program} {w : World} {ops : Array Oper} {rest : List Oper} {o : Oper} {a : Act} {Q : Exit → Act → World → Prop}
/-- Two numbers held against each other, what comes of it known. -/
theorem wpL_gtrB (hgd : o.guard = none) {t r : TypeId} {x y : Operand} (ho : o.op = .binOp .gtr t x y r) {m n : Int} (hx : a.eval x = .int .i64 m) (hy : a.eval y = .int .i64 n) (β : Bool) (hb : decide (n < m) = β)
    (h : wpList P ops Q rest (a.put o.dst (.bool β)) w) : wpList P ops Q (o :: rest) a w := by
  subst hb
  refine wpL_run hgd ?_ h
  unfold execOp
  simp only [ho, Sem.run_bind, hx, hy]
  simp [eqGuard, binOp, Op.intCmp]
/-- Two numbers held against each other, what comes of it known. -/
theorem wpL_lssB (hgd : o.guard = none) {t r : TypeId} {x y : Operand} (ho : o.op = .binOp .lss t x y r) {m n : Int} (hx : a.eval x = .int .i64 m) (hy : a.eval y = .int .i64 n) (β : Bool) (hb : decide (m < n) = β)
    (h : wpList P ops Q rest (a.put o.dst (.bool β)) w) : wpList P ops Q (o :: rest) a w := by
  subst hb
  refine wpL_run hgd ?_ h
  unfold execOp
  simp only [ho, Sem.run_bind, hx, hy]
  simp [eqGuard, binOp, Op.intCmp]
/-- Two numbers held against each other, what comes of it known. -/
theorem wpL_geqB (hgd : o.guard = none) {t r : TypeId} {x y : Operand} (ho : o.op = .binOp .geq t x y r) {m n : Int} (hx : a.eval x = .int .i64 m) (hy : a.eval y = .int .i64 n) (β : Bool) (hb : decide (n ≤ m) = β)
    (h : wpList P ops Q rest (a.put o.dst (.bool β)) w) : wpList P ops Q (o :: rest) a w := by
  subst hb
  refine wpL_run hgd ?_ h
  unfold execOp
  simp only [ho, Sem.run_bind, hx, hy]
  simp [eqGuard, binOp, Op.intCmp]
/-- Two numbers held against each other, what comes of it known. -/
theorem wpL_leqB (hgd : o.guard = none) {t r : TypeId} {x y : Operand} (ho : o.op = .binOp .leq t x y r) {m n : Int} (hx : a.eval x = .int .i64 m) (hy : a.eval y = .int .i64 n) (β : Bool) (hb : decide (m ≤ n) = β)
    (h : wpList P ops Q rest (a.put o.dst (.bool β)) w) : wpList P ops Q (o :: rest) a w := by
  subst hb
  refine wpL_run hgd ?_ h
  unfold execOp
  simp only [ho, Sem.run_bind, hx, hy]
  simp [eqGuard, binOp, Op.intCmp]
end
section
variable {P : Program} {w : World} {ops : Array Oper} {rest : List Oper} {o : Oper} {a : Act} {Q : Exit → Act → World → Prop}
/-- 'string(b)' of bytes that lie in a row. -/
theorem wpL_str (hgd : o.guard = none) (src dst e : TypeId) (x : Operand) (ho : o.op = .convert src dst x) (ad : Addr) (d : List UInt8) (n cap : Nat) (hx : a.eval x = .slice (some ad) n cap) (hn : d.length = n)
    (hs : P.underlying src = some (.slice e)) (he : P.underlying e = some (.int .u8)) (hd : P.underlying dst = some .string) (hc : ∀ j, j < d.length → w.cell? (ad.add j) = some (.int .u8 ((d.getD j 0).toNat : Int)))
    (h : wpList P ops Q rest (a.put o.dst (.string ⟨d.toArray⟩)) w) : wpList P ops Q (o :: rest) a w := by
  subst hn
  refine wpL_run hgd (v := .string ⟨d.toArray⟩) ?_ h
  have hr := run_convert_bytes_back w src dst e ad cap d hs he hd fun j hj => by rw [hc j hj, List.getD_eq_getElem?_getD, List.getElem?_eq_getElem hj]; rfl
  unfold execOp
  simp only [ho, hx, Sem.run_bind, hr, Result.andThen_ok, Sem.run_pure]
end
theorem byteCells_ones (d : List UInt8) : ∀ u ∈ Lib.byteCells d, u.oneCell' = true := by
  intro u hu
  simp only [Lib.byteCells, List.mem_map] at hu
  obtain ⟨c, _, rfl⟩ := hu
  rfl
theorem digOne (r : List UInt8) : (Lib.byteCells r).all (·.oneCell') = true := by rw [List.all_eq_true]; exact byteCells_ones _
theorem digLen (r : List UInt8) (h : r.length = 32) : (Lib.byteCells r).length = 32 := by simp [Lib.byteCells, h]

set_option maxHeartbeats 1000000 in
set_option maxRecDepth 100000 in
theorem writeBytes_any (b : Nat) (tail : List Value) (ty : TypeId) (v : Value) (l d : List UInt8) (ab o c : Nat) (w : World) (h : Bld w b tail ty v l) (hl : Lies ty (tail.length + 2)) (hlen : l.length + d.length ≤ 140737488355328) (hab : ab ≠ b)
    (hlt : ab < w.heap.size) (hc : ∀ j u, (Lib.byteCells d)[j]? = some u → w.cell? ⟨ab, o + j, none⟩ = some u) :
    Calls Try.prog 162 #[.pointer (some ⟨b, 0, none⟩), .slice (some ⟨ab, o, none⟩) d.length c] w fun e w' => e = .returned (.tuple #[.int .i64 (d.length : Int), .nilIface]) ∧ ∃ v', Bld w' b tail ty v' (l ++ d) ∧ Wrote w w' b v v' := by
  have h' := h
  obtain ⟨p, hp, hbk, hr, hne, hnil⟩ := h'
  have HC := Lib.hid hc
  clear hc
  go_enter Try.func162, Try.ntmps162
  go_wp2_with (go_at_call 146; refine (copyCheck_any b tail ty v l _ h hl).mono ?_)
  rintro e w1 ⟨rfl, ho1, hb1⟩
  have hr1 := ownsRow_only hr ho1 (fun k hk e => hne (by rw [hk]; simp at e; rw [e]))
  have c1 := hb1.cell (i := 1) rfl
  have f1 := hb1.free 1
  have hlt1 := hb1.lt
  have HC1 : Hid (∀ j u, (Lib.byteCells d)[j]? = some u → w1.cell? ((⟨ab, o, none⟩ : Addr).add j) = some u) := fun j u hu => by
    rw [show (⟨ab, o, none⟩ : Addr).add j = ⟨ab, o + j, none⟩ by unfold Addr.add; split <;> simp_all, ho1.cellAt _ _ hlt (by simp; exact hab)]
    exact HC.out j u hu
  go_wp2_with (refine wpL_append rfl _ _ _ rfl 0 5 Try.underlying56 byteInfo rfl (by decide) v l.length (Lib.byteCells l) rfl hr1 ⟨ab, o, none⟩ d.length c (Lib.byteCells d) rfl (by rw [byteCells_length]; omega) HC1.out (byteCells_ones d) ?c3 ?c4 (Nat.zero_le _) ?_)
  case c3 => unfold maxLen; omega
  case c4 => omega
  intro v' w2 hown' hgrow hwhere hiff
  have hb2 : Blk w2 b (.pointer (some ⟨b, 0, none⟩) :: v :: tail) ty := hb1.only (Only.of_grown hgrow) (fun hm => hne (by simpa using hm))
  have d1 := hb2.cell (i := 1) rfl
  have g1 := hb2.free 1
  obtain ⟨ao, n', cap, rfl⟩ : ∃ ao n' cap, v' = .slice ao n' cap := by
    rcases hown'.2 with ⟨hv, _⟩ | ⟨g, cap, cur, hv, _⟩
    · exact ⟨_, _, _, hv⟩
    · exact ⟨_, _, _, hv⟩
  have Hown := Lib.hid hown'
  have Hwh := Lib.hid hwhere
  have Hiff := Lib.hid hiff
  have Hnil := Lib.hid hnil
  clear hown' hwhere c1 hiff hnil HC HC1
  go_wp2
  go_ret2
  refine ⟨rfl, .slice ao n' cap, ?_⟩
  have e1 : Lib.byteCells l ++ Lib.byteCells d = Lib.byteCells (l ++ d) := by simp [Lib.byteCells]
  refine Bld.put hne hb1 ho1 ?_ hgrow ?_ ?_
  · have := Hown.out
    rw [e1, ← List.length_append] at this
    exact this
  · rcases Hwh.out with h | h
    · exact .inl h
    · exact .inr fun k hk => by rw [h] at hk; injection hk with hk; omega
  · intro h0
    have h1 := List.append_eq_nil_iff.1 h0
    exact Hiff.out.2 ⟨Hnil.out h1.1, by simp [h1.2]⟩

set_option maxHeartbeats 1000000 in
set_option maxRecDepth 100000 in
theorem penByte_any (b : Nat) (bad : Bool) (v : Value) (l d : List UInt8) (ab o c : Nat) (w : World) (h : Bld w b [.bool bad] 149 v l) (hlen : l.length + d.length ≤ 140737488355328) (hab : ab ≠ b)
    (hlt : ab < w.heap.size) (hc : ∀ j u, (Lib.byteCells d)[j]? = some u → w.cell? ⟨ab, o + j, none⟩ = some u) :
    Calls Try.prog 137 #[.pointer (some ⟨b, 0, none⟩), .slice (some ⟨ab, o, none⟩) d.length c] w fun e w' => e = .returned (.tuple #[]) ∧ ∃ v', Bld w' b [.bool bad] 149 v' (l ++ d) ∧ Wrote w w' b v v' := by
  have WB := Lib.hid (writeBytes_any b [.bool bad] 149 v l d ab o c w h lies_pen hlen hab hlt hc)
  clear h hlen hab hlt hc
  go_enter Try.func137, Try.ntmps137
  go_wp2_with (go_at_call 162; refine WB.out.mono ?_)
  rintro e w1 ⟨rfl, v1, hb1, hw1⟩
  go_wp2_with fail
  go_end0
  exact ⟨rfl, v1, hb1, hw1⟩

end Go.Proofs.Ytmogkiacakkmbaa
