/- Rules: an empty slice literal; an append that finds no room; an append onto a row of one's own, of which the length alone is asked. -/
import Derived.Test.YtmogkiacakkmbaaSt
import Derived.Test.YtmogkiacakkmbaaOrd2
import Derived.ArgAppend
namespace Go.Proofs.Ytmogkiacakkmbaa
open Go.RowKit

section
variable {P : Program} {w : World} {ops : Array Oper} {rest : List Oper} {o : Oper} {a : Act} {Q : Exit → Act → World → Prop}
/-- An empty slice literal. -/
theorem wpL_slice0 (hgd : o.guard = none) (t : TypeId) (ho : o.op = .buildSlice t 0 #[]) {e : TypeId} (ht : P.underlying t = some (.slice e))
    {z : Value} {size bytes : Nat} (hinfo : (P.info? e).map (fun i => (i.zero, i.size, i.bytes)) = some (some z, size, bytes))
    (h : ∀ w1, Only [] w w1 → Blk w1 w.heap.size [] e → wpList P ops Q rest (a.put o.dst (.slice (some ⟨w.heap.size, 0, none⟩) 0 0)) w1) : wpList P ops Q (o :: rest) a w := by
  obtain ⟨i, hi, hz, hsize, hby⟩ := info_parts hinfo
  have hsz : (sizeOf e).run P w = .ok size w := by simp [sizeOf, typeInfo, hi, hsize]
  have hrun : (Instr.buildSlice t 0 #[]).run P w = .ok (.slice (some ⟨w.heap.size, 0, none⟩) 0 0) (w.alloc (.cells ([] : List Value).toArray e)) := by
    unfold Instr.buildSlice
    rw [Sem.run_bind, run_underlying ht w, Result.andThen_ok]
    simp only
    rw [Sem.run_bind, hsz, Result.andThen_ok]
    have e0 : ∀ f : Nat → Value, Array.map f (Array.range 0) = ([] : List Value).toArray := fun f => by apply Array.ext'; simp
    simp [Instr.fill, newRow, e0]
  refine wpList_plain hgd fun K hK => ?_
  unfold Oper.wp
  simp only [execOp, ho, Sem.run_bind, List.map_toArray, List.map_nil, Sem.run_pure]
  simp only [hrun, Result.andThen_ok]
  exact hK _ _ (h _ ((Only.refl _ w).alloc _) (Blk.new _ _ _))

/-- An append that finds no room: a new row. -/
theorem wpL_grow (hgd : o.guard = none) (s x : Operand) (t : TypeId) (hop : o.op = Op.call { callee := Callee.builtin Builtin.append, args := #[s, x], argTypes := #[t, t] })
    (e : TypeId) {z : Value} {size bytes : Nat} (h1 : P.underlying t = some (.slice e)) (hinfo : (P.info? e).map (fun i => (i.zero, i.size, i.bytes)) = some (some z, size, bytes)) (h6 : z.cells.size = size) (h7 : 0 < size)
    (hs : ∃ b, a.eval s = .slice (some ⟨b, 0, none⟩) 0 0) (g off m c : Nat) (news : List Value) (hx : a.eval x = .slice (some ⟨g, off, none⟩) m c) (hn : news.length = m * size) (hc : ∀ j u, news[j]? = some u → w.cell? ⟨g, off + j, none⟩ = some u) (h1c : ∀ u ∈ news, u.oneCell' = true)
    (hm : 0 < m) (b1 : m ≤ maxLen) (b2 : m * bytes ≤ 140737488355328)
    (h : ∀ v' w', w'.ownsRow w.heap.size e size v' m news → Only [] w w' → wpList P ops Q rest (a.put o.dst v') w') : wpList P ops Q (o :: rest) a w := by
  obtain ⟨i, hi, hz, hsize, hby⟩ := info_parts hinfo
  obtain ⟨b, hs⟩ := hs
  refine wpList_append_grows w hgd s x t hop e i z size bytes h1 hi hz hsize hby h6 h7 (some ⟨b, 0, none⟩) 0 0 [] hs (fun h => by cases h) (by simp) (fun _ _ j u hj => by simp at hj) ⟨g, off, none⟩ m c news hx hn (fun j u hj => ?_) h1c (by omega) (by simpa using b1) (by simpa using b2) fun v' w' r1 r2 => ?_
  · have : (⟨g, off, none⟩ : Addr).add j = ⟨g, off + j, none⟩ := by unfold Addr.add; split <;> simp_all
    rw [this]
    exact hc j u hj
  · rw [Nat.zero_add, List.nil_append] at r1
    exact h v' w' r1 (Only.of_grown r2)
end

/-- What an owned row of at least one element looks like. -/
theorem owns_form {w : World} {base : Nat} {e : TypeId} {size : Nat} {v : Value} {n : Nat} {xs : List Value} (h : w.ownsRow base e size v n xs) (hn : n ≠ 0) : ∃ g cap, v = .slice (some ⟨g, 0, none⟩) n cap ∧ n ≤ cap ∧ base ≤ g ∧ g < w.heap.size := by
  obtain ⟨g, cap, rest, rfl, hc, hb, hB⟩ := ownsRow_blk h hn
  exact ⟨g, cap, rfl, hc, hb, hB.lt⟩

theorem owns_base {w : World} {base base' : Nat} {e : TypeId} {size : Nat} {v : Value} {n : Nat} {xs : List Value} (h : w.ownsRow base e size v n xs) (hb : base' ≤ base) : w.ownsRow base' e size v n xs := by
  refine ⟨h.1, ?_⟩
  rcases h.2 with h0 | ⟨g, cap, cur, h1, h2, h3⟩
  · exact .inl h0
  · exact .inr ⟨g, cap, cur, h1, Nat.le_trans hb h2, h3⟩
theorem owns_keep {w w' : World} {base : Nat} {e : TypeId} {size : Nat} {v : Value} {n : Nat} {xs : List Value} (h : w.ownsRow base e size v n xs) (ho : Only [] w w') : w'.ownsRow base e size v n xs := by
  refine ⟨h.1, ?_⟩
  rcases h.2 with h0 | ⟨g, cap, cur, h1, h2, h3, h4⟩
  · exact .inl h0
  · refine .inr ⟨g, cap, cur, h1, h2, ?_, h4⟩
    have hlt : g < w.heap.size := (Array.getElem?_eq_some_iff.1 h3).1
    rw [ho.block g hlt (by simp)]
    exact h3
theorem news_at {w : World} {b : Nat} {cs : List Value} {ty : TypeId} (h : Blk w b cs ty) : ∀ j u, cs[j]? = some u → w.cell? ((⟨b, 0, none⟩ : Addr).add j) = some u := fun j u hj => by
  have : (⟨b, 0, none⟩ : Addr).add j = ⟨b, j, none⟩ := by unfold Addr.add; split <;> simp_all
  rw [this]
  exact h.cell hj
section
variable {P : Program} {w : World} {ops : Array Oper} {rest : List Oper} {o : Oper} {a : Act} {Q : Exit → Act → World → Prop}
theorem wpL_isCut {t : TypeId} {x : Operand} {l h m : Option Operand} (_h : o.op = .slice t x l h m) (k : wpList P ops Q (o :: rest) a w) : wpList P ops Q (o :: rest) a w := k
/-- 's[1:]' of a slice: some address, one element less. -/
theorem wpL_tail (hgd : o.guard = none) (t : TypeId) (x : Operand) (ho : o.op = .slice t x (some (.const (.int .i64 1))) none none) {e : TypeId} (ht : P.underlying t = some (.slice e)) (he : (P.info? e).isSome = true) (ad : Option Addr) (n cp : Nat) (hx : a.eval x = .slice ad n cp) (hn : 1 ≤ n)
    (h : ∀ ad', wpList P ops Q rest (a.put o.dst (.slice ad' (n - 1) (cp - 1))) w) : wpList P ops Q (o :: rest) a w := by
  obtain ⟨i, hi⟩ := Option.isSome_iff_exists.1 he
  refine wpL_run hgd (v := .slice (if cp = 1 then ad else ad.map (·.add (1 * i.size))) (n - 1) (cp - 1)) (w1 := w) ?_ (h _)
  have hsz : (sizeOf e).run P w = .ok i.size w := by simp [sizeOf, typeInfo, hi]
  have h1 : ((1 : Int) ≤ (n : Int)) := by omega
  unfold execOp
  simp only [ho, Sem.run_bind, hx, Option.map_some, Option.map_none, Instr.sliceAt, Instr.slice, run_underlying ht w, Result.andThen_ok]
  simp [Instr.sliceBounds, Instr.sliceBound, Act.eval, asIntOf, Sem.run_bind, h1, hsz, Result.andThen, run_underlying ht w]
end
end Go.Proofs.Ytmogkiacakkmbaa
