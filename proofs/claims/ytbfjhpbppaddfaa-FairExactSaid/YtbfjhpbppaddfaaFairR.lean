/- Picks that leave nobody out, by the document: how long one waits, See, Due. -/
import Derived.Test.YtbfjhpbppaddfaaFairC
namespace Go.Proofs.Ytbfjhpbppaddfaa
open Go.RowKit

section
variable {P : Program} {w : World} {ops : Array Oper} {rest : List Oper} {o : Oper} {a : Act} {Q : Exit → Act → World → Prop}
/-- An empty slice literal. -/
theorem wpL_slice_none3 (hgd : o.guard = none) (t : TypeId) (ho : o.op = .buildSlice t 0 #[]) {e : TypeId} (ht : P.underlying t = some (.slice e))
    {size : Nat} (hinfo : (P.info? e).map (·.size) = some size)
    (h : ∀ w1, Only [] w w1 → Hid (w1.heap.size = w.heap.size + 1) → w1.ownsRow w.heap.size e size (.slice (some ⟨w.heap.size, 0, none⟩) 0 0) 0 [] → wpList P ops Q rest (a.put o.dst (.slice (some ⟨w.heap.size, 0, none⟩) 0 0)) w1) : wpList P ops Q (o :: rest) a w := by
  obtain ⟨i, hi, hs⟩ : ∃ i, P.info? e = some i ∧ i.size = size := by
    cases hi : P.info? e with
    | none => simp [hi] at hinfo
    | some i => exact ⟨i, rfl, by simpa [hi] using hinfo⟩
  have hsz : (sizeOf e).run P w = .ok size w := by simp [sizeOf, typeInfo, hi, hs]
  have hrun : (Instr.buildSlice t 0 #[]).run P w = .ok (.slice (some ⟨w.heap.size, 0, none⟩) 0 0) (w.alloc (.cells #[] e)) := by
    unfold Instr.buildSlice
    rw [Sem.run_bind, run_underlying ht w, Result.andThen_ok]
    simp only
    rw [Sem.run_bind, hsz, Result.andThen_ok]
    have e0 : Array.range 0 = (#[] : Array Nat) := Array.eq_empty_of_size_eq_zero (by simp)
    simp [Instr.fill, newRow, e0]
  refine wpList_plain hgd fun K hK => ?_
  unfold Oper.wp
  simp only [execOp, ho, Sem.run_bind, List.map_toArray, List.map_nil, hrun, Result.andThen_ok, Sem.run_pure]
  refine hK _ _ (h _ ((Only.refl _ w).alloc _) (show _ = _ by simp) ⟨by simp, .inr ⟨w.heap.size, 0, #[], rfl, Nat.le_refl _, heap_alloc_new w _, Nat.le_refl _, by decide, by simp, by simp⟩⟩)
end

/-- Who waits, as cells. -/
def waitCells (L : List (Int × Int)) : List Value := (L.map fun p => [Value.int .i64 p.1, .int .i64 p.2]).flatten
theorem waitCells_length (L : List (Int × Int)) : (waitCells L).length = L.length * 2 := by
  unfold waitCells
  induction L with
  | nil => rfl
  | cons x L ih => simp [ih]; omega
theorem waitCells_append (a b : List (Int × Int)) : waitCells (a ++ b) = waitCells a ++ waitCells b := by simp [waitCells]
theorem waitCells_get {L : List (Int × Int)} {i : Nat} {p : Int × Int} (h : L[i]? = some p) : (waitCells L)[i * 2]? = some (.int .i64 p.1) ∧ (waitCells L)[i * 2 + 1]? = some (.int .i64 p.2) := by
  induction L generalizing i with
  | nil => simp at h
  | cons x L ih =>
    have e : waitCells (x :: L) = [Value.int .i64 x.1, .int .i64 x.2] ++ waitCells L := by simp [waitCells]
    cases i with
    | zero =>
      simp at h
      subst h
      rw [e]
      exact ⟨rfl, rfl⟩
    | succ i =>
      have := ih (i := i) (by simpa using h)
      rw [e, List.getElem?_append_right (by simp; omega), List.getElem?_append_right (by simp; omega)]
      simpa [show (i + 1) * 2 - 2 = i * 2 by omega, show (i + 1) * 2 + 1 - 2 = i * 2 + 1 by omega] using this
/-- How long one waits. -/
def lookL : List (Int × Int) → Int → Int
  | [], _ => 0
  | p :: r, k => if p.1 = k then p.2 else lookL r k
theorem lookL_snoc_other (A : List (Int × Int)) (x v y : Int) (h : y ≠ x) : lookL (A ++ [(x, v)]) y = lookL A y := by
  induction A with
  | nil => show (if x = y then v else 0) = 0; rw [if_neg (fun e => h e.symm)]
  | cons p A ih => show (if p.1 = y then p.2 else lookL (A ++ [(x, v)]) y) = if p.1 = y then p.2 else lookL A y; rw [ih]
theorem lookL_snoc_same (A : List (Int × Int)) (x v : Int) (h : ∀ p ∈ A, p.1 ≠ x) : lookL (A ++ [(x, v)]) x = v := by
  induction A with
  | nil => show (if x = x then v else 0) = v; rw [if_pos rfl]
  | cons p A ih =>
    show (if p.1 = x then p.2 else lookL (A ++ [(x, v)]) x) = v
    rw [if_neg (h p (by simp)), ih fun q hq => h q (by simp [hq])]
theorem lookL_first {L : List (Int × Int)} {i : Nat} {p : Int × Int} (h : L[i]? = some p) (hf : ∀ j q, j < i → L[j]? = some q → q.1 ≠ p.1) : lookL L p.1 = p.2 := by
  induction L generalizing i with
  | nil => simp at h
  | cons x L ih =>
    cases i with
    | zero => simp at h; subst h; show (if x.1 = x.1 then x.2 else _) = x.2; rw [if_pos rfl]
    | succ i =>
      show (if x.1 = p.1 then x.2 else lookL L p.1) = p.2
      rw [if_neg (hf 0 x (by omega) rfl), ih (by simpa using h) fun j q hj hq => hf (j + 1) q (by omega) (by simpa using hq)]
theorem lookL_none {L : List (Int × Int)} {k : Int} (h : ∀ (j : Nat) q, L[j]? = some q → q.1 ≠ k) : lookL L k = 0 := by
  induction L with
  | nil => rfl
  | cons x L ih =>
    show (if x.1 = k then x.2 else lookL L k) = 0
    rw [if_neg (h 0 x rfl), ih fun j q hq => h (j + 1) q (by simpa using hq)]

/-- A row of those who wait, as it can be read. -/
def Waits (w : World) (v : Value) (L : List (Int × Int)) : Prop :=
  ((∃ a c, v = .slice a 0 c) ∧ L = []) ∨ ∃ bk c, v = .slice (some ⟨bk, 0, none⟩) L.length c ∧ (∀ (j : Nat) x, (waitCells L)[j]? = some x → w.cell? ⟨bk, j, none⟩ = some x) ∧ bk < w.heap.size
theorem Waits.keep {w w' : World} {v : Value} {L : List (Int × Int)} (h : Waits w v L) (ho : Only [] w w') : Waits w' v L := by
  rcases h with h | ⟨bk, c, rfl, h1, h2⟩
  · exact .inl h
  · exact .inr ⟨bk, c, rfl, fun j x hx => by rw [ho.cellAt _ _ h2 (by simp)]; exact h1 j x hx, Nat.lt_of_lt_of_le h2 ho.size⟩
theorem Waits.only {S : List Nat} {w w' : World} {v : Value} {L : List (Int × Int)} (h : Waits w v L) (ho : Only S w w') (hn : ∀ a n c, v = .slice (some a) n c → a.block ∉ S) : Waits w' v L := by
  rcases h with h | ⟨bk, c, rfl, h1, h2⟩
  · exact .inl h
  · exact .inr ⟨bk, c, rfl, fun j x hx => by rw [ho.cellAt _ _ h2 (hn _ _ _ rfl)]; exact h1 j x hx, Nat.lt_of_lt_of_le h2 ho.size⟩
theorem Waits.of_owns {w : World} {base : Nat} {e : TypeId} {v : Value} {L : List (Int × Int)} (h : w.ownsRow base e 2 v L.length (waitCells L)) : Waits w v L := by
  rcases h.2 with ⟨rfl, hz⟩ | ⟨g, cap, cur, rfl, hb, hg, hcap, _⟩
  · exact .inl ⟨⟨none, 0, rfl⟩, List.eq_nil_of_length_eq_zero hz⟩
  · refine .inr ⟨g, cap, rfl, fun j x hx => ?_, ?_⟩
    · have := h.cells (g := g) rfl j x hx
      rwa [show (⟨g, 0, none⟩ : Addr).add j = ⟨g, j, none⟩ by unfold Addr.add; split <;> simp_all] at this
    · rcases Nat.lt_or_ge g w.heap.size with h' | h'
      · exact h'
      · rw [Array.getElem?_eq_none h'] at hg; simp at hg

set_option maxRecDepth 100000 in
set_option maxHeartbeats 4000000 in
theorem of38_any (a : Nat) (K id : Int) (V : Value) (L : List (Int × Int)) (w : World) (ha : Blk w a [.int .i64 K, V] 29) (hv : Waits w V L) (hl : L.length ≤ 1000) :
    Calls Try.prog 30 #[.pointer (some ⟨a, 0, none⟩), .int .i64 id] w fun e w' => e = .returned (.int .i64 (lookL L id)) ∧ w = w' := by
  have HI := Lib.hid hv
  obtain ⟨ad, cap, rfl⟩ : ∃ ad cap, V = .slice ad L.length cap := by
    rcases hv with ⟨⟨a, c, rfl⟩, rfl⟩ | ⟨bk, c, rfl, _⟩
    · exact ⟨a, c, rfl⟩
    · exact ⟨_, _, rfl⟩
  have c1 := ha.cell (i := 1) rfl
  obtain ⟨r, er⟩ : ∃ r, r = lookL L id := ⟨_, rfl⟩
  have HR : Hid (lookL L id = r) := er.symm
  rw [← er]
  clear hv ha er
  go_enter Try.func30, Try.ntmps30
  go_wp2_with fail
  go_loopw [5] (fun i wr => ∃ (k : Nat), k ≤ L.length ∧ i = .int .i64 (k : Int) ∧ Hid (∀ (j : Nat) q, j < k → L[j]? = some q → q.1 ≠ id) ∧ wr = w) (fun i _ => L.length - (intOf i).toNat)
  case atStart => exact ⟨0, by omega, rfl, fun j q h => absurd h (by omega), rfl⟩
  case round =>
    obtain ⟨k, hk, rfl, hno, rfl⟩ := hrel
    by_cases hlt : k < L.length
    · obtain ⟨bk, c, hc⟩ : ∃ bk c, ad = some ⟨bk, 0, none⟩ ∧ cap = c ∧ wr.cell? ⟨bk, k * 2, none⟩ = some (.int .i64 L[k].1) ∧ wr.cell? ⟨bk, k * 2 + 1, none⟩ = some (.int .i64 L[k].2) := by
        rcases HI.out with ⟨_, h0⟩ | ⟨bk, c, hv, h1, h2⟩
        · subst h0; simp at hlt
        · injection hv with e1 e2 e3
          have hg := waitCells_get (List.getElem?_eq_getElem hlt)
          exact ⟨bk, c, e1, e3, h1 _ _ hg.1, h1 _ _ hg.2⟩
      obtain ⟨rfl, rfl, d0, d1⟩ := hc
      have k64 : (k : Int) < L.length := by omega
      have HY : Hid (L[k].1 = id → r = L[k].2) := fun h => by
        rw [← HR.out, ← h]
        exact lookL_first (List.getElem?_eq_getElem hlt) fun j q hj hq => by rw [h]; exact hno.out j q hj hq
      have HN : Hid (L[k].1 ≠ id → Hid (∀ (j : Nat) q, j < k + 1 → L[j]? = some q → q.1 ≠ id)) := fun h j q hj hq => by
        by_cases e : j = k
        · subst e; rw [List.getElem?_eq_getElem hlt] at hq; injection hq with hq; rw [← hq]; exact h
        · exact hno.out j q (by omega) hq
      obtain ⟨x, ex⟩ : ∃ x, x = L[k].1 := ⟨_, rfl⟩
      obtain ⟨y, ey⟩ : ∃ y, y = L[k].2 := ⟨_, rfl⟩
      rw [← ex] at d0 HY HN
      rw [← ey] at d1 HY
      clear ex ey
      by_cases hd : x = id
      · have HY' := Lib.hid (HY.out hd)
        have e1 : (x == id) = true := by rw [beq_iff_eq]; exact hd
        clear hd HY HN hno
        go_wp2_with fail
        go_ret
        exact ⟨by rw [HY'.out]; rfl, rfl⟩
      · have HN' := HN.out hd
        have e1 : (x == id) = false := by rw [beq_eq_false_iff_ne]; exact hd
        clear hd HY HN hno
        go_wp2_with fail
        go_roundw
        case rel => exact ⟨k + 1, by omega, by go_num, HN', trivial⟩
        case measure => simp [intOf]; omega
    · obtain rfl : k = L.length := by omega
      have HE : Hid (r = 0) := by
        show _ = _
        rw [← HR.out]
        exact lookL_none fun j q hq => hno.out j q (List.getElem?_eq_some_iff.1 hq).1 hq
      go_wp2_with fail
      go_ret
      exact ⟨by rw [HE.out]; rfl, rfl⟩

end Go.Proofs.Ytbfjhpbppaddfaa
