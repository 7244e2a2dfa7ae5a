/- Maps of whole numbers, told by what is at each key; picks that leave nobody out: New, See, Due. -/
import Derived.Maps.Own
import Derived.Maps.OwnOps
import Derived.Maps.OwnSet
import Derived.Maps.Views
import Derived.Test.YtbfjhpbppaddfaaPen
namespace Go.Proofs.Ytbfjhpbppaddfaa
open Go.RowKit Go.Maps Go.WideShapes

theorem keyedInt : Keyed Try.prog 3 := int_keyed Try.underlying3
theorem zeroInt (w : World) : (zeroValue 3).run Try.prog w = .ok (.int .i64 0) w := by kernel_rfl
/-- A number of 64 bits. -/
def wfi (n : Int) : Prop := (Lit.int .i64 n).wf = true
/-- A block is a map of so many entries at most; what is at each key. -/
def WMap (w : World) (b n : Nat) (f : Int → Int) : Prop :=
  ∃ D : DataW Unit, w.ownsMap Try.prog 3 (plainElem Try.prog 3) b n D ∧ ∀ x, D.atKey (.int .i64 x) (.lit (.int .i64 0)) = .lit (.int .i64 (f x))
theorem WMap.new (w : World) : WMap (w.alloc (.map #[] 0)) w.heap.size 0 (fun _ => 0) := ⟨.map [], World.ownsMap_made _ _ _ _, fun _ => rfl⟩
theorem WMap.lt {w : World} {b n : Nat} {f : Int → Int} (h : WMap w b n f) : b < w.heap.size := by obtain ⟨D, h, _⟩ := h; exact h.lt
theorem WMap.only {S : List Nat} {w w' : World} {b n : Nat} {f : Int → Int} (h : WMap w b n f) (ho : Only S w w') (hn : b ∉ S) : WMap w' b n f := by
  have hl := h.lt
  obtain ⟨D, ⟨es, clock, h1, h2⟩, h3⟩ := h
  exact ⟨D, ⟨es, clock, by rw [ho.block b hl hn]; exact h1, h2⟩, h3⟩
theorem WMap.keep {w w' : World} {b n : Nat} {f : Int → Int} (h : WMap w b n f) (ho : Only [] w w') : WMap w' b n f := h.only ho (by simp)
theorem WMap.drew {w : World} {b n : Nat} {f : Int → Int} (h : WMap w b n f) : WMap w.drew b n f := h
theorem WMap.drewN {w : World} {b n : Nat} {f : Int → Int} (h : WMap w b n f) (k : Nat) : WMap (w.drewN k) b n f := h
theorem WMap.congr {w : World} {b n m : Nat} {f g : Int → Int} (h : WMap w b n f) (hm : n ≤ m) (e : ∀ x, f x = g x) : WMap w b m g := by
  obtain ⟨D, h1, h2⟩ := h
  exact ⟨D, h1.mono hm, fun x => by rw [h2 x, e x]⟩

section
variable {w : World} {ops : Array Oper} {rest : List Oper} {o : Oper} {a : Act} {Q : Exit → Act → World → Prop}
/-- What is at a key. -/
theorem wpL_look (hg : o.guard = none) (m x : Operand) (hop : o.op = .lookup 65 m x false) (b n : Nat) (f : Int → Int) (hm : a.eval m = .map (some b)) (h : WMap w b n f) (k : Int) (hx : a.eval x = .int .i64 k) (hk : wfi k)
    (hr : wpList Try.prog ops Q rest (a.put o.dst (.int .i64 (f k))) w) : wpList Try.prog ops Q (o :: rest) a w := by
  obtain ⟨D, h1, h2⟩ := h
  refine wpList_lookup_own_int w hg m x 65 hop 3 3 .i64 keyedInt Try.underlying65 Try.underlying3 (zeroInt w) b n D hm h1 _ (.int .i64 k) hx (keyOf_int_mk Try.underlying3 hk) fun c hat _ => ?_
  rw [h2 k] at hat
  injection hat with hat
  injection hat with _ hat
  subst hat
  exact hr
set_option maxRecDepth 100000 in
theorem WMap.run_look {b n : Nat} {f : Int → Int} (h : WMap w b n f) (k : Int) (hk : wfi k) : (Instr.lookup 65 (.map (some b)) (.int .i64 k) false).run Try.prog w = .ok (.int .i64 (f k)) w := by
  obtain ⟨D, h1, h2⟩ := h
  obtain ⟨c, hrun, hat, _⟩ := h1.lookup_int keyedInt Try.underlying65 Try.underlying3 (zeroInt w) (keyOf_int_mk Try.underlying3 hk)
  rw [h2 k] at hat
  injection hat with hat
  injection hat with _ hat
  subst hat
  exact hrun
/-- A key is given what is at it. -/
theorem wpL_put (hg : o.guard = none) (m x v : Operand) (hop : o.op = .mapUpdate 65 m x v) (b n : Nat) (f : Int → Int) (hm : a.eval m = .map (some b)) (h : WMap w b n f) (hn : n < 1000000) (k z : Int) (hx : a.eval x = .int .i64 k) (hv : a.eval v = .int .i64 z) (hk : wfi k) (hz : wfi z)
    (hr : ∀ w1, Only [b] w w1 → WMap w1 b (n + 1) (fun y => if y = k then z else f y) → wpList Try.prog ops Q rest (a.put o.dst undef) w1) : wpList Try.prog ops Q (o :: rest) a w := by
  obtain ⟨D, h1, h2⟩ := h
  refine wpList_mapUpdate_own w hg m x v 65 hop 3 3 keyedInt Try.underlying65 _ b n D hm h1 (by unfold maxLen; omega) _ _ (.int .i64 k) hx hv (keyOf_int_mk Try.underlying3 hk) _ [] (plainElem_int Try.underlying3 hz) fun w1 hown hgr => ?_
  refine hr w1 (Only.of_grown hgr) ⟨_, hown, fun y => ?_⟩
  show _ = DataW.lit (Lit.int .i64 (if y = k then z else f y))
  by_cases e : y = k
  · subst e
    rw [if_pos rfl]
    exact atKey_put_same h1.isMap (show WideAt.IsKeyLit (.int .i64 y) from trivial) _ _
  · rw [if_neg e, ← h2 y]
    exact atKey_put_other (fun e2 => e (by injection e2)) _ _
/-- A new map. -/
theorem wpL_newMap (hg : o.guard = none) (hop : o.op = .makeMap 65 none)
    (hr : ∀ w1, Only [] w w1 → Hid (w1.heap.size = w.heap.size + 1) → WMap w1 w.heap.size 0 (fun _ => 0) → wpList Try.prog ops Q rest (a.put o.dst (.map (some w.heap.size))) w1) : wpList Try.prog ops Q (o :: rest) a w := by
  refine wpL_run hg ?_ (hr (w.alloc (.map #[] 0)) ((Only.refl _ w).alloc _) (show _ = _ by simp) (WMap.new w))
  have hmm := @run_makeMap Try.prog
  unfold execOp
  simp [hop, hmm]
end

/-- What waits behind a pick. -/
def nextF (f : Int → Int) (id : Int) (xs : List Int) (y : Int) : Int := if y ∈ xs ∧ y ≠ id then f y + 1 else 0
/-- Nobody waits too long. -/
def okAll (f : Int → Int) (id K : Int) (xs : List Int) : Bool := xs.all fun x => decide (x = id) || decide (f x + 1 < K)
theorem okAll_snoc (f : Int → Int) (id K : Int) (xs : List Int) (x : Int) : okAll f id K (xs ++ [x]) = (okAll f id K xs && (decide (x = id) || decide (f x + 1 < K))) := by simp [okAll]
theorem nextF_same (f : Int → Int) (id : Int) (xs : List Int) (y : Int) : nextF f id (xs ++ [id]) y = nextF f id xs y := by
  unfold nextF
  by_cases e : y = id
  · subst e; simp
  · simp [e]
theorem nextF_more (f : Int → Int) (id : Int) (xs : List Int) (x : Int) (h : x ≠ id) (y : Int) : nextF f id (xs ++ [x]) y = if y = x then f x + 1 else nextF f id xs y := by
  unfold nextF
  by_cases e : y = x
  · subst e; simp [h]
  · simp [e]

end Go.Proofs.Ytbfjhpbppaddfaa
