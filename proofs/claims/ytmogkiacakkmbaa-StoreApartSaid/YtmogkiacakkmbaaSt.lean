/- What is known of a world under one name: the blocks known whole, which of them may be written, and that no others have changed; rules for single operations over it. -/
import Derived.Test.YtmogkiacakkmbaaBase
namespace Go.Proofs.Ytmogkiacakkmbaa
open Go.RowKit

/-- A block known whole; own: it may be written. -/
structure Ent where
  b : Nat
  cs : List Value
  ty : TypeId
  own : Bool

/-- All that is known of a world w that came of w0, where blocks of S alone, and new ones, may have changed. -/
structure St (w0 : World) (S : List Nat) (w : World) (L : List Ent) : Prop where
  only : Only S w0 w
  each : ∀ x ∈ L, Blk w x.b x.cs x.ty ∧ (x.own = true → x.b ∈ S ∨ w0.heap.size ≤ x.b)
  apart : L.Pairwise (fun x y => x.b ≠ y.b)

theorem St.start (w : World) (S : List Nat) : St w S w [] := ⟨Only.refl S w, by simp, .nil⟩
theorem St.blk {w0 : World} {S : List Nat} {w : World} {L : List Ent} (h : St w0 S w L) (i : Nat) {x : Ent} (hi : L[i]? = some x) : Blk w x.b x.cs x.ty := (h.each x (List.mem_of_getElem? hi)).1
theorem St.lt {w0 : World} {S : List Nat} {w : World} {L : List Ent} (h : St w0 S w L) {x : Ent} (hx : x ∈ L) : x.b < w.heap.size := (h.each x hx).1.lt
theorem St.keep {w0 : World} {S : List Nat} {w w' : World} {L : List Ent} (h : St w0 S w L) (ho : Only [] w w') : St w0 S w' L :=
  ⟨h.only.step ho (by simp), fun x hx => ⟨(h.each x hx).1.keep ho, (h.each x hx).2⟩, h.apart⟩
theorem St.drew {w0 : World} {S : List Nat} {w : World} {L : List Ent} (h : St w0 S w L) : St w0 S w.drew L := h.keep ((Only.refl [] w).drew)
theorem St.drewN {w0 : World} {S : List Nat} {w : World} {L : List Ent} (h : St w0 S w L) (n : Nat) : St w0 S (w.drewN n) L := h.keep ((Only.refl [] w).drewN n)
/-- A block that is new. -/
theorem St.new {w0 : World} {S : List Nat} {w w' : World} {L : List Ent} (h : St w0 S w L) (ho : Only [] w w') {b : Nat} {cs : List Value} {ty : TypeId} (hb : Blk w' b cs ty) (hge : w.heap.size ≤ b) : St w0 S w' (⟨b, cs, ty, true⟩ :: L) := by
  have k := h.keep ho
  refine ⟨k.only, fun x hx => ?_, ?_⟩
  · rcases List.mem_cons.1 hx with rfl | hx
    · exact ⟨hb, fun _ => .inr (Nat.le_trans h.only.size hge)⟩
    · exact k.each x hx
  · refine List.pairwise_cons.2 ⟨fun y hy => ?_, h.apart⟩
    have := h.lt hy
    simp only
    omega
theorem St.box {w0 : World} {S : List Nat} {w : World} {L : List Ent} (h : St w0 S w L) (cs : List Value) (ty : TypeId) : St w0 S (w.alloc (.cells cs.toArray ty)) (⟨w.heap.size, cs, ty, true⟩ :: L) :=
  h.new ((Only.refl [] w).alloc _) (Blk.new w cs ty) (Nat.le_refl _)
/-- An old block that is read alone. -/
theorem St.read {w0 : World} {S : List Nat} {w : World} {L : List Ent} (h : St w0 S w L) {b : Nat} {cs : List Value} {ty : TypeId} (hb : Blk w b cs ty) (hn : ∀ x ∈ L, x.b ≠ b) : St w0 S w (⟨b, cs, ty, false⟩ :: L) :=
  ⟨h.only, fun x hx => by rcases List.mem_cons.1 hx with rfl | hx; exact ⟨hb, fun h => by cases h⟩; exact h.each x hx, List.pairwise_cons.2 ⟨fun y hy e => hn y hy e.symm, h.apart⟩⟩
theorem St.with {w : World} {S : List Nat} {b : Nat} {cs : List Value} {ty : TypeId} (hb : Blk w b cs ty) : St w S w [⟨b, cs, ty, false⟩] := (St.start w S).read hb (by simp)
theorem St.withOwn {w : World} {S : List Nat} {b : Nat} {cs : List Value} {ty : TypeId} (hb : Blk w b cs ty) (hS : b ∈ S) : St w S w [⟨b, cs, ty, true⟩] :=
  ⟨Only.refl S w, fun x hx => by simp only [List.mem_singleton] at hx; subst hx; exact ⟨hb, fun _ => .inl hS⟩, by simp⟩
theorem St.dropN {w0 : World} {S : List Nat} {w : World} {L : List Ent} (h : St w0 S w L) (n : Nat) : St w0 S w (L.drop n) := ⟨h.only, fun x hx => h.each x (List.drop_subset n L hx), h.apart.sublist (List.drop_sublist n L)⟩
/-- A block that is none of those known. -/
def Away (L : List Ent) (b : Nat) : Prop := ∀ x ∈ L, x.b ≠ b
/-- Another block, new since the start, is changed. -/
theorem St.other {w0 : World} {S : List Nat} {w w' : World} {L : List Ent} (h : St w0 S w L) {b : Nat} (ho : Only [b] w w') (hb : b ∈ S ∨ w0.heap.size ≤ b) (hn : Away L b) : St w0 S w' L :=
  ⟨h.only.step ho fun k hk => by simp only [List.mem_singleton] at hk; subst hk; exact hb, fun x hx => ⟨(h.each x hx).1.only ho (by simp only [List.mem_singleton]; exact hn x hx), (h.each x hx).2⟩, h.apart⟩
/-- What becomes of the blocks when one of them is changed. -/
theorem St.chg {w0 : World} {S : List Nat} {w w' : World} {L : List Ent} (h : St w0 S w L) (i : Nat) {b : Nat} {cs : List Value} {ty : TypeId} (hi : L[i]? = some ⟨b, cs, ty, true⟩) (ho : Only [b] w w') {cs' : List Value} (hb : Blk w' b cs' ty) : St w0 S w' (L.set i ⟨b, cs', ty, true⟩) := by
  have hm := List.mem_of_getElem? hi
  have hown := (h.each _ hm).2 rfl
  have hlt : i < L.length := (List.getElem?_eq_some_iff.1 hi).1
  refine ⟨h.only.step ho fun k hk => by simp only [List.mem_singleton] at hk; subst hk; exact hown, fun x hx => ?_, ?_⟩
  · obtain ⟨j, hj, rfl⟩ := List.mem_iff_getElem.1 hx
    rw [List.length_set] at hj
    rw [List.getElem_set]
    by_cases e : i = j
    · rw [if_pos e]
      exact ⟨hb, fun _ => hown⟩
    · rw [if_neg e]
      have hx' := h.each L[j] (List.getElem_mem hj)
      refine ⟨hx'.1.only ho ?_, hx'.2⟩
      have hi' : L[i] = ⟨b, cs, ty, true⟩ := (List.getElem?_eq_some_iff.1 hi).2
      simp only [List.mem_singleton]
      have := List.pairwise_iff_getElem.1 h.apart
      rcases Nat.lt_or_gt_of_ne e with h1 | h1
      · have := this i j hlt hj h1; rw [hi'] at this; exact fun e => this e.symm
      · have := this j i hj hlt h1; rw [hi'] at this; exact this
  · have hi' : L[i] = ⟨b, cs, ty, true⟩ := (List.getElem?_eq_some_iff.1 hi).2
    refine List.pairwise_iff_getElem.2 fun j k hj hk hjk => ?_
    rw [List.length_set] at hj hk
    have hp := List.pairwise_iff_getElem.1 h.apart j k hj hk hjk
    simp only [List.getElem_set]
    by_cases e1 : i = j <;> by_cases e2 : i = k
    · omega
    · subst e1; rw [if_pos rfl, if_neg e2]; rw [hi'] at hp; exact hp
    · subst e2; rw [if_neg e1, if_pos rfl]; rw [hi'] at hp; exact hp
    · rw [if_neg e1, if_neg e2]; exact hp
theorem St.weak {w0 : World} {S : List Nat} {w : World} {L M : List Ent} (h : St w0 S w L) (hm : M.Sublist L) : St w0 S w M := ⟨h.only, fun x hx => h.each x (hm.subset hx), h.apart.sublist hm⟩
/-- Blocks of other lists apart. -/
theorem St.neq {w0 : World} {S : List Nat} {w : World} {L : List Ent} (h : St w0 S w L) (i j : Nat) {x y : Ent} (hi : L[i]? = some x) (hj : L[j]? = some y) (hij : i < j) : x.b ≠ y.b := by
  obtain ⟨h1, rfl⟩ := List.getElem?_eq_some_iff.1 hi
  obtain ⟨h2, rfl⟩ := List.getElem?_eq_some_iff.1 hj
  exact List.pairwise_iff_getElem.1 h.apart i j h1 h2 hij
/-- The same blocks, seen from a later world on. -/
theorem St.since {w0 : World} {S : List Nat} {w : World} {L : List Ent} (h : St w0 S w L) : St w ((L.filter (·.own)).map (·.b)) w L :=
  ⟨Only.refl _ w, fun x hx => ⟨(h.each x hx).1, fun ho => .inl (List.mem_map.2 ⟨x, List.mem_filter.2 ⟨hx, ho⟩, rfl⟩)⟩, h.apart⟩
theorem St.trans {w0 : World} {S T : List Nat} {w w' : World} {L M : List Ent} (h : St w0 S w L) (k : St w T w' M) (hT : ∀ i ∈ T, i ∈ S ∨ w0.heap.size ≤ i) : St w0 S w' M :=
  ⟨h.only.step k.only hT, fun x hx => ⟨(k.each x hx).1, fun ho => by
    rcases (k.each x hx).2 ho with h1 | h1
    · exact hT _ h1
    · exact .inr (Nat.le_trans h.only.size h1)⟩, k.apart⟩

/-- A string's byte. -/
def byteAt (s : ByteArray) (j : Nat) : Nat := ((bl s).getD j 0).toNat
theorem byteAt_lt (s : ByteArray) (j : Nat) : byteAt s j < 256 := ((bl s).getD j 0).toNat_lt

/-- Two strings, as the walk compares them. -/
theorem str_neq {s t : ByteArray} (h : s ≠ t) : (s.toList == t.toList) = false := by
  rw [beq_eq_false_iff_ne, ByteArray.toList_eq, ByteArray.toList_eq]
  exact fun e => h (bl_ext e)
theorem str_eqq {s t : ByteArray} (h : s = t) : (s.toList == t.toList) = true := by rw [h]; simp

/-- A row that was made by appending: its block whole. -/
theorem ownsRow_blk {w : World} {base : Nat} {e : TypeId} {size : Nat} {v : Value} {n : Nat} {xs : List Value} (h : w.ownsRow base e size v n xs) (hn : n ≠ 0) :
    ∃ g cap rest, v = .slice (some ⟨g, 0, none⟩) n cap ∧ n ≤ cap ∧ base ≤ g ∧ Blk w g (xs ++ rest) e := by
  rcases h.2 with ⟨_, h0⟩ | ⟨g, cap, cur, rfl, hb, hg, hc, _, _, ht⟩
  · exact absurd h0 hn
  · refine ⟨g, cap, cur.toList.drop (n * size), rfl, hc, hb, ?_⟩
    unfold Blk
    rw [hg, ← ht, List.take_append_drop]

/-- Whether a type's values lie in several cells. -/
def isRow (P : Program) (t : TypeId) : Bool := match P.underlying t with | some (.struct _) | some (.array _ _) => true | _ => false
def isOne (P : Program) (t : TypeId) : Bool := (match P.underlying t with | some (.struct _) | some (.array _ _) => false | some _ => true | none => false) && ((P.info? t).map (·.size) == some 1)

section
variable {P : Program} {w : World} {ops : Array Oper} {rest : List Oper} {o : Oper} {a : Act} {Q : Exit → Act → World → Prop}
variable {w0 : World} {S : List Nat} {L : List Ent}

/-- A guarded operation whose guard is met. -/
theorem wpL_peel {g : Nat × Bool} (_hs : o.guard = some g) (hg : Region.wanted o (yielded ops a.tmps) = true) (h : wpList P ops Q ({ o with guard := none } :: rest) a w) : wpList P ops Q (o :: rest) a w := wpL_yes hg h

/-- Looks at what stands next: a load; a store; a new variable. -/
theorem wpL_isLoad {ty : TypeId} {x : Operand} (_h : o.op = .load ty x) (h : wpList P ops Q (o :: rest) a w) : wpList P ops Q (o :: rest) a w := h
theorem wpL_isStore {ty : TypeId} {x y : Operand} (_h : o.op = .store ty x y) (h : wpList P ops Q (o :: rest) a w) : wpList P ops Q (o :: rest) a w := h

theorem wpL_isBin {op : BinOp} {t r : TypeId} {x y : Operand} (_h : o.op = .binOp op t x y r) (h : wpList P ops Q (o :: rest) a w) : wpList P ops Q (o :: rest) a w := h
theorem wpL_isAlloc {t : TypeId} (_h : o.op = .alloc t) (h : wpList P ops Q (o :: rest) a w) : wpList P ops Q (o :: rest) a w := h

/-- A new variable. -/
theorem wpL_allocS (hst : St w0 S w L) (hg : o.guard = none) (t : TypeId) (ho : o.op = .alloc t) (z : Value) (C : List Value) (hz : (P.info? t).map (·.zero) = some (some z)) (hC : z.cells = C.toArray) (d : Tmp) (hd : o.dst = some d)
    (h : ∀ w1 b, w.heap.size ≤ b → St w0 S w1 (⟨b, C, t, true⟩ :: L) → wpList P ops Q rest (a.put o.dst (.pointer (some ⟨b, 0, none⟩))) w1) : wpList P ops Q (o :: rest) a w :=
  wpL_alloc hg d hd t ho z C hz hC fun w1 ho1 _ hb1 => h w1 _ (Nat.le_refl _) (hst.new ho1 hb1 (Nat.le_refl _))

/-- A row read whole. -/
theorem wpL_loadS (hst : St w0 S w L) (hgd : o.guard = none) {ty : TypeId} {x : Operand} (ho : o.op = .load ty x) (i : Nat) {b : Nat} {cs : List Value} {t : TypeId} {own : Bool} (hL : L[i]? = some ⟨b, cs, t, own⟩)
    (hx : a.eval x = .pointer (some ⟨b, 0, none⟩)) (hr : isRow P ty = true) (hn : (P.info? ty).map (·.size) = some cs.length)
    (h : wpList P ops Q rest (a.put o.dst (.agg cs.toArray)) w) : wpList P ops Q (o :: rest) a w := by
  unfold isRow at hr
  cases hu : P.underlying ty with
  | none => simp [hu] at hr
  | some d => exact wpL_load hgd ty x ho b hx t cs d (hst.blk i hL) hu (by rw [hu] at hr; revert hr; cases d <;> simp) hn rfl h

/-- Cells read out of a row. -/
theorem wpL_loadAtS (hst : St w0 S w L) (hgd : o.guard = none) {ty : TypeId} {x : Operand} (ho : o.op = .load ty x) (i : Nat) {b j : Nat} {cs : List Value} {t : TypeId} {own : Bool} (hL : L[i]? = some ⟨b, cs, t, own⟩)
    (hx : a.eval x = .pointer (some ⟨b, j, none⟩)) (hr : isRow P ty = true) (n : Nat) (hn : (P.info? ty).map (·.size) = some n) (C : List Value) (hC : (cs.drop j).take n = C) (hl : C.length = n)
    (h : wpList P ops Q rest (a.put o.dst (.agg C.toArray)) w) : wpList P ops Q (o :: rest) a w := by
  unfold isRow at hr
  cases hu : P.underlying ty with
  | none => simp [hu] at hr
  | some d =>
    refine wpL_load_at hgd ty x ho b j hx C d (fun k v hv => (hst.blk i hL).cell ?_) hu (by rw [hu] at hr; revert hr; cases d <;> simp) hn hl h
    subst hC
    rw [List.getElem?_take] at hv
    split at hv
    · rw [List.getElem?_drop] at hv; exact hv
    · cases hv

/-- One cell read. -/
theorem wpL_load1S (hst : St w0 S w L) (hgd : o.guard = none) {ty : TypeId} {x : Operand} (ho : o.op = .load ty x) (i : Nat) {b j : Nat} {cs : List Value} {t : TypeId} {own : Bool} (hL : L[i]? = some ⟨b, cs, t, own⟩)
    (hx : a.eval x = .pointer (some ⟨b, j, none⟩)) {v : Value} (hv : cs[j]? = some v) (hr : isOne P ty = true)
    (h : wpList P ops Q rest (a.put o.dst v) w) : wpList P ops Q (o :: rest) a w := by
  unfold isOne at hr
  have hc : w.cell? ⟨b, j, none⟩ = some v := (hst.blk i hL).cell hv
  cases hu : P.underlying ty with
  | none => simp [hu] at hr
  | some d =>
    cases hq : P.info? ty with
    | none => simp [hq] at hr
    | some inf =>
      rw [hu, hq] at hr
      have hs : inf.size = 1 := by simp at hr; exact hr.2
      have hagg : (isAgg ty).run P w = .ok false w := by
        unfold isAgg
        rw [Sem.run_bind, run_underlying hu w]
        cases d <;> simp_all
      have hrun : (loadVar ty ⟨b, j, none⟩).run P w = .ok v w := by
        simp [loadVar, Sem.run_bind, hagg, sizeOf, typeInfo, hq, hs]
        rw [hc]
      refine wpL_run hgd (v := v) (w1 := w) ?_ h
      unfold execOp
      simp only [ho, hx, Instr.loadAt, Instr.sureAddr, Sem.run_bind, Sem.run_pure, Result.andThen_ok, hrun]

/-- A row written whole. -/
theorem wpL_storeS (hst : St w0 S w L) (hgd : o.guard = none) {ty : TypeId} {x y : Operand} (ho : o.op = .store ty x y) (i : Nat) {b : Nat} {cs : List Value} {t : TypeId} (hL : L[i]? = some ⟨b, cs, t, true⟩)
    (hx : a.eval x = .pointer (some ⟨b, 0, none⟩)) {D : List Value} (hy : a.eval y = .agg D.toArray) (_hr : isRow P ty = true) (hn : (P.info? ty).map (·.size) = some cs.length) (hl : D.length = cs.length) (h1 : D.all (·.oneCell') = true)
    (h : ∀ w1, St w0 S w1 (L.set i ⟨b, D, t, true⟩) → wpList P ops Q rest (a.put o.dst undef) w1) : wpList P ops Q (o :: rest) a w := by
  refine wpL_store hgd ty x y ho b D.toArray hx hy t cs (hst.blk i hL) hn (by simpa using hl) rfl (by simpa using h1) fun w1 ho1 _ hb1 => h w1 ?_
  exact hst.chg i hL ho1 hb1

/-- One cell written. -/
theorem wpL_store1S (hst : St w0 S w L) (hgd : o.guard = none) {ty : TypeId} {x y : Operand} (ho : o.op = .store ty x y) (i : Nat) {b j : Nat} {cs : List Value} {t : TypeId} (hL : L[i]? = some ⟨b, cs, t, true⟩)
    (hx : a.eval x = .pointer (some ⟨b, j, none⟩)) (hlt : Nat.ble (j + 1) cs.length = true) {v : Value} (hy : a.eval y = v) (hr : (P.info? ty).map (·.size) = some 1) (h1 : v.oneCell' = true)
    (h : ∀ w1, St w0 S w1 (L.set i ⟨b, cs.set j v, t, true⟩) → wpList P ops Q rest (a.put o.dst undef) w1) : wpList P ops Q (o :: rest) a w := by
  refine wpL_store1 hgd ty x y ho b j v hx hy t cs (hst.blk i hL) (Nat.le_of_ble_eq_true hlt) hr h1 fun w1 ho1 _ hb1 => h w1 ?_
  exact hst.chg i hL ho1 hb1

/-- One cell written that is known alone. -/
theorem wpL_store1C (hgd : o.guard = none) {ty : TypeId} {x y : Operand} (ho : o.op = .store ty x y) {b j : Nat}
    (hx : a.eval x = .pointer (some ⟨b, j, none⟩)) {v old : Value} (hy : a.eval y = v) (hc : w.cell? ⟨b, j, none⟩ = some old) (hf : w.frozen? ⟨b, j, none⟩ = false) (hr : (P.info? ty).map (·.size) = some 1) (h1 : v.oneCell' = true)
    (h : ∀ w1, Only [b] w w1 → Hid (w1.cell? ⟨b, j, none⟩ = some v) → Hid (∀ k, k ≠ j → w1.cell? ⟨b, k, none⟩ = w.cell? ⟨b, k, none⟩) → wpList P ops Q rest (a.put o.dst undef) w1) : wpList P ops Q (o :: rest) a w := by
  refine wpList_plain hgd fun K hK => ?_
  unfold Oper.wp
  have hst : (storeVar ty ⟨b, j, none⟩ v).run P w = .ok () (w.setCell ⟨b, j, none⟩ v) := by
    cases hq : P.info? ty with
    | none => simp [hq] at hr
    | some inf =>
      have hs : inf.size = 1 := by simpa [hq] using hr
      have hcs : v.cells = #[v] := by cases v <;> first | rfl | simp [Value.oneCell'] at h1
      have hst1 : (store ((⟨b, j, none⟩ : Addr).add 0) v).run P w = .ok () (w.setCell ⟨b, j, none⟩ v) := by
        rw [show (⟨b, j, none⟩ : Addr).add 0 = ⟨b, j, none⟩ from rfl, run_store P w _ v _ h1, hc]
        simp [hf]
      simp [storeVar, sizeOf, typeInfo, hq, hs, hcs, storeCells, Sem.run_bind, hst1]
  simp only [execOp, ho, hx, hy, Instr.storeAt, Instr.sureAddr, Sem.run_bind, Sem.run_pure, Result.andThen_ok, hst]
  refine hK _ _ (h _ ((Only.refl _ w).set (by simp) v) ?_ (Lib.hid fun k hk => ?_))
  · exact World.cell?_setCell_same w _ v hc
  · exact World.cell?_setCell_other w _ _ v (fun e => hk (by injection e with _ e2 _; exact e2.symm))

/-- A slice literal. -/
theorem wpL_sliceS (hst : St w0 S w L) (hgd : o.guard = none) (t : TypeId) (n : Nat) (parts : Array (Nat × Operand)) (ho : o.op = .buildSlice t n parts) {e : TypeId} (ht : P.underlying t = some (.slice e))
    {z : Value} {size bytes : Nat} (hinfo : (P.info? e).map (fun i => (i.zero, i.size, i.bytes)) = some (some z, size, bytes)) (hn : n * size ≤ 2 ^ 24) (hn0 : n * size ≠ 0)
    (vs : List Value) (hv : (parts.toList.map fun (i, x) => (i, a.eval x)) = vs.zipIdx.map fun p => (p.2, p.1)) (hlen : vs.length = n) (hc : ∀ v ∈ vs, v.cells.size = size)
    (h : ∀ w1 b, w.heap.size ≤ b → St w0 S w1 (⟨b, (vs.map (·.cells.toList)).flatten, e, true⟩ :: L) → wpList P ops Q rest (a.put o.dst (.slice (some ⟨b, 0, none⟩) n n)) w1) : wpList P ops Q (o :: rest) a w :=
  wpL_slice_lit hgd t n parts ho ht hinfo hn hn0 vs hv hlen hc fun w1 ho1 _ hb1 => h w1 _ (Nat.le_refl _) (hst.new ho1 hb1 (Nat.le_refl _))

/-- Two texts, one behind the other, and what comes of it. -/
theorem wpL_catS (hgd : o.guard = none) {t r : TypeId} {x y : Operand} (ho : o.op = .binOp .add t x y r) (s u v : ByteArray) (hx : a.eval x = .string s) (hy : a.eval y = .string u) (hv : s ++ u = v) (hl : s.size + u.size ≤ 9223372036854775807)
    (h : wpList P ops Q rest (a.put o.dst (.string v)) w) : wpList P ops Q (o :: rest) a w := by
  subst hv
  refine wpL_run hgd ?_ h
  have hlt : ¬ ((s.size + u.size : Nat) : Int) > IntKind.i64.max := by
    rw [show IntKind.i64.max = 9223372036854775807 from rfl]
    omega
  unfold execOp
  simp only [ho, Sem.run_bind, hx, hy]
  simp only [eqGuard, binOp, Op.stringOp, if_neg hlt]
  rfl

/-- '[]byte(s)', to be written. -/
theorem wpL_bytesF (hst : St w0 S w L) (hgd : o.guard = none) (src dst e : TypeId) (x : Operand)
    (ho : o.op = .convert src dst x) (s : ByteArray) (hx : a.eval x = .string s) (hs : P.underlying src = some .string) (hd : P.underlying dst = some (.slice e)) (he : P.underlying e = some (.int .u8))
    (h : ∀ (cap : Nat) (w1 : World) (b : Nat), s.size ≤ cap → w0.heap.size ≤ b → Hid (Away L b) → St w0 S w1 L → Hid (∀ j, j < s.size → w1.cell? ⟨b, j, none⟩ = some (.int .u8 (byteAt s j : Int)) ∧ w1.frozen? ⟨b, j, none⟩ = false) →
      wpList P ops Q rest (a.put o.dst (.slice (some ⟨b, 0, none⟩) s.size cap)) w1) : wpList P ops Q (o :: rest) a w := by
  refine wpList_plain hgd fun K hK => ?_
  have hr := run_bytes_of_string (P := P) w src dst e s hs hd he
  unfold Oper.wp
  simp only [execOp, ho, Sem.run_bind, hx, hr, Result.andThen_ok, Sem.run_pure]
  have hsz : w.drew.heap.size = w.heap.size := rfl
  refine hK _ _ (h _ _ _ (grownCap_ge w _ _ _) hst.only.size (Lib.hid (show Away L _ from fun x hx => Nat.ne_of_lt (hst.lt hx))) (hst.keep (((Only.refl _ w).drew).alloc _)) (Lib.hid fun j hj => ⟨?_, ?_⟩))
  · rw [← hsz, World.cell?_alloc_mark, bytesRow_at s _ j hj, byteAt, bl_get s j hj]
    rfl
  · rw [← hsz, World.frozen?_alloc_mark]
    have := (Array.getElem?_eq_some_iff.1 (bytesRow_at s (grownCap w s.size 0 e) j hj)).1
    rw [decide_eq_false (by omega), Bool.false_and]

/-- '[]byte(s)'. -/
theorem wpL_bytesS (hst : St w0 S w L) (hgd : o.guard = none) (src dst e : TypeId) (x : Operand)
    (ho : o.op = .convert src dst x) (s : ByteArray) (hx : a.eval x = .string s) (hs : P.underlying src = some .string) (hd : P.underlying dst = some (.slice e)) (he : P.underlying e = some (.int .u8))
    (h : ∀ (cap : Nat) (w1 : World) (b : Nat), s.size ≤ cap → w.heap.size ≤ b → b < w1.heap.size → St w0 S w1 L → (∀ j, j < s.size → w1.cell? ⟨b, j, none⟩ = some (.int .u8 (((bl s).getD j 0).toNat : Int))) →
      wpList P ops Q rest (a.put o.dst (.slice (some ⟨b, 0, none⟩) s.size cap)) w1) : wpList P ops Q (o :: rest) a w :=
  wpL_bytes hgd src dst e x ho s hx hs hd he fun cap w1 h1 h2 h3 h4 => h cap w1 _ h1 (Nat.le_refl _) (by have := h2.out; omega) (hst.keep h3) h4
end

end Go.Proofs.Ytmogkiacakkmbaa
