/- What is known of a world, with resources: things of several blocks, known by a predicate and the blocks that bear them. -/
import Derived.Test.YtmogkiacakkmbaaSt
namespace Go.Proofs.Ytmogkiacakkmbaa
open Go.RowKit

/-- A thing that lies in the blocks F. -/
structure Rsc where
  own : Bool
  F : List Nat
  p : World → Prop
  st : ∀ {S : List Nat} {w w' : World}, p w → Only S w w' → (∀ b ∈ F, b ∉ S) → p w'
  lt : ∀ {w : World}, p w → ∀ b ∈ F, b < w.heap.size

/-- All that is known of a world w that came of w0: blocks, and things. -/
structure Sd (w0 : World) (S : List Nat) (w : World) (L : List Ent) (R : List Rsc) : Prop where
  st : St w0 S w L
  res : ∀ r ∈ R, r.p w ∧ (r.own = true → ∀ b ∈ r.F, b ∈ S ∨ w0.heap.size ≤ b)
  rapart : R.Pairwise (fun r s => ∀ b ∈ r.F, b ∉ s.F)
  cross : ∀ x ∈ L, ∀ r ∈ R, x.b ∉ r.F

/-- Blocks of F have turned alone, and became those of F'. -/
def Turn (F F' : List Nat) (w w' : World) : Prop := Only F w w' ∧ ∀ b ∈ F', b ∈ F ∨ w.heap.size ≤ b
theorem Turn.refl (F : List Nat) (w : World) : Turn F F w w := ⟨Only.refl _ _, fun _ h => .inl h⟩
theorem Turn.trans {F F' F'' : List Nat} {a b c : World} (h : Turn F F' a b) (k : Turn F' F'' b c) : Turn F F'' a c :=
  ⟨h.1.step k.1 h.2, fun i hi => by
    rcases k.2 i hi with h1 | h1
    · exact h.2 i h1
    · exact .inr (Nat.le_trans h.1.size h1)⟩
theorem Turn.of_only {F : List Nat} {a b : World} (h : Only [] a b) : Turn F F a b := ⟨h.mono (by simp), fun _ h => .inl h⟩

section
variable {w0 : World} {S : List Nat} {w w' : World} {L : List Ent} {R : List Rsc}
theorem Sd.only (h : Sd w0 S w L R) : Only S w0 w := h.st.only
theorem Sd.blk (h : Sd w0 S w L R) (i : Nat) {x : Ent} (hi : L[i]? = some x) : Blk w x.b x.cs x.ty := h.st.blk i hi
theorem Sd.rs (h : Sd w0 S w L R) (i : Nat) {r : Rsc} (hi : R[i]? = some r) : r.p w := (h.res r (List.mem_of_getElem? hi)).1
theorem Sd.away (h : Sd w0 S w L R) (i j : Nat) {x : Ent} {r : Rsc} (hi : L[i]? = some x) (hj : R[j]? = some r) : x.b ∉ r.F := h.cross x (List.mem_of_getElem? hi) r (List.mem_of_getElem? hj)
theorem Sd.start (w : World) (S : List Nat) : Sd w S w [] [] := ⟨St.start w S, fun _ h => (by cases h), .nil, fun _ h => (by cases h)⟩
theorem Sd.of (h : St w0 S w L) : Sd w0 S w L [] := ⟨h, fun _ h => (by cases h), .nil, fun _ _ _ h => (by cases h)⟩
theorem Sd.keep (h : Sd w0 S w L R) (ho : Only [] w w') : Sd w0 S w' L R :=
  ⟨h.st.keep ho, fun r hr => ⟨r.st (h.res r hr).1 ho (by simp), (h.res r hr).2⟩, h.rapart, h.cross⟩
theorem Sd.drew (h : Sd w0 S w L R) : Sd w0 S w.drew L R := h.keep ((Only.refl [] w).drew)
theorem Sd.drewN (h : Sd w0 S w L R) (n : Nat) : Sd w0 S (w.drewN n) L R := h.keep ((Only.refl [] w).drewN n)
/-- A new block. -/
theorem Sd.new (h : Sd w0 S w L R) (ho : Only [] w w') {b : Nat} {cs : List Value} {ty : TypeId} (hb : Blk w' b cs ty) (hge : w.heap.size ≤ b) : Sd w0 S w' (⟨b, cs, ty, true⟩ :: L) R :=
  ⟨h.st.new ho hb hge, (h.keep ho).res, h.rapart, fun x hx r hr => by
    rcases List.mem_cons.1 hx with rfl | hx
    · intro hm
      have := r.lt (h.res r hr).1 _ hm
      simp only at this
      omega
    · exact h.cross x hx r hr⟩
theorem Sd.box (h : Sd w0 S w L R) (cs : List Value) (ty : TypeId) : Sd w0 S (w.alloc (.cells cs.toArray ty)) (⟨w.heap.size, cs, ty, true⟩ :: L) R :=
  h.new ((Only.refl [] w).alloc _) (Blk.new w cs ty) (Nat.le_refl _)
/-- A new thing. -/
theorem Sd.add (h : Sd w0 S w L R) (ho : Only [] w w') {r : Rsc} (hr : r.p w') (hge : ∀ b ∈ r.F, w.heap.size ≤ b) : Sd w0 S w' L (r :: R) := by
  have k := h.keep ho
  refine ⟨k.st, fun x hx => ?_, List.pairwise_cons.2 ⟨fun s hs b hb hm => ?_, h.rapart⟩, fun x hx s hs => ?_⟩
  · rcases List.mem_cons.1 hx with rfl | hx
    · exact ⟨hr, fun _ b hb => .inr (Nat.le_trans h.only.size (hge b hb))⟩
    · exact k.res x hx
  · have := hge b hb
    have := s.lt (h.res s hs).1 b hm
    omega
  · rcases List.mem_cons.1 hs with rfl | hs
    · intro hm
      have := hge _ hm
      have := h.st.lt hx
      omega
    · exact h.cross x hx s hs
/-- A block that is read alone, or may be changed. -/
theorem Sd.read (h : Sd w0 S w L R) {b : Nat} {cs : List Value} {ty : TypeId} (hb : Blk w b cs ty) (hn : ∀ x ∈ L, x.b ≠ b) (hr : ∀ r ∈ R, b ∉ r.F) : Sd w0 S w (⟨b, cs, ty, false⟩ :: L) R :=
  ⟨h.st.read hb hn, h.res, h.rapart, fun x hx r hr' => by
    rcases List.mem_cons.1 hx with rfl | hx
    · exact hr r hr'
    · exact h.cross x hx r hr'⟩
/-- A thing that is there at the start. -/
theorem Sd.with (r : Rsc) (hr : r.p w) : Sd w r.F w [] [r] :=
  ⟨St.start w _, fun x hx => by simp only [List.mem_singleton] at hx; subst hx; exact ⟨hr, fun _ b hb => .inl hb⟩, List.pairwise_singleton _ _, fun _ h => (by cases h)⟩
/-- A thing that is read alone. -/
theorem Sd.withQ (S : List Nat) (r : Rsc) (hr : r.p w) (ho : r.own = false) : Sd w S w [] [r] :=
  ⟨St.start w _, fun x hx => by simp only [List.mem_singleton] at hx; subst hx; exact ⟨hr, fun h => by rw [ho] at h; cases h⟩, List.pairwise_singleton _ _, fun _ h => by cases h⟩
/-- A thing whose blocks may be changed. -/
theorem Sd.withS (S : List Nat) (r : Rsc) (hr : r.p w) (hs : ∀ b ∈ r.F, b ∈ S) : Sd w S w [] [r] :=
  ⟨St.start w _, fun x hx => by simp only [List.mem_singleton] at hx; subst hx; exact ⟨hr, fun _ b hb => .inl (hs b hb)⟩, List.pairwise_singleton _ _, fun _ h => (by cases h)⟩
/-- One block is changed. -/
theorem Sd.chg (h : Sd w0 S w L R) (i : Nat) {b : Nat} {cs : List Value} {ty : TypeId} (hi : L[i]? = some ⟨b, cs, ty, true⟩) (ho : Only [b] w w') {cs' : List Value} (hb : Blk w' b cs' ty) : Sd w0 S w' (L.set i ⟨b, cs', ty, true⟩) R := by
  have hm := List.mem_of_getElem? hi
  have ha : ∀ r ∈ R, ∀ k ∈ r.F, k ∉ [b] := fun r hr k hk hm' => by
    simp only [List.mem_singleton] at hm'
    subst hm'
    exact h.cross _ hm r hr hk
  refine ⟨h.st.chg i hi ho hb, fun r hr => ⟨r.st (h.res r hr).1 ho (ha r hr), (h.res r hr).2⟩, h.rapart, fun x hx r hr => ?_⟩
  rcases List.mem_or_eq_of_mem_set hx with hx | rfl
  · exact h.cross x hx r hr
  · exact h.cross _ hm r hr
/-- One thing turns. -/
theorem Sd.act (h : Sd w0 S w L R) (i : Nat) {r : Rsc} (hi : R[i]? = some r) (r' : Rsc) (hw : r.own = true) (ht : Turn r.F r'.F w w') (hr' : r'.p w') : Sd w0 S w' L (R.set i r') := by
  have hm := List.mem_of_getElem? hi
  have hown := (h.res r hm).2 hw
  have hlt : i < R.length := (List.getElem?_eq_some_iff.1 hi).1
  have hi' : R[i] = r := (List.getElem?_eq_some_iff.1 hi).2
  have hS : ∀ k ∈ r.F, k ∈ S ∨ w0.heap.size ≤ k := hown
  have hdis : ∀ s ∈ R, (∃ j, ∃ hj : j < R.length, j ≠ i ∧ R[j] = s) → ∀ b ∈ s.F, b ∉ r.F := fun s _ ⟨j, hj, hne, e⟩ b hb hbr => by
    rcases Nat.lt_or_gt_of_ne hne with h1 | h1
    · have := List.pairwise_iff_getElem.1 h.rapart j i hj hlt h1
      rw [hi', e] at this
      exact this b hb hbr
    · have := List.pairwise_iff_getElem.1 h.rapart i j hlt hj h1
      rw [hi', e] at this
      exact this b hbr hb
  have hdis' : ∀ s ∈ R, (∃ j, ∃ hj : j < R.length, j ≠ i ∧ R[j] = s) → ∀ b ∈ s.F, b ∉ r'.F := fun s hs he b hb hbr => by
    rcases ht.2 b hbr with h1 | h1
    · exact hdis s hs he b hb h1
    · have := s.lt (h.res s hs).1 b hb
      omega
  refine ⟨⟨h.only.step ht.1 hS, fun x hx => ⟨(h.st.each x hx).1.only ht.1 (h.cross x hx r hm), (h.st.each x hx).2⟩, h.st.apart⟩, fun s hs => ?_, ?_, fun x hx s hs => ?_⟩
  · obtain ⟨j, hj, rfl⟩ := List.mem_iff_getElem.1 hs
    rw [List.length_set] at hj
    rw [List.getElem_set]
    by_cases e : i = j
    · rw [if_pos e]
      refine ⟨hr', fun _ b hb => ?_⟩
      rcases ht.2 b hb with h1 | h1
      · exact hown b h1
      · exact .inr (Nat.le_trans h.only.size h1)
    · rw [if_neg e]
      exact ⟨R[j].st (h.res _ (List.getElem_mem hj)).1 ht.1 (hdis _ (List.getElem_mem hj) ⟨j, hj, fun e' => e e'.symm, rfl⟩), (h.res _ (List.getElem_mem hj)).2⟩
  · refine List.pairwise_iff_getElem.2 fun j k hj hk hjk => ?_
    rw [List.length_set] at hj hk
    simp only [List.getElem_set]
    by_cases e1 : i = j <;> by_cases e2 : i = k
    · omega
    · subst e1
      rw [if_pos rfl, if_neg e2]
      exact fun b hb hb2 => hdis' _ (List.getElem_mem hk) ⟨k, hk, fun e => e2 e.symm, rfl⟩ b hb2 hb
    · subst e2
      rw [if_neg e1, if_pos rfl]
      exact hdis' _ (List.getElem_mem hj) ⟨j, hj, fun e => e1 e.symm, rfl⟩
    · rw [if_neg e1, if_neg e2]
      exact List.pairwise_iff_getElem.1 h.rapart j k hj hk hjk
  · rcases List.mem_or_eq_of_mem_set hs with hs | rfl
    · exact h.cross x hx s hs
    · intro hb
      rcases ht.2 _ hb with h1 | h1
      · exact h.cross x hx r hm h1
      · have := h.st.lt hx
        omega
theorem Sd.weak {M : List Ent} (h : Sd w0 S w L R) (hm : M.Sublist L) : Sd w0 S w M R := ⟨h.st.weak hm, h.res, h.rapart, fun x hx => h.cross x (hm.subset hx)⟩
theorem Sd.dropN (h : Sd w0 S w L R) (n : Nat) : Sd w0 S w (L.drop n) R := h.weak (List.drop_sublist n L)
/-- Things are forgotten. -/
theorem Sd.weakR {T : List Rsc} (h : Sd w0 S w L R) (hm : T.Sublist R) : Sd w0 S w L T := ⟨h.st, fun r hr => h.res r (hm.subset hr), h.rapart.sublist hm, fun x hx r hr => h.cross x hx r (hm.subset hr)⟩
end

section
variable {P : Program} {w : World} {ops : Array Oper} {rest : List Oper} {o : Oper} {a : Act} {Q : Exit → Act → World → Prop}
variable {w0 : World} {S : List Nat} {L : List Ent} {R : List Rsc}
/-- One cell read that is known alone. -/
theorem wpL_load1C (hgd : o.guard = none) {ty : TypeId} {x : Operand} (ho : o.op = .load ty x) {b j : Nat} (hx : a.eval x = .pointer (some ⟨b, j, none⟩)) {v : Value} (hc : w.cell? ⟨b, j, none⟩ = some v) (hr : isOne P ty = true)
    (h : wpList P ops Q rest (a.put o.dst v) w) : wpList P ops Q (o :: rest) a w := by
  unfold isOne at hr
  cases hu : P.underlying ty with
  | none => simp [hu] at hr
  | some d =>
    cases hq : P.info? ty with
    | none => simp [hq] at hr
    | some inf =>
      rw [hu, hq] at hr
      have hs : inf.size = 1 := by simp at hr; exact hr.2
      have hagg : (isAgg ty).run P w = .ok false w := by
        unfold isAgg
        rw [Sem.run_bind, run_underlying hu w]
        cases d <;> simp_all
      have hrun : (loadVar ty ⟨b, j, none⟩).run P w = .ok v w := by
        simp [loadVar, Sem.run_bind, hagg, sizeOf, typeInfo, hq, hs]
        rw [hc]
      refine wpL_run hgd (v := v) (w1 := w) ?_ h
      unfold execOp
      simp only [ho, hx, Instr.loadAt, Instr.sureAddr, Sem.run_bind, Sem.run_pure, Result.andThen_ok, hrun]
/-- A new variable. -/
theorem wpL_allocD (hst : Sd w0 S w L R) (hg : o.guard = none) (t : TypeId) (ho : o.op = .alloc t) (z : Value) (C : List Value) (hz : (P.info? t).map (·.zero) = some (some z)) (hC : z.cells = C.toArray) (d : Tmp) (hd : o.dst = some d)
    (h : ∀ w1 b, w.heap.size ≤ b → Sd w0 S w1 (⟨b, C, t, true⟩ :: L) R → wpList P ops Q rest (a.put o.dst (.pointer (some ⟨b, 0, none⟩))) w1) : wpList P ops Q (o :: rest) a w :=
  wpL_alloc hg d hd t ho z C hz hC fun w1 ho1 _ hb1 => h w1 _ (Nat.le_refl _) (hst.new ho1 hb1 (Nat.le_refl _))
/-- A row written whole. -/
theorem wpL_storeD (hst : Sd w0 S w L R) (hgd : o.guard = none) {ty : TypeId} {x y : Operand} (ho : o.op = .store ty x y) (i : Nat) {b : Nat} {cs : List Value} {t : TypeId} (hL : L[i]? = some ⟨b, cs, t, true⟩)
    (hx : a.eval x = .pointer (some ⟨b, 0, none⟩)) {D : List Value} (hy : a.eval y = .agg D.toArray) (_hr : isRow P ty = true) (hn : (P.info? ty).map (·.size) = some cs.length) (hl : D.length = cs.length) (h1 : D.all (·.oneCell') = true)
    (h : ∀ w1, Sd w0 S w1 (L.set i ⟨b, D, t, true⟩) R → wpList P ops Q rest (a.put o.dst undef) w1) : wpList P ops Q (o :: rest) a w := by
  refine wpL_store hgd ty x y ho b D.toArray hx hy t cs (hst.blk i hL) hn (by simpa using hl) rfl (by simpa using h1) fun w1 ho1 _ hb1 => h w1 ?_
  exact hst.chg i hL ho1 hb1
/-- One cell written. -/
theorem wpL_store1D (hst : Sd w0 S w L R) (hgd : o.guard = none) {ty : TypeId} {x y : Operand} (ho : o.op = .store ty x y) (i : Nat) {b j : Nat} {cs : List Value} {t : TypeId} (hL : L[i]? = some ⟨b, cs, t, true⟩)
    (hx : a.eval x = .pointer (some ⟨b, j, none⟩)) (hlt : Nat.ble (j + 1) cs.length = true) {v : Value} (hy : a.eval y = v) (hr : (P.info? ty).map (·.size) = some 1) (h1 : v.oneCell' = true)
    (h : ∀ w1, Sd w0 S w1 (L.set i ⟨b, cs.set j v, t, true⟩) R → wpList P ops Q rest (a.put o.dst undef) w1) : wpList P ops Q (o :: rest) a w := by
  refine wpL_store1 hgd ty x y ho b j v hx hy t cs (hst.blk i hL) (Nat.le_of_ble_eq_true hlt) hr h1 fun w1 ho1 _ hb1 => h w1 ?_
  exact hst.chg i hL ho1 hb1
/-- A slice literal. -/
theorem wpL_sliceD (hst : Sd w0 S w L R) (hgd : o.guard = none) (t : TypeId) (n : Nat) (parts : Array (Nat × Operand)) (ho : o.op = .buildSlice t n parts) {e : TypeId} (ht : P.underlying t = some (.slice e))
    {z : Value} {size bytes : Nat} (hinfo : (P.info? e).map (fun i => (i.zero, i.size, i.bytes)) = some (some z, size, bytes)) (hn : n * size ≤ 2 ^ 24) (hn0 : n * size ≠ 0)
    (vs : List Value) (hv : (parts.toList.map fun (i, x) => (i, a.eval x)) = vs.zipIdx.map fun p => (p.2, p.1)) (hlen : vs.length = n) (hc : ∀ v ∈ vs, v.cells.size = size)
    (h : ∀ w1 b, w.heap.size ≤ b → Sd w0 S w1 (⟨b, (vs.map (·.cells.toList)).flatten, e, true⟩ :: L) R → wpList P ops Q rest (a.put o.dst (.slice (some ⟨b, 0, none⟩) n n)) w1) : wpList P ops Q (o :: rest) a w :=
  wpL_slice_lit hgd t n parts ho ht hinfo hn hn0 vs hv hlen hc fun w1 ho1 _ hb1 => h w1 _ (Nat.le_refl _) (hst.new ho1 hb1 (Nat.le_refl _))
end
end Go.Proofs.Ytmogkiacakkmbaa
