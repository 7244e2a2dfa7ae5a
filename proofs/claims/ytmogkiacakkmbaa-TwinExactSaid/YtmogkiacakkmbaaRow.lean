/- A row of bytes that was made of a string, and grows byte by byte. -/
import Derived.Test.YtmogkiacakkmbaaBuild
namespace Go.Proofs.Ytmogkiacakkmbaa
open Go.RowKit

/-- A row of bytes of its own, frozen at most behind its end. -/
def Row (w : World) (B : Nat) (v : Value) (l : List UInt8) : Prop :=
  ∃ g cap cur fz, v = .slice (some ⟨g, 0, none⟩) l.length cap ∧ B ≤ g ∧ w.heap[g]? = some (.cells cur 5 fz) ∧ (fz = (0, 0) ∨ cur.size ≤ fz.1) ∧ l.length ≤ cap ∧ cur.size = cap ∧ cur.toList.take l.length = Lib.byteCells l

theorem Row.only {S : List Nat} {w w' : World} {B : Nat} {v : Value} {l : List UInt8} (h : Row w B v l) (ho : Only S w w') (hn : ∀ k, v.ownBlock = some k → k ∉ S) : Row w' B v l := by
  obtain ⟨g, cap, cur, fz, rfl, hb, hg, r⟩ := h
  refine ⟨g, cap, cur, fz, rfl, hb, ?_, r⟩
  rw [ho.block g (Array.getElem?_eq_some_iff.1 hg).1 (hn g (by simp [Value.ownBlock]))]
  exact hg
theorem Row.own {w : World} {B : Nat} {v : Value} {l : List UInt8} (h : Row w B v l) : ∀ k, v.ownBlock = some k → B ≤ k ∧ k < w.heap.size := by
  obtain ⟨g, cap, cur, fz, rfl, hb, hg, r⟩ := h
  intro k hk
  simp [Value.ownBlock] at hk
  subst hk
  exact ⟨hb, (Array.getElem?_eq_some_iff.1 hg).1⟩
theorem Row.eq {w : World} {B : Nat} {v : Value} {l : List UInt8} (h : Row w B v l) : ∃ g cap, v = .slice (some ⟨g, 0, none⟩) l.length cap ∧ l.length ≤ cap := by
  obtain ⟨g, cap, cur, fz, rfl, _, _, _, h, _⟩ := h
  exact ⟨g, cap, rfl, h⟩
theorem Row.cell {w : World} {B : Nat} {l : List UInt8} {g n cap : Nat} (h : Row w B (.slice (some ⟨g, 0, none⟩) n cap) l) (j : Nat) (hj : j < l.length) : w.cell? ⟨g, j, none⟩ = some (.int .u8 ((l.getD j 0).toNat : Int)) := by
  obtain ⟨g', cap', cur, fz, hv, hb, hg, _, h1, h2, h3⟩ := h
  simp at hv
  obtain ⟨rfl, rfl, rfl⟩ := hv
  have h4 : cur.toList[j]? = (Lib.byteCells l)[j]? := by
    rw [← h3, List.getElem?_take_of_lt hj]
  have h5 : (Lib.byteCells l)[j]? = some (.int .u8 ((l.getD j 0).toNat : Int)) := by
    simp [Lib.byteCells, List.getD_eq_getElem?_getD, List.getElem?_eq_getElem hj]
  simp [World.cell?, hg]
  rw [← Array.getElem?_toList, h4, h5, List.getD_eq_getElem?_getD]

theorem addr_at (b o j : Nat) : (⟨b, o, none⟩ : Addr).add j = ⟨b, o + j, none⟩ := by
  unfold Addr.add
  split <;> simp_all
theorem addr_add0 (a : Addr) : a.add 0 = a := by
  obtain ⟨b, o, s⟩ := a
  unfold Addr.add
  split <;> simp_all

section
variable {P : Program} {w : World} {ops : Array Oper} {rest : List Oper} {o : Oper} {a : Act} {Q : Exit → Act → World → Prop}

/-- '[]byte(s)' as a row that may grow. -/
theorem wpL_bytes_row (hgd : o.guard = none) (src dst : TypeId) (x : Operand)
    (ho : o.op = .convert src dst x) (s : ByteArray) (hx : a.eval x = .string s) (hs : P.underlying src = some .string) (hd : P.underlying dst = some (.slice 5)) (he : P.underlying 5 = some (.int .u8))
    (h : ∀ (g cap : Nat) (w1 : World), Only [] w w1 → Row w1 w.heap.size (.slice (some ⟨g, 0, none⟩) s.size cap) (bl s) → wpList P ops Q rest (a.put o.dst (.slice (some ⟨g, 0, none⟩) s.size cap)) w1) : wpList P ops Q (o :: rest) a w := by
  refine wpList_plain hgd fun K hK => ?_
  have hr := run_bytes_of_string (P := P) w src dst 5 s hs hd he
  unfold Oper.wp
  simp only [execOp, ho, Sem.run_bind, hx, hr, Result.andThen_ok, Sem.run_pure]
  refine hK _ _ (h _ _ _ ?_ ?_)
  · exact ((Only.refl _ w).drew).alloc _
  · have hge := grownCap_ge w s.size 0 5
    have hsz : (bytesRow s (grownCap w s.size 0 5)).size = grownCap w s.size 0 5 := by
      have e : s.data.size = s.size := rfl
      unfold bytesRow
      simp only [Array.size_append, Array.size_map, Array.size_replicate]
      omega
    refine ⟨w.heap.size, _, bytesRow s (grownCap w s.size 0 5), _, ?_, Nat.le_refl _, heap_alloc_new w.drew _, .inr (Nat.le_refl _), ?_, hsz, ?_⟩
    · rw [bl_length]
    · rw [bl_length]; exact hge
    · have e1 : (s.data.map (fun b => Value.int .u8 (b.toNat : Int))).toList = Lib.byteCells (bl s) := by
        simp [Lib.byteCells, bl]
      unfold bytesRow
      rw [Array.toList_append, e1, List.take_left' (by rw [byteCells_length])]

/-- One byte more. -/
theorem wpL_append1 (hgd : o.guard = none) (s x : Operand) (t : TypeId) (ho : o.op = .call { callee := .builtin .append, args := #[s, x], argTypes := #[t, t] })
    (ht : P.underlying t = some (.slice 5)) (hinfo : (P.info? 5).map (fun i => (i.zero, i.size, i.bytes)) = some (some (.int .u8 0), 1, 1))
    (B : Nat) (v : Value) (l : List UInt8) (hs : a.eval s = v) (hrow : Row w B v l) (ad : Addr) (c : Nat) (hx : a.eval x = .slice (some ad) 1 c) (z : Int) (b : UInt8) (hb : w.cell? ad = some (.int .u8 z)) (hz : Hid (z = (b.toNat : Int)))
    (hlen : l.length + 1 ≤ 140737488355328) (hB : B ≤ w.heap.size)
    (h : ∀ g cap w', Row w' B (.slice (some ⟨g, 0, none⟩) (l.length + 1) cap) (l ++ [b]) → Only v.ownBlock.toList w w' → wpList P ops Q rest (a.put o.dst (.slice (some ⟨g, 0, none⟩) ((l.length + 1 : Nat) : Nat) cap)) w') : wpList P ops Q (o :: rest) a w := by
  obtain ⟨i, hi, hz0, hsize, hby⟩ := info_parts hinfo
  have hz := hz.out
  subst hz
  obtain ⟨g, cap, cur, fz, rfl, hbg, hg, hfz, hnc, hcs, htake⟩ := hrow
  have hadd : ∀ j, (⟨g, 0, none⟩ : Addr).add j = ⟨g, j, none⟩ := fun j => by unfold Addr.add; split <;> simp_all
  have hnews : ∀ j u, ([Value.int .u8 (b.toNat : Int)])[j]? = some u → w.cell? (ad.add j) = some u := fun j u hj => by
    match j, hj with
    | 0, hj => simp at hj; subst hj; rw [addr_add0]; exact hb
  have ecells : Lib.byteCells (l ++ [b]) = Lib.byteCells l ++ [.int .u8 (b.toNat : Int)] := by simp [Lib.byteCells]
  have hll : (Lib.byteCells l).length = l.length := byteCells_length l
  suffices hs' : ∃ g' cap' w', (Builtin.append_ #[t, t] o.type #[.slice (some ⟨g, 0, none⟩) l.length cap, .slice (some ad) 1 c]).run P w = .ok (.slice (some ⟨g', 0, none⟩) (l.length + 1) cap') w' ∧ Row w' B (.slice (some ⟨g', 0, none⟩) (l.length + 1) cap') (l ++ [b]) ∧ Only [g] w w' by
    obtain ⟨g', cap', w', hr, h1, h2⟩ := hs'
    refine wpList_plain hgd fun K hK => ?_
    unfold Oper.wp execOp
    simp only [ho, resolve, invoke, builtin, Sem.run_bind, Sem.run_pure, Result.andThen_ok, List.map_toArray, List.map_cons, List.map_nil, hs, hx, hr]
    exact hK _ _ (h g' cap' w' h1 h2)
  by_cases hroom : l.length + 1 ≤ cap
  · have hlt : l.length < cur.size := by omega
    have hcell : w.cell? ⟨g, l.length, none⟩ = some cur[l.length] := by simp [World.cell?, hg, hlt]
    have hfree : w.frozen? ⟨g, l.length, none⟩ = false := by
      obtain ⟨lo, hi'⟩ := fz
      simp only [World.frozen?, hg]
      rcases hfz with h | h
      · injection h with h1 h2
        subst h1 h2
        simp
      · simp only at h
        simp
        omega
    have hst : (store ⟨g, l.length, none⟩ (.int .u8 (b.toNat : Int))).run P w = .ok () (w.setCell ⟨g, l.length, none⟩ (.int .u8 (b.toNat : Int))) := by
      rw [run_store P w _ _ _ rfl, hcell]
      simp [hfree]
    have hf := run_firstCells_some (P := P) w 1 1 ad 1 c [.int .u8 (b.toNat : Int)] rfl hnews
    have hscs : (storeCells ⟨g, l.length, none⟩ [Value.int .u8 (b.toNat : Int)]).run P w = .ok () (w.setCell ⟨g, l.length, none⟩ (.int .u8 (b.toNat : Int))) := by
      simp [storeCells, Sem.run_bind, addr_add0, hst]
    refine ⟨g, cap, w.setCell ⟨g, l.length, none⟩ (.int .u8 (b.toNat : Int)), ?_, ⟨g, cap, cur.setIfInBounds l.length (.int .u8 (b.toNat : Int)), fz, by simp, hbg, ?_, ?_, by simpa using hroom, by simpa using hcs, ?_⟩, (Only.refl _ w).set (by simp) _⟩
    · simp [Builtin.append_, run_underlying ht, sizeOf, typeInfo, hi, hsize, Builtin.lenOf, hroom, hf, hadd, hscs]
    · simp [World.setCell, Array.getElem?_modify, hg]
    · simpa using hfz
    · rw [List.length_append, List.length_singleton, ecells, Array.toList_setIfInBounds]
      refine List.ext_getElem? fun j => ?_
      rcases Nat.lt_trichotomy j l.length with hj | hj | hj
      · rw [List.getElem?_take_of_lt (by omega), List.getElem?_set_ne (by omega), List.getElem?_append_left (by omega), ← htake, List.getElem?_take_of_lt hj]
      · subst hj
        rw [List.getElem?_take_of_lt (by omega), List.getElem?_set_self (by simpa using hlt), List.getElem?_append_right (by omega), hll]
        simp
      · rw [List.getElem?_eq_none (by simp; omega), List.getElem?_eq_none (by simp [hll]; omega)]
  · have holds : ∀ j u, (Lib.byteCells l)[j]? = some u → w.cell? ((⟨g, 0, none⟩ : Addr).add j) = some u := fun j u hj => by
      have hjl : j < l.length := by rw [← hll]; exact (List.getElem?_eq_some_iff.1 hj).1
      rw [hadd]
      simp [World.cell?, hg]
      rw [← Array.getElem?_toList, ← hj, ← htake, List.getElem?_take_of_lt hjl]
    have hr := run_append_grow (P := P) w t o.type 5 i _ ht hi hz0 ⟨g, 0, none⟩ l.length cap (Lib.byteCells l) (by rw [hll, hsize, Nat.mul_one]) holds ad 1 c [.int .u8 (b.toNat : Int)] (by rw [hsize]; rfl) hnews (by omega) (by omega) (growslice_fits (by omega) (by rw [hby]; omega))
    have hge := grownCap_ge w (l.length + 1) cap 5
    have ezc : Value.cells (.int .u8 0) = #[.int .u8 0] := rfl
    refine ⟨w.heap.size, _, _, hr, ⟨w.heap.size, grownCap w (l.length + 1) cap 5, (Lib.byteCells l).toArray ++ #[Value.int .u8 (b.toNat : Int)] ++ Builtin.zeroCells (Value.int .u8 0).cells (grownCap w (l.length + 1) cap 5 - (l.length + 1)), _, by simp, hB, heap_alloc_new w.drew _, .inl rfl, by simpa using hge, ?_, ?_⟩, (((Only.refl [g] w).drew).alloc _)⟩
    · simp only [Array.size_append, List.size_toArray, size_zeroCells, hll, ezc, List.length_singleton]
      simp
      omega
    · simp only [Array.toList_append, List.append_assoc, List.length_append, List.length_singleton]
      rw [← List.append_assoc, List.take_left' (by simp [hll]), ecells]
end

end Go.Proofs.Ytmogkiacakkmbaa
