/- Small words for walks: a block known whole, what changed between two worlds, and rules for single operations whose world behind is a name. -/
import Derived.WalkKit
import Derived.WalkSpells
import Derived.WalkLawsBesides
import Derived.Lib.Hide
import Derived.Laws.IdiomStrings
import Derived.Deep.QuietTactic
import Derived.BigQuiet
import Derived.Deep.LoopGhost
import Derived.Deep.RegionWith
import Derived.Deep.RegionHeld3
import Derived.Lib.AppendStr
import Derived.StillTailTactics
import Derived.Stop.BytesEq
namespace Go.Proofs.Ytmogkiacakkmbaa
open Go.RowKit

/-- Block b holds just these cells, and may be written. -/
def Blk (w : World) (b : Nat) (cs : List Value) (ty : TypeId) : Prop := w.heap[b]? = some (.cells cs.toArray ty (0, 0))

theorem Blk.cell {w : World} {b : Nat} {cs : List Value} {ty : TypeId} (h : Blk w b cs ty) {i : Nat} {v : Value} (hv : cs[i]? = some v) : w.cell? ⟨b, i, none⟩ = some v := by
  unfold Blk at h
  simp [World.cell?, h, hv]

theorem Blk.free {w : World} {b : Nat} {cs : List Value} {ty : TypeId} (h : Blk w b cs ty) (i : Nat) : w.frozen? ⟨b, i, none⟩ = false := by
  unfold Blk at h
  simp [World.frozen?, h]

theorem Blk.lt {w : World} {b : Nat} {cs : List Value} {ty : TypeId} (h : Blk w b cs ty) : b < w.heap.size := by
  unfold Blk at h
  exact (Array.getElem?_eq_some_iff.1 h).1

theorem Blk.new (w : World) (cs : List Value) (ty : TypeId) : Blk (w.alloc (.cells cs.toArray ty)) w.heap.size cs ty := heap_alloc_new w _

theorem Blk.newA (w : World) (cs : Array Value) (ty : TypeId) : Blk (w.alloc (.cells cs ty)) w.heap.size cs.toList ty := by
  have := heap_alloc_new w (.cells cs ty)
  unfold Blk
  simpa using this

theorem Blk.alloc {w : World} {b : Nat} {cs : List Value} {ty : TypeId} (h : Blk w b cs ty) (o : Obj) : Blk (w.alloc o) b cs ty := by
  have := h.lt
  unfold Blk at *
  rw [Below.heap_alloc w o b this]
  exact h

theorem Blk.drew {w : World} {b : Nat} {cs : List Value} {ty : TypeId} (h : Blk w b cs ty) : Blk w.drew b cs ty := h
theorem Blk.drewN {w : World} {b : Nat} {cs : List Value} {ty : TypeId} (h : Blk w b cs ty) (n : Nat) : Blk (w.drewN n) b cs ty := h

theorem Blk.set {w : World} {b : Nat} {cs : List Value} {ty : TypeId} (h : Blk w b cs ty) (i : Nat) (v : Value) : Blk (w.setCell ⟨b, i, none⟩ v) b (cs.set i v) ty := by
  unfold Blk at *
  simp [World.setCell, Array.getElem?_modify, h]

theorem Blk.set_other {w : World} {b : Nat} {cs : List Value} {ty : TypeId} (h : Blk w b cs ty) {a : Addr} (hne : b ≠ a.block) (v : Value) : Blk (w.setCell a v) b cs ty := by
  unfold Blk at *
  rw [Below.heap_setCell w a v b hne]
  exact h

theorem Blk.below {w w' : World} {b B : Nat} {cs : List Value} {ty : TypeId} (h : Blk w b cs ty) (hb : Below B w w') (hlt : b < B) : Blk w' b cs ty := by
  unfold Blk at *
  rw [hb.block b hlt]
  exact h

/-- No block but those of S has changed; new ones may have come. -/
structure Only (S : List Nat) (w w' : World) : Prop where
  os : w'.os = w.os
  tape : w'.tape = w.tape
  output : w'.output = w.output
  size : w.heap.size ≤ w'.heap.size
  block : ∀ k, k < w.heap.size → k ∉ S → w'.heap[k]? = w.heap[k]?

theorem Only.refl (S : List Nat) (w : World) : Only S w w := ⟨rfl, rfl, rfl, Nat.le_refl _, fun _ _ _ => rfl⟩
theorem Only.trans {S : List Nat} {a b c : World} (h : Only S a b) (k : Only S b c) : Only S a c :=
  ⟨k.os.trans h.os, k.tape.trans h.tape, k.output.trans h.output, Nat.le_trans h.size k.size, fun i hi hn => (k.block i (Nat.lt_of_lt_of_le hi h.size) hn).trans (h.block i hi hn)⟩
theorem Only.mono {S T : List Nat} {a b : World} (h : Only S a b) (hs : ∀ k, k ∈ S → k < a.heap.size → k ∈ T) : Only T a b :=
  ⟨h.os, h.tape, h.output, h.size, fun i hi hn => h.block i hi fun hm => hn (hs i hm hi)⟩
theorem Only.drew {S : List Nat} {a b : World} (h : Only S a b) : Only S a b.drew := ⟨h.os, h.tape, h.output, h.size, h.block⟩
theorem Only.drewN {S : List Nat} {a b : World} (h : Only S a b) (n : Nat) : Only S a (b.drewN n) := ⟨h.os, h.tape, h.output, h.size, h.block⟩
theorem Only.alloc {S : List Nat} {a b : World} (h : Only S a b) (o : Obj) : Only S a (b.alloc o) :=
  h.trans ⟨rfl, rfl, rfl, by simp, fun k hk _ => Below.heap_alloc _ _ _ hk⟩
theorem Only.set {S : List Nat} {a b : World} (h : Only S a b) {p : Addr} (hp : p.block ∈ S ∨ a.heap.size ≤ p.block) (v : Value) : Only S a (b.setCell p v) := by
  refine ⟨h.os, h.tape, h.output, by simpa [World.setCell] using h.size, fun k hk hn => ?_⟩
  rw [Below.heap_setCell _ _ _ _ (by rcases hp with hp | hp; exact fun e => hn (e ▸ hp); omega)]
  exact h.block k hk hn
/-- A step that touches new blocks alone, or those of S. -/
theorem Only.step {S T : List Nat} {a b c : World} (h : Only S a b) (k : Only T b c) (ht : ∀ i, i ∈ T → i ∈ S ∨ a.heap.size ≤ i) : Only S a c :=
  ⟨k.os.trans h.os, k.tape.trans h.tape, k.output.trans h.output, Nat.le_trans h.size k.size, fun i hi hn =>
    (k.block i (Nat.lt_of_lt_of_le hi h.size) (fun hm => by rcases ht i hm with h1 | h1; exact hn h1; omega)).trans (h.block i hi hn)⟩
theorem Only.of_grown {a b : World} {row : Option Nat} (h : a.grownBy b row) : Only row.toList a b :=
  ⟨h.os, h.tape, h.output, h.size, fun k hk hn => h.block k hk fun e => hn (by rw [← e]; simp)⟩
theorem Only.below {a b : World} (h : Only [] a b) : Below a.heap.size a b := ⟨h.os, h.tape, h.output, h.size, fun k hk => h.block k hk (by simp)⟩
theorem Only.of_below {a b : World} (h : Below a.heap.size a b) : Only [] a b := ⟨h.os, h.tape, h.output, h.size, fun k hk _ => h.block k hk⟩
theorem Only.frozen {S : List Nat} {a b : World} (h : Only S a b) {p : Addr} (hp : p.block < a.heap.size) (hn : p.block ∉ S) : b.frozen? p = a.frozen? p := World.frozen?_of_block (w := a) (h.block p.block hp hn)
theorem Only.cell {S : List Nat} {a b : World} (h : Only S a b) {p : Addr} (hp : p.block < a.heap.size) (hn : p.block ∉ S) : b.cell? p = a.cell? p := World.cell?_of_block (w := a) (h.block p.block hp hn)

theorem Only.cellAt {S : List Nat} {a b : World} (h : Only S a b) (k i : Nat) (hp : k < a.heap.size) (hn : k ∉ S) : b.cell? ⟨k, i, none⟩ = a.cell? ⟨k, i, none⟩ := h.cell (p := ⟨k, i, none⟩) hp hn
theorem Only.frozenAt {S : List Nat} {a b : World} (h : Only S a b) (k i : Nat) (hp : k < a.heap.size) (hn : k ∉ S) : b.frozen? ⟨k, i, none⟩ = a.frozen? ⟨k, i, none⟩ := h.frozen (p := ⟨k, i, none⟩) hp hn

theorem Blk.only {S : List Nat} {w w' : World} {b : Nat} {cs : List Value} {ty : TypeId} (h : Blk w b cs ty) (ho : Only S w w') (hn : b ∉ S) : Blk w' b cs ty := by
  have hlt := h.lt
  unfold Blk at *
  rw [ho.block b hlt hn]
  exact h
theorem Blk.keep {w w' : World} {b : Nat} {cs : List Value} {ty : TypeId} (h : Blk w b cs ty) (ho : Only [] w w') : Blk w' b cs ty := h.only ho (by simp)

theorem ownsRow_only {S : List Nat} {w w' : World} {base : Nat} {e : TypeId} {size : Nat} {v : Value} {n : Nat} {xs : List Value} (h : w.ownsRow base e size v n xs) (ho : Only S w w') (hn : ∀ k, v.ownBlock = some k → k ∉ S) : w'.ownsRow base e size v n xs := by
  refine ⟨h.1, ?_⟩
  rcases h.2 with hx | ⟨g, cap, cur, rfl, hb, hgg, rest⟩
  · exact .inl hx
  · refine .inr ⟨g, cap, cur, rfl, hb, ?_, rest⟩
    rw [ho.block g (Array.getElem?_eq_some_iff.1 hgg).1 (hn g (by simp [Value.ownBlock]))]
    exact hgg

/-- A string's bytes. -/
def bl (s : ByteArray) : List UInt8 := s.data.toList
theorem bl_length (s : ByteArray) : (bl s).length = s.size := by unfold bl ByteArray.size; simp
theorem bl_get (s : ByteArray) (i : Nat) (h : i < s.size) : (bl s).getD i 0 = s[i] := by
  unfold bl
  rw [List.getD_eq_getElem?_getD, Array.getElem?_toList, Array.getElem?_eq_getElem h]
  rfl
theorem bl_extract (s : ByteArray) (a b : Nat) : bl (s.extract a b) = ((bl s).take b).drop a := by
  unfold bl
  rw [ByteArray.data_extract]
  simp [Array.toList_extract, List.drop_take]
theorem bl_mk (l : List UInt8) : bl ⟨l.toArray⟩ = l := rfl
theorem bl_ext {s t : ByteArray} (h : bl s = bl t) : s = t := by
  cases s; cases t
  unfold bl at h
  simp only at h
  rw [Array.toList_inj.1 h]
theorem bl_of (s : ByteArray) : (⟨(bl s).toArray⟩ : ByteArray) = s := bl_ext rfl

theorem str_ne {s : ByteArray} (h : s.size ≠ 0) : s.toList.isEmpty = false := by
  rw [← decide_eq_emptyBytes s]
  exact decide_eq_false fun e => h (by rw [e]; rfl)

/-- Cells put one by one from a place on. -/
theorem foldl_put : ∀ (l : List Value) (k : Nat) (off : Nat) (cs : Array Value), off + k + l.length ≤ cs.size →
    ((l.zipIdx k).foldl (fun (cs : Array Value) (p : Value × Nat) => cs.setIfInBounds (off + p.2) p.1) cs).toList = cs.toList.take (off + k) ++ l ++ cs.toList.drop (off + k + l.length)
  | [], k, off, cs, _ => by simp
  | v :: l, k, off, cs, h => by
    simp only [List.length_cons] at h
    rw [List.zipIdx_cons, List.foldl_cons, foldl_put l (k + 1) off _ (by simp; omega)]
    simp only [Array.toList_setIfInBounds, List.length_cons]
    have e : cs.toList.set (off + k) v = cs.toList.take (off + k) ++ v :: cs.toList.drop (off + k + 1) := by
      rw [List.set_eq_take_append_cons_drop, if_pos (by simp; omega)]
    have hl : (cs.toList.take (off + k)).length = off + k := by simp; omega
    have t1 : (cs.toList.take (off + k) ++ v :: cs.toList.drop (off + k + 1)).take (off + (k + 1)) = cs.toList.take (off + k) ++ [v] := by
      rw [show cs.toList.take (off + k) ++ v :: cs.toList.drop (off + k + 1) = (cs.toList.take (off + k) ++ [v]) ++ cs.toList.drop (off + k + 1) by simp, List.take_left' (by simp; omega)]
    have t2 : (cs.toList.take (off + k) ++ v :: cs.toList.drop (off + k + 1)).drop (off + (k + 1) + l.length) = cs.toList.drop (off + k + (l.length + 1)) := by
      rw [show cs.toList.take (off + k) ++ v :: cs.toList.drop (off + k + 1) = (cs.toList.take (off + k) ++ [v]) ++ cs.toList.drop (off + k + 1) by simp, List.drop_append, List.drop_eq_nil_of_le (by simp; omega), List.drop_drop, List.nil_append]
      congr 1
      simp
      omega
    rw [e, t1, t2]
    simp

/-- Parts of one size, put one behind the other. -/
theorem fill_all (size : Nat) : ∀ (vs : List Value) (k : Nat) (cs : Array Value), (∀ v ∈ vs, v.cells.size = size) → (k + vs.length) * size ≤ cs.size →
    Instr.fill (fun i => some (i * size, size)) cs ((vs.zipIdx k).map fun p => (p.2, p.1)) = some (cs.toList.take (k * size) ++ (vs.map (·.cells.toList)).flatten ++ cs.toList.drop ((k + vs.length) * size)).toArray
  | [], k, cs, _, h => by simp [Instr.fill]
  | v :: vs, k, cs, hv, h => by
    have hs := hv v (by simp)
    simp only [List.length_cons] at h
    have h1 : k * size + size ≤ cs.size := by
      have : (k + 1) * size ≤ (k + (vs.length + 1)) * size := Nat.mul_le_mul_right _ (by omega)
      rw [Nat.add_mul, Nat.one_mul] at this
      omega
    have hf := foldl_put v.cells.toList 0 (k * size) cs (by simp [hs]; omega)
    have hnew : v.cells.zipIdx.foldl (fun (cs : Array Value) (p : Value × Nat) => cs.setIfInBounds (k * size + p.2) p.1) cs = (cs.toList.take (k * size) ++ v.cells.toList ++ cs.toList.drop (k * size + size)).toArray := by
      apply Array.toList_inj.1
      rw [← Array.foldl_toList, Array.toList_zipIdx, hf]
      simp [hs]
    rw [List.zipIdx_cons, List.map_cons, Instr.fill]
    simp only
    rw [if_neg (by simp [hs]; omega)]
    have hstep : (v.cells.zipIdx.foldl (fun cs (x : Value × Nat) => match x with | (c, j) => cs.setIfInBounds (k * size + j) c) cs) = (cs.toList.take (k * size) ++ v.cells.toList ++ cs.toList.drop (k * size + size)).toArray := hnew
    rw [hstep, fill_all size vs (k + 1) _ (fun x hx => hv x (by simp [hx])) (by
      simp [hs]
      rw [show k + 1 + vs.length = k + (vs.length + 1) by omega]
      omega)]
    congr 1
    apply Array.toList_inj.1
    simp only [List.map_cons, List.flatten_cons, List.append_assoc]
    have e1 : (k + 1) * size = k * size + size := by rw [Nat.add_mul, Nat.one_mul]
    have e2 : (k + 1 + vs.length) * size = k * size + size + vs.length * size := by rw [Nat.add_mul, e1]
    have e3 : (k + (v :: vs).length) * size = k * size + size + vs.length * size := by rw [List.length_cons, show k + (vs.length + 1) = k + 1 + vs.length by omega, e2]
    have hl : (cs.toList.take (k * size)).length = k * size := by simp; omega
    have hl2 : v.cells.toList.length = size := by simpa using hs
    rw [e1, e2, e3]
    have t1 : (cs.toList.take (k * size) ++ (v.cells.toList ++ cs.toList.drop (k * size + size))).take (k * size + size) = cs.toList.take (k * size) ++ v.cells.toList := by
      rw [← List.append_assoc, List.take_left' (by simp [hl2]; omega)]
    have t2 : (cs.toList.take (k * size) ++ (v.cells.toList ++ cs.toList.drop (k * size + size))).drop (k * size + size + vs.length * size) = cs.toList.drop (k * size + size + vs.length * size) := by
      rw [← List.append_assoc, List.drop_append, List.drop_eq_nil_of_le (by simp [hl2]; omega)]
      simp [hl2]
      congr 1
      omega
    rw [t1, t2]
    simp

section
variable {P : Program} {w : World} {ops : Array Oper} {rest : List Oper} {o : Oper} {a : Act} {Q : Exit → Act → World → Prop}

/-- A slice literal, its parts given whole and in order. -/
theorem wpL_slice_lit (hgd : o.guard = none) (t : TypeId) (n : Nat) (parts : Array (Nat × Operand)) (ho : o.op = .buildSlice t n parts) {e : TypeId} (ht : P.underlying t = some (.slice e))
    {z : Value} {size bytes : Nat} (hinfo : (P.info? e).map (fun i => (i.zero, i.size, i.bytes)) = some (some z, size, bytes)) (hn : n * size ≤ 2 ^ 24) (hn0 : n * size ≠ 0)
    (vs : List Value) (hv : (parts.toList.map fun (i, x) => (i, a.eval x)) = vs.zipIdx.map fun p => (p.2, p.1)) (hlen : vs.length = n) (hc : ∀ v ∈ vs, v.cells.size = size)
    (h : ∀ w1, Only [] w w1 → Hid (w1.heap.size = w.heap.size + 1) → Blk w1 w.heap.size (vs.map (·.cells.toList)).flatten e → wpList P ops Q rest (a.put o.dst (.slice (some ⟨w.heap.size, 0, none⟩) n n)) w1) : wpList P ops Q (o :: rest) a w := by
  obtain ⟨i, hi, hz, hsize, hby⟩ := info_parts hinfo
  have hsz : (sizeOf e).run P w = .ok size w := by simp [sizeOf, typeInfo, hi, hsize]
  have hzr : (zeroValue e).run P w = .ok z w := by simp [zeroValue, typeInfo, hi, hz]
  have hfill := fill_all size vs 0 ((Array.range (n * size)).map (z.cells[· % z.cells.size]!)) hc (by simp [hlen])
  simp only [Nat.zero_mul, List.take_zero, List.nil_append, Nat.zero_add, hlen] at hfill
  rw [List.drop_eq_nil_of_le (by simp), List.append_nil] at hfill
  have hrun : (Instr.buildSlice t n (parts.map fun (i, x) => (i, a.eval x))).run P w = .ok (.slice (some ⟨w.heap.size, 0, none⟩) n n) (w.alloc (.cells (vs.map (·.cells.toList)).flatten.toArray e)) := by
    unfold Instr.buildSlice
    rw [Sem.run_bind, run_underlying ht w, Result.andThen_ok]
    simp only
    rw [Sem.run_bind, hsz, Result.andThen_ok]
    rw [if_neg (by omega)]
    simp only [if_neg hn0, Sem.run_bind, hzr, Result.andThen_ok, Sem.run_pure, Array.toList_map, hv, hfill]
    simp [newRow]
  refine wpList_plain hgd fun K hK => ?_
  unfold Oper.wp
  simp only [execOp, ho, Sem.run_bind, hrun, Result.andThen_ok, Sem.run_pure]
  exact hK _ _ (h _ ((Only.refl _ w).alloc _) (show _ = _ by simp) (Blk.new _ _ _))

/-- An operation whose run is known. -/
theorem wpL_run (hgd : o.guard = none) {v : Value} {w1 : World} (hrun : (execOp a.eval o).run P w = .ok (.value v) w1) (h : wpList P ops Q rest (a.put o.dst v) w1) : wpList P ops Q (o :: rest) a w := by
  refine wpList_plain hgd fun K hK => ?_
  unfold Oper.wp
  rw [hrun]
  exact hK _ _ h

/-- '[]byte(s)': a new row that reads as the bytes. -/
theorem wpL_bytes (hgd : o.guard = none) (src dst e : TypeId) (x : Operand)
    (ho : o.op = .convert src dst x) (s : ByteArray) (hx : a.eval x = .string s) (hs : P.underlying src = some .string) (hd : P.underlying dst = some (.slice e)) (he : P.underlying e = some (.int .u8))
    (h : ∀ (cap : Nat) (w1 : World), s.size ≤ cap → Hid (w1.heap.size = w.heap.size + 1) → Only [] w w1 → (∀ j, j < s.size → w1.cell? ⟨w.heap.size, j, none⟩ = some (.int .u8 (((bl s).getD j 0).toNat : Int))) →
      wpList P ops Q rest (a.put o.dst (.slice (some ⟨w.heap.size, 0, none⟩) s.size cap)) w1) : wpList P ops Q (o :: rest) a w := by
  refine wpList_plain hgd fun K hK => ?_
  have hr := run_bytes_of_string (P := P) w src dst e s hs hd he
  unfold Oper.wp
  simp only [execOp, ho, Sem.run_bind, hx, hr, Result.andThen_ok, Sem.run_pure]
  refine hK _ _ (h _ _ ?_ ?_ ?_ ?_)
  · exact grownCap_ge w _ _ _
  · show (w.heap.push _).size = _
    simp
  · exact ((Only.refl _ w).drew).alloc _
  · intro j hj
    have hsz : w.drew.heap.size = w.heap.size := rfl
    rw [← hsz, World.cell?_alloc_mark]
    rw [bytesRow_at s _ j hj, bl_get s j hj]
    rfl

/-- A literal, its cells under a name. -/
theorem wpL_build (hg : o.guard = none) (t : TypeId) (parts : Array (Nat × Operand)) (ho : o.op = .build t parts) (C : List Value)
    (hf : P.built t (parts.map fun (i, x) => (i, a.eval x)).toList = some C.toArray)
    (h : wpList P ops Q rest (a.put o.dst (.agg C.toArray)) w) : wpList P ops Q (o :: rest) a w :=
  wpList_build hg t parts ho (by rw [hf]; rfl) (by rw [hf]; exact h)

/-- A new variable of cells. -/
theorem wpL_alloc (hg : o.guard = none) (dst : Tmp) (_hdst : o.dst = some dst) (t : TypeId) (ho : o.op = .alloc t) (z : Value) (C : List Value) (hz : (P.info? t).map (·.zero) = some (some z)) (hC : z.cells = C.toArray)
    (h : ∀ w1, Only [] w w1 → Hid (w1.heap.size = w.heap.size + 1) → Blk w1 w.heap.size C t → wpList P ops Q rest (a.put o.dst (.pointer (some ⟨w.heap.size, 0, none⟩))) w1) : wpList P ops Q (o :: rest) a w := by
  refine wpList_plain hg fun K hK => ?_
  have hzr : (zeroValue t).run P w = .ok z w := by
    cases hq : P.info? t with
    | none => simp [hq] at hz
    | some i =>
      have h0 : i.zero = some z := by simpa [hq] using hz
      simp [zeroValue, typeInfo, hq, h0]
  have hrun : (Instr.alloc t true (.tuple #[])).run P w = .ok (.pointer (some ⟨w.heap.size, 0, none⟩)) (w.alloc (.cells C.toArray t)) := by
    simp [Instr.alloc, Sem.run_bind, hzr, newVar, newRow, hC]
  unfold Oper.wp
  simp only [execOp, ho, Sem.run_bind, hrun, Result.andThen_ok, Sem.run_pure]
  exact hK _ _ (h _ ((Only.refl _ w).alloc _) (show _ = _ by simp) (Blk.new _ _ _))

/-- An element of an array by value, one cell wide. -/
theorem wpL_index (hgd : o.guard = none) (t : TypeId) (x i : Operand) (ho : o.op = .index t x i) (cs : Array Value) (hx : a.eval x = .agg cs) {k : IntKind} {n : Int} (hi : a.eval i = .int k n)
    {len : Nat} {e : TypeId} (ht : P.underlying t = some (.array len e)) {d : TypeDesc} (he : P.underlying e = some d) (hd : (match d with | .struct _ | .array _ _ => true | _ => false) = false) (hsz : (P.info? e).map (·.size) = some 1)
    (h0 : 0 ≤ n) (h1 : n < len) {v : Value} (hv : cs[n.toNat]? = some v) (h : wpList P ops Q rest (a.put o.dst v) w) : wpList P ops Q (o :: rest) a w := by
  have hrun : (Instr.index t (.agg cs) (.int k n)).run P w = .ok v w := by
    have hagg : (isAgg e).run P w = .ok false w := by
      unfold isAgg
      rw [Sem.run_bind, run_underlying he w]
      cases d <;> simp_all
    cases hq : P.info? e with
    | none => simp [hq] at hsz
    | some inf =>
      have hs : inf.size = 1 := by simpa [hq] using hsz
      simp [Instr.index, asIntOf, run_underlying ht w, h0, h1, sizeOf, typeInfo, hq, hs, part, hagg, hv]
  refine wpList_plain hgd fun K hK => ?_
  unfold Oper.wp
  simp only [execOp, ho, hx, hi, Sem.run_bind, hrun, Result.andThen_ok, Sem.run_pure]
  exact hK _ _ h

/-- A byte of a string. -/
theorem wpL_index_string (hgd : o.guard = none) (t : TypeId) (x i : Operand) (ho : o.op = .index t x i) (s : ByteArray) (hx : a.eval x = .string s) {k : IntKind} {n : Int} (hi : a.eval i = .int k n)
    (ht : P.underlying t = some .string) (h0 : 0 ≤ n) (h1 : n < s.size) (h : ∀ c : Nat, Hid (c = ((bl s).getD n.toNat 0).toNat) → c < 256 → wpList P ops Q rest (a.put o.dst (.int .u8 (c : Int))) w) : wpList P ops Q (o :: rest) a w := by
  have hlt : n.toNat < s.size := by omega
  have hrun : (Instr.index t (.string s) (.int k n)).run P w = .ok (.int .u8 (((bl s).getD n.toNat 0).toNat : Int)) w := by
    rw [bl_get s _ hlt]
    simp [Instr.index, asIntOf, run_underlying ht w, h0, hlt]
  refine wpList_plain hgd fun K hK => ?_
  unfold Oper.wp
  simp only [execOp, ho, hx, hi, Sem.run_bind, hrun, Result.andThen_ok, Sem.run_pure]
  exact hK _ _ (h _ rfl ((bl s).getD n.toNat 0).toNat_lt)

/-- A row read whole. -/
theorem wpL_load (hgd : o.guard = none) (ty : TypeId) (x : Operand) (ho : o.op = .load ty x)
    (b : Nat) (hx : a.eval x = .pointer (some ⟨b, 0, none⟩)) (t : TypeId) (cs : List Value) (d : TypeDesc) (hg : Blk w b cs t)
    (hu : P.underlying ty = some d) (hd : (match d with | .struct _ | .array _ _ => true | _ => false) = true) {n : Nat} (hi : (P.info? ty).map (·.size) = some n) (hn : cs.length = n)
    (h : wpList P ops Q rest (a.put o.dst (.agg cs.toArray)) w) : wpList P ops Q (o :: rest) a w :=
  wpList_load_row hgd ty x ho b hx t cs.toArray (0, 0) d hg hu hd (by rw [hi, ← hn]; simp) h

/-- So many cells read from a place on. -/
theorem wpL_load_at (hgd : o.guard = none) (ty : TypeId) (x : Operand) (ho : o.op = .load ty x)
    (b i : Nat) (hx : a.eval x = .pointer (some ⟨b, i, none⟩)) (cs : List Value) (d : TypeDesc) (hc : ∀ j v, cs[j]? = some v → w.cell? ⟨b, i + j, none⟩ = some v)
    (hu : P.underlying ty = some d) (hd : (match d with | .struct _ | .array _ _ => true | _ => false) = true) {n : Nat} (hi : (P.info? ty).map (·.size) = some n) (hn : cs.length = n)
    (h : wpList P ops Q rest (a.put o.dst (.agg cs.toArray)) w) : wpList P ops Q (o :: rest) a w := by
  have hl : (loadCells ⟨b, i, none⟩ cs.length).run P w = .ok cs.toArray w :=
    run_loadCells_list (P := P) w ⟨b, i, none⟩ cs (fun j v hv => by
      have hadd : (⟨b, i, none⟩ : Addr).add j = ⟨b, i + j, none⟩ := by unfold Addr.add; split <;> simp_all
      rw [hadd]
      exact hc j v hv)
  have hrun : (loadVar ty ⟨b, i, none⟩).run P w = .ok (.agg cs.toArray) w := by
    cases hq : P.info? ty with
    | none => simp [hq] at hi
    | some inf =>
      have hs : inf.size = cs.length := by rw [hq] at hi; simp at hi; omega
      have hagg : (isAgg ty).run P w = .ok true w := by
        unfold isAgg
        rw [Sem.run_bind, run_underlying hu w]
        cases d <;> simp_all
      simp [loadVar, Sem.run_bind, hagg, sizeOf, typeInfo, hq, hs, hl]
  refine wpList_plain hgd fun K hK => ?_
  unfold Oper.wp execOp
  simp only [ho, hx, Instr.loadAt, Instr.sureAddr, Sem.run_bind, Sem.run_pure, Result.andThen_ok, hrun]
  exact hK _ _ h

theorem run_loadVar_at (ty : TypeId) (b i : Nat) (cs : List Value) (d : TypeDesc) (hc : ∀ j v, cs[j]? = some v → w.cell? ⟨b, i + j, none⟩ = some v)
    (hu : P.underlying ty = some d) (hd : (match d with | .struct _ | .array _ _ => true | _ => false) = true) {n : Nat} (hi : (P.info? ty).map (·.size) = some n) (hn : cs.length = n) :
    (loadVar ty ⟨b, i, none⟩).run P w = .ok (.agg cs.toArray) w := by
  have hl : (loadCells ⟨b, i, none⟩ cs.length).run P w = .ok cs.toArray w :=
    run_loadCells_list (P := P) w ⟨b, i, none⟩ cs (fun j v hv => by
      have hadd : (⟨b, i, none⟩ : Addr).add j = ⟨b, i + j, none⟩ := by unfold Addr.add; split <;> simp_all
      rw [hadd]
      exact hc j v hv)
  cases hq : P.info? ty with
  | none => simp [hq] at hi
  | some inf =>
    have hs : inf.size = cs.length := by rw [hq] at hi; simp at hi; omega
    have hagg : (isAgg ty).run P w = .ok true w := by
      unfold isAgg
      rw [Sem.run_bind, run_underlying hu w]
      cases d <;> simp_all
    simp [loadVar, Sem.run_bind, hagg, sizeOf, typeInfo, hq, hs, hl]

/-- In the head of a region that draws: an operation whose value is known. -/
theorem wpS_val {Q : Act → Prop} (hgd : o.guard = none) {v : Value} (hrun : (execOp a.eval o).run P w = .ok (.value v) w) (h : wpStill P ops w Q rest (a.put o.dst v)) : wpStill P ops w Q (o :: rest) a := by
  refine wpStill_step fun K hK => ?_
  simp only [Region.wanted, hgd, if_true]
  unfold Oper.still
  rw [hrun, Oper.stillUpon_value]
  exact hK _ h

/-- .. so many cells read from a place on. -/
theorem wpS_load_at {Q : Act → Prop} (hgd : o.guard = none) (ty : TypeId) (x : Operand) (ho : o.op = .load ty x)
    (b i : Nat) (hx : a.eval x = .pointer (some ⟨b, i, none⟩)) (cs : List Value) (d : TypeDesc) (hc : ∀ j v, cs[j]? = some v → w.cell? ⟨b, i + j, none⟩ = some v)
    (hu : P.underlying ty = some d) (hd : (match d with | .struct _ | .array _ _ => true | _ => false) = true) {n : Nat} (hi : (P.info? ty).map (·.size) = some n) (hn : cs.length = n)
    (h : wpStill P ops w Q rest (a.put o.dst (.agg cs.toArray))) : wpStill P ops w Q (o :: rest) a := by
  refine wpS_val hgd ?_ h
  unfold execOp
  simp only [ho, hx, Instr.loadAt, Instr.sureAddr, Sem.run_bind, Sem.run_pure, Result.andThen_ok, run_loadVar_at (P := P) ty b i cs d hc hu hd hi hn]

/-- A row written whole. -/
theorem wpL_store (hgd : o.guard = none) (ty : TypeId) (x y : Operand) (ho : o.op = .store ty x y)
    (b : Nat) (cells : Array Value) (hx : a.eval x = .pointer (some ⟨b, 0, none⟩)) (hy : a.eval y = .agg cells)
    (t : TypeId) (old : List Value) (hg : Blk w b old t) {n : Nat} (hi : (P.info? ty).map (·.size) = some n)
    (hn : cells.size = n) (hold : old.length = n) (h1 : cells.all (·.oneCell') = true)
    (h : ∀ w1, Only [b] w w1 → Hid (w1.heap.size = w.heap.size) → Blk w1 b cells.toList t → wpList P ops Q rest (a.put o.dst undef) w1) : wpList P ops Q (o :: rest) a w := by
  refine wpList_store_row hgd ty x y ho b cells hx hy t old.toArray hg (by rw [hi, hn]) (by simp; omega) h1 (h _ ?_ ?_ ?_)
  · exact ⟨rfl, rfl, rfl, by simp, fun k hk hn => setRow_other w b k _ (by simpa using hn)⟩
  · show _ = _
    simp
  · unfold Blk
    rw [setRow_heap w b old.toArray cells t (0, 0) hg]

/-- One cell written. -/
theorem wpL_store1 (hgd : o.guard = none) (ty : TypeId) (x y : Operand) (ho : o.op = .store ty x y)
    (b i : Nat) (v : Value) (hx : a.eval x = .pointer (some ⟨b, i, none⟩)) (hy : a.eval y = v)
    (t : TypeId) (old : List Value) (hg : Blk w b old t) (hlt : i < old.length) (hsz : (P.info? ty).map (·.size) = some 1) (h1 : v.oneCell' = true)
    (h : ∀ w1, Only [b] w w1 → Hid (w1.heap.size = w.heap.size) → Blk w1 b (old.set i v) t → wpList P ops Q rest (a.put o.dst undef) w1) : wpList P ops Q (o :: rest) a w := by
  refine wpList_plain hgd fun K hK => ?_
  unfold Oper.wp
  have hc := hg.cell (i := i) (List.getElem?_eq_getElem hlt)
  have hf := hg.free i
  have hst : (storeVar ty ⟨b, i, none⟩ v).run P w = .ok () (w.setCell ⟨b, i, none⟩ v) := by
    cases hq : P.info? ty with
    | none => simp [hq] at hsz
    | some inf =>
      have hs : inf.size = 1 := by simpa [hq] using hsz
      have hcs : v.cells = #[v] := by cases v <;> first | rfl | simp [Value.oneCell'] at h1
      have hst1 : (store ((⟨b, i, none⟩ : Addr).add 0) v).run P w = .ok () (w.setCell ⟨b, i, none⟩ v) := by
        rw [show (⟨b, i, none⟩ : Addr).add 0 = ⟨b, i, none⟩ from rfl, run_store P w _ v _ h1, hc]
        simp [hf]
      simp [storeVar, sizeOf, typeInfo, hq, hs, hcs, storeCells, Sem.run_bind, hst1]
  simp only [execOp, ho, hx, hy, Instr.storeAt, Instr.sureAddr, Sem.run_bind, Sem.run_pure, Result.andThen_ok, hst]
  refine hK _ _ (h _ ?_ ?_ ?_)
  · exact (Only.refl _ w).set (by simp) v
  · show _ = _
    simp [World.setCell]
  · exact hg.set i v
end

section
variable {P : Program} (w : World)
/-- Append onto a row that is owned; and where the row lies then. -/
theorem run_append_here (base : Nat) (t ty e : TypeId) (i : TypeInfo) (z : Value) (size bytes : Nat) (ht : P.underlying t = some (.slice e)) (hi : P.info? e = some i) (hz : i.zero = some z)
    (hsize : i.size = size) (hby : i.bytes = bytes) (hzs : z.cells.size = size) (hsz : 0 < size) (v : Value) (n : Nat) (xs : List Value) (hown : w.ownsRow base e size v n xs)
    (a : Addr) (m c : Nat) (news : List Value) (hl : news.length = m * size) (hnews : ∀ j u, news[j]? = some u → w.cell? (a.add j) = some u) (h1 : ∀ u ∈ news, u.oneCell' = true)
    (h63 : n + m ≤ maxLen) (hbytes : (n + m) * bytes ≤ 140737488355328) (hbase : base ≤ w.heap.size) :
    ∃ v' w', (Builtin.append_ #[t, t] ty #[v, .slice (some a) m c]).run P w = .ok v' w' ∧ w'.ownsRow base e size v' (n + m) (xs ++ news) ∧ w.grownBy w' v.ownBlock ∧ (v'.ownBlock = v.ownBlock ∨ v'.ownBlock = some w.heap.size) ∧ (v' = .slice none 0 0 ↔ v = .slice none 0 0 ∧ m = 0) := by
  obtain ⟨v', w', hr, h2, h3, h4⟩ := run_append_own (P := P) w base t ty e i z size bytes ht hi hz hsize hby hzs hsz v n xs hown a m c news hl hnews h1 h63 hbytes hbase
  refine ⟨v', w', hr, h2, h3, ?_, h4⟩
  subst hsize
  subst hby
  have hsmall : n + m ≤ 9223372036854775807 := by simp only [maxLen] at h63; omega
  rcases hown.2 with ⟨rfl, rfl⟩ | ⟨g, cap, cur, rfl, hbg, hg, hnc, hcm, hcs, htake⟩
  · by_cases hm : m = 0
    · exact .inl (by rw [h4.2 ⟨rfl, hm⟩])
    · have hr' := run_append_nil (P := P) w t ty e i z ht hi hz a m c news hl hnews (by omega) (by omega) (by have hb := hbytes; simp only [Nat.zero_add] at hb; omega)
      rw [hr] at hr'
      injection hr' with e1 e2
      exact .inr (by rw [e1]; rfl)
  · by_cases hroom : n + m ≤ cap
    · have hfit : n * i.size + news.length ≤ cur.size := by rw [hl, hcs, ← Nat.add_mul]; exact Nat.mul_le_mul_right _ hroom
      have hr' := run_append_room (P := P) w t ty e i ht hi g n cap cur hg a m c news hl hnews h1 hroom hfit
      rw [hr] at hr'
      injection hr' with e1 e2
      exact .inl (by rw [e1]; rfl)
    · have holds : ∀ j u, xs[j]? = some u → w.cell? ((⟨g, 0, none⟩ : Addr).add j) = some u := hown.cells (g := g) rfl
      have hr' := run_append_grow (P := P) w t ty e i z ht hi hz ⟨g, 0, none⟩ n cap xs hown.1 holds a m c news hl hnews (by omega) (by omega) (growslice_fits (by omega) hbytes)
      rw [hr] at hr'
      injection hr' with e1 e2
      exact .inr (by rw [e1]; rfl)

/-- Append of a string's bytes; and where the row lies then. -/
theorem run_append_here_string (base : Nat) (t u ty e : TypeId) (i : TypeInfo) (ht : P.underlying t = some (.slice e)) (hu : P.underlying u = some .string) (hi : P.info? e = some i) (hz : i.zero = some (.int .u8 0))
    (hsize : i.size = 1) (hby : i.bytes = 1) (v : Value) (n : Nat) (xs : List Value) (hown : w.ownsRow base e 1 v n xs) (s : ByteArray)
    (h63 : n + s.size ≤ maxLen) (hbytes : n + s.size ≤ 140737488355328) (hbase : base ≤ w.heap.size) :
    ∃ v' w', (Builtin.append_ #[t, u] ty #[v, .string s]).run P w = .ok v' w' ∧ w'.ownsRow base e 1 v' (n + s.size) (xs ++ Lib.strCells s) ∧ w.grownBy w' v.ownBlock ∧ (v'.ownBlock = v.ownBlock ∨ v'.ownBlock = some w.heap.size) ∧ (v' = .slice none 0 0 ↔ v = .slice none 0 0 ∧ s.size = 0) := by
  obtain ⟨v', w', hr, h2, h3, h4⟩ := Lib.run_append_own_string (P := P) w base t u ty e i ht hu hi hz hsize hby v n xs hown s h63 hbytes hbase
  refine ⟨v', w', hr, h2, h3, ?_, h4⟩
  have hsmall : n + s.size ≤ 9223372036854775807 := by simp only [maxLen] at h63; omega
  rcases hown.2 with ⟨rfl, rfl⟩ | ⟨g, cap, cur, rfl, hbg, hg, hnc, hcm, hcs, htake⟩
  · by_cases hm : s.size = 0
    · exact .inl (by rw [h4.2 ⟨rfl, hm⟩])
    · have hr' := run_append_nil_string (P := P) w t u ty e i _ ht hu hi hz s (by omega) (by omega) (by rw [hby]; omega)
      rw [hr] at hr'
      injection hr' with e1 e2
      exact .inr (by rw [e1]; rfl)
  · by_cases hroom : n + s.size ≤ cap
    · have hr' := Lib.run_append_room_string (P := P) w t u ty e i ht hu hi hsize g n cap cur hg s hroom (by omega)
      rw [hr] at hr'
      injection hr' with e1 e2
      exact .inl (by rw [e1]; rfl)
    · have holds : ∀ j u, xs[j]? = some u → w.cell? ((⟨g, 0, none⟩ : Addr).add j) = some u := hown.cells (g := g) rfl
      have hr' := Lib.run_append_grow_string (P := P) w t u ty e i _ ht hu hi hz ⟨g, 0, none⟩ n cap xs (by rw [hown.1, hsize]) holds s (by omega) (by omega) (growslice_fits (by omega) (by rw [hby]; omega))
      rw [hr] at hr'
      injection hr' with e1 e2
      exact .inr (by rw [e1]; rfl)
end

section
variable {P : Program} {w : World} {ops : Array Oper} {rest : List Oper} {o : Oper} {a : Act} {Q : Exit → Act → World → Prop}
/-- Append of elements that lie somewhere, onto an owned row. -/
theorem wpL_append (hgd : o.guard = none) (s x : Operand) (t : TypeId) (ho : o.op = .call { callee := .builtin .append, args := #[s, x], argTypes := #[t, t] })
    (base : Nat) (e : TypeId) {z : Value} {size bytes : Nat} (ht : P.underlying t = some (.slice e)) (hinfo : (P.info? e).map (fun i => (i.zero, i.size, i.bytes)) = some (some z, size, bytes)) (hzs : z.cells.size = size) (hsz : 0 < size)
    (v : Value) (n : Nat) (xs : List Value) (hs : a.eval s = v) (hown : w.ownsRow base e size v n xs)
    (ad : Addr) (m c : Nat) (news : List Value) (hx : a.eval x = .slice (some ad) m c) (hl : news.length = m * size) (hnews : ∀ j u, news[j]? = some u → w.cell? (ad.add j) = some u) (h1 : ∀ u ∈ news, u.oneCell' = true)
    (h63 : n + m ≤ maxLen) (hbytes : (n + m) * bytes ≤ 140737488355328) (hbase : base ≤ w.heap.size)
    (h : ∀ v' w', w'.ownsRow base e size v' (n + m) (xs ++ news) → w.grownBy w' v.ownBlock → (v'.ownBlock = v.ownBlock ∨ v'.ownBlock = some w.heap.size) → (v' = .slice none 0 0 ↔ v = .slice none 0 0 ∧ m = 0) → wpList P ops Q rest (a.put o.dst v') w') : wpList P ops Q (o :: rest) a w := by
  obtain ⟨i, hi, hz, hsize, hby⟩ := info_parts hinfo
  refine wpList_plain hgd fun K hK => ?_
  obtain ⟨v', w', hr, h2, h3, h4, h5⟩ := run_append_here (P := P) w base t o.type e i z size bytes ht hi hz hsize hby hzs hsz v n xs hown ad m c news hl hnews h1 h63 hbytes hbase
  unfold Oper.wp execOp
  simp only [ho, resolve, invoke, builtin, Sem.run_bind, Sem.run_pure, Result.andThen_ok, List.map_toArray, List.map_cons, List.map_nil, hs, hx, hr]
  exact hK _ _ (h v' w' h2 h3 h4 h5)

/-- Append of a string's bytes onto an owned row. -/
theorem wpL_append_string (hgd : o.guard = none) (s x : Operand) (t u : TypeId) (ho : o.op = .call { callee := .builtin .append, args := #[s, x], argTypes := #[t, u] })
    (base : Nat) (e : TypeId) (ht : P.underlying t = some (.slice e)) (hu : P.underlying u = some .string) (hinfo : (P.info? e).map (fun i => (i.zero, i.size, i.bytes)) = some (some (.int .u8 0), 1, 1))
    (v : Value) (n : Nat) (xs : List Value) (hs : a.eval s = v) (hown : w.ownsRow base e 1 v n xs) (str : ByteArray) (hx : a.eval x = .string str)
    (h63 : n + str.size ≤ maxLen) (hbytes : n + str.size ≤ 140737488355328) (hbase : base ≤ w.heap.size)
    (h : ∀ v' w', w'.ownsRow base e 1 v' (n + str.size) (xs ++ Lib.strCells str) → w.grownBy w' v.ownBlock → (v'.ownBlock = v.ownBlock ∨ v'.ownBlock = some w.heap.size) → (v' = .slice none 0 0 ↔ v = .slice none 0 0 ∧ str.size = 0) → wpList P ops Q rest (a.put o.dst v') w') : wpList P ops Q (o :: rest) a w := by
  obtain ⟨i, hi, hz, hsize, hby⟩ := info_parts hinfo
  refine wpList_plain hgd fun K hK => ?_
  obtain ⟨v', w', hr, h2, h3, h4, h5⟩ := run_append_here_string (P := P) w base t u o.type e i ht hu hi hz hsize hby v n xs hown str h63 hbytes hbase
  unfold Oper.wp execOp
  simp only [ho, resolve, invoke, builtin, Sem.run_bind, Sem.run_pure, Result.andThen_ok, List.map_toArray, List.map_cons, List.map_nil, hs, hx, hr]
  exact hK _ _ (h v' w' h2 h3 h4 h5)
end

section
variable {P : Program} {fn : Func} {R : Ending → World → Prop} {a : Act} {w : World}
/-- The end of a call whose one result lies in memory. -/
theorem end_row {p : Tmp} {ty t : TypeId} {b : Nat} {cs : List Value} {d : TypeDesc} (h : fn.results = #[.cell p ty]) (hp : a.tmps.getD p undef = .pointer (some ⟨b, 0, none⟩)) (hg : Blk w b cs t)
    (hu : P.underlying ty = some d) (hd : (match d with | .struct _ | .array _ _ => true | _ => false) = true) {n : Nat} (hi : (P.info? ty).map (·.size) = some n) (hn : cs.length = n) (hdef : a.defers = [])
    (hR : R (.returned (.agg cs.toArray)) w) : bodyPost P fn R .ret a w :=
  bodyPost_ret (results_cell_row h a.tmps w b t cs.toArray (0, 0) d hp hg hu hd (by rw [hi, ← hn]; simp)) hdef hR
end

/-- A row of words of 32 bits. -/
def u32s (l : List Nat) : List Value := l.map fun (n : Nat) => Value.int .u32 (n : Int)
theorem u32s_length (l : List Nat) : (u32s l).length = l.length := by simp [u32s]
theorem u32s_get (l : List Nat) (i : Nat) (h : i < l.length) : (u32s l)[i]? = some (.int .u32 ((l.getD i 0 : Nat) : Int)) := by
  simp [u32s, List.getElem?_map, List.getElem?_eq_getElem h, List.getD_eq_getElem?_getD]
theorem u32s_set (l : List Nat) (i : Nat) (n : Nat) : (u32s l).set i (.int .u32 (n : Int)) = u32s (l.set i n) := by
  simp [u32s, List.map_set]
theorem Blk.set32 {w : World} {b : Nat} {l : List Nat} {ty : TypeId} (h : Blk w b (u32s l) ty) (i n : Nat) {z : Int} (hz : z = (n : Int)) : Blk (w.setCell ⟨b, i, none⟩ (.int .u32 z)) b (u32s (l.set i n)) ty := by
  subst hz
  rw [← u32s_set]
  exact h.set i _
theorem u32s_one (l : List Nat) : (u32s l).toArray.all (·.oneCell') = true := by
  rw [Array.all_eq_true_iff_forall_mem]
  simp [u32s, Value.oneCell']

/-- A row of bytes. -/
def u8s (l : List Nat) : List Value := l.map fun (n : Nat) => Value.int .u8 (n : Int)
theorem u8s_length (l : List Nat) : (u8s l).length = l.length := by simp [u8s]
theorem u8s_get (l : List Nat) (i : Nat) (h : i < l.length) : (u8s l)[i]? = some (.int .u8 ((l.getD i 0 : Nat) : Int)) := by
  simp [u8s, List.getElem?_map, List.getElem?_eq_getElem h, List.getD_eq_getElem?_getD]
theorem u8s_set (l : List Nat) (i : Nat) (n : Nat) : (u8s l).set i (.int .u8 (n : Int)) = u8s (l.set i n) := by
  simp [u8s, List.map_set]
theorem Blk.set8 {w : World} {b : Nat} {l : List Nat} {ty : TypeId} (h : Blk w b (u8s l) ty) (i n : Nat) {z : Int} (hz : z = (n : Int)) : Blk (w.setCell ⟨b, i, none⟩ (.int .u8 z)) b (u8s (l.set i n)) ty := by
  subst hz
  rw [← u8s_set]
  exact h.set i _
theorem u8s_one (l : List Nat) : (u8s l).toArray.all (·.oneCell') = true := by
  rw [Array.all_eq_true_iff_forall_mem]
  simp [u8s, Value.oneCell']

/-- A slice of strings, as it can be read. -/
def Strs (w : World) (v : Value) (xs : List ByteArray) : Prop :=
  ((∃ a c, v = .slice a 0 c) ∧ xs = []) ∨ ∃ bk o c, v = .slice (some ⟨bk, o, none⟩) xs.length c ∧ (∀ (j : Nat) x, xs[j]? = some x → w.cell? ⟨bk, o + j, none⟩ = some (.string x)) ∧ bk < w.heap.size ∧ xs.length ≤ c

theorem Strs.only {S : List Nat} {w w' : World} {v : Value} {xs : List ByteArray} (h : Strs w v xs) (ho : Only S w w') (hn : ∀ a n c, v = .slice (some a) n c → a.block ∉ S) : Strs w' v xs := by
  rcases h with h | ⟨bk, o, c, rfl, h1, h2, h3⟩
  · exact .inl h
  · refine .inr ⟨bk, o, c, rfl, fun j x hx => ?_, Nat.lt_of_lt_of_le h2 ho.size, h3⟩
    rw [ho.cellAt _ _ h2 (hn _ _ _ rfl)]
    exact h1 j x hx
theorem Strs.keep {w w' : World} {v : Value} {xs : List ByteArray} (h : Strs w v xs) (ho : Only [] w w') : Strs w' v xs := h.only ho (by simp)

/-- All bytes of strings, one behind the other. -/
def cat (xs : List ByteArray) : List UInt8 := (xs.map bl).flatten

section
variable {P : Program} {w : World} {ops : Array Oper} {rest : List Oper} {o : Oper} {a : Act} {Q : Exit → Act → World → Prop}

/-- A guarded operation whose guard is met. -/
theorem wpL_yes (hg : Region.wanted o (yielded ops a.tmps) = true) (h : wpList P ops Q ({ o with guard := none } :: rest) a w) : wpList P ops Q (o :: rest) a w := by
  rw [wpList, if_pos hg]
  exact (if_pos (show Region.wanted { o with guard := none } (yielded ops a.tmps) = true from rfl)).mp h

/-- Two rows of bytes, compared. -/
theorem wpL_eql_bytes (hgd : o.guard = none) (t r : TypeId) (x y : Operand) (ho : o.op = .binOp .eql t x y r) (e : TypeId) (n : Nat) (ht : P.underlying t = some (.array n e)) (he : P.underlying e = some (.int .u8)) (hsz : (P.info? e).map (·.size) = some 1) (hgt : P.eqGuardType P.depth t = false)
    (xs ys : List UInt8) (hx : a.eval x = .agg (Lib.byteCells xs).toArray) (hy : a.eval y = .agg (Lib.byteCells ys).toArray) (hlx : xs.length = n) (hly : ys.length = n) (b : Bool) (hb : (xs == ys) = b)
    (h : wpList P ops Q rest (a.put o.dst (.bool b)) w) : wpList P ops Q (o :: rest) a w := by
  refine wpL_run hgd (v := .bool b) ?_ h
  obtain ⟨i, hi, hs⟩ : ∃ i, P.info? e = some i ∧ i.size = 1 := by
    cases hi : P.info? e with
    | none => simp [hi] at hsz
    | some i => exact ⟨i, rfl, by simpa [hi] using hsz⟩
  have hr := run_eql_bytes (P := P) w t e n ht he (fun w => by simp [sizeOf, typeInfo, hi, hs]) xs ys hlx hly
  subst hb
  have e1 : Lib.byteCells = fun xs => xs.map Extern.Stop.cell := rfl
  unfold execOp
  simp only [ho, Sem.run_bind, hx, hy, run_eqGuard_agg w .eql t x y _ _ hgt, e1, hr, Result.andThen_ok, Sem.run_pure]
/-- A string, compared with itself. -/
theorem wpL_eql_same (hgd : o.guard = none) (t r : TypeId) (x y : Operand) (ho : o.op = .binOp .eql t x y r) (s : ByteArray) (hx : a.eval x = .string s) (hy : a.eval y = .string s)
    (h : wpList P ops Q rest (a.put o.dst (.bool true)) w) : wpList P ops Q (o :: rest) a w := by
  refine wpL_run hgd (v := .bool true) ?_ h
  unfold execOp
  simp only [ho, Sem.run_bind, hx, hy]
  simp [eqGuard, binOp, Op.stringOp]
end

end Go.Proofs.Ytmogkiacakkmbaa
