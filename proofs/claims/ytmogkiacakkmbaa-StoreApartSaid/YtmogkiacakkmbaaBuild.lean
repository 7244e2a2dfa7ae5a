/- strings.Builder, wherever it lies: at the head of a block whose other cells stay as they are. -/
import Derived.Test.YtmogkiacakkmbaaRows
import Derived.Test.YtmogkiacakkmbaaBase
import Derived.Lib.FrozenHead
import Derived.Lib.UnsafeStr
namespace Go.Proofs.Ytmogkiacakkmbaa
open Go.RowKit

/-- At the head of block b lies a builder that holds the bytes l: v is its buffer. -/
def Bld (w : World) (b : Nat) (tail : List Value) (ty : TypeId) (v : Value) (l : List UInt8) : Prop :=
  ∃ p : Option Addr, (p = none ∨ p = some ⟨b, 0, none⟩) ∧ Blk w b (.pointer p :: v :: tail) ty ∧ w.ownsRow 0 5 1 v l.length (Lib.byteCells l) ∧ v.ownBlock ≠ some b ∧ (l = [] → v = .slice none 0 0)

/-- The same, but that bytes may be shared with a string. -/
def BldF (w : World) (b : Nat) (tail : List Value) (ty : TypeId) (v : Value) (l : List UInt8) : Prop :=
  ∃ p : Value, Blk w b (p :: v :: tail) ty ∧ w.ownsRowF 0 5 1 v l.length (Lib.byteCells l) ∧ v.ownBlock ≠ some b ∧ (l = [] → v = .slice none 0 0)

theorem Bld.F {w : World} {b : Nat} {tail : List Value} {ty : TypeId} {v : Value} {l : List UInt8} (h : Bld w b tail ty v l) : BldF w b tail ty v l := by
  obtain ⟨p, _, hb, ho, hne⟩ := h
  exact ⟨_, hb, World.ownsRowF_of ho, hne⟩

theorem Bld.new {w : World} {b : Nat} {tail : List Value} {ty : TypeId} (h : Blk w b (.pointer none :: .slice none 0 0 :: tail) ty) : Bld w b tail ty (.slice none 0 0) [] :=
  ⟨none, .inl rfl, h, World.ownsRow_nil _ _ _ _, by simp [Value.ownBlock], fun _ => rfl⟩

theorem ownsRowF_only {S : List Nat} {w w' : World} {base : Nat} {e : TypeId} {size : Nat} {v : Value} {n : Nat} {xs : List Value} (h : w.ownsRowF base e size v n xs) (ho : Only S w w') (hn : ∀ k, v.ownBlock = some k → k ∉ S) : w'.ownsRowF base e size v n xs := by
  refine ⟨h.1, ?_⟩
  rcases h.2 with hx | ⟨g, cap, cur, fz, rfl, hb, hgg, rest⟩
  · exact .inl hx
  · refine .inr ⟨g, cap, cur, fz, rfl, hb, ?_, rest⟩
    rw [ho.block g (Array.getElem?_eq_some_iff.1 hgg).1 (hn g (by simp [Value.ownBlock]))]
    exact hgg

theorem Bld.only {S : List Nat} {w w' : World} {b : Nat} {tail : List Value} {ty : TypeId} {v : Value} {l : List UInt8} (h : Bld w b tail ty v l) (ho : Only S w w') (hb : b ∉ S) (hn : ∀ k, v.ownBlock = some k → k ∉ S) : Bld w' b tail ty v l := by
  obtain ⟨p, hp, hk, hr, hne⟩ := h
  exact ⟨p, hp, hk.only ho hb, ownsRow_only hr ho hn, hne⟩
theorem BldF.only {S : List Nat} {w w' : World} {b : Nat} {tail : List Value} {ty : TypeId} {v : Value} {l : List UInt8} (h : BldF w b tail ty v l) (ho : Only S w w') (hb : b ∉ S) (hn : ∀ k, v.ownBlock = some k → k ∉ S) : BldF w' b tail ty v l := by
  obtain ⟨p, hk, hr, hne⟩ := h
  exact ⟨p, hk.only ho hb, ownsRowF_only hr ho hn, hne⟩
theorem Bld.keep {w w' : World} {b : Nat} {tail : List Value} {ty : TypeId} {v : Value} {l : List UInt8} (h : Bld w b tail ty v l) (ho : Only [] w w') : Bld w' b tail ty v l := h.only ho (by simp) (by simp)
theorem BldF.keep {w w' : World} {b : Nat} {tail : List Value} {ty : TypeId} {v : Value} {l : List UInt8} (h : BldF w b tail ty v l) (ho : Only [] w w') : BldF w' b tail ty v l := h.only ho (by simp) (by simp)
theorem Bld.lt {w : World} {b : Nat} {tail : List Value} {ty : TypeId} {v : Value} {l : List UInt8} (h : Bld w b tail ty v l) : b < w.heap.size := by
  obtain ⟨p, _, hk, _, _⟩ := h
  exact hk.lt
theorem Bld.bufLt {w : World} {b : Nat} {tail : List Value} {ty : TypeId} {v : Value} {l : List UInt8} (h : Bld w b tail ty v l) : ∀ k, v.ownBlock = some k → k < w.heap.size := by
  obtain ⟨p, _, _, hr, _⟩ := h
  exact fun k hk => (hr.lt k hk).2

/-- What a write to a builder leaves: its block and its buffer have changed, and a new buffer is new. -/
def Wrote (w w' : World) (b : Nat) (v v' : Value) : Prop :=
  Only (b :: v.ownBlock.toList) w w' ∧ ∀ k, v'.ownBlock = some k → v.ownBlock = some k ∨ w.heap.size ≤ k

theorem Wrote.refl (w : World) (b : Nat) (v : Value) : Wrote w w b v v := ⟨Only.refl _ _, fun _ h => .inl h⟩
theorem Wrote.trans {w w1 w2 : World} {b : Nat} {v v1 v2 : Value} (h : Wrote w w1 b v v1) (k : Wrote w1 w2 b v1 v2) : Wrote w w2 b v v2 := by
  refine ⟨h.1.step k.1 fun i hi => ?_, fun i hi => ?_⟩
  · simp only [List.mem_cons, Option.mem_toList] at hi ⊢
    rcases hi with rfl | hi
    · exact .inl (.inl rfl)
    · rcases h.2 i hi with h1 | h1
      · exact .inl (.inr h1)
      · exact .inr h1
  · rcases k.2 i hi with h1 | h1
    · exact h.2 i h1
    · exact .inr (Nat.le_trans h.1.size h1)
theorem Wrote.pre {w w1 w2 : World} {b : Nat} {v v2 : Value} (h : Only [] w w1) (k : Wrote w1 w2 b v v2) : Wrote w w2 b v v2 :=
  Wrote.trans ⟨h.mono (by simp), fun _ h => .inl h⟩ k
theorem Wrote.post {w w1 w2 : World} {b : Nat} {v v2 : Value} (h : Wrote w w1 b v v2) (k : Only [] w1 w2) : Wrote w w2 b v v2 :=
  Wrote.trans h ⟨k.mono (by simp), fun _ h => .inl h⟩

/-- Since world w0 nothing old has changed; builder b and its buffer are new. -/
def Made (w0 w : World) (b : Nat) (v : Value) : Prop := Only [] w0 w ∧ w0.heap.size ≤ b ∧ ∀ k, v.ownBlock = some k → w0.heap.size ≤ k
theorem Made.start {w0 w : World} {b : Nat} (h : Only [] w0 w) (hb : w0.heap.size ≤ b) : Made w0 w b (.slice none 0 0) := ⟨h, hb, by simp [Value.ownBlock]⟩
theorem Made.wrote {w0 w w' : World} {b : Nat} {v v' : Value} (h : Made w0 w b v) (k : Wrote w w' b v v') : Made w0 w' b v' := by
  refine ⟨h.1.step k.1 fun i hi => .inr ?_, h.2.1, fun i hi => ?_⟩
  · simp only [List.mem_cons, Option.mem_toList] at hi
    rcases hi with rfl | hi
    · exact h.2.1
    · exact h.2.2 i hi
  · rcases k.2 i hi with h1 | h1
    · exact h.2.2 i h1
    · exact Nat.le_trans h.1.size h1
theorem Made.more {w0 w w' : World} {b : Nat} {v : Value} (h : Made w0 w b v) (k : Only [] w w') : Made w0 w' b v := ⟨h.1.trans k, h.2⟩
theorem Made.told {w0 w w' : World} {b : Nat} {v : Value} (h : Made w0 w b v) (k : Only v.ownBlock.toList w w') : Made w0 w' b v :=
  ⟨h.1.step k fun i hi => .inr (h.2.2 i (by simpa using hi)), h.2⟩

theorem byteInfo : (Try.prog.info? 5).map (fun i => (i.zero, i.size, i.bytes)) = some (some (.int .u8 0), 1, 1) := by kernel_rfl
theorem bldInfo : (Try.prog.info? 147).map (fun i => (i.zero, i.size, i.bytes)) = some (some (.agg #[.pointer none, .slice none 0 0]), 2, 32) := by kernel_rfl

/-- A builder may lie at the head of a block of this type and length. -/
def Lies (ty : TypeId) (n : Nat) : Prop := liesAt Try.prog Try.prog.depth ty (n / Try.prog.cellsOf ty) 0 147 1 = true
theorem lies_own : Lies 147 2 := by unfold Lies; kernel_rfl

set_option maxHeartbeats 1000000 in
set_option maxRecDepth 100000 in
theorem copyCheck_any (b : Nat) (tail : List Value) (ty : TypeId) (v : Value) (l : List UInt8) (w : World) (h : Bld w b tail ty v l) (hl : Lies ty (tail.length + 2)) :
    Calls Try.prog 146 #[.pointer (some ⟨b, 0, none⟩)] w fun e w' => e = .returned (.tuple #[]) ∧ Only [b] w w' ∧ Blk w' b (.pointer (some ⟨b, 0, none⟩) :: v :: tail) ty := by
  obtain ⟨i0, hi, hz0, hz1, hz2⟩ := info_parts bldInfo
  obtain ⟨p, hp, hb, hr, hne, hnil⟩ := h
  have c0 := hb.cell (i := 0) rfl
  have f0 := hb.free 0
  have hsh : w.shape? b = some (ty, tail.length + 2) := by
    have hb' := hb
    unfold Blk at hb'
    simp [World.shape?, hb']
  rcases hp with rfl | rfl
  · go_enter Try.func146, Try.ntmps146
    go_wp2
    rw [Lib.run_to_unsafe w ⟨b, 0, none⟩ Try.underlying145 Try.underlying225 hi (by omega) hsh (Nat.zero_lt_succ _)]
    simp only [Result.andThen]
    rw [Oper.upon_value]
    go_wp2
    rw [run_callFunc_extern Try.func166 (by kernel_rfl) (by kernel_rfl) (by kernel_rfl) (e := Extern.AbiNoEscape.same) (by kernel_rfl)]
    rw [Lib.run_noEscape]
    simp only [Result.andThen]
    rw [Oper.upon_value]
    go_wp2
    rw [Lib.run_from_unsafe w ⟨b, 0, none⟩ Try.underlying225 Try.underlying145 hi hsh hl]
    simp only [Result.andThen]
    rw [Oper.upon_value]
    go_wp2
    go_end0
    exact ⟨rfl, (Only.refl _ _).set (by simp) _, hb.set 0 _⟩
  · go_enter Try.func146, Try.ntmps146
    go_wp2
    rw [Lib.run_neq_ptr_same w _ Try.underlying145 hi]
    go_wp2
    go_end0
    exact ⟨rfl, Only.refl _ _, hb⟩

/-- The buffer and its new value stored behind an append. -/
theorem Bld.put {w w1 w2 : World} {b : Nat} {tail : List Value} {ty : TypeId} {v v' : Value} {l' : List UInt8} (hne : v.ownBlock ≠ some b) (hb1 : Blk w1 b (.pointer (some ⟨b, 0, none⟩) :: v :: tail) ty) (ho1 : Only [b] w w1)
    (hown : w2.ownsRow 0 5 1 v' l'.length (Lib.byteCells l')) (hg : w1.grownBy w2 v.ownBlock) (hv : v'.ownBlock = v.ownBlock ∨ ∀ k, v'.ownBlock = some k → w1.heap.size ≤ k) (hn : l' = [] → v' = .slice none 0 0) :
    Bld (w2.setCell ⟨b, 1, none⟩ v') b tail ty v' l' ∧ Wrote w (w2.setCell ⟨b, 1, none⟩ v') b v v' := by
  have hb2 : Blk w2 b (.pointer (some ⟨b, 0, none⟩) :: v :: tail) ty := hb1.only (Only.of_grown hg) (by
    intro hm
    exact hne (by simpa using hm))
  have hlt := hb1.lt
  have hne' : v'.ownBlock ≠ some b := by
    rcases hv with h | h
    · rw [h]; exact hne
    · intro e
      have := h b e
      omega
  refine ⟨⟨_, .inr rfl, hb2.set 1 _, ?_, hne', hn⟩, ?_, ?_⟩
  · exact ownsRow_only hown (S := [b]) ((Only.refl _ _).set (by simp) _) (fun k hk e => hne' (by rw [hk]; simp at e; rw [e]))
  · exact ((ho1.mono (by simp)).step (Only.of_grown hg) (fun i hi => .inl (by simp at hi ⊢; exact .inr hi))).set (by simp) _
  · intro k hk
    rcases hv with h | h
    · exact .inl (by rw [← h]; exact hk)
    · exact .inr (Nat.le_trans ho1.size (h k hk))

theorem byteCells_length (l : List UInt8) : (Lib.byteCells l).length = l.length := by simp [Lib.byteCells]
theorem strCells_eq (s : ByteArray) : Lib.strCells s = Lib.byteCells (bl s) := rfl

set_option maxHeartbeats 1000000 in
set_option maxRecDepth 100000 in
theorem writeByte_any (b : Nat) (tail : List Value) (ty : TypeId) (v : Value) (l : List UInt8) (c : Int) (w : World) (h : Bld w b tail ty v l) (hl : Lies ty (tail.length + 2)) (hc0 : 0 ≤ c) (hc : c < 256) (hlen : l.length + 1 ≤ 140737488355328) :
    Calls Try.prog 138 #[.pointer (some ⟨b, 0, none⟩), .int .u8 c] w fun e w' => e = .returned .nilIface ∧ ∃ v', Bld w' b tail ty v' (l ++ [UInt8.ofNat c.toNat]) ∧ Wrote w w' b v v' := by
  have h' := h
  obtain ⟨p, hp, hbk, hr, hne, hnil⟩ := h'
  go_enter Try.func138, Try.ntmps138
  go_wp2_with (go_at_call 146; refine (copyCheck_any b tail ty v l _ h hl).mono ?_)
  rintro e w1 ⟨rfl, ho1, hb1⟩
  have hr1 := ownsRow_only hr ho1 (fun k hk e => hne (by rw [hk]; simp at e; rw [e]))
  have c1 := hb1.cell (i := 1) rfl
  have f1 := hb1.free 1
  have hlt1 := hb1.lt
  go_wp2_with (refine wpL_append rfl _ _ _ rfl 0 5 Try.underlying56 byteInfo rfl (by decide) v l.length (Lib.byteCells l) rfl (hr1.alloc _) ⟨w1.heap.size, 0, none⟩ 1 1 [.int .u8 c] rfl rfl ?c1 ?c2 ?c3 ?c4 (Nat.zero_le _) ?_)
  case c1 =>
    intro j u hj
    match j, hj with
    | 0, hj => simp at hj; subst hj; simp [Addr.add]
  case c2 => intro u hu; simp at hu; subst hu; rfl
  case c3 => unfold maxLen; omega
  case c4 => omega
  intro v' w2 hown' hgrow hwhere hiff
  have hb2 : Blk w2 b (.pointer (some ⟨b, 0, none⟩) :: v :: tail) ty := (hb1.alloc _).only (Only.of_grown hgrow) (fun hm => hne (by simpa using hm))
  have d1 := hb2.cell (i := 1) rfl
  have g1 := hb2.free 1
  obtain ⟨g, cap, rfl⟩ : ∃ g cap, v' = .slice (some ⟨g, 0, none⟩) (l.length + 1) cap := by
    rcases hown'.2 with ⟨_, h0⟩ | ⟨g, cap, cur, hv, _⟩
    · omega
    · exact ⟨g, cap, hv⟩
  have HG : Hid (Only [b] w w2 ∨ True) := .inr trivial
  clear HG
  have Hown := Lib.hid hown'
  have Hwh := Lib.hid hwhere
  have Hiff := Lib.hid hiff
  have Hnil := Lib.hid hnil
  clear hown' hwhere c1 hiff hnil
  go_wp2
  go_ret
  refine ⟨rfl, .slice (some ⟨g, 0, none⟩) (l.length + 1) cap, ?_⟩
  have e1 : Lib.byteCells l ++ [Value.int .u8 c] = Lib.byteCells (l ++ [UInt8.ofNat c.toNat]) := by
    have h1 : c.toNat % 2 ^ 8 = c.toNat := Nat.mod_eq_of_lt (by omega)
    simp [Lib.byteCells, h1]
    omega
  refine Bld.put (w1 := w1.alloc _) hne (hb1.alloc _) (ho1.alloc _) ?_ hgrow ?_ (by simp)
  · have := Hown.out
    rw [e1] at this
    simpa using this
  · rcases Hwh.out with h | h
    · exact .inl h
    · exact .inr fun k hk => by rw [h] at hk; injection hk with hk; simp; omega

set_option maxHeartbeats 1000000 in
set_option maxRecDepth 100000 in
theorem writeString_any (b : Nat) (tail : List Value) (ty : TypeId) (v : Value) (l : List UInt8) (s : ByteArray) (w : World) (h : Bld w b tail ty v l) (hl : Lies ty (tail.length + 2)) (hlen : l.length + s.size ≤ 140737488355328) :
    Calls Try.prog 111 #[.pointer (some ⟨b, 0, none⟩), .string s] w fun e w' => e = .returned (.tuple #[.int .i64 (s.size : Int), .nilIface]) ∧ ∃ v', Bld w' b tail ty v' (l ++ bl s) ∧ Wrote w w' b v v' := by
  have h' := h
  obtain ⟨p, hp, hbk, hr, hne, hnil⟩ := h'
  go_enter Try.func111, Try.ntmps111
  go_wp2_with (go_at_call 146; refine (copyCheck_any b tail ty v l _ h hl).mono ?_)
  rintro e w1 ⟨rfl, ho1, hb1⟩
  have hr1 := ownsRow_only hr ho1 (fun k hk e => hne (by rw [hk]; simp at e; rw [e]))
  have c1 := hb1.cell (i := 1) rfl
  have f1 := hb1.free 1
  have hlt1 := hb1.lt
  go_wp2_with (refine wpL_append_string rfl _ _ _ _ rfl 0 5 Try.underlying56 Try.underlying9 byteInfo v l.length (Lib.byteCells l) rfl hr1 s rfl ?c3 ?c4 (Nat.zero_le _) ?_)
  case c3 => unfold maxLen; omega
  case c4 => omega
  intro v' w2 hown' hgrow hwhere hiff
  have hb2 : Blk w2 b (.pointer (some ⟨b, 0, none⟩) :: v :: tail) ty := hb1.only (Only.of_grown hgrow) (fun hm => hne (by simpa using hm))
  have d1 := hb2.cell (i := 1) rfl
  have g1 := hb2.free 1
  obtain ⟨ao, n', cap, rfl⟩ : ∃ ao n' cap, v' = .slice ao n' cap := by
    rcases hown'.2 with ⟨hv, _⟩ | ⟨g, cap, cur, hv, _⟩
    · exact ⟨_, _, _, hv⟩
    · exact ⟨_, _, _, hv⟩
  have Hown := Lib.hid hown'
  have Hwh := Lib.hid hwhere
  have Hiff := Lib.hid hiff
  have Hnil := Lib.hid hnil
  clear hown' hwhere c1 hiff hnil
  go_wp2
  go_ret2
  refine ⟨rfl, .slice ao n' cap, ?_⟩
  have e1 : Lib.byteCells l ++ Lib.strCells s = Lib.byteCells (l ++ bl s) := by
    simp [Lib.byteCells, Lib.strCells, bl]
  refine Bld.put hne hb1 ho1 ?_ hgrow ?_ ?_
  · have := Hown.out
    rw [e1, ← bl_length, ← List.length_append] at this
    exact this
  · rcases Hwh.out with h | h
    · exact .inl h
    · exact .inr fun k hk => by rw [h] at hk; injection hk with hk; omega
  · intro h0
    have h1 := List.append_eq_nil_iff.1 h0
    have h2 : s = ByteArray.empty := bl_ext (by rw [h1.2]; rfl)
    exact Hiff.out.2 ⟨Hnil.out h1.1, h2⟩

set_option maxHeartbeats 1000000 in
set_option maxRecDepth 100000 in
theorem len_any (b : Nat) (tail : List Value) (ty : TypeId) (v : Value) (l : List UInt8) (w : World) (h : BldF w b tail ty v l) :
    Calls Try.prog 132 #[.pointer (some ⟨b, 0, none⟩)] w fun e w' => e = .returned (.int .i64 (l.length : Int)) ∧ w = w' := by
  obtain ⟨p, hbk, hr, hne, hnil⟩ := h
  clear hnil
  have c1 := hbk.cell (i := 1) rfl
  rcases hr.2 with ⟨rfl, h0⟩ | ⟨g, cap, cur, fz, rfl, _⟩
  · have H0 := Lib.hid h0
    clear h0
    go_enter Try.func132, Try.ntmps132
    go_wp2
    go_ret
    rw [H0.out]
    exact ⟨rfl, rfl⟩
  · go_enter Try.func132, Try.ntmps132
    go_wp2
    go_ret
    exact ⟨rfl, rfl⟩

theorem Only.freeze {S : List Nat} {a w : World} (h : Only S a w) (p : Addr) (n : Nat) (hp : p.block ∈ S) : Only S a (w.freeze p n) := by
  refine h.trans ?_
  unfold World.freeze
  split
  · exact Only.refl S w
  · refine ⟨rfl, rfl, rfl, by simp, fun k hk hn => ?_⟩
    simp only [Array.getElem?_modify]
    rw [if_neg (fun (e : p.block = k) => hn (e ▸ hp))]

theorem freeze_at {w : World} {g n : Nat} {cur : Array Value} {e : TypeId} {fz : Nat × Nat} (hg : w.heap[g]? = some (.cells cur e fz)) (hf : fz.2 ≤ n) : ∃ fz', (w.freeze ⟨g, 0, none⟩ n).heap[g]? = some (.cells cur e fz') ∧ fz'.2 ≤ n := by
  unfold World.freeze
  split
  · exact ⟨fz, hg, hf⟩
  · simp only [Array.getElem?_modify, hg]
    obtain ⟨lo, hi⟩ := fz
    simp only [if_true, Option.map_some]
    split
    · exact ⟨_, rfl, by simp⟩
    · exact ⟨_, rfl, by simp only at hf ⊢; omega⟩

set_option maxHeartbeats 1000000 in
set_option maxRecDepth 100000 in
theorem string_any (b : Nat) (tail : List Value) (ty : TypeId) (v : Value) (l : List UInt8) (w : World) (h : BldF w b tail ty v l) :
    Calls Try.prog 112 #[.pointer (some ⟨b, 0, none⟩)] w fun e w' => e = .returned (.string ⟨l.toArray⟩) ∧ BldF w' b tail ty v l ∧ Only v.ownBlock.toList w w' := by
  obtain ⟨p, hbk, hr, hne, hnil⟩ := h
  have c1 := hbk.drew.cell (i := 1) rfl
  by_cases hl0 : l = []
  · obtain rfl := hnil hl0
    subst hl0
    have hSD : (Builtin.unsafeSliceData_ #[56] 201 #[.slice none 0 0]).run Try.prog w.drew = .ok (.pointer none) w.drew := Lib.run_unsafeSliceData_nil _ _ _ _ _
    have hUS : (Builtin.unsafeString_ #[201, 3] 9 #[.pointer none, .int .i64 0]).run Try.prog w.drew = .ok (.string .empty) w.drew := rfl
    have HN := Lib.hid hnil
    clear hnil
    go_enter Try.func112, Try.ntmps112
    go_wp2
    go_region
    all_goals
      go_wp2
      go_ret
      exact ⟨rfl, ⟨p, hbk, hr, hne, fun _ => rfl⟩, (Only.refl _ _).drew⟩
  · have hn0 : l.length ≠ 0 := by simpa using hl0
    obtain ⟨g, cap, cur, fz, rfl, hg, hfz, hnc, hcm, hcs, htake⟩ : ∃ g cap cur fz, v = .slice (some ⟨g, 0, none⟩) l.length cap ∧ w.heap[g]? = some (.cells cur 5 fz) ∧ fz.2 ≤ l.length ∧ l.length ≤ cap ∧ cap ≤ maxLen ∧ cur.size = cap ∧ cur.toList.take l.length = Lib.byteCells l := by
      rcases hr.2 with ⟨_, hz⟩ | ⟨g, cap, cur, fz, hv, _, r⟩
      · exact absurd hz hn0
      · exact ⟨g, cap, cur, fz, hv, by simpa using r⟩
    have hSD : (Builtin.unsafeSliceData_ #[56] 201 #[.slice (some ⟨g, 0, none⟩) l.length cap]).run Try.prog w.drew = .ok (.pointer (some ⟨g, 0, none⟩)) w.drew :=
      Lib.run_unsafeSliceData_row _ _ _ _ _ _ (by omega)
    have hUS : (Builtin.unsafeString_ #[201, 3] 9 #[.pointer (some ⟨g, 0, none⟩), .int .i64 l.length]).run Try.prog w.drew = .ok (.string ⟨l.toArray⟩) (w.drew.freeze ⟨g, 0, none⟩ l.length) := by
      refine Lib.run_unsafeString_row w.drew 201 3 9 5 Try.underlying201 (by kernel_rfl) g cur.size (by have hg' : w.drew.heap[g]? = some (.cells cur 5 fz) := hg; simp [World.shape?, hg']) l hl0 (by omega) (by unfold maxLen at hcm; omega) ?_
      intro j x hx
      exact hr.cells (g := g) rfl j (.int .u8 x.toNat) (by simp [Lib.byteCells, hx])
    have HN := Lib.hid hnil
    clear hnil
    go_enter Try.func112, Try.ntmps112
    go_wp2
    go_region
    all_goals
      go_wp2
      go_ret
      have hfr : Only [g] w (w.drew.freeze ⟨g, 0, none⟩ l.length) := ((Only.refl _ w).drew).freeze _ _ (by simp)
      refine ⟨rfl, ⟨p, hbk.only hfr ?_, ⟨hr.1, .inr ?_⟩, hne, HN.out⟩, hfr⟩
      · intro hm
        exact hne (by simp at hm; simp [Value.ownBlock, hm])
      · obtain ⟨fz', h1, h2⟩ := freeze_at (w := w.drew) (n := l.length) hg hfz
        exact ⟨g, cap, cur, fz', rfl, Nat.zero_le _, h1, by omega, hnc, hcm, by omega, by simpa using htake⟩

end Go.Proofs.Ytmogkiacakkmbaa
