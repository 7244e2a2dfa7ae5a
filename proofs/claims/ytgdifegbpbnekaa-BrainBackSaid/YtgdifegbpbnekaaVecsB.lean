/- Tables of small numbers: turned into bytes. -/
import Derived.Test.YtgdifegbpbnekaaVecsA
import Derived.Test.YtgdifegbpbnekaaEyeC
namespace Go.Proofs.Ytgdifegbpbnekaa
open Go.RowKit

section
variable {P : Program} {w : World} {ops : Array Oper} {rest : List Oper} {o : Oper} {a : Act} {Q : Exit → Act → World → Prop}
/-- A new row of elements of one cell. -/
theorem wpL_makeZ (hgd : o.guard = none) (t : TypeId) (x : Operand) (ho : o.op = .makeSlice t x x) {e : TypeId} (ht : P.underlying t = some (.slice e)) (z : Value) (hzc : z.cells = #[z])
    (hi : (P.info? e).map (fun i => (i.zero, i.size, i.bytes)) = some (some z, 1, 1)) (n : Nat) (hx : a.eval x = .int .i64 (n : Int)) (hn : n ≤ 16777216)
    (h : ∀ w1, Only [] w w1 → Hid (w1.heap.size = w.heap.size + 1) → Blk w1 w.heap.size (List.replicate n z) e → wpList P ops Q rest (a.put o.dst (.slice (some ⟨w.heap.size, 0, none⟩) n n)) w1) : wpList P ops Q (o :: rest) a w := by
  obtain ⟨i, hi1, hi2, hi3, hi4⟩ : ∃ i, P.info? e = some i ∧ i.zero = some z ∧ i.size = 1 ∧ i.bytes = 1 := by
    cases hq : P.info? e with
    | none => simp [hq] at hi
    | some i => simp [hq] at hi; exact ⟨i, rfl, hi.1, hi.2.1, hi.2.2⟩
  have hrun := run_make (P := P) w t e i _ ht hi1 hi2 .i64 .i64 n n (by omega) (Int.le_refl _) (by rw [hi4]; omega) (by omega)
  have hc : madeCells z.cells ((n : Int).toNat * i.size) = (List.replicate n z).toArray := by
    rw [hi3, Int.toNat_natCast, Nat.mul_one, hzc]
    apply Array.ext'
    unfold madeCells
    apply List.ext_getElem?
    intro j
    simp [List.getElem?_replicate]
    by_cases hj : j < n
    · simp [hj]
      rw [Nat.mod_one]
      rfl
    · simp [hj]
  rw [hc, Int.toNat_natCast] at hrun
  refine wpList_plain hgd fun K hK => ?_
  unfold Oper.wp
  simp only [execOp, ho, hx, Sem.run_bind, hrun, Result.andThen_ok, Sem.run_pure]
  exact hK _ _ (h _ ((Only.refl _ w).alloc _) (show _ = _ by simp) (Blk.new _ _ _))
end

theorem sgn_back (c : Nat) (h : c < 256) : IntKind.u8.wrap (sgn c) = (c : Int) := by
  unfold sgn IntKind.wrap
  simp [IntKind.signed, IntKind.bits]
  omega

theorem sgn_mod (c : Nat) (h : c < 256) : sgn c % 256 = (c : Int) := by
  unfold sgn IntKind.wrap
  simp [IntKind.signed, IntKind.bits]
  omega

theorem Bits8.of_owns {w : World} {base : Nat} {e : TypeId} {v : Value} {l : List UInt8} (h : w.ownsRow base e 1 v l.length (i8s l)) : Bits8 w v l := by
  rcases h.2 with ⟨rfl, hz⟩ | ⟨g, cap, cur, rfl, hb, hg, hcap, _⟩
  · exact .inl ⟨⟨none, 0, rfl⟩, List.eq_nil_of_length_eq_zero hz⟩
  · refine .inr ⟨g, cap, rfl, fun j x hx => ?_, ?_⟩
    · have := h.cells (g := g) rfl j x hx
      rwa [show (⟨g, 0, none⟩ : Addr).add j = ⟨g, j, none⟩ by unfold Addr.add; split <;> simp_all] at this
    · rcases Nat.lt_or_ge g w.heap.size with h' | h'
      · exact h'
      · rw [Array.getElem?_eq_none h'] at hg; simp at hg
theorem Bits8.keep {w w' : World} {v : Value} {l : List UInt8} (h : Bits8 w v l) (ho : Only [] w w') : Bits8 w' v l := by
  rcases h with h | ⟨bk, c, rfl, h1, h2⟩
  · exact .inl h
  · exact .inr ⟨bk, c, rfl, fun j x hx => by rw [ho.cellAt _ _ h2 (by simp)]; exact h1 j x hx, Nat.lt_of_lt_of_le h2 ho.size⟩

/-- A row of bytes, the first so many of them written. -/
def upTo (l : List UInt8) (j : Nat) : List Value := (List.range l.length).map fun i => .int .u8 (if i < j then ((l.getD i 0).toNat : Int) else 0)
theorem upTo_length (l : List UInt8) (j : Nat) : (upTo l j).length = l.length := by simp [upTo]
theorem upTo_zero (l : List UInt8) : upTo l 0 = List.replicate l.length (.int .u8 0) := by
  refine List.ext_getElem? fun i => ?_
  unfold upTo
  rw [List.getElem?_map, List.getElem?_replicate]
  by_cases hi : i < l.length
  · rw [List.getElem?_range hi, if_pos hi]; rfl
  · rw [List.getElem?_eq_none (by simp; omega), if_neg hi]; rfl
theorem upTo_get (l : List UInt8) (j i : Nat) (hi : i < l.length) : (upTo l j)[i]? = some (.int .u8 (if i < j then ((l.getD i 0).toNat : Int) else 0)) := by
  unfold upTo
  rw [List.getElem?_map, List.getElem?_range hi]
  rfl
theorem upTo_set (l : List UInt8) (j : Nat) : (upTo l j).set j (.int .u8 ((l.getD j 0).toNat : Int)) = upTo l (j + 1) := by
  refine List.ext_getElem? fun i => ?_
  by_cases hi : i < l.length
  · rw [List.getElem?_set, upTo_get l (j + 1) i hi, upTo_get l j i hi, upTo_length]
    by_cases e : j = i
    · subst e; rw [if_pos rfl, if_pos hi, if_pos (by omega)]
    · rw [if_neg e]
      by_cases h : i < j
      · rw [if_pos h, if_pos (by omega)]
      · rw [if_neg h, if_neg (by omega)]
  · rw [List.getElem?_eq_none (by simp [upTo_length]; omega), List.getElem?_eq_none (by rw [upTo_length]; omega)]
theorem u8Info : (Try.prog.info? 5).map (fun i => (i.zero, i.size, i.bytes)) = some (some (.int .u8 0), 1, 1) := by kernel_rfl

set_option maxRecDepth 100000 in
set_option maxHeartbeats 8000000 in
theorem vecsBytes_any (x y : Int) (V : Value) (s : ByteArray) (w : World) (hV : Bits8 w V (bl s)) (hs : s.size ≤ 100000) :
    Calls Try.prog 16 #[.agg #[.int .i64 x, .int .i64 y, V]] w fun e w' => e = .returned (.string s) ∧ Only [] w w' := by
  have hlb := bl_length s
  have HV := Lib.hid hV
  have hb0 := Blk.new w [.int .i64 x, .int .i64 y, V] 31
  have hw0 : Only [] w (w.alloc (.cells #[.int .i64 x, .int .i64 y, V] 31)) := (Only.refl [] w).alloc _
  obtain ⟨ad, cp, rfl⟩ : ∃ ad cp, V = .slice ad s.size cp := by
    rcases hV with ⟨⟨a, c, rfl⟩, h⟩ | ⟨bk, c, rfl, _⟩
    · exact ⟨a, c, by rw [← hlb, h]; rfl⟩
    · exact ⟨_, _, by rw [hlb]⟩
  have c2 := hb0.cell (i := 2) rfl
  clear hV
  go_enter Try.func16, Try.ntmps16
  go_wp2_with (refine wpL_makeZ rfl 43 (.tmp 8) rfl Try.underlying43 (.int .u8 0) rfl u8Info s.size rfl (by omega) ?_)
  intro w1 ho1 hs1 hb1
  have a1 := hw0.trans ho1
  have k2 := (hb0.keep ho1).cell (i := 2) rfl
  have hb1' : Blk w1 (w.heap.size + 1) (upTo (bl s) 0) 5 := by rw [upTo_zero, hlb]; exact hb1
  have hgt : w.heap.size < w1.heap.size := by have := hs1.out; omega
  have hg1 : w.heap.size + 1 < w1.heap.size := hb1.lt
  clear c2 hb0 hw0 ho1 hs1 hb1
  go_wp2_with fail
  go_loopw [13] (fun i wr => ∃ (j : Nat), j ≤ s.size ∧ i = .int .i64 (j : Int) ∧ Blk wr (w.heap.size + 1) (upTo (bl s) j) 5 ∧ Only [w.heap.size + 1] w1 wr) (fun i _ => s.size - (intOf i).toNat)
  case atStart => exact ⟨0, by omega, rfl, hb1', Only.refl _ _⟩
  case round =>
    obtain ⟨j, hj, rfl, hG, hor⟩ := hrel
    by_cases hlt : j < s.size
    · have j64 : (j : Int) < s.size := by omega
      obtain ⟨bk, hbk, hc⟩ : ∃ bk, ad = some ⟨bk, 0, none⟩ ∧ wr.cell? ⟨bk, j, none⟩ = some (.int .i8 (sgn ((bl s).getD j 0).toNat)) := by
        rcases HV.out with ⟨_, h0⟩ | ⟨bk, c, hv, h1, h2⟩
        · rw [h0] at hlb; simp at hlb; omega
        · injection hv with e1 e2 e3
          refine ⟨bk, e1, ?_⟩
          rw [hor.cellAt bk j (by have := a1.size; omega) (by simp; omega), a1.cellAt bk j h2 (by simp)]
          refine h1 j _ ?_
          unfold i8s
          rw [List.getElem?_map, List.getD_eq_getElem?_getD, List.getElem?_eq_getElem (by omega)]
          rfl
      subst hbk
      have hst := Lib.hid (upTo_set (bl s) j)
      have hbk2 := Lib.hid (sgn_mod ((bl s).getD j 0).toNat ((bl s).getD j 0).toNat_lt)
      have cg := hG.cell (upTo_get (bl s) j j (by omega))
      rw [if_neg (by omega)] at cg
      have fg := hG.free j
      obtain ⟨c, ec⟩ : ∃ c, c = ((bl s).getD j 0).toNat := ⟨_, rfl⟩
      rw [← ec] at hc hst hbk2
      obtain ⟨z, ez⟩ : ∃ z, z = sgn c := ⟨_, rfl⟩
      rw [← ez] at hc hbk2
      clear ec ez HV
      go_wp2_with fail
      go_roundw
      case rel =>
        refine ⟨j + 1, by omega, by go_num, ?_, hor.set (p := ⟨w.heap.size + 1, j, none⟩) (.inl (by simp)) _⟩
        rw [← hst.out, hbk2.out]
        exact hG.set j _
      case measure => simp [intOf]; omega
    · obtain rfl : j = s.size := by omega
      have j64 : ¬ (s.size : Int) < s.size := by omega
      have hcs : ∀ k, k < (bl s).length → wr.cell? ⟨w.heap.size + 1, k, none⟩ = some (.int .u8 (((bl s).getD k 0).toNat : Int)) := fun k hk => by
        have := hG.cell (upTo_get (bl s) s.size k hk)
        rwa [if_pos (by omega)] at this
      have HCS := Lib.hid hcs
      clear hcs hG HV
      go_wp2_with (refine wpL_str rfl 43 9 5 _ rfl ⟨w.heap.size + 1, 0, none⟩ (bl s) s.size s.size rfl hlb Try.underlying43 Try.underlying5 Try.underlying9 ?cc ?_)
      case cc =>
        intro k hk
        have := HCS.out k hk
        simpa [List.getD_eq_getElem?_getD] using this
      go_wp2_with fail
      go_ret
      exact ⟨by rw [← bl_of s]; exact rfl, a1.step hor (fun i hi => .inr (by simp at hi; omega))⟩

end Go.Proofs.Ytgdifegbpbnekaa
