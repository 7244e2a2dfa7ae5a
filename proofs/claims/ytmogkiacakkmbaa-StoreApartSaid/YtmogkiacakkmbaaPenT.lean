/- Pens as things: what they bear, in the blocks that they lie in. -/
import Derived.Test.YtmogkiacakkmbaaMix
import Derived.Test.YtmogkiacakkmbaaSd
import Derived.Test.YtmogkiacakkmbaaPenR
namespace Go.Proofs.Ytmogkiacakkmbaa
open Go.RowKit

/-- A pen lies at b, in the blocks F: it may be written on. -/
def PenAt (w : World) (b : Nat) (bad : Bool) (l : List UInt8) (F : List Nat) : Prop := ∃ v, Bld w b [.bool bad] 149 v l ∧ F = b :: v.ownBlock.toList
/-- .. its bytes were taken. -/
def PenFr (w : World) (b : Nat) (bad : Bool) (l : List UInt8) (F : List Nat) : Prop := ∃ v, BldF w b [.bool bad] 149 v l ∧ F = b :: v.ownBlock.toList
theorem PenAt.fr {w : World} {b : Nat} {bad : Bool} {l : List UInt8} {F : List Nat} (h : PenAt w b bad l F) : PenFr w b bad l F := by
  obtain ⟨v, h, rfl⟩ := h
  exact ⟨v, h.F, rfl⟩
theorem PenAt.only {S : List Nat} {w w' : World} {b : Nat} {bad : Bool} {l : List UInt8} {F : List Nat} (h : PenAt w b bad l F) (ho : Only S w w') (hn : ∀ k ∈ F, k ∉ S) : PenAt w' b bad l F := by
  obtain ⟨v, h, rfl⟩ := h
  exact ⟨v, h.only ho (hn b (by simp)) (fun k hk => hn k (by simp [hk])), rfl⟩
theorem PenFr.only {S : List Nat} {w w' : World} {b : Nat} {bad : Bool} {l : List UInt8} {F : List Nat} (h : PenFr w b bad l F) (ho : Only S w w') (hn : ∀ k ∈ F, k ∉ S) : PenFr w' b bad l F := by
  obtain ⟨v, h, rfl⟩ := h
  exact ⟨v, h.only ho (hn b (by simp)) (fun k hk => hn k (by simp [hk])), rfl⟩
theorem PenAt.lt {w : World} {b : Nat} {bad : Bool} {l : List UInt8} {F : List Nat} (h : PenAt w b bad l F) : ∀ k ∈ F, k < w.heap.size := by
  obtain ⟨v, h, rfl⟩ := h
  intro k hk
  simp only [List.mem_cons, Option.mem_toList] at hk
  rcases hk with rfl | hk
  · exact h.lt
  · exact h.bufLt k hk
theorem ownsRowF_lt0 {w : World} {base : Nat} {e : TypeId} {size : Nat} {v : Value} {n : Nat} {xs : List Value} (h : w.ownsRowF base e size v n xs) : ∀ k, v.ownBlock = some k → k < w.heap.size := by
  intro k hk
  rcases h.2 with ⟨rfl, _⟩ | ⟨g, cap, cur, fr, rfl, _, hg, _⟩
  · cases hk
  · simp only [Value.ownBlock, Option.some.injEq] at hk
    subst hk
    exact (Array.getElem?_eq_some_iff.1 hg).1
theorem PenFr.lt {w : World} {b : Nat} {bad : Bool} {l : List UInt8} {F : List Nat} (h : PenFr w b bad l F) : ∀ k ∈ F, k < w.heap.size := by
  obtain ⟨v, ⟨p, hk, hr, _⟩, rfl⟩ := h
  intro k hm
  simp only [List.mem_cons, Option.mem_toList] at hm
  rcases hm with rfl | hm
  · exact hk.lt
  · exact ownsRowF_lt0 hr k hm
def penR (b : Nat) (bad : Bool) (l : List UInt8) (F : List Nat) : Rsc := ⟨true, F, fun w => PenAt w b bad l F, fun h ho hn => h.only ho hn, fun h => h.lt⟩
def penF (b : Nat) (bad : Bool) (l : List UInt8) (F : List Nat) : Rsc := ⟨true, F, fun w => PenFr w b bad l F, fun h ho hn => h.only ho hn, fun h => h.lt⟩
/-- What has become of a thing since the start. -/
theorem Sd.turn {w0 : World} {S : List Nat} {w : World} {L : List Ent} {R : List Rsc} (h : Sd w0 S w L R) (i : Nat) {r : Rsc} (hi : R[i]? = some r) (ho : r.own = true) : Turn S r.F w0 w :=
  ⟨h.only, (h.res r (List.mem_of_getElem? hi)).2 ho⟩
theorem PenAt.new {w : World} {b : Nat} (h : Blk w b [.pointer none, .slice none 0 0, .bool false] 149) : PenAt w b false [] [b] := ⟨_, Bld.new h, rfl⟩
theorem Wrote.turn {w w' : World} {b : Nat} {v v' : Value} (h : Wrote w w' b v v') : Turn (b :: v.ownBlock.toList) (b :: v'.ownBlock.toList) w w' :=
  ⟨h.1, fun k hk => by
    simp only [List.mem_cons, Option.mem_toList] at hk ⊢
    rcases hk with rfl | hk
    · exact .inl (.inl rfl)
    · rcases h.2 k hk with h | h
      · exact .inl (.inr h)
      · exact .inr h⟩

theorem num4_lenT (n : Int) : (num4 n).length = 4 := rfl
section
variable {P : Program} {w : World} {ops : Array Oper} {rest : List Oper} {o : Oper} {a : Act} {Q : Exit → Act → World → Prop}
theorem wpL_isConvT {s d : TypeId} {x : Operand} (_h : o.op = .convert s d x) (h : wpList P ops Q (o :: rest) a w) : wpList P ops Q (o :: rest) a w := h
theorem wpL_isSliceT {t : TypeId} {n : Nat} {x : Array (Nat × Operand)} (_h : o.op = .buildSlice t n x) (h : wpList P ops Q (o :: rest) a w) : wpList P ops Q (o :: rest) a w := h
end
theorem intInfoT : (Try.prog.info? 3).map (fun i => (i.zero, i.size, i.bytes)) = some (some (.int .i64 0), 1, 8) := by kernel_rfl
/-- One number more. -/
theorem penNumT (b : Nat) (bad : Bool) (l : List UInt8) (F : List Nat) (g : Nat) (n : Int) (w : World) (h : PenAt w b bad l F) (hg : Blk w g [.int .i64 n] 3) (hgF : g ∉ F) (hl : l.length ≤ 1000000000) :
    Calls Try.prog 90 #[.pointer (some ⟨b, 0, none⟩), .slice (some ⟨g, 0, none⟩) 1 1] w fun e w' => ∃ F', e = .returned (.tuple #[]) ∧ PenAt w' b (bad || !told n) (l ++ num4 n) F' ∧ Turn F F' w w' := by
  obtain ⟨v, hb, rfl⟩ := h
  simp only [List.mem_cons, Option.mem_toList, not_or] at hgF
  refine (penNum_any b bad v l (.slice (some ⟨g, 0, none⟩) 1 1) [n] w hb (.inr ⟨g, 0, 1, rfl, fun j x hx => ?_, hg.lt, by simp⟩) (fun a k c e => ?_) (by simp) hl).mono ?_
  · match j, hx with
    | 0, hx => simp at hx; subst hx; exact hg.cell rfl
    | j + 1, hx => simp at hx
  · simp only [Value.slice.injEq, Option.some.injEq] at e
    obtain ⟨rfl, _, _⟩ := e
    exact ⟨hgF.1, hgF.2⟩
  · rintro e w' ⟨rfl, v', hb', hw⟩
    refine ⟨_, rfl, ⟨v', ?_, rfl⟩, hw.turn⟩
    simpa using hb'
/-- Bytes more. -/
theorem penByteT (b : Nat) (bad : Bool) (l d : List UInt8) (F : List Nat) (g o c : Nat) (w : World) (h : PenAt w b bad l F) (hlt : g < w.heap.size) (hc : ∀ j u, (Lib.byteCells d)[j]? = some u → w.cell? ⟨g, o + j, none⟩ = some u) (hgF : g ∉ F) (hl : l.length + d.length ≤ 1000000000) :
    Calls Try.prog 137 #[.pointer (some ⟨b, 0, none⟩), .slice (some ⟨g, o, none⟩) d.length c] w fun e w' => ∃ F', e = .returned (.tuple #[]) ∧ PenAt w' b bad (l ++ d) F' ∧ Turn F F' w w' := by
  obtain ⟨v, hb, rfl⟩ := h
  simp only [List.mem_cons, Option.mem_toList, not_or] at hgF
  refine (penByte_any b bad v l d g o c w hb (by omega) hgF.1 hlt hc).mono ?_
  rintro e w' ⟨rfl, v', hb', hw⟩
  exact ⟨_, rfl, ⟨v', hb', rfl⟩, hw.turn⟩
/-- All bytes. -/
theorem penBytesT (b : Nat) (bad : Bool) (l : List UInt8) (F : List Nat) (w : World) (h : PenFr w b bad l F) :
    Calls Try.prog 91 #[.pointer (some ⟨b, 0, none⟩)] w fun e w' => e = .returned (.string ⟨l.toArray⟩) ∧ PenFr w' b bad l F ∧ Turn F F w w' := by
  obtain ⟨v, hb, rfl⟩ := h
  refine (penBytes2_any b _ v l w hb).mono ?_
  rintro e w' ⟨rfl, hb', ho⟩
  exact ⟨rfl, ⟨v, hb', rfl⟩, ho.mono (fun k hk _ => by simp [hk]), fun k hk => .inl hk⟩

set_option maxRecDepth 100000 in
set_option maxHeartbeats 4000000 in
/-- One text more: its length, its bytes. -/
theorem penTextT (b : Nat) (l : List UInt8) (F : List Nat) (g : Nat) (s : ByteArray) (w : World) (h : PenAt w b false l F) (hg : Blk w g [.string s] 9) (hgF : g ∉ F) (hl : l.length ≤ 1000000) (hs : s.size ≤ 1000000) :
    Calls Try.prog 136 #[.pointer (some ⟨b, 0, none⟩), .slice (some ⟨g, 0, none⟩) 1 1] w fun e w' => ∃ F', e = .returned (.tuple #[]) ∧ PenAt w' b false (l ++ num4 (s.size : Int) ++ bl s) F' ∧ Turn F F' w w' := by
  have hst := (Sd.with (penR b false l F) h).read hg (by simp) (fun r hr => by simp only [List.mem_singleton] at hr; subst hr; exact hgF)
  have hn4 : told (s.size : Int) = true := by unfold told; simp; omega
  have NN : Hid (∀ g' w F, PenAt w b false l F → Blk w g' [.int .i64 (s.size : Int)] 3 → g' ∉ F → Calls Try.prog 90 #[.pointer (some ⟨b, 0, none⟩), .slice (some ⟨g', 0, none⟩) 1 1] w fun e w' => ∃ F', e = .returned (.tuple #[]) ∧ PenAt w' b false (l ++ num4 (s.size : Int)) F' ∧ Turn F F' w w') := fun g' w F h1 h2 h3 => by
    have := penNumT b false l F g' (s.size : Int) w h1 h2 h3 (by omega)
    rw [hn4] at this
    exact this
  have BB : Hid (∀ g' c w F, PenAt w b false (l ++ num4 (s.size : Int)) F → g' < w.heap.size → (∀ j, j < s.size → w.cell? ⟨g', j, none⟩ = some (.int .u8 (((bl s).getD j 0).toNat : Int))) → g' ∉ F → Calls Try.prog 137 #[.pointer (some ⟨b, 0, none⟩), .slice (some ⟨g', 0, none⟩) s.size c] w fun e w' => ∃ F', e = .returned (.tuple #[]) ∧ PenAt w' b false (l ++ num4 (s.size : Int) ++ bl s) F' ∧ Turn F F' w w') := fun g' c w F h1 h2 h3 h4 => by
    have := penByteT b false (l ++ num4 (s.size : Int)) (bl s) F g' 0 c w h1 h2 (fun j u hu => by
      have hj := (List.getElem?_eq_some_iff.1 hu).1
      rw [byteCells_length, bl_length] at hj
      rw [Nat.zero_add, h3 j hj]
      simp only [Lib.byteCells, List.getElem?_map] at hu
      rw [List.getElem?_eq_getElem (by rw [bl_length]; exact hj)] at hu
      simp at hu
      rw [List.getD_eq_getElem?_getD, List.getElem?_eq_getElem (by rw [bl_length]; exact hj)]
      simp only [Option.getD_some]
      rw [← hu]) h4 (by rw [List.length_append, bl_length, num4_lenT]; omega)
    rw [bl_length] at this
    exact this
  clear h hg hgF hn4
  go_enter Try.func136, Try.ntmps136
  go_wp2_with fail
  go_loopw [8] (fun i wr => (i = .int .i64 0 ∧ Sd w (penR b false l F).F wr [⟨g, [.string s], 9, false⟩] [penR b false l F]) ∨ (i = .int .i64 1 ∧ ∃ F', PenAt wr b false (l ++ num4 (s.size : Int) ++ bl s) F' ∧ Turn F F' w wr))
    (fun i _ => (1 - intOf i).toNat)
  case atStart => exact .inl ⟨rfl, hst⟩
  case round =>
    rcases hrel with ⟨rfl, hst⟩ | ⟨rfl, F', hp, ht⟩
    · go_wp2_with (first
        | ((with_reducible refine wpL_peel rfl ?_ ?_); focus (go_simp; done)) | ((with_reducible refine wpL_isLoad rfl ?_); first | (refine wpL_load1S hst.st rfl rfl 0 rfl rfl rfl (by kernel_rfl) ?_))
        | ((with_reducible refine wpL_isSliceT rfl ?_); refine wpL_sliceD hst rfl 63 1 _ rfl Try.underlying63 intInfoT (by decide) (by decide) [.int .i64 (s.size : Int)] rfl rfl (by simp [Value.cells]) ?_; clear hst; intro w1 b1 hb1 hst)
        | (go_at_call 90; (with_reducible refine (NN.out _ _ _ (hst.rs 0 rfl) (hst.blk 0 rfl) (hst.away 0 0 rfl rfl)).mono ?_); rintro e1 w1 ⟨F1, rfl, hd1, ht1⟩; replace hst := hst.act 0 rfl (penR b false (l ++ num4 (s.size : Int)) F1) rfl ht1 hd1; simp only [List.set] at hst; clear ht1)
        | ((with_reducible refine wpL_isConvT rfl ?_); refine wpL_bytes rfl 9 56 5 _ rfl s rfl Try.underlying9 Try.underlying56 Try.underlying5 ?_; intro cap w2 hcap hsz2 ho2 hc2; have HC2 := Lib.hid hc2; have hnot : w1.heap.size ∉ F1 := fun hm => Nat.lt_irrefl _ (hd1.lt _ hm); replace hst := hst.keep ho2; clear ho2 hc2)
        | (go_at_call 137; (with_reducible refine (BB.out _ _ _ _ (hst.rs 0 rfl) (by have := hsz2.out; omega) HC2.out hnot).mono ?_); rintro e1 w3 ⟨F2, rfl, hd2, ht2⟩; replace hst := hst.act 0 rfl (penR b false (l ++ num4 (s.size : Int) ++ bl s) F2) rfl ht2 hd2; simp only [List.set] at hst))
      go_roundw
      case rel => exact .inr ⟨by go_num, F2, hst.rs 0 rfl, hst.turn 0 rfl rfl⟩
      case measure => simp [intOf]
    · go_wp2_with fail
      go_end0
      exact ⟨F', rfl, hp, ht⟩
end Go.Proofs.Ytmogkiacakkmbaa
