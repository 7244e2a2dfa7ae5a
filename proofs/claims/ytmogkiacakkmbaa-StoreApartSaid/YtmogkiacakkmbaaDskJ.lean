/- Disks: a sector, read. -/
import Derived.RangeFuncNested
import Derived.RangeFuncBound
import Derived.RangeFuncCalls
import Derived.RangeFuncLeaves
import Derived.Shelf.Abstract
import Derived.Shelf.RegionOpen
import Derived.WalkKit
import Derived.OwnWalkIn
import Derived.TacticsInMore
import Derived.LoopNIn
import Derived.LoopIn
import Derived.Test.YtmogkiacakkmbaaDskF
namespace Go.Proofs.Ytmogkiacakkmbaa
open Go.RowKit Go.Shelf
attribute [local go_sem] Oper.semAt_some

/-- A write, with its place. -/
abbrev WrX := Nat × Nat × ByteArray
def encW (x : WrX) : Array Value := #[.int .i64 (x.1 : Int), .agg #[.int .i64 (x.2.1 : Int), .string x.2.2]]
/-- The round k of a walk from the end. -/
def backW (ws : List (Nat × ByteArray)) (k : Nat) : WrX := (ws.length - 1 - k, ws.getD (ws.length - 1 - k) (0, ⟨#[]⟩))
def uptoW (ws : List (Nat × ByteArray)) (k : Nat) : List WrX := (List.range k).map (backW ws)
theorem uptoW_succ (ws : List (Nat × ByteArray)) (k : Nat) : uptoW ws (k + 1) = uptoW ws k ++ [backW ws k] := by simp [uptoW, List.range_succ]
theorem uptoW_length (ws : List (Nat × ByteArray)) (k : Nat) : (uptoW ws k).length = k := by simp [uptoW]

set_option maxRecDepth 100000 in
set_option maxHeartbeats 4000000 in
theorem backward1_in (F : Fence) (n : Nat) (h7 : F.fn 172) (hro : F.round = none) (hn : 1 ≤ n) (l Bs n₀ b len cap : Nat) (ws : List (Nat × ByteArray)) (hlen : ws.length = len) (hl1 : len ≤ 1000000) (hb : b < n₀) (hBs : Bs < n₀) (J Jx : List WrX → World → Prop)
    (hY : ∀ pre x W, J pre W → pre.length < len → YieldAt F (n - 1) Try.prog l (encW x) W fun e W' =>
      (e = .returned (.bool true) ∧ J (pre ++ [x]) W' ∧ Below n₀ W W') ∨ (e = .returned (.bool false) ∧ Jx (pre ++ [x]) W'))
    (W : World) (hs : W.cell? ⟨Bs, 0, none⟩ = some (.slice (some ⟨b, 0, none⟩) len cap)) (hc : ∀ j, j < len → W.cell? ⟨b, j * 2, none⟩ = some (.int .i64 ((ws.getD j (0, ⟨#[]⟩)).1 : Int)) ∧ W.cell? ⟨b, j * 2 + 1, none⟩ = some (.string (ws.getD j (0, ⟨#[]⟩)).2)) (h0 : J [] W) :
    CallsIn F n Try.prog 172 #[.func (.yield l) #[] #[], .pointer (some ⟨Bs, 0, none⟩)] W fun e W' => (∃ v, e = .returned v) ∧
      ((∃ ys, ys = uptoW ws len ∧ J ys W') ∨ (∃ pre, (∃ k, k ≤ len ∧ pre = uptoW ws k) ∧ Jx pre W')) := by
  refine callsIn_of_wp Try.func172 rfl h7 ?_ hro
  simp only [Try.ntmps172, List.size_toArray, List.length_cons, List.length_nil, Nat.reduceAdd, Nat.reduceSub, Array.replicate_succ, Array.replicate_zero, List.push_toArray, List.append_toArray, List.nil_append, List.cons_append]
  gi_wp2
  gi_loopw [3] (fun i wr => ∃ m : Nat, m ≤ len ∧ i = .int .i64 ((m : Int) - 1) ∧ J (uptoW ws (len - m)) wr ∧ Below n₀ W wr)
    (fun i _ => (intOf i + 1).toNat)
  case atStart => exact ⟨len, Nat.le_refl _, by first | rfl | go_num, by rw [Nat.sub_self]; exact h0, Below.refl _ _⟩
  case round =>
    obtain ⟨m, hm, rfl, hJs, hnx⟩ := hrel
    have hs' := (hnx.cell (p := ⟨Bs, 0, none⟩) hBs).trans hs
    cases m with
    | zero =>
      gi_wp2
      go_end0
      exact ⟨⟨_, rfl⟩, .inl ⟨_, rfl, hJs⟩⟩
    | succ m =>
      have hx := hc m (by omega)
      have hx1 := (hnx.cell (p := ⟨b, m * 2, none⟩) hb).trans hx.1
      have hx2 := (hnx.cell (p := ⟨b, m * 2 + 1, none⟩) hb).trans hx.2
      have e0 : backW ws (len - (m + 1)) = (m, ws.getD m (0, ⟨#[]⟩)) := by
        unfold backW
        rw [hlen, show len - 1 - (len - (m + 1)) = m by omega]
      have hy0 := hY _ (m, ws.getD m (0, ⟨#[]⟩)) wr hJs (by rw [uptoW_length]; omega)
      obtain ⟨p, q, epq⟩ : ∃ p q, ws.getD m (0, ⟨#[]⟩) = (p, q) := ⟨_, _, rfl⟩
      rw [epq] at hx1 hx2 hy0 e0
      obtain ⟨fn, tmps, assign, body, hy, hR⟩ := hy0
      dsimp only [encW] at hy
      dsimp only at hx1 hx2
      have m1 : ((m + 1 : Nat) : Int) - 1 = (m : Int) := by omega
      rw [m1]
      have m2 : (m : Int) < len := by omega
      have m3 : (0 : Int) ≤ m := by omega
      clear hx hc epq
      gi_wp2
      refine hR.mono ?_
      have e1 : uptoW ws (len - m) = uptoW ws (len - (m + 1)) ++ [(m, p, q)] := by rw [show len - m = len - (m + 1) + 1 by omega, uptoW_succ, e0]
      rintro e W3 (⟨rfl, hJ3, hk3⟩ | ⟨rfl, hJx3⟩)
      · gi_wp2
        go_roundw
        case rel => exact ⟨m, by omega, by first | rfl | go_num, by rw [e1]; exact hJ3, hnx.trans hk3⟩
        case measure => simp [intOf]
      · gi_wp2
        refine bodyPost_ret (results_none rfl _ _ _) rfl ?_
        exact ⟨⟨_, rfl⟩, .inr ⟨_, ⟨len - m, by omega, e1.symm⟩, hJx3⟩⟩

set_option maxRecDepth 100000 in
set_option maxHeartbeats 1000000 in
theorem backward1_none_in (F : Fence) (n : Nat) (h7 : F.fn 172) (hro : F.round = none) (l Bs cap : Nat) (ad : Option Addr) (J : List WrX → World → Prop) (W : World) (hBs : W.cell? ⟨Bs, 0, none⟩ = some (.slice ad 0 cap)) (h0 : J [] W) :
    CallsIn F n Try.prog 172 #[.func (.yield l) #[] #[], .pointer (some ⟨Bs, 0, none⟩)] W fun e W' => (∃ v, e = .returned v) ∧ J [] W' := by
  refine callsIn_of_wp Try.func172 rfl h7 ?_ hro
  simp only [Try.ntmps172, List.size_toArray, List.length_cons, List.length_nil, Nat.reduceAdd, Nat.reduceSub, Array.replicate_succ, Array.replicate_zero, List.push_toArray, List.append_toArray, List.nil_append, List.cons_append]
  gi_wp2
  gi_loopw [3] (fun i wr => i = .int .i64 (-1) ∧ J [] wr) (fun _ _ => 0)
  case atStart => exact ⟨rfl, h0⟩
  case round =>
    obtain ⟨rfl, hJs⟩ := hrel
    gi_wp2
    go_end0
    exact ⟨⟨_, rfl⟩, hJs⟩

/-- slices.Backward(d.loose): the slice's value is boxed. -/
theorem backward_any (a : Option Addr) (len cap : Nat) (w : World) :
    Calls Try.prog 161 #[.slice a len cap] w fun e w' => e = .returned (.func (.func 172) #[] #[.pointer (some ⟨w.heap.size, 0, none⟩)]) ∧ w' = w.alloc (.cells #[.slice a len cap] 133) := by
  go_enter Try.func161, Try.ntmps161
  go_wp2
  go_ret
  exact ⟨rfl, rfl⟩

/-- What it hands back, at a row of writes. -/
theorem backward_stops (F : Fence) (n : Nat) (h7 : F.fn 172) (hro : F.round = none) (hn : 1 ≤ n) (Bs n₀ : Nat) (ad : Option Addr) (len cap : Nat) (ws : List (Nat × ByteArray)) (hlen : ws.length = len) (hl1 : len ≤ 1000000) (w : World) (hBs : Bs < n₀) (hn₀ : n₀ ≤ w.heap.size)
    (hc : w.cell? ⟨Bs, 0, none⟩ = some (.slice ad len cap)) (hw : w.ownsRow 0 137 2 (.slice ad len cap) len (wcells ws)) (hlow : ∀ b, (Value.slice ad len cap).ownBlock = some b → b < n₀) :
    SeqStopsK F n Try.prog 172 #[.pointer (some ⟨Bs, 0, none⟩)] encW (Below n₀) (fun ys => ys = uptoW ws len)
      (fun pre => ∃ k, k ≤ len ∧ pre = uptoW ws k) len w := fun l J Jx W hW _ _ hY h0 => by
  have hc' := (hW.cell (p := ⟨Bs, 0, none⟩) (Nat.lt_of_lt_of_le hBs hn₀)).trans hc
  by_cases h0l : len = 0
  · subst h0l
    exact (backward1_none_in F n h7 hro l Bs cap ad J W hc' h0).mono fun e W' ⟨he, hj⟩ => ⟨he, .inl ⟨_, rfl, hj⟩⟩
  · obtain ⟨b, cap', e⟩ : ∃ b cap', Value.slice ad len cap = .slice (some ⟨b, 0, none⟩) len cap' := by
      rcases hw.2 with ⟨_, h⟩ | ⟨g, c, cur, e, _⟩
      · exact absurd h h0l
      · exact ⟨g, c, e⟩
    simp only [Value.slice.injEq] at e
    obtain ⟨rfl, _, rfl⟩ := e
    have hb : b < n₀ := hlow b rfl
    refine backward1_in F n h7 hro hn l Bs n₀ b len cap ws hlen hl1 hb hBs J Jx hY W hc' (fun j hj => ?_) h0
    have hcells := wread_cells hw hlen j hj
    have h1 := hcells 0 _ rfl
    have h2 := hcells 1 _ rfl
    exact ⟨(hW.cell (p := ⟨b, j * 2, none⟩) (Nat.lt_of_lt_of_le hb hn₀)).trans h1, (hW.cell (p := ⟨b, j * 2 + 1, none⟩) (Nat.lt_of_lt_of_le hb hn₀)).trans h2⟩
end Go.Proofs.Ytmogkiacakkmbaa

namespace Go.Proofs.Ytmogkiacakkmbaa
open Go.RowKit Go.Shelf
attribute [local go_sem] Oper.semAt_some

/-- What is known of blocks abides the turn of a later block that holds no cells. -/
theorem st_own {β : Type} {w0 : World} {S : List Nat} {L : List Ent} {B : Nat} (hB : w0.heap.size ≤ B) : OwnFrom B (fun (_ : β) W => St w0 S W L) := fun _ W W' row h hg hr => by
  have hne : ∀ k, k < W.heap.size → (k < w0.heap.size ∨ ∃ cs ty, Blk W k cs ty) → W'.heap[k]? = W.heap[k]? := fun k hk hc => hg.block k hk (fun e => by
    obtain ⟨h1, o, h2, h3⟩ := hr k e.symm
    rcases hc with hc | ⟨cs, ty, hc⟩
    · omega
    · unfold Blk at hc
      rw [hc] at h2
      cases h2
      cases h3)
  refine ⟨⟨hg.os.trans h.only.os, hg.tape.trans h.only.tape, hg.output.trans h.only.output, Nat.le_trans h.only.size hg.size, fun k hk hn => ?_⟩, fun x hx => ⟨?_, (h.each x hx).2⟩, h.apart⟩
  · rw [hne k (Nat.lt_of_lt_of_le hk h.only.size) (.inl hk)]
    exact h.only.block k hk hn
  · have hb := (h.each x hx).1
    unfold Blk
    rw [hne x.b hb.lt (.inr ⟨_, _, hb⟩)]
    exact hb

theorem blk_own {β : Type} {b B : Nat} {cs : List Value} {ty : TypeId} : OwnFrom B (fun (_ : β) W => Blk W b cs ty) := fun _ W W' row h hg hr => by
  have h' : W.heap[b]? = some (.cells cs.toArray ty (0, 0)) := h
  show W'.heap[b]? = some (.cells cs.toArray ty (0, 0))
  rw [hg.block b (Array.getElem?_eq_some_iff.1 h').1 (fun e => by
    obtain ⟨_, o, h2, h3⟩ := hr b e.symm
    rw [h'] at h2
    cases h2
    cases h3)]
  exact h'
theorem laid_miss (l : List ByteArray) (ws : List (Nat × ByteArray)) (p : Nat) (h : ∀ x ∈ ws, x.1 ≠ p) (d : ByteArray) : (laid l ws).getD p d = l.getD p d := by
  induction ws generalizing l with
  | nil => rfl
  | cons w ws ih =>
    rw [laid_cons, ih _ (fun x hx => h x (by simp [hx]))]
    have := h w (by simp)
    simp [List.getD_eq_getElem?_getD, this]
theorem laid_hit (l : List ByteArray) (A B : List (Nat × ByteArray)) (p : Nat) (q d : ByteArray) (hp : p < l.length) (h : ∀ x ∈ B, x.1 ≠ p) : (laid l (A ++ (p, q) :: B)).getD p d = q := by
  rw [laid_append, laid_cons, laid_miss _ _ _ h]
  simp [List.getD_eq_getElem?_getD, laid_length, hp]
/-- What a walk from the end has not met. -/
theorem uptoW_miss (ws : List (Nat × ByteArray)) (k p : Nat) (hk : k ≤ ws.length) (h : ∀ x ∈ uptoW ws k, x.2.1 ≠ p) : ∀ y ∈ ws.drop (ws.length - k), y.1 ≠ p := by
  intro y hy
  obtain ⟨i, hi, rfl⟩ := List.mem_iff_getElem.1 hy
  rw [List.length_drop] at hi
  rw [List.getElem_drop]
  have hm : backW ws (k - 1 - i) ∈ uptoW ws k := by
    unfold uptoW
    exact List.mem_map.2 ⟨k - 1 - i, by simp; omega, rfl⟩
  have := h _ hm
  unfold backW at this
  rw [show ws.length - 1 - (k - 1 - i) = ws.length - k + i by omega] at this
  simpa [List.getD_eq_getElem?_getD, List.getElem?_eq_getElem (show ws.length - k + i < ws.length by omega)] using this
theorem results2 {P : Program} {fn : Func} {tp tq : Tmp} {ty1 ty2 : TypeId} {b1 b2 : Nat} {v1 v2 : Value} {tmps : Array Value} {w : World} (hf : fn.results = #[.cell tp ty1, .cell tq ty2]) (h1 : tmps.getD tp undef = .pointer (some ⟨b1, 0, none⟩)) (h2 : tmps.getD tq undef = .pointer (some ⟨b2, 0, none⟩))
    (hr1 : isOne P ty1 = true) (hr2 : isOne P ty2 = true) (c1 : w.cell? ⟨b1, 0, none⟩ = some v1) (c2 : w.cell? ⟨b2, 0, none⟩ = some v2) : (results fn tmps).run P w = .ok (.tuple #[v1, v2]) w := by
  have ld : ∀ {ty : TypeId} {b : Nat} {v : Value}, isOne P ty = true → w.cell? ⟨b, 0, none⟩ = some v → (loadVar ty ⟨b, 0, none⟩).run P w = .ok v w := fun {ty b v} hr hc => by
    unfold isOne at hr
    cases hu : P.underlying ty with
    | none => simp [hu] at hr
    | some d =>
      cases hq : P.info? ty with
      | none => simp [hq] at hr
      | some inf =>
        rw [hu, hq] at hr
        have hs : inf.size = 1 := by simp at hr; exact hr.2
        have hagg : (isAgg ty).run P w = .ok false w := by
          unfold isAgg
          rw [Sem.run_bind, run_underlying hu w]
          cases d <;> simp_all
        simp [loadVar, Sem.run_bind, hagg, sizeOf, typeInfo, hq, hs]
        rw [hc]
  have h1' : tmps[tp]?.getD undef = .pointer (some ⟨b1, 0, none⟩) := by simpa using h1
  have h2' : tmps[tq]?.getD undef = .pointer (some ⟨b2, 0, none⟩) := by simpa using h2
  simp [results, hf, h1', h2', asAddr, ld hr1 c1, ld hr2 c2]

set_option maxRecDepth 100000 in
set_option maxHeartbeats 4000000 in
theorem dskRead_bad (d : Nat) (m : DM) (F : List Nat) (a : Int) (w : World) (h : DiskAt w d m F) (hc : m.check a ≠ 0) :
    Calls Try.prog 133 #[.pointer (some ⟨d, 0, none⟩), .int .i64 a] w fun e w' => e = .returned (.tuple #[.string ⟨#[]⟩, .int .i64 (m.check a)]) ∧ Only [] w w' := by
  have hst := ((Sd.withQ [] (diskQ d m F) h rfl).box [.int .i64 a] 3)
  have CK : Hid (∀ w, DiskAt w d m F → Calls Try.prog 143 #[.pointer (some ⟨d, 0, none⟩), .int .i64 a] w fun e w' => e = .returned (.int .i64 (m.check a)) ∧ Only [] w w') := fun w h => dskCheck_any d m F a w h
  generalize m.check a = ck at *
  have hc3 : (ck != 0) = true := by simpa using hc
  clear h
  go_enter Try.func133, Try.ntmps133
  go_wp2_with (first
    | ((with_reducible refine wpL_isAlloc rfl ?_); refine wpL_allocD hst rfl 9 rfl (.string ⟨#[]⟩) [.string ⟨#[]⟩] (by kernel_rfl) rfl 4 rfl ?_; clear hst; intro w1 b4 hb4 hst)
    | ((with_reducible refine wpL_isAlloc rfl ?_); refine wpL_allocD hst rfl 28 rfl (.int .i64 0) [.int .i64 0] (by kernel_rfl) rfl 5 rfl ?_; clear hst; intro w1 b5 hb5 hst)
    | ((with_reducible refine wpL_isLoad rfl ?_); refine wpL_load1S hst.st rfl rfl 2 rfl rfl rfl (by kernel_rfl) ?_)
    | (go_at_call 143; (with_reducible refine (CK.out _ (hst.rs 0 rfl)).mono ?_); rintro e1 w1 ⟨rfl, ho1⟩; replace hst := hst.keep ho1; clear ho1)
    | ((with_reducible refine wpL_isStore rfl ?_); first | (refine wpL_store1D hst rfl (ty := 9) rfl 1 rfl rfl rfl (v := .string ⟨#[]⟩) rfl (by kernel_rfl) rfl ?_; clear hst; intro w1 hst; simp only [List.set] at hst) | (refine wpL_store1D hst rfl (ty := 28) rfl 0 rfl rfl rfl (v := .int .i64 ck) rfl (by kernel_rfl) rfl ?_; clear hst; intro w1 hst; simp only [List.set] at hst)))
  exact bodyPost_ret (results2 Try.results133 rfl rfl (by kernel_rfl) (by kernel_rfl) ((hst.blk 1 rfl).cell rfl) ((hst.blk 0 rfl).cell rfl)) rfl ⟨rfl, hst.only⟩

set_option maxRecDepth 100000 in
set_option maxHeartbeats 8000000 in
theorem dskRead_good (d : Nat) (m : DM) (F : List Nat) (p : Nat) (w : World) (h : DiskAt w d m F) (hc : m.check (p : Int) = 0) (hp : p < m.safe.length) (few : m.loose.length ≤ 1000000) :
    Calls Try.prog 133 #[.pointer (some ⟨d, 0, none⟩), .int .i64 (p : Int)] w fun e w' => e = .returned (.tuple #[.string (m.now.getD p ⟨#[]⟩), .int .i64 0]) ∧ Only [] w w' := by
  obtain ⟨kv, gs, cs, rs, lv, kb, ho⟩ := h.open (by unfold DM.len; omega)
  have CK : Hid (∀ w, DiskAt w d m F → Calls Try.prog 143 #[.pointer (some ⟨d, 0, none⟩), .int .i64 (p : Int)] w fun e w' => e = .returned (.int .i64 0) ∧ w = w') := fun w h => by have := dskCheck_same d m F (p : Int) w h; rw [hc] at this; exact this
  obtain ⟨al, cl, hlv⟩ := owns_slice0 ho.hl
  have hst0 : St w [] w [⟨d, [.bool m.away, .int .i64 m.fuse, kv, .slice (some ⟨gs, 0, none⟩) m.safe.length cs, lv, .int .i64 m.done], 135, false⟩, ⟨gs, scells m.safe ++ rs, 9, false⟩] :=
    ⟨Only.refl _ w, by
      intro x hx
      simp only [List.mem_cons, List.not_mem_nil, or_false] at hx
      rcases hx with rfl | rfl
      · exact ⟨ho.hd, fun h => by cases h⟩
      · exact ⟨ho.hs, fun h => by cases h⟩, by simpa using ho.dg⟩
  have hst := hst0.box [.int .i64 (p : Int)] 3
  have HH := Lib.hid h
  have HO := Lib.hid ho
  subst hlv
  clear h ho hst0 hc
  refine (callsIn_wide (n := 8)).1 ?_
  refine callsIn_of_wp_marks Try.func133 rfl trivial ?_ rfl
  refine (wpIn_wide (n := 8)).2 ?_
  simp only [Try.ntmps133, List.size_toArray, List.length_cons, List.length_nil, Nat.reduceAdd, Nat.reduceSub, Array.replicate_succ, Array.replicate_zero, List.push_toArray, List.append_toArray, List.nil_append, List.cons_append]
  go_wp2_with (first
    | ((with_reducible refine wpL_isAlloc rfl ?_); refine wpL_allocS hst rfl 9 rfl (.string ⟨#[]⟩) [.string ⟨#[]⟩] (by kernel_rfl) rfl 4 rfl ?_; clear hst; intro w1 b4 hb4 hst)
    | ((with_reducible refine wpL_isAlloc rfl ?_); refine wpL_allocS hst rfl 28 rfl (.int .i64 0) [.int .i64 0] (by kernel_rfl) rfl 5 rfl ?_; clear hst; intro w1 b5 hb5 hst)
    | ((with_reducible refine wpL_peel rfl ?_ ?_); focus (go_simp; done)) | ((with_reducible refine wpL_isLoad rfl ?_); first | (refine wpL_load1S hst rfl rfl 0 rfl rfl rfl (by kernel_rfl) ?_) | (refine wpL_load1S hst rfl rfl 1 rfl rfl rfl (by kernel_rfl) ?_) | (refine wpL_load1S hst rfl rfl 2 rfl rfl rfl (by kernel_rfl) ?_) | (refine wpL_load1S hst rfl rfl 3 rfl rfl rfl (by kernel_rfl) ?_))
    | (go_at_call 143; (with_reducible refine (CK.out _ (HH.out.keep hst.only (by simp))).mono ?_); rintro e1 w1 ⟨rfl, rfl⟩)
    | (go_at_call 161; refine (backward_any _ _ _ _).mono ?_; rintro e1 w1 ⟨rfl, rfl⟩))
  have hst2 := hst.box [.slice al m.loose.length cl] 133
  have hown : (w1.alloc (.cells #[.slice al m.loose.length cl] 133)).ownsRow 0 137 2 (.slice al m.loose.length cl) m.loose.length (wcells m.loose) := ownsRow_only HO.out.hl hst2.only (by simp)
  have hlow : ∀ b, (Value.slice al m.loose.length cl).ownBlock = some b → b < (w1.alloc (.cells #[.slice al m.loose.length cl] 133)).heap.size := fun b hb => (World.ownsRow.lt hown b hb).2
  have hbox := hst2.blk 0 rfl
  have hBs : w1.heap.size < (w1.alloc (.cells #[.slice al m.loose.length cl] 133)).heap.size := by simp
  obtain ⟨Bs, eBs⟩ : ∃ Bs, Bs = w1.heap.size := ⟨_, rfl⟩
  obtain ⟨W0, eW0⟩ : ∃ W0, W0 = w1.alloc (.cells #[.slice al m.loose.length cl] 133) := ⟨_, rfl⟩
  rw [← eBs, ← eW0] at hst2
  rw [← eBs, ← eW0] at hbox
  rw [← eW0] at hown hlow
  rw [← eBs, ← eW0] at hBs
  rw [← eBs, ← eW0]
  clear eBs eW0 hst
  have hst := hst2
  clear hst2
  have hwl := hst.only.size
  refine (wpIn_wide (n := 8)).1 ?_
  refine wpIn_rangeFunc_ownH (F := Fence.wide) (n := 8) rfl (by decide) (gf := 172) (lb := #[.pointer (some ⟨Bs, 0, none⟩)]) rfl trivial (enters_of Try.func172 (by kernel_rfl) rfl)
    (backward_stops Fence.wide 7 trivial rfl (by decide) Bs W0.heap.size al m.loose.length cl m.loose rfl few W0 hBs (Nat.le_refl _) (hbox.cell rfl) hown hlow) belowK_t (belowK_b (Nat.le_refl _)) (Below.refl _ _) (fun _ => rfl)
    (fun pre W => Below W0.heap.size W0 W ∧ ∀ x ∈ pre, x.2.1 ≠ p)
    (fun c pre W => c = .ret ∧ ∃ ini last, pre = ini ++ [last] ∧ (∀ y ∈ ini, y.2.1 ≠ p) ∧ last.2.1 = p ∧ St w [] W [⟨b5, [.int .i64 0], 28, true⟩, ⟨b4, [.string last.2.2], 9, true⟩])
    (OwnFrom.and (ownFrom_below (Nat.le_refl _) (Nat.le_refl _)) (ownFrom_pure _ _))
    (fun c => fun s X Y row hs hg hr => by obtain ⟨h1, ini, last, h2, h3, h4, h5⟩ := hs; exact ⟨h1, ini, last, h2, h3, h4, st_own (β := Unit) hwl () X Y row h5 hg hr⟩)
    ⟨Below.refl _ _, by simp⟩
    (fun x a' W => ∃ Bx, W0.heap.size ≤ Bx ∧ Blk W Bx [.int .i64 (x.2.1 : Int), .string x.2.2] 137 ∧ a' = { tmps := #[.pointer (some ⟨d, 0, none⟩), .int .i64 (p : Int), undef, .pointer (some ⟨w.heap.size, 0, none⟩), .pointer (some ⟨b4, 0, none⟩), .pointer (some ⟨b5, 0, none⟩), .int .i64 0, undef, .pointer (some ⟨Bx, 0, none⟩), .pointer (some ⟨d, 0, none⟩), .int .i64 (p : Int), .int .i64 0, .int .i64 0, .bool false, undef, .pointer (some ⟨d, 0, none⟩), .pointer (some ⟨d, 0, none⟩), .pointer (some ⟨d, 4, none⟩), .slice al m.loose.length cl, .func (.func 172) #[] #[.pointer (some ⟨Bs, 0, none⟩)], .int .i64 (x.1 : Int), .agg #[.int .i64 (x.2.1 : Int), .string x.2.2], undef, undef, undef, undef, undef, undef, undef, undef, undef, undef, undef, undef, undef], defers := [] })
    (fun x a' _ X Y row hs hg hr => by obtain ⟨Bx, h1, h2, h3⟩ := hs; exact ⟨Bx, h1, blk_own (β := Unit) () X Y row h2 hg hr, h3⟩)
    ?assign ?body ?done ?stop
  case assign =>
    rintro l pre ⟨i, p1, q⟩ W K ⟨hB1, hp1⟩ hK
    unfold encW
    gi_wp2
    exact hK _ _ ((KeepsOthers.alloc _ _).from _) ((Below.refl _ W).alloc hB1.size _) ⟨hB1.alloc hB1.size _, hp1⟩ ⟨W.heap.size, hB1.size, Blk.new W _ _, rfl⟩
  case body =>
    rintro l pre ⟨i, p1, q⟩ a' W hl ⟨r, hr⟩ ⟨hB1, hp1⟩ ⟨Bx, hBx, bX, rfl⟩ hlt
    have hsW := hst.keep (Only.of_below hB1)
    have x1 : W.cell? ⟨Bx, 0, none⟩ = some (.int .i64 (p1 : Int)) := bX.cell rfl
    have x2 : W.cell? ⟨Bx, 1, none⟩ = some (.string q) := bX.cell rfl
    have c3 : W.cell? ⟨w.heap.size, 0, none⟩ = some (.int .i64 (p : Int)) := (hsW.blk 3 rfl).cell rfl
    have c4 : W.cell? ⟨b4, 0, none⟩ = some (.string ⟨#[]⟩) := (hsW.blk 2 rfl).cell rfl
    have f4 : W.frozen? ⟨b4, 0, none⟩ = false := (hsW.blk 2 rfl).free 0
    have c5 : W.cell? ⟨b5, 0, none⟩ = some (.int .i64 0) := (hsW.blk 1 rfl).cell rfl
    have f5 : W.frozen? ⟨b5, 0, none⟩ = false := (hsW.blk 1 rfl).free 0
    have n45 : b5 ≠ b4 := hsW.neq 1 2 rfl rfl (by decide)
    have HSW := Lib.hid hsW
    have HB1 := Lib.hid hB1
    have HP1 := Lib.hid hp1
    clear hB1 hp1 hsW hst HO HH CK hbox hown hlow bX hr
    by_cases hm : p1 = p
    · subst hm
      gi_wp2
      have s1 := HSW.out.chg 2 rfl ((Only.refl _ W).set (p := ⟨b4, 0, none⟩) (by simp) (.string q)) ((HSW.out.blk 2 rfl).set 0 (.string q))
      have s2 := s1.chg 1 rfl ((Only.refl _ _).set (p := ⟨b5, 0, none⟩) (by simp) (.int .i64 0)) ((s1.blk 1 rfl).set 0 (.int .i64 0))
      exact ⟨((KeepsOthers.setCell _ _ _).trans (KeepsOthers.setCell _ _ _)).from _, rfl, pre, (i, p1, q), rfl, HP1.out, rfl, s2.weak (.cons _ (.cons_cons _ (.cons_cons _ (List.nil_sublist _))))⟩
    · have hm1 : ((p1 : Int) == (p : Int)) = false := by simp; omega
      gi_wp2
      refine ⟨KeepsFrom.refl _ _, Below.refl _ _, HB1.out, fun x hx => ?_⟩
      rcases List.mem_append.1 hx with hx | hx
      · exact HP1.out x hx
      · simp only [List.mem_singleton] at hx
        subst hx
        exact hm
  case done =>
    rintro D ys W hD rfl ⟨hB1, hp1⟩ hK
    have hsW := hst.keep (Only.of_below hB1)
    have n4 : b4 < W0.heap.size := (hst.blk 2 rfl).lt
    have n5 : b5 < W0.heap.size := (hst.blk 1 rfl).lt
    have hDlt : D < W.heap.size := (Array.getElem?_eq_some_iff.1 hK).1
    have VAL : Hid (m.now.getD p ⟨#[]⟩ = m.safe.getD p ⟨#[]⟩) := by
      refine laid_miss _ _ p (fun x hx => ?_) _
      have := uptoW_miss m.loose m.loose.length p (Nat.le_refl _) hp1
      rw [Nat.sub_self, List.drop_zero] at this
      exact this x hx
    obtain ⟨v, ev⟩ : ∃ v, v = m.safe.getD p ⟨#[]⟩ := ⟨_, rfl⟩
    have HV : Hid ((scells m.safe ++ rs)[p]? = some (.string v)) := by
      show _ = _
      rw [List.getElem?_append_left (by rw [scells_length]; exact hp), scells_at _ _ hp, ev]
    rw [← ev] at VAL
    have p1 : (p : Int) < m.safe.length := by omega
    clear hst ev HO HH CK hbox hown hlow hB1 hp1
    have hst := hsW.drew
    clear hsW
    have HKK : Hid (W.drew.heap[D]? = some (.deferred (some []))) := hK
    have HDD : Hid (D < W.drew.heap.size ∧ D ≠ b4 ∧ D ≠ b5) := ⟨hDlt, by omega, by omega⟩
    clear hK hDlt
    go_wp2_with fail
    refine wp_region_text (by kernel_rfl) (by kernel_rfl) ?_
    generalize World.drew _ = W8 at *
    go_wp2_with (first
      | ((with_reducible refine wpL_isLoad rfl ?_); have hg := hst.blk 5 rfl; refine wpL_load1C rfl rfl rfl (hg.cell HV.out) (by kernel_rfl) ?_; clear hg)
      | ((with_reducible refine wpL_peel rfl ?_ ?_); focus (go_simp; done)) | ((with_reducible refine wpL_isLoad rfl ?_); first | (refine wpL_load1S hst rfl rfl 0 rfl rfl rfl (by kernel_rfl) ?_) | (refine wpL_load1S hst rfl rfl 1 rfl rfl rfl (by kernel_rfl) ?_) | (refine wpL_load1S hst rfl rfl 2 rfl rfl rfl (by kernel_rfl) ?_) | (refine wpL_load1S hst rfl rfl 3 rfl rfl rfl (by kernel_rfl) ?_) | (refine wpL_load1S hst rfl rfl 4 rfl rfl rfl (by kernel_rfl) ?_))
      | ((with_reducible refine wpL_isStore rfl ?_); have hh := hst.blk 2 rfl; refine wpL_store1 rfl 9 _ _ rfl b4 0 (.string v) rfl rfl _ _ hh (Nat.le_of_ble_eq_true rfl) (by kernel_rfl) rfl ?_; clear hh; intro w2 ho2 hs2 hb2; replace hst := hst.chg 2 rfl ho2 hb2; simp only [List.set] at hst; replace HKK := Lib.hid ((ho2.block D HDD.out.1 (by simp; exact HDD.out.2.1)).trans HKK.out); replace HDD := Lib.hid (show D < w2.heap.size ∧ D ≠ b4 ∧ D ≠ b5 from ⟨Nat.lt_of_lt_of_le HDD.out.1 ho2.size, HDD.out.2⟩); clear ho2 hs2 hb2)
      | ((with_reducible refine wpL_isStore rfl ?_); have hh := hst.blk 1 rfl; refine wpL_store1 rfl 28 _ _ rfl b5 0 (.int .i64 0) rfl rfl _ _ hh (Nat.le_of_ble_eq_true rfl) (by kernel_rfl) rfl ?_; clear hh; intro w2 ho2 hs2 hb2; replace hst := hst.chg 1 rfl ho2 hb2; simp only [List.set] at hst; replace HKK := Lib.hid ((ho2.block D HDD.out.1 (by simp; exact HDD.out.2.2)).trans HKK.out); clear ho2 hs2 hb2))
    refine TextQ.mk ?_ rfl
    go_wp2_with fail
    refine ⟨by simp, .inl ⟨_, _, rfl, run_takeDeferred HKK.out, ?_⟩⟩
    have hgr := grownBy_putObj' w2 D (.deferred none)
    have hfin := st_own (β := Unit) (B := w.heap.size) (Nat.le_refl _) () w2 _ _ hst hgr (fun r e => by cases e; exact ⟨by have := HDD.out; omega, _, HKK.out, rfl⟩)
    refine ⟨_, results2 Try.results133 rfl rfl (by kernel_rfl) (by kernel_rfl) ((hfin.blk 2 rfl).cell rfl) ((hfin.blk 1 rfl).cell rfl), ?_, hfin.only⟩
    rw [VAL.out]
  case stop =>
    rintro D c pre W hD ⟨k, hk, rfl⟩ ⟨rfl, ini, last, e1, e2, e3, hs4⟩ hK
    have HKK := Lib.hid hK
    have VAL : Hid (m.now.getD p ⟨#[]⟩ = last.2.2) := by
      obtain ⟨k', rfl⟩ : ∃ k', k = k' + 1 := by
        cases k with
        | zero => simp [uptoW] at e1
        | succ k' => exact ⟨k', rfl⟩
      rw [uptoW_succ] at e1
      obtain ⟨h1, h2⟩ := List.append_inj' e1 rfl
      simp only [List.cons.injEq, and_true] at h2
      rw [← h1] at e2
      have hmiss := uptoW_miss m.loose k' p (by omega) e2
      have hj : m.loose.length - 1 - k' < m.loose.length := by omega
      rw [← h2] at e3 ⊢
      unfold backW at e3 ⊢
      have hs : m.loose = m.loose.take (m.loose.length - 1 - k') ++ m.loose.getD (m.loose.length - 1 - k') (0, ⟨#[]⟩) :: m.loose.drop (m.loose.length - k') := by
        have h3 := List.take_append_drop (m.loose.length - 1 - k') m.loose
        rw [List.drop_eq_getElem_cons hj] at h3
        rw [List.getD_eq_getElem?_getD, List.getElem?_eq_getElem hj]
        rw [show m.loose.length - 1 - k' + 1 = m.loose.length - k' by omega] at h3
        exact h3.symm
      show (laid m.safe m.loose).getD p ⟨#[]⟩ = _
      obtain ⟨x, y, exy⟩ : ∃ x y, m.loose.getD (m.loose.length - 1 - k') (0, ⟨#[]⟩) = (x, y) := ⟨_, _, rfl⟩
      rw [exy] at e3 hs ⊢
      simp only at e3
      subst e3
      have := laid_hit m.safe (m.loose.take (m.loose.length - 1 - k')) _ x y ⟨#[]⟩ hp hmiss
      rw [← hs] at this
      exact this
    clear e1 e2 e3 HO HH CK hbox hown hlow
    refine (wpIn_wide (n := 8)).2 ?_
    go_wp2_with fail
    refine ⟨by simp, .inl ⟨_, _, rfl, run_takeDeferred HKK.out, ?_⟩⟩
    have hgr := grownBy_putObj' W D (.deferred none)
    have hfin := st_own (β := Unit) (B := w.heap.size) (Nat.le_refl _) () W _ _ hs4 hgr (fun r e => by cases e; exact ⟨by omega, _, HKK.out, rfl⟩)
    refine ⟨_, results2 Try.results133 rfl rfl (by kernel_rfl) (by kernel_rfl) ((hfin.blk 1 rfl).cell rfl) ((hfin.blk 0 rfl).cell rfl), ?_, hfin.only⟩
    simp only [List.getD_eq_getElem?_getD] at VAL
    first | rw [VAL.out] | (have := VAL.out; simp_all)

/-- A sector, read. -/
theorem dskRead_any (d : Nat) (m : DM) (F : List Nat) (a : Int) (w : World) (h : DiskAt w d m F) (few : m.loose.length ≤ 1000000) :
    Calls Try.prog 133 #[.pointer (some ⟨d, 0, none⟩), .int .i64 a] w fun e w' => e = .returned (.tuple #[.string (m.read a), .int .i64 (m.check a)]) ∧ Only [] w w' := by
  by_cases hc : m.check a = 0
  · have hrng : ¬ (a < 0 ∨ (m.len : Int) ≤ a) := fun h' => by unfold DM.check at hc; rw [if_pos h'] at hc; cases hc
    obtain ⟨p, rfl⟩ : ∃ p : Nat, a = (p : Int) := ⟨a.toNat, by omega⟩
    unfold DM.len at hrng
    have := dskRead_good d m F p w h hc (by omega) few
    unfold DM.read
    rw [if_pos hc, hc]
    exact this
  · have := dskRead_bad d m F a w h hc
    unfold DM.read
    rw [if_neg hc]
    exact this
end Go.Proofs.Ytmogkiacakkmbaa
