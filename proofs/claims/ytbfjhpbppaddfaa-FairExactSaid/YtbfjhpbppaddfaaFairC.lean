/- Picks that leave nobody out: Due, and the search that it makes. -/
import Derived.Test.YtbfjhpbppaddfaaFairB
namespace Go.Proofs.Ytbfjhpbppaddfaa
open Go.RowKit

/-- Where the first stands that has waited as long as may be. -/
def dueAt (f : Int → Int) (K : Int) (xs : List Int) : Option Nat := xs.findIdx? fun x => decide (K - 1 ≤ f x)
theorem dueAt_lt {f : Int → Int} {K : Int} {xs : List Int} {i : Nat} (h : dueAt f K xs = some i) : i < xs.length := by
  rw [dueAt, List.findIdx?_eq_some_iff_getElem] at h
  exact h.1

set_option maxRecDepth 100000 in
set_option maxHeartbeats 4000000 in
theorem dueFn_any (B a b n : Nat) (K x : Int) (f : Int → Int) (w : World) (hB : Blk w B [.pointer (some ⟨a, 0, none⟩)] 24) (ha : Blk w a [.int .i64 K, .map (some b)] 67) (hm : WMap w b n f)
    (hf : 0 ≤ f x ∧ f x ≤ 1000000) (hx : wfi x) (hk : 1 ≤ K ∧ K ≤ 1000) :
    Calls Try.prog 32 #[.int .i64 x, .pointer (some ⟨B, 0, none⟩)] w fun e w' => e = .returned (.bool (decide (K - 1 ≤ f x))) ∧ Only [] w w' := by
  have cB := hB.cell (i := 0) rfl
  have c0 := ha.cell (i := 0) rfl
  have c1 := ha.cell (i := 1) rfl
  obtain ⟨z, ez⟩ : ∃ z, z = f x := ⟨_, rfl⟩
  have HZ : Hid (f x = z) := ez.symm
  rw [← ez] at hf ⊢
  obtain ⟨f0, f1⟩ := hf
  obtain ⟨k0, k1⟩ := hk
  have hlk : ∀ m, (Instr.lookup 65 (.map (some b)) (.int .i64 x) false).run Try.prog (w.drewN m) = .ok (.int .i64 z) (w.drewN m) := fun m => by
    have := (hm.drewN m).run_look x hx
    rwa [HZ.out] at this
  clear ez hB ha hm HZ
  by_cases hd : K - 1 ≤ z
  · rw [decide_eq_true hd]
    go_enter Try.func32, Try.ntmps32
    go_wp2_with fail
    go_big_quiet (fail)
    go_wp2_with fail
    go_ret
    exact ⟨by simp, (Only.refl [] w).drewN _⟩
  · rw [decide_eq_false hd]
    go_enter Try.func32, Try.ntmps32
    go_wp2_with fail
    go_big_quiet (fail)
    go_wp2_with fail
    go_ret
    exact ⟨by simp [hd], (Only.refl [] w).drewN _⟩

set_option maxRecDepth 100000 in
set_option maxHeartbeats 4000000 in
theorem index_any (B a b n : Nat) (K : Int) (f : Int → Int) (xs : List Int) (vs : Value) (w : World) (hB : Blk w B [.pointer (some ⟨a, 0, none⟩)] 24) (ha : Blk w a [.int .i64 K, .map (some b)] 67) (hm : WMap w b n f) (hv : Ints w vs xs)
    (hf : ∀ x, 0 ≤ f x ∧ f x ≤ 1000000) (hx : ∀ x ∈ xs, wfi x) (hk : 1 ≤ K ∧ K ≤ 1000) (hl : xs.length ≤ 1000) :
    Calls Try.prog 31 #[vs, .func (.func 32) #[] #[.pointer (some ⟨B, 0, none⟩)]] w fun e w' => e = .returned (.int .i64 (match dueAt f K xs with | some i => (i : Int) | none => -1)) ∧ Only [] w w' := by
  have HI := Lib.hid hv
  have HX := Lib.hid hx
  have HD : Hid (∀ x ∈ xs, ∀ wr, Only [] w wr → Calls Try.prog 32 #[.int .i64 x, .pointer (some ⟨B, 0, none⟩)] wr fun e w' => e = .returned (.bool (decide (K - 1 ≤ f x))) ∧ Only [] wr w') := fun x hxx wr ho => dueFn_any B a b n K x f wr (hB.keep ho) (ha.keep ho) (hm.keep ho) (hf x) (hx x hxx) hk
  obtain ⟨ad, cap, rfl⟩ : ∃ ad cap, vs = .slice ad xs.length cap := by
    rcases hv with ⟨⟨a, c, rfl⟩, rfl⟩ | ⟨bk, o, c, rfl, _⟩
    · exact ⟨a, c, rfl⟩
    · exact ⟨_, _, rfl⟩
  obtain ⟨r, er⟩ : ∃ r : Int, r = (match dueAt f K xs with | some i => (i : Int) | none => -1) := ⟨_, rfl⟩
  have HR : Hid (r = (match dueAt f K xs with | some i => (i : Int) | none => -1)) := er
  rw [← er]
  clear hv hf hx hB ha hm hk er
  go_enter Try.func31, Try.ntmps31
  go_wp2_with fail
  go_loopw [8] (fun i wr => ∃ (k : Nat), k ≤ xs.length ∧ i = .int .i64 (k : Int) ∧ Hid (∀ j (hj : j < xs.length), j < k → f xs[j] < K - 1) ∧ Only [] w wr) (fun i _ => xs.length - (intOf i).toNat)
  case atStart => exact ⟨0, by omega, rfl, fun j _ h => absurd h (by omega), Only.refl _ _⟩
  case round =>
    obtain ⟨k, hk, rfl, hno, hor⟩ := hrel
    by_cases hlt : k < xs.length
    · obtain ⟨bk, o, c, hc⟩ : ∃ bk o c, ad = some ⟨bk, o, none⟩ ∧ cap = c ∧ wr.cell? ⟨bk, o + k, none⟩ = some (.int .i64 xs[k]) := by
        rcases HI.out with ⟨_, h0⟩ | ⟨bk, o, c, hv, h1, h2, h3⟩
        · subst h0; simp at hlt
        · injection hv with e1 e2 e3
          refine ⟨bk, o, c, e1, e3, ?_⟩
          rw [hor.cellAt bk (o + k) h2 (by simp)]
          exact h1 k _ (List.getElem?_eq_getElem hlt)
      obtain ⟨rfl, rfl, hc⟩ := hc
      have k64 : (k : Int) < xs.length := by omega
      have HC := Lib.hid (HD.out xs[k] (List.getElem_mem hlt) wr hor)
      have HY : Hid (K - 1 ≤ f xs[k] → r = (k : Int)) := fun h => by
        have : dueAt f K xs = some k := by
          rw [dueAt, List.findIdx?_eq_some_iff_getElem]
          exact ⟨hlt, by simpa using h, fun j hj => by have := hno.out j (by omega) hj; simp; omega⟩
        rw [HR.out, this]
      have HN : Hid (¬ K - 1 ≤ f xs[k] → Hid (∀ j (hj : j < xs.length), j < k + 1 → f xs[j] < K - 1)) := fun h j hj hjk => by
        by_cases e : j = k
        · subst e; omega
        · exact hno.out j hj (by omega)
      by_cases hd : K - 1 ≤ f xs[k]
      · have HY' := Lib.hid (HY.out hd)
        rw [decide_eq_true hd] at HC
        obtain ⟨x, ex⟩ : ∃ x, x = xs[k] := ⟨_, rfl⟩
        rw [← ex] at hc HC
        clear ex hd HY HN hno
        go_wp2_with (go_at_call 32; refine HC.out.mono ?_; rintro e w2 ⟨rfl, ho2⟩)
        go_ret
        exact ⟨by rw [HY'.out]; rfl, hor.trans ho2⟩
      · have HN' := HN.out hd
        rw [decide_eq_false hd] at HC
        obtain ⟨x, ex⟩ : ∃ x, x = xs[k] := ⟨_, rfl⟩
        rw [← ex] at hc HC
        clear ex hd HY HN hno
        go_wp2_with (go_at_call 32; refine HC.out.mono ?_; rintro e w2 ⟨rfl, ho2⟩)
        go_roundw
        case rel => exact ⟨k + 1, by omega, by go_num, HN', hor.trans ho2⟩
        case measure => simp [intOf]; omega
    · obtain rfl : k = xs.length := by omega
      have HE : Hid (r = -1) := by
        have : dueAt f K xs = none := by
          rw [dueAt, List.findIdx?_eq_none_iff]
          intro x hxx
          obtain ⟨j, hj, rfl⟩ := List.mem_iff_getElem.1 hxx
          have := hno.out j hj hj
          simp
          omega
        show _ = _
        rw [HR.out, this]
      go_wp2_with fail
      go_ret
      exact ⟨by rw [HE.out]; rfl, hor⟩

/-- Who must be picked next; -1: nobody. -/
def dueOf (f : Int → Int) (K : Int) (xs : List Int) : Int := match dueAt f K xs with | some i => xs.getD i 0 | none => -1

set_option maxRecDepth 100000 in
set_option maxHeartbeats 4000000 in
theorem due_any (a b n : Nat) (K : Int) (f : Int → Int) (xs : List Int) (vs : Value) (w : World) (ha : Blk w a [.int .i64 K, .map (some b)] 67) (hm : WMap w b n f) (hv : Ints w vs xs)
    (hf : ∀ x, 0 ≤ f x ∧ f x ≤ 1000000) (hx : ∀ x ∈ xs, wfi x) (hk : 1 ≤ K ∧ K ≤ 1000) (hl : xs.length ≤ 1000) :
    Calls Try.prog 11 #[.pointer (some ⟨a, 0, none⟩), vs] w fun e w' => e = .returned (.int .i64 (dueOf f K xs)) ∧ Only [] w w' := by
  have hmf : ∀ (fn : Fn) (first cap : Array Value) (w : World), (Instr.makeFunc fn first cap).run Try.prog w = .ok (.func fn first cap) w := fun _ _ _ _ => rfl
  have hB := Blk.new w [.pointer (some ⟨a, 0, none⟩)] 24
  have o0 : Only [] w (w.alloc (.cells #[.pointer (some ⟨a, 0, none⟩)] 24)) := (Only.refl [] w).alloc _
  have IX := Lib.hid (index_any w.heap.size a b n K f xs vs _ hB (ha.keep o0) (hm.keep o0) (hv.keep o0) hf hx hk hl)
  have HI := Lib.hid hv
  obtain ⟨ad, cap, rfl⟩ : ∃ ad cap, vs = .slice ad xs.length cap := by
    rcases hv with ⟨⟨a, c, rfl⟩, rfl⟩ | ⟨bk, o, c, rfl, _⟩
    · exact ⟨a, c, rfl⟩
    · exact ⟨_, _, rfl⟩
  have c0 := hB.cell (i := 0) rfl
  cases hd : dueAt f K xs with
  | none =>
    rw [hd] at IX
    have HE : Hid (dueOf f K xs = -1) := by show _ = _; rw [dueOf, hd]
    rw [HE.out]
    clear hv hf hx ha hm hk hd hB
    go_enter Try.func11, Try.ntmps11
    go_wp2_with (go_at_call 31; refine IX.out.mono ?_; rintro e w2 ⟨rfl, ho2⟩)
    go_ret
    exact ⟨rfl, o0.trans ho2⟩
  | some i =>
    have hi := dueAt_lt hd
    rw [hd] at IX
    have HE : Hid (dueOf f K xs = xs[i]) := by show _ = _; rw [dueOf, hd]; simp [List.getD_eq_getElem?_getD, List.getElem?_eq_getElem hi]
    rw [HE.out]
    obtain ⟨bk, o, c, hc⟩ : ∃ bk o c, ad = some ⟨bk, o, none⟩ ∧ cap = c ∧ bk < w.heap.size ∧ w.cell? ⟨bk, o + i, none⟩ = some (.int .i64 xs[i]) := by
      rcases HI.out with ⟨_, h0⟩ | ⟨bk, o, c, hv, h1, h2, h3⟩
      · subst h0; simp at hi
      · injection hv with e1 e2 e3
        exact ⟨bk, o, c, e1, e3, h2, h1 i _ (List.getElem?_eq_getElem hi)⟩
    obtain ⟨rfl, rfl, hbk, hc⟩ := hc
    have i0 : ¬ (i : Int) < 0 := by omega
    have i1 : (i : Int) < xs.length := by omega
    obtain ⟨x, ex⟩ : ∃ x, x = xs[i] := ⟨_, rfl⟩
    rw [← ex] at hc ⊢
    clear hv hf hx ha hm hk hd hB ex HE
    go_enter Try.func11, Try.ntmps11
    go_wp2_with (go_at_call 31; refine IX.out.mono ?_; rintro e w2 ⟨rfl, ho2⟩; have hc2 : w2.cell? ⟨bk, o + i, none⟩ = some (.int .i64 x) := by rw [(o0.trans ho2).cellAt bk (o + i) hbk (by simp)]; exact hc)
    go_ret
    exact ⟨rfl, o0.trans ho2⟩

end Go.Proofs.Ytbfjhpbppaddfaa
