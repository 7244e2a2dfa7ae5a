/- Picks that leave nobody out: New, See, Due. -/
import Derived.Test.YtbfjhpbppaddfaaFairA
namespace Go.Proofs.Ytbfjhpbppaddfaa
open Go.RowKit

theorem wfi_of {n : Int} (h1 : -9223372036854775808 ≤ n) (h2 : n ≤ 9223372036854775807) : wfi n := WalkArith.wf_i64 (by omega)

set_option maxRecDepth 100000 in
set_option maxHeartbeats 2000000 in
theorem fairNew_no (k : Int) (h : k < 1 ∨ 1000 < k) (w : World) : Calls Try.prog 8 #[.int .i64 k] w fun e w' => e = .returned (.pointer none) ∧ w = w' := by
  by_cases h1 : k < 1
  · clear h
    go_enter Try.func8, Try.ntmps8
    go_wp2
    go_ret
    exact ⟨rfl, rfl⟩
  · have h2 : 1000 < k := by omega
    clear h
    go_enter Try.func8, Try.ntmps8
    go_wp2
    go_ret
    exact ⟨rfl, rfl⟩

set_option maxRecDepth 100000 in
set_option maxHeartbeats 2000000 in
theorem fairNew_yes (k : Int) (h1 : 1 ≤ k) (h2 : k ≤ 1000) (w : World) : Calls Try.prog 8 #[.int .i64 k] w fun e w' => e = .returned (.pointer (some ⟨w.heap.size + 1, 0, none⟩)) ∧ Blk w' (w.heap.size + 1) [.int .i64 k, .map (some w.heap.size)] 67 ∧ WMap w' w.heap.size 0 (fun _ => 0) ∧ Only [] w w' := by
  have g1 : ¬ k < 1 := by omega
  have g2 : ¬ 1000 < k := by omega
  clear h1 h2
  go_enter Try.func8, Try.ntmps8
  go_wp2_with (refine wpL_newMap rfl rfl ?_)
  intro w1 ho1 hs1 hm1
  go_wp2_with fail
  go_ret
  rw [← hs1.out]
  exact ⟨rfl, Blk.new w1 _ _, hm1.keep ((Only.refl [] w1).alloc _), ho1.alloc _⟩

set_option maxRecDepth 100000 in
set_option maxHeartbeats 8000000 in
theorem see_any (a b n : Nat) (K id : Int) (f : Int → Int) (xs : List Int) (vs : Value) (w : World) (ha : Blk w a [.int .i64 K, .map (some b)] 67) (hm : WMap w b n f) (hv : Ints w vs xs)
    (hf : ∀ x, 0 ≤ f x ∧ f x ≤ 1000000) (hx : ∀ x ∈ xs, wfi x) (hl : xs.length ≤ 1000) :
    Calls Try.prog 9 #[.pointer (some ⟨a, 0, none⟩), .int .i64 id, vs] w fun e w' => e = .returned (.bool (okAll f id K xs)) ∧ Blk w' a [.int .i64 K, .map (some w.heap.size)] 67 ∧ WMap w' w.heap.size xs.length (nextF f id xs) ∧ Only [a] w w' := by
  have HI := Lib.hid hv
  have HF := Lib.hid hf
  have HX := Lib.hid hx
  have hlt_a := ha.lt
  have hlt_b := hm.lt
  obtain ⟨ad, cap, rfl⟩ : ∃ ad cap, vs = .slice ad xs.length cap := by
    rcases hv with ⟨⟨a, c, rfl⟩, rfl⟩ | ⟨bk, o, c, rfl, _⟩
    · exact ⟨a, c, rfl⟩
    · exact ⟨_, _, rfl⟩
  clear hv hf hx
  go_enter Try.func9, Try.ntmps9
  go_wp2_with (refine wpL_newMap rfl rfl ?_)
  intro w1 ho1 hs1 hm1
  have ha1 := ha.keep ho1
  have hb1 := hm.keep ho1
  have HO1 := Lib.hid ho1
  have hsz : w.heap.size < w1.heap.size := by have := hs1.out; omega
  clear ha hm hs1 ho1
  go_wp2_with fail
  go_loopw [8, 16] (fun g i wr => ∃ (k : Nat), k ≤ xs.length ∧ i = .int .i64 (k : Int) ∧ g = .bool (okAll f id K (xs.take k)) ∧ WMap wr w.heap.size k (nextF f id (xs.take k)) ∧ Only [w.heap.size] w1 wr) (fun _ i _ => xs.length - (intOf i).toNat)
  case atStart => exact ⟨0, by omega, rfl, rfl, hm1.congr (Nat.le_refl _) (fun x => by simp [nextF]), Only.refl _ _⟩
  case round =>
    obtain ⟨k, hk, rfl, rfl, hG, hor⟩ := hrel
    have har := ha1.only hor (by simp; omega)
    have hbr := hb1.only hor (by simp; omega)
    have c0 := har.cell (i := 0) rfl
    have c1 := har.cell (i := 1) rfl
    by_cases hlt : k < xs.length
    · obtain ⟨bk, o, c, hc⟩ : ∃ bk o c, ad = some ⟨bk, o, none⟩ ∧ cap = c ∧ wr.cell? ⟨bk, o + k, none⟩ = some (.int .i64 xs[k]) := by
        rcases HI.out with ⟨_, h0⟩ | ⟨bk, o, c, hv, h1, h2, h3⟩
        · subst h0; simp at hlt
        · injection hv with e1 e2 e3
          refine ⟨bk, o, c, e1, e3, ?_⟩
          rw [hor.cellAt bk (o + k) (by omega) (by simp; omega), HO1.out.cellAt bk (o + k) h2 (by simp)]
          exact h1 k _ (List.getElem?_eq_getElem hlt)
      obtain ⟨rfl, rfl, hc⟩ := hc
      have wfx := HX.out xs[k] (List.getElem_mem hlt)
      have hO := Lib.hid (okAll_snoc f id K (xs.take k) xs[k])
      have hS := Lib.hid (nextF_same f id (xs.take k))
      have hM := Lib.hid (nextF_more f id (xs.take k) xs[k])
      have HT : Hid (xs.take (k + 1) = xs.take k ++ [xs[k]]) := List.take_succ_eq_append_getElem hlt
      obtain ⟨x, ex⟩ : ∃ x, x = xs[k] := ⟨_, rfl⟩
      obtain ⟨P, eP⟩ : ∃ P, P = xs.take k := ⟨_, rfl⟩
      rw [← ex] at hc wfx hO hM HT
      rw [← eP] at hO hS hM HT hG ⊢
      obtain ⟨fx0, fx1⟩ := HF.out x
      have k64 : (k : Int) < xs.length := by omega
      obtain ⟨g, eg⟩ : ∃ g, g = okAll f id K P := ⟨_, rfl⟩
      rw [← eg] at hO ⊢
      have GO : Hid (okAll f id K P = g) := eg.symm
      clear ex eP eg
      by_cases hid : x = id
      · have e1 : (x == id) = true := by rw [beq_iff_eq]; exact hid
        have hG' : WMap wr w.heap.size (k + 1) (nextF f id (P ++ [x])) := hG.congr (by omega) (fun y => by rw [hid]; exact (hS.out y).symm)
        have hO' : Hid (okAll f id K (P ++ [x]) = g) := by show _ = _; rw [hO.out, hid]; simp
        clear hid hO hM hS c0 c1
        go_wp2_with fail
        go_roundw
        case rel => exact ⟨k + 1, by omega, by go_num, by rw [HT.out, hO'.out], by rw [HT.out]; exact hG', hor⟩
        case measure => simp [intOf]; omega
      · have e1 : (x == id) = false := by rw [beq_eq_false_iff_ne]; exact hid
        have hM' := Lib.hid (hM.out hid)
        have hO' : Hid (okAll f id K (P ++ [x]) = (g && decide (f x + 1 < K))) := by show _ = _; rw [hO.out, decide_eq_false hid, Bool.false_or]
        obtain ⟨z, ez⟩ : ∃ z, z = f x := ⟨_, rfl⟩
        have HZ : Hid (f x = z) := ez.symm
        rw [← ez] at fx0 fx1 hM' hO'
        have hwz : wfi (z + 1) := wfi_of (by omega) (by omega)
        clear hid hO hM hS ez
        go_wp2_with (first
          | (refine wpL_look rfl (.tmp 28) (.tmp 29) rfl b n f rfl hbr x rfl wfx ?_; rw [HZ.out])
          | (refine wpL_put rfl (.tmp 23) (.tmp 24) (.tmp 31) rfl w.heap.size k _ rfl hG (by omega) x (z + 1) rfl rfl wfx hwz ?_))
        intro w2 ho2 hm2
        have hm2' : WMap w2 w.heap.size (k + 1) (nextF f id (P ++ [x])) := hm2.congr (Nat.le_refl _) (fun y => (hM'.out y).symm)
        have hv2 : Hid (nextF f id (P ++ [x]) x = z + 1) := by show _ = _; rw [hM'.out, if_pos rfl]
        have ho2' : Only [w.heap.size] w1 w2 := hor.step ho2 (by simp)
        have ha2 := har.only ho2 (by simp; omega)
        have d0 := ha2.cell (i := 0) rfl
        have hlk : ∀ n, (Instr.lookup 65 (.map (some w.heap.size)) (.int .i64 x) false).run Try.prog (w2.drewN n) = .ok (.int .i64 (z + 1)) (w2.drewN n) := fun n => by
          have := (hm2'.drewN n).run_look x wfx
          rwa [hv2.out] at this
        clear c0 c1 hc har hbr hG hor hm2 ho2 hM'
        cases g with
        | false =>
          go_wp2_with fail
          go_big_quiet (fail)
          go_wp2_with fail
          go_roundw
          case rel => exact ⟨k + 1, by omega, by go_num, by rw [HT.out, hO'.out, Bool.false_and], by rw [HT.out]; exact hm2'.drewN _, ho2'.drewN _⟩
          case measure => simp [intOf]; omega
        | true =>
          by_cases hK : z + 1 < K
          · go_wp2_with fail
            go_big_quiet (fail)
            go_wp2_with fail
            go_roundw
            case rel => exact ⟨k + 1, by omega, by go_num, by rw [HT.out, hO'.out, decide_eq_true hK, Bool.true_and], by rw [HT.out]; exact hm2'.drewN _, ho2'.drewN _⟩
            case measure => simp [intOf]; omega
          · go_wp2_with fail
            go_big_quiet (fail)
            go_wp2_with fail
            go_roundw
            case rel => exact ⟨k + 1, by omega, by go_num, by rw [HT.out, hO'.out, Bool.true_and], by rw [HT.out]; exact hm2'.drewN _, ho2'.drewN _⟩
            case measure => simp [intOf]; omega
    · obtain rfl : k = xs.length := by omega
      have f1 := har.free 1
      have k64 : ¬ (xs.length : Int) < xs.length := by omega
      have HT : Hid (xs.take xs.length = xs) := List.take_length
      rw [HT.out] at hG ⊢
      obtain ⟨g, eg⟩ : ∃ g, g = okAll f id K xs := ⟨_, rfl⟩
      have GO : Hid (okAll f id K xs = g) := eg.symm
      rw [← eg]
      clear eg
      go_wp2_with fail
      go_ret
      refine ⟨by rw [GO.out]; exact rfl, har.set 1 _, hG.only (S := [a]) ((Only.refl _ wr).set (p := ⟨a, 1, none⟩) (.inl (by simp)) _) (by simp; omega), ?_⟩
      exact ((HO1.out.mono (by simp)).step hor (fun i hi => .inr (by simp at hi; omega))).set (p := ⟨a, 1, none⟩) (.inl (by simp)) _

end Go.Proofs.Ytbfjhpbppaddfaa
