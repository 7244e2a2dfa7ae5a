/- Shapes: read from bytes, and written as bytes, by the document. -/
import Derived.Test.YtbfjhpbppaddfaaConfM
namespace Go.Proofs.Ytbfjhpbppaddfaa
open Go.RowKit

theorem refEyeNum_k (E : Nat) (s : ByteArray) (k : Nat) (w : World) (h : Blk w E [.string (eyeSt beyond s k).1, .bool (eyeSt beyond s k).2] 95) :
    Calls Try.prog 46 #[.pointer (some ⟨E, 0, none⟩), .int .i64 4294967295] w fun e w' => e = .returned (.int .i64 (eyeVal beyond s k)) ∧ Blk w' E [.string (eyeSt beyond s (k + 1)).1, .bool (eyeSt beyond s (k + 1)).2] 95 ∧ Only [E] w w' :=
  refEyeNum_any E _ _ beyond w h

set_option maxRecDepth 100000 in
set_option maxHeartbeats 16000000 in
theorem refParse_any (s : ByteArray) (r : Value) (h1 : fits s → r = .tuple #[.agg (sixCfg s).cells.toArray, .bool true]) (h2 : ¬ fits s → r = .tuple #[.agg zeros6.toArray, .bool false]) (w : World) :
    Calls Try.prog 27 #[.string s] w fun e w' => e = .returned r ∧ Only [] w w' := by
  have H1 := Lib.hid h1
  have H2 := Lib.hid h2
  clear h1 h2
  have ZO := Lib.hid zeros6_one
  obtain ⟨c, ec⟩ : ∃ c, c = sixCfg s := ⟨_, rfl⟩
  have N0 : Hid (∀ E w, Blk w E [.string s, .bool false] 95 → Calls Try.prog 46 #[.pointer (some ⟨E, 0, none⟩), .int .i64 4294967295] w fun e w' => e = .returned (.int .i64 c.V) ∧ Blk w' E [.string (eyeSt beyond s 1).1, .bool (eyeSt beyond s 1).2] 95 ∧ Only [E] w w') := fun E w h => by rw [ec]; exact refEyeNum_k E s 0 w h
  have N1 : Hid (∀ E w, Blk w E [.string (eyeSt beyond s 1).1, .bool (eyeSt beyond s 1).2] 95 → Calls Try.prog 46 #[.pointer (some ⟨E, 0, none⟩), .int .i64 4294967295] w fun e w' => e = .returned (.int .i64 c.D) ∧ Blk w' E [.string (eyeSt beyond s 2).1, .bool (eyeSt beyond s 2).2] 95 ∧ Only [E] w w') := fun E w h => by rw [ec]; exact refEyeNum_k E s 1 w h
  have N2 : Hid (∀ E w, Blk w E [.string (eyeSt beyond s 2).1, .bool (eyeSt beyond s 2).2] 95 → Calls Try.prog 46 #[.pointer (some ⟨E, 0, none⟩), .int .i64 4294967295] w fun e w' => e = .returned (.int .i64 c.H) ∧ Blk w' E [.string (eyeSt beyond s 3).1, .bool (eyeSt beyond s 3).2] 95 ∧ Only [E] w w') := fun E w h => by rw [ec]; exact refEyeNum_k E s 2 w h
  have N3 : Hid (∀ E w, Blk w E [.string (eyeSt beyond s 3).1, .bool (eyeSt beyond s 3).2] 95 → Calls Try.prog 46 #[.pointer (some ⟨E, 0, none⟩), .int .i64 4294967295] w fun e w' => e = .returned (.int .i64 c.B) ∧ Blk w' E [.string (eyeSt beyond s 4).1, .bool (eyeSt beyond s 4).2] 95 ∧ Only [E] w w') := fun E w h => by rw [ec]; exact refEyeNum_k E s 3 w h
  have N4 : Hid (∀ E w, Blk w E [.string (eyeSt beyond s 4).1, .bool (eyeSt beyond s 4).2] 95 → Calls Try.prog 46 #[.pointer (some ⟨E, 0, none⟩), .int .i64 4294967295] w fun e w' => e = .returned (.int .i64 c.F) ∧ Blk w' E [.string (eyeSt beyond s 5).1, .bool (eyeSt beyond s 5).2] 95 ∧ Only [E] w w') := fun E w h => by rw [ec]; exact refEyeNum_k E s 4 w h
  have N5 : Hid (∀ E w, Blk w E [.string (eyeSt beyond s 5).1, .bool (eyeSt beyond s 5).2] 95 → Calls Try.prog 46 #[.pointer (some ⟨E, 0, none⟩), .int .i64 4294967295] w fun e w' => e = .returned (.int .i64 c.C) ∧ Blk w' E [.string (eyeSt beyond s 6).1, .bool (eyeSt beyond s 6).2] 95 ∧ Only [E] w w') := fun E w h => by rw [ec]; exact refEyeNum_k E s 5 w h
  have HF : Hid (fits s ↔ eyeDone (eyeSt beyond s 6).1 (eyeSt beyond s 6).2 = true ∧ CanBe c) := by rw [ec]; exact Iff.rfl
  rw [← ec] at H1
  generalize (eyeSt beyond s 1).1 = t1 at *
  generalize (eyeSt beyond s 1).2 = b1 at *
  generalize (eyeSt beyond s 2).1 = t2 at *
  generalize (eyeSt beyond s 2).2 = b2 at *
  generalize (eyeSt beyond s 3).1 = t3 at *
  generalize (eyeSt beyond s 3).2 = b3 at *
  generalize (eyeSt beyond s 4).1 = t4 at *
  generalize (eyeSt beyond s 4).2 = b4 at *
  generalize (eyeSt beyond s 5).1 = t5 at *
  generalize (eyeSt beyond s 5).2 = b5 at *
  generalize (eyeSt beyond s 6).1 = t6 at *
  generalize (eyeSt beyond s 6).2 = b6 at *
  have HL : Hid (c.cells.length = 6) := rfl
  have HO : Hid (c.cells.toArray.all (·.oneCell') = true) := c.cells_one
  have GY : Hid (CanBe c → ∀ w, Calls Try.prog 14 #[.agg c.cells.toArray] w fun e w' => e = .returned (.bool true) ∧ Only [] w w') := fun h => refGood_yes c h
  have GN : Hid (¬ CanBe c → ∀ w, Calls Try.prog 14 #[.agg c.cells.toArray] w fun e w' => e = .returned (.bool false) ∧ Only [] w w') := fun h => refGood_no c h
  clear ec
  go_enter Try.func27, Try.ntmps27
  go_wp2_with (first
    | (refine wpL_alloc rfl 2 rfl _ rfl (.agg zeros6.toArray) zeros6 (by kernel_rfl) rfl ?_; intro w1 ho1 hs1 hb1)
    | (go_at_call 46; refine (N0.out w1.heap.size _ (Blk.new w1 [.string s, .bool false] 95)).mono ?_))
  rintro e w2 ⟨rfl, hE2, ho2⟩
  have s1 : w.heap.size < w1.heap.size := by have := hs1.out; omega
  have a2 : Only [] w w2 := (ho1.alloc _).step ho2 (fun i hi => .inr (by simp at hi; omega))
  have hR2 : Blk w2 w.heap.size zeros6 39 := (hb1.alloc _).only ho2 (by simp; omega)
  clear ho1 hs1 hb1 ho2
  generalize w1.heap.size = E at *
  go_wp2_with (go_at_call 46; refine (N1.out E _ hE2).mono ?_)
  rintro e w3 ⟨rfl, hE3, ho3⟩
  have a3 : Only [] w w3 := a2.step ho3 (fun i hi => .inr (by simp at hi; omega))
  have hR3 := hR2.only ho3 (by simp; omega)
  clear a2 hR2 hE2 ho3
  go_wp2_with (go_at_call 46; refine (N2.out E _ hE3).mono ?_)
  rintro e w4 ⟨rfl, hE4, ho4⟩
  have a4 : Only [] w w4 := a3.step ho4 (fun i hi => .inr (by simp at hi; omega))
  have hR4 := hR3.only ho4 (by simp; omega)
  clear a3 hR3 hE3 ho4
  go_wp2_with (go_at_call 46; refine (N3.out E _ hE4).mono ?_)
  rintro e w5 ⟨rfl, hE5, ho5⟩
  have a5 : Only [] w w5 := a4.step ho5 (fun i hi => .inr (by simp at hi; omega))
  have hR5 := hR4.only ho5 (by simp; omega)
  clear a4 hR4 hE4 ho5
  go_wp2_with (go_at_call 46; refine (N4.out E _ hE5).mono ?_)
  rintro e w6 ⟨rfl, hE6, ho6⟩
  have a6 : Only [] w w6 := a5.step ho6 (fun i hi => .inr (by simp at hi; omega))
  have hR6 := hR5.only ho6 (by simp; omega)
  clear a5 hR5 hE5 ho6
  go_wp2_with (go_at_call 46; refine (N5.out E _ hE6).mono ?_)
  rintro e w7 ⟨rfl, hE7, ho7⟩
  have a7 : Only [] w w7 := a6.step ho7 (fun i hi => .inr (by simp at hi; omega))
  have hR7 := hR6.only ho7 (by simp; omega)
  clear a6 hR6 hE6 ho7
  go_wp2_with (first
    | (refine wpL_build rfl 39 _ rfl c.cells (by kernel_rfl) ?_)
    | (refine wpL_alloc rfl 6 rfl _ rfl (.agg zeros6.toArray) zeros6 (by kernel_rfl) rfl ?_; intro w8 ho8 hs8 hb8)
    | (refine wpL_store rfl 39 (.tmp 6) _ rfl w7.heap.size c.cells.toArray rfl rfl _ _ hb8 cfgInfo HL.out rfl HO.out ?_))
  intro w9 ho9 hs9 hb9
  have a9 : Only [] w w9 := (a7.trans ho8).step ho9 (fun i hi => .inr (by simp at hi; subst hi; exact a7.size))
  have hE9 := (hE7.keep ho8).only ho9 (by have := hE7.lt; simp; omega)
  have hR9 := (hR7.keep ho8).only ho9 (by have := hR7.lt; simp; omega)
  have q0 := hE9.cell (i := 0) rfl
  have q1 := hE9.cell (i := 1) rfl
  obtain ⟨K, eK⟩ : ∃ K, K = c.cells := ⟨_, rfl⟩
  rw [← eK] at H1 HL HO GY GN hb9
  clear eK N0 N1 N2 N3 N4 N5 a7 hR7 hE7 ho8 hs8 hb8 ho9 hs9
  generalize w7.heap.size = G at *
  cases b6 with
  | true =>
    have ER := Lib.hid (H2.out fun h => by have := (HF.out.1 h).1; simp [eyeDone] at this)
    clear H1 H2 HF GY GN
    go_wp2_with (first
      | (refine wpL_build rfl 39 #[] rfl zeros6 (by kernel_rfl) ?_)
      | (refine wpL_store rfl 39 (.tmp 2) _ rfl w.heap.size zeros6.toArray rfl rfl _ _ hR9 cfgInfo rfl rfl ZO.out ?_))
    intro w10 ho10 hs10 hb10
    go_wp2_with fail
    refine end_row_tmp2 (ty := 39) Try.results27 rfl hb10 Try.underlying39 rfl cfgInfo rfl rfl rfl ⟨?_, ?_⟩
    · rw [ER.out]; exact rfl
    · exact a9.step ho10 (fun i hi => .inr (by simp at hi; omega))
  | false =>
    by_cases hz : t6.size = 0
    · have hdn : Hid (eyeDone t6 false = true) := by show _ = _; simp [eyeDone, hz]
      obtain rfl : t6 = ⟨#[]⟩ := bl_ext (List.eq_nil_of_length_eq_zero (by rw [bl_length, hz]))
      clear hz
      by_cases hc : CanBe c
      · have ER := Lib.hid (H1.out (HF.out.2 ⟨hdn.out, hc⟩))
        have GG := Lib.hid (GY.out hc)
        clear H1 H2 HF GY GN hc hdn
        go_wp2_with (first
          | (refine wpL_yes rfl (wpL_load rfl 39 (.tmp 6) rfl G rfl _ _ _ hb9 Try.underlying39 rfl cfgInfo HL.out ?_))
          | (go_at_call 14; refine (GG.out _).mono ?_))
        intro e w10 hx
        first | (subst hx; intro ho10) | (obtain ⟨rfl, ho10⟩ := hx)
        have hG10 := hb9.keep ho10
        have hR10 := hR9.keep ho10
        go_wp2_with (first
          | (refine wpL_load rfl 39 (.tmp 6) rfl G rfl _ _ _ hG10 Try.underlying39 rfl cfgInfo HL.out ?_)
          | (refine wpL_store rfl 39 (.tmp 2) _ rfl w.heap.size K.toArray rfl rfl _ _ hR10 cfgInfo HL.out rfl HO.out ?_))
        intro w11 ho11 hs11 hb11
        go_wp2_with fail
        refine end_row_tmp2 (ty := 39) Try.results27 rfl hb11 Try.underlying39 rfl cfgInfo HL.out rfl rfl ⟨?_, ?_⟩
        · rw [ER.out]; exact rfl
        · exact (a9.trans ho10).step ho11 (fun i hi => .inr (by simp at hi; omega))
      · have ER := Lib.hid (H2.out fun h => hc (HF.out.1 h).2)
        have GG := Lib.hid (GN.out hc)
        clear H1 H2 HF GY GN hc hdn
        go_wp2_with (first
          | (refine wpL_yes rfl (wpL_load rfl 39 (.tmp 6) rfl G rfl _ _ _ hb9 Try.underlying39 rfl cfgInfo HL.out ?_))
          | (go_at_call 14; refine (GG.out _).mono ?_))
        intro e w10 hx
        first | (subst hx; intro ho10) | (obtain ⟨rfl, ho10⟩ := hx)
        have hR10 := hR9.keep ho10
        go_wp2_with (first
          | (refine wpL_build rfl 39 #[] rfl zeros6 (by kernel_rfl) ?_)
          | (refine wpL_store rfl 39 (.tmp 2) _ rfl w.heap.size zeros6.toArray rfl rfl _ _ hR10 cfgInfo rfl rfl ZO.out ?_))
        intro w11 ho11 hs11 hb11
        go_wp2_with fail
        refine end_row_tmp2 (ty := 39) Try.results27 rfl hb11 Try.underlying39 rfl cfgInfo rfl rfl rfl ⟨?_, ?_⟩
        · rw [ER.out]; exact rfl
        · exact (a9.trans ho10).step ho11 (fun i hi => .inr (by simp at hi; omega))
    · have g1 : (0 : Int) < t6.size := by omega
      have g2 : 0 < t6.size := by omega
      have g3 : ¬ t6 = ByteArray.empty := fun h => by subst h; exact hz rfl
      have ER := Lib.hid (H2.out fun h => by have := (HF.out.1 h).1; simp [eyeDone] at this; exact g3 this)
      clear H1 H2 HF GY GN hz
      go_wp2_with (first
        | (refine wpL_build rfl 39 #[] rfl zeros6 (by kernel_rfl) ?_)
        | (refine wpL_store rfl 39 (.tmp 2) _ rfl w.heap.size zeros6.toArray rfl rfl _ _ hR9 cfgInfo rfl rfl ZO.out ?_))
      intro w10 ho10 hs10 hb10
      go_wp2_with fail
      refine end_row_tmp2 (ty := 39) Try.results27 rfl hb10 Try.underlying39 rfl cfgInfo rfl rfl rfl ⟨?_, ?_⟩
      · rw [ER.out]; exact rfl
      · exact a9.step ho10 (fun i hi => .inr (by simp at hi; omega))

theorem bl_cat2 (s t : ByteArray) : bl (s ++ t) = bl s ++ bl t := by
  unfold bl
  simp
theorem arr6Info : (Try.prog.info? 90).map (·.size) = some 6 := by kernel_rfl
theorem le4_zeros6 : zeros6.length = 6 := rfl

end Go.Proofs.Ytbfjhpbppaddfaa
