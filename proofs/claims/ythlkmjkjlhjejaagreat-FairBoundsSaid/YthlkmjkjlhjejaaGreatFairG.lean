/- FairBounds, walked: bounds and places. -/
import Derived.Test.YthlkmjkjlhjejaaGreatFairF
namespace Go.Proofs.YthlkmjkjlhjejaaGreat
open Go.RowKit

set_option maxRecDepth 100000 in
set_option maxHeartbeats 1000000 in
theorem drain_any (w : World) : Calls Tryz.prog 7 #[.pointer none, .int .i64 5] w fun e w' => e = .returned (.int .i64 0) ∧ Only [] w w' := by
  go_enter Tryz.func7, Tryz.ntmps7
  go_wp2
  go_ret
  exact ⟨rfl, Only.refl _ _⟩

set_option maxRecDepth 100000 in
set_option maxHeartbeats 4000000 in
theorem fb_long (k : Int) (xs : List Int) (vs : Value) (K : List Value) (w : World) (hv : Ints w vs xs) (hl : 20 < xs.length) :
    Calls Tryz.prog 3 #[.int .i64 k, vs, .agg K.toArray] w fun e w' => e = .returned (.bool true) ∧ Only [] w w' := by
  have AW : Hid (∀ w, Calls Tryz.prog 4 #[] w fun e w' => e = .returned (.bool true) ∧ Only [] w w') := awake38_any
  have g1 : (20 : Int) < xs.length := by omega
  obtain ⟨ad, cap, rfl⟩ : ∃ ad cap, vs = .slice ad xs.length cap := by
    rcases hv with ⟨⟨a, c, rfl⟩, rfl⟩ | ⟨bk, o, c, rfl, _⟩
    · exact ⟨a, c, rfl⟩
    · exact ⟨_, _, rfl⟩
  clear hv hl
  go_enter Tryz.func3, Tryz.ntmps3
  go_wp2_with (go_at_call 4; refine (AW.out _).mono ?_)
  intro e w1 hx
  first | (subst hx; intro ho1) | (obtain ⟨rfl, ho1⟩ := hx)
  have a1 : Only [] w w1 := ((Only.refl [] w).alloc _).trans ho1
  go_wp2_with fail
  go_ret
  exact ⟨rfl, a1⟩

set_option maxRecDepth 100000 in
set_option maxHeartbeats 32000000 in
theorem fb_na (k : Int) (xs : List Int) (vs : Value) (kd i n : Int) (g : Bool) (a1 : Option Addr) (n1 c1 : Nat) (d : Value) (str : ByteArray) (w : World) (hv : Ints w vs xs) (hl : xs.length ≤ 20) (hk : k < 0) (hs : sumM xs = 0) :
    Calls Tryz.prog 3 #[.int .i64 k, vs, .agg (cmdC kd i n g (.slice a1 n1 c1) d str).toArray] w fun e w' => e = .returned (.bool true) ∧ Only [] w w' := by
  have hb0 := Blk.new w (cmdC kd i n g (.slice a1 n1 c1) d str) 24
  have AW : Hid (∀ w, Calls Tryz.prog 4 #[] w fun e w' => e = .returned (.bool true) ∧ Only [] w w') := awake38_any
  have DR := Lib.hid drain_any
  have PC : Hid (∀ w, Calls Tryz.prog 6 #[.agg #[.int .i64 kd, .int .i64 i, .int .i64 n, .bool g, .slice a1 n1 c1, d, .string str]] w fun e w' => e = .returned (.int .i64 (if kd = 1 then (if lessOne n1 n < 0 then 0 else lessOne n1 n) else 0)) ∧ Only [] w w') := places_any kd i n g a1 n1 c1 d str
  have hc : clM k = 0 := by unfold clM; rw [if_pos hk]
  have BV : boundOf k xs = 0 := by unfold boundOf; rw [hc]; rw [if_neg (by omega), hs, Int.mul_zero]
  have BC : Hid (∀ w', Only [] w w' → Calls Tryz.prog 5 #[.int .i64 k, vs] w' fun e w'' => e = .returned (.int .i64 (0)) ∧ w' = w'') := fun w' ho => by rw [← BV]; exact bound_any k xs vs w' (hv.keep ho) (by omega)
  have HI := Lib.hid hv
  obtain ⟨ad, cap, rfl⟩ : ∃ ad cap, vs = .slice ad xs.length cap := by
    rcases hv with ⟨⟨a, c, rfl⟩, rfl⟩ | ⟨bk, o, c, rfl, _⟩
    · exact ⟨a, c, rfl⟩
    · exact ⟨_, _, rfl⟩
  have l20 : ¬ (20 : Int) < xs.length := by omega
  have HL : Hid ((cmdC kd i n g (.slice a1 n1 c1) d str).length = 7) := rfl
  have f0 : Hid ((cmdC kd i n g (.slice a1 n1 c1) d str)[0]? = some (.int .i64 kd)) := rfl
  have f1 : Hid ((cmdC kd i n g (.slice a1 n1 c1) d str)[1]? = some (.int .i64 i)) := rfl
  have f3 : Hid ((cmdC kd i n g (.slice a1 n1 c1) d str)[3]? = some (.bool g)) := rfl
  have f5 : Hid ((cmdC kd i n g (.slice a1 n1 c1) d str)[5]? = some d) := rfl
  have f6 : Hid ((cmdC kd i n g (.slice a1 n1 c1) d str)[6]? = some (.string str)) := rfl
  have f2 : Hid ((cmdC kd i n g (.slice a1 n1 c1) d str)[2]? = some (.int .i64 n)) := rfl
  have f4 : Hid ((cmdC kd i n g (.slice a1 n1 c1) d str)[4]? = some (.slice a1 n1 c1)) := rfl
  obtain ⟨K, eK⟩ : ∃ K, K = cmdC kd i n g (.slice a1 n1 c1) d str := ⟨_, rfl⟩
  rw [← eK] at hb0 HL f0 f1 f2 f3 f4 f5 f6 ⊢
  obtain ⟨s, es⟩ : ∃ s, s = sumM xs := ⟨_, rfl⟩
  have ES : Hid (sumM xs = s) := es.symm
  rw [← es] at hs
  clear eK es hv hc BV
  go_enter Tryz.func3, Tryz.ntmps3
  go_wp2_with (go_at_call 4; refine (AW.out _).mono ?_)
  intro e w1 hx
  first | (subst hx; intro ho1) | (obtain ⟨rfl, ho1⟩ := hx)
  have k1 := hb0.keep ho1
  have a1' : Only [] w w1 := ((Only.refl [] w).alloc _).trans ho1
  clear hb0 ho1 AW
  go_wp2_with fail
  go_loopw [7, 8] (fun s i wr => ∃ (j : Nat), j ≤ xs.length ∧ i = .int .i64 (j : Int) ∧ s = .int .i64 (sumM (xs.take j)) ∧ wr = w1) (fun _ i _ => xs.length - (intOf i).toNat)
  case atStart => exact ⟨0, by omega, rfl, rfl, rfl⟩
  case round =>
    obtain ⟨j, hj, rfl, rfl, rfl⟩ := hrel
    by_cases hlt : j < xs.length
    · obtain ⟨bk, o, c, hcc⟩ : ∃ bk o c, ad = some ⟨bk, o, none⟩ ∧ cap = c ∧ wr.cell? ⟨bk, o + j, none⟩ = some (.int .i64 xs[j]) := by
        rcases HI.out with ⟨_, h0⟩ | ⟨bk, o, c, hv, h1, h2, h3⟩
        · subst h0; simp at hlt
        · injection hv with e1 e2 e3
          refine ⟨bk, o, c, e1, e3, ?_⟩
          rw [a1'.cellAt bk (o + j) h2 (by simp)]
          exact h1 j _ (List.getElem?_eq_getElem hlt)
      obtain ⟨rfl, rfl, hcc⟩ := hcc
      have k64 : (j : Int) < xs.length := by omega
      have hS : Hid (sumM (xs.take (j + 1)) = min (sumM (xs.take j) + clM xs[j]) 1099511627776) := by show _ = _; rw [List.take_succ_eq_append_getElem hlt, sumM_snoc]
      obtain ⟨t0, t1⟩ := sumM_bounds (xs.take j)
      obtain ⟨t, et⟩ : ∃ t, t = sumM (xs.take j) := ⟨_, rfl⟩
      rw [← et] at hS t0 t1 ⊢
      obtain ⟨x, ex⟩ : ∃ x, x = xs[j] := ⟨_, rfl⟩
      rw [← ex] at hcc hS
      clear ex et BC PC
      go_wp2_with fail
      all_goals
        go_roundw
        case rel =>
          refine ⟨j + 1, by omega, by go_num, ?_, trivial⟩
          rw [hS.out]
          congr 1
          unfold clM
          split
          · omega
          · split <;> omega
        case measure => simp [intOf]; omega
    · obtain rfl : j = xs.length := by omega
      have HT : Hid (xs.take xs.length = xs) := List.take_length
      rw [HT.out, ES.out]
      have c0 := k1.cell f0.out
      have c1' := k1.cell f1.out
      have c2 := k1.cell f2.out
      have c3 := k1.cell f3.out
      have c5 := k1.cell f5.out
      have c6 := k1.cell f6.out
      have c4 := k1.cell f4.out
      have BC' := Lib.hid (BC.out wr a1')
      clear BC
      subst hs
      by_cases hn1 : 1099511627776 < n
      · by_cases hkd : kd = 1
        · have e1 : (kd == 1) = true := by rw [beq_iff_eq]; exact hkd
          clear hkd PC
          go_wp2_with (first | (go_at_call 5; refine BC'.out.mono ?_; rintro e w5 ⟨rfl, rfl⟩) | (go_at_call 7; refine (DR.out _).mono ?_; rintro e w7 ⟨rfl, ho7⟩))
          go_ret
          exact ⟨rfl, a1'.trans ho7⟩
        · have e1 : (kd == 1) = false := by rw [beq_eq_false_iff_ne]; exact hkd
          clear hkd PC
          go_wp2_with (first | (go_at_call 5; refine BC'.out.mono ?_; rintro e w5 ⟨rfl, rfl⟩) | (go_at_call 7; refine (DR.out _).mono ?_; rintro e w7 ⟨rfl, ho7⟩))
          go_ret
          exact ⟨rfl, a1'.trans ho7⟩
      · by_cases hn2 : n < -1099511627776
        · by_cases hkd : kd = 1
          · have e1 : (kd == 1) = true := by rw [beq_iff_eq]; exact hkd
            clear hkd PC
            go_wp2_with (first | (go_at_call 5; refine BC'.out.mono ?_; rintro e w5 ⟨rfl, rfl⟩) | (go_at_call 7; refine (DR.out _).mono ?_; rintro e w7 ⟨rfl, ho7⟩))
            go_ret
            exact ⟨rfl, a1'.trans ho7⟩
          · have e1 : (kd == 1) = false := by rw [beq_eq_false_iff_ne]; exact hkd
            clear hkd PC
            go_wp2_with (first | (go_at_call 5; refine BC'.out.mono ?_; rintro e w5 ⟨rfl, rfl⟩) | (go_at_call 7; refine (DR.out _).mono ?_; rintro e w7 ⟨rfl, ho7⟩))
            go_ret
            exact ⟨rfl, a1'.trans ho7⟩
        · by_cases hkd : kd = 1
          · have e1 : (kd == 1) = true := by rw [beq_iff_eq]; exact hkd
            rw [if_pos hkd] at PC
            clear hkd
            by_cases hz : wrap64 (wrap64 ((n1 : Int) + n) - 1) < 0
            · have E : (if lessOne n1 n < 0 then 0 else lessOne n1 n) = 0 := by unfold lessOne; rw [if_pos hz]
              rw [E] at PC
              clear E
              go_wp2_with (first | (go_at_call 5; refine BC'.out.mono ?_; rintro e w5 ⟨rfl, rfl⟩) | (go_at_call 6; refine (PC.out _).mono ?_; rintro e w6 ⟨rfl, ho6⟩) | (go_at_call 7; refine (DR.out _).mono ?_; rintro e w7 ⟨rfl, ho7⟩))
              go_ret
              exact ⟨rfl, (a1'.trans ho6).trans ho7⟩
            · have E : (if lessOne n1 n < 0 then 0 else lessOne n1 n) = wrap64 (wrap64 ((n1 : Int) + n) - 1) := by unfold lessOne; rw [if_neg hz]
              rw [E] at PC
              clear E
              go_wp2_with (first | (go_at_call 5; refine BC'.out.mono ?_; rintro e w5 ⟨rfl, rfl⟩) | (go_at_call 6; refine (PC.out _).mono ?_; rintro e w6 ⟨rfl, ho6⟩) | (go_at_call 7; refine (DR.out _).mono ?_; rintro e w7 ⟨rfl, ho7⟩))
              go_ret
              exact ⟨rfl, (a1'.trans ho6).trans ho7⟩
          · have e1 : (kd == 1) = false := by rw [beq_eq_false_iff_ne]; exact hkd
            rw [if_neg hkd] at PC
            clear hkd
            go_wp2_with (first | (go_at_call 5; refine BC'.out.mono ?_; rintro e w5 ⟨rfl, rfl⟩) | (go_at_call 6; refine (PC.out _).mono ?_; rintro e w6 ⟨rfl, ho6⟩) | (go_at_call 7; refine (DR.out _).mono ?_; rintro e w7 ⟨rfl, ho7⟩))
            go_ret
            exact ⟨rfl, (a1'.trans ho6).trans ho7⟩

set_option maxRecDepth 100000 in
set_option maxHeartbeats 32000000 in
theorem fb_nc (k : Int) (xs : List Int) (vs : Value) (kd i n : Int) (g : Bool) (a1 : Option Addr) (n1 c1 : Nat) (d : Value) (str : ByteArray) (w : World) (hv : Ints w vs xs) (hl : xs.length ≤ 20) (hk : k < 0) (hs : 0 < sumM xs) (hq : ¬ Int.tdiv 1099511627776 (sumM xs) < 0) :
    Calls Tryz.prog 3 #[.int .i64 k, vs, .agg (cmdC kd i n g (.slice a1 n1 c1) d str).toArray] w fun e w' => e = .returned (.bool true) ∧ Only [] w w' := by
  have hb0 := Blk.new w (cmdC kd i n g (.slice a1 n1 c1) d str) 24
  have AW : Hid (∀ w, Calls Tryz.prog 4 #[] w fun e w' => e = .returned (.bool true) ∧ Only [] w w') := awake38_any
  have DR := Lib.hid drain_any
  have PC : Hid (∀ w, Calls Tryz.prog 6 #[.agg #[.int .i64 kd, .int .i64 i, .int .i64 n, .bool g, .slice a1 n1 c1, d, .string str]] w fun e w' => e = .returned (.int .i64 (if kd = 1 then (if lessOne n1 n < 0 then 0 else lessOne n1 n) else 0)) ∧ Only [] w w') := places_any kd i n g a1 n1 c1 d str
  have hc : clM k = 0 := by unfold clM; rw [if_pos hk]
  have BV : boundOf k xs = 0 := by unfold boundOf; rw [hc]; rw [if_neg (fun h => hq h.2)]; rw [Int.zero_mul]
  have BC : Hid (∀ w', Only [] w w' → Calls Tryz.prog 5 #[.int .i64 k, vs] w' fun e w'' => e = .returned (.int .i64 (0)) ∧ w' = w'') := fun w' ho => by rw [← BV]; exact bound_any k xs vs w' (hv.keep ho) (by omega)
  obtain ⟨b0, b1⟩ := sumM_bounds xs
  have q0 : 0 ≤ Int.tdiv 1099511627776 (sumM xs) := Int.tdiv_nonneg (by omega) (by omega)
  have q1 : Int.tdiv 1099511627776 (sumM xs) ≤ 1099511627776 := by rw [Int.tdiv_eq_ediv_of_nonneg (by omega)]; exact Int.ediv_le_self _ (by omega)
  have HI := Lib.hid hv
  obtain ⟨ad, cap, rfl⟩ : ∃ ad cap, vs = .slice ad xs.length cap := by
    rcases hv with ⟨⟨a, c, rfl⟩, rfl⟩ | ⟨bk, o, c, rfl, _⟩
    · exact ⟨a, c, rfl⟩
    · exact ⟨_, _, rfl⟩
  have l20 : ¬ (20 : Int) < xs.length := by omega
  have HL : Hid ((cmdC kd i n g (.slice a1 n1 c1) d str).length = 7) := rfl
  have f0 : Hid ((cmdC kd i n g (.slice a1 n1 c1) d str)[0]? = some (.int .i64 kd)) := rfl
  have f1 : Hid ((cmdC kd i n g (.slice a1 n1 c1) d str)[1]? = some (.int .i64 i)) := rfl
  have f3 : Hid ((cmdC kd i n g (.slice a1 n1 c1) d str)[3]? = some (.bool g)) := rfl
  have f5 : Hid ((cmdC kd i n g (.slice a1 n1 c1) d str)[5]? = some d) := rfl
  have f6 : Hid ((cmdC kd i n g (.slice a1 n1 c1) d str)[6]? = some (.string str)) := rfl
  have f2 : Hid ((cmdC kd i n g (.slice a1 n1 c1) d str)[2]? = some (.int .i64 n)) := rfl
  have f4 : Hid ((cmdC kd i n g (.slice a1 n1 c1) d str)[4]? = some (.slice a1 n1 c1)) := rfl
  obtain ⟨K, eK⟩ : ∃ K, K = cmdC kd i n g (.slice a1 n1 c1) d str := ⟨_, rfl⟩
  rw [← eK] at hb0 HL f0 f1 f2 f3 f4 f5 f6 ⊢
  obtain ⟨s, es⟩ : ∃ s, s = sumM xs := ⟨_, rfl⟩
  have ES : Hid (sumM xs = s) := es.symm
  rw [← es] at hs hq b0 b1 q0 q1
  clear eK es hv hc BV
  go_enter Tryz.func3, Tryz.ntmps3
  go_wp2_with (go_at_call 4; refine (AW.out _).mono ?_)
  intro e w1 hx
  first | (subst hx; intro ho1) | (obtain ⟨rfl, ho1⟩ := hx)
  have k1 := hb0.keep ho1
  have a1' : Only [] w w1 := ((Only.refl [] w).alloc _).trans ho1
  clear hb0 ho1 AW
  go_wp2_with fail
  go_loopw [7, 8] (fun s i wr => ∃ (j : Nat), j ≤ xs.length ∧ i = .int .i64 (j : Int) ∧ s = .int .i64 (sumM (xs.take j)) ∧ wr = w1) (fun _ i _ => xs.length - (intOf i).toNat)
  case atStart => exact ⟨0, by omega, rfl, rfl, rfl⟩
  case round =>
    obtain ⟨j, hj, rfl, rfl, rfl⟩ := hrel
    by_cases hlt : j < xs.length
    · obtain ⟨bk, o, c, hcc⟩ : ∃ bk o c, ad = some ⟨bk, o, none⟩ ∧ cap = c ∧ wr.cell? ⟨bk, o + j, none⟩ = some (.int .i64 xs[j]) := by
        rcases HI.out with ⟨_, h0⟩ | ⟨bk, o, c, hv, h1, h2, h3⟩
        · subst h0; simp at hlt
        · injection hv with e1 e2 e3
          refine ⟨bk, o, c, e1, e3, ?_⟩
          rw [a1'.cellAt bk (o + j) h2 (by simp)]
          exact h1 j _ (List.getElem?_eq_getElem hlt)
      obtain ⟨rfl, rfl, hcc⟩ := hcc
      have k64 : (j : Int) < xs.length := by omega
      have hS : Hid (sumM (xs.take (j + 1)) = min (sumM (xs.take j) + clM xs[j]) 1099511627776) := by show _ = _; rw [List.take_succ_eq_append_getElem hlt, sumM_snoc]
      obtain ⟨t0, t1⟩ := sumM_bounds (xs.take j)
      obtain ⟨t, et⟩ : ∃ t, t = sumM (xs.take j) := ⟨_, rfl⟩
      rw [← et] at hS t0 t1 ⊢
      obtain ⟨x, ex⟩ : ∃ x, x = xs[j] := ⟨_, rfl⟩
      rw [← ex] at hcc hS
      clear ex et BC PC
      go_wp2_with fail
      all_goals
        go_roundw
        case rel =>
          refine ⟨j + 1, by omega, by go_num, ?_, trivial⟩
          rw [hS.out]
          congr 1
          unfold clM
          split
          · omega
          · split <;> omega
        case measure => simp [intOf]; omega
    · obtain rfl : j = xs.length := by omega
      have HT : Hid (xs.take xs.length = xs) := List.take_length
      rw [HT.out, ES.out]
      have c0 := k1.cell f0.out
      have c1' := k1.cell f1.out
      have c2 := k1.cell f2.out
      have c3 := k1.cell f3.out
      have c5 := k1.cell f5.out
      have c6 := k1.cell f6.out
      have c4 := k1.cell f4.out
      have BC' := Lib.hid (BC.out wr a1')
      clear BC
      have sne : (s == 0) = false := by rw [beq_eq_false_iff_ne]; omega
      by_cases hn1 : 1099511627776 < n
      · by_cases hkd : kd = 1
        · have e1 : (kd == 1) = true := by rw [beq_iff_eq]; exact hkd
          clear hkd PC
          go_wp2_with (first | (go_at_call 5; refine BC'.out.mono ?_; rintro e w5 ⟨rfl, rfl⟩) | (go_at_call 7; refine (DR.out _).mono ?_; rintro e w7 ⟨rfl, ho7⟩))
          go_ret
          exact ⟨rfl, a1'.trans ho7⟩
        · have e1 : (kd == 1) = false := by rw [beq_eq_false_iff_ne]; exact hkd
          clear hkd PC
          go_wp2_with (first | (go_at_call 5; refine BC'.out.mono ?_; rintro e w5 ⟨rfl, rfl⟩) | (go_at_call 7; refine (DR.out _).mono ?_; rintro e w7 ⟨rfl, ho7⟩))
          go_ret
          exact ⟨rfl, a1'.trans ho7⟩
      · by_cases hn2 : n < -1099511627776
        · by_cases hkd : kd = 1
          · have e1 : (kd == 1) = true := by rw [beq_iff_eq]; exact hkd
            clear hkd PC
            go_wp2_with (first | (go_at_call 5; refine BC'.out.mono ?_; rintro e w5 ⟨rfl, rfl⟩) | (go_at_call 7; refine (DR.out _).mono ?_; rintro e w7 ⟨rfl, ho7⟩))
            go_ret
            exact ⟨rfl, a1'.trans ho7⟩
          · have e1 : (kd == 1) = false := by rw [beq_eq_false_iff_ne]; exact hkd
            clear hkd PC
            go_wp2_with (first | (go_at_call 5; refine BC'.out.mono ?_; rintro e w5 ⟨rfl, rfl⟩) | (go_at_call 7; refine (DR.out _).mono ?_; rintro e w7 ⟨rfl, ho7⟩))
            go_ret
            exact ⟨rfl, a1'.trans ho7⟩
        · by_cases hkd : kd = 1
          · have e1 : (kd == 1) = true := by rw [beq_iff_eq]; exact hkd
            rw [if_pos hkd] at PC
            clear hkd
            by_cases hz : wrap64 (wrap64 ((n1 : Int) + n) - 1) < 0
            · have E : (if lessOne n1 n < 0 then 0 else lessOne n1 n) = 0 := by unfold lessOne; rw [if_pos hz]
              rw [E] at PC
              clear E
              go_wp2_with (first | (go_at_call 5; refine BC'.out.mono ?_; rintro e w5 ⟨rfl, rfl⟩) | (go_at_call 6; refine (PC.out _).mono ?_; rintro e w6 ⟨rfl, ho6⟩) | (go_at_call 7; refine (DR.out _).mono ?_; rintro e w7 ⟨rfl, ho7⟩))
              go_ret
              exact ⟨rfl, (a1'.trans ho6).trans ho7⟩
            · have E : (if lessOne n1 n < 0 then 0 else lessOne n1 n) = wrap64 (wrap64 ((n1 : Int) + n) - 1) := by unfold lessOne; rw [if_neg hz]
              rw [E] at PC
              clear E
              go_wp2_with (first | (go_at_call 5; refine BC'.out.mono ?_; rintro e w5 ⟨rfl, rfl⟩) | (go_at_call 6; refine (PC.out _).mono ?_; rintro e w6 ⟨rfl, ho6⟩) | (go_at_call 7; refine (DR.out _).mono ?_; rintro e w7 ⟨rfl, ho7⟩))
              go_ret
              exact ⟨rfl, (a1'.trans ho6).trans ho7⟩
          · have e1 : (kd == 1) = false := by rw [beq_eq_false_iff_ne]; exact hkd
            rw [if_neg hkd] at PC
            clear hkd
            go_wp2_with (first | (go_at_call 5; refine BC'.out.mono ?_; rintro e w5 ⟨rfl, rfl⟩) | (go_at_call 6; refine (PC.out _).mono ?_; rintro e w6 ⟨rfl, ho6⟩) | (go_at_call 7; refine (DR.out _).mono ?_; rintro e w7 ⟨rfl, ho7⟩))
            go_ret
            exact ⟨rfl, (a1'.trans ho6).trans ho7⟩

set_option maxRecDepth 100000 in
set_option maxHeartbeats 32000000 in
theorem fb_ga (k : Int) (xs : List Int) (vs : Value) (kd i n : Int) (g : Bool) (a1 : Option Addr) (n1 c1 : Nat) (d : Value) (str : ByteArray) (w : World) (hv : Ints w vs xs) (hl : xs.length ≤ 20) (hk : 1099511627776 < k) (hs : sumM xs = 0) :
    Calls Tryz.prog 3 #[.int .i64 k, vs, .agg (cmdC kd i n g (.slice a1 n1 c1) d str).toArray] w fun e w' => e = .returned (.bool true) ∧ Only [] w w' := by
  have hb0 := Blk.new w (cmdC kd i n g (.slice a1 n1 c1) d str) 24
  have AW : Hid (∀ w, Calls Tryz.prog 4 #[] w fun e w' => e = .returned (.bool true) ∧ Only [] w w') := awake38_any
  have DR := Lib.hid drain_any
  have PC : Hid (∀ w, Calls Tryz.prog 6 #[.agg #[.int .i64 kd, .int .i64 i, .int .i64 n, .bool g, .slice a1 n1 c1, d, .string str]] w fun e w' => e = .returned (.int .i64 (if kd = 1 then (if lessOne n1 n < 0 then 0 else lessOne n1 n) else 0)) ∧ Only [] w w') := places_any kd i n g a1 n1 c1 d str
  have hc : clM k = 1099511627776 := by unfold clM; rw [if_neg (by omega), if_pos hk]
  have BV : boundOf k xs = 0 := by unfold boundOf; rw [hc]; rw [if_neg (by omega), hs, Int.mul_zero]
  have BC : Hid (∀ w', Only [] w w' → Calls Tryz.prog 5 #[.int .i64 k, vs] w' fun e w'' => e = .returned (.int .i64 (0)) ∧ w' = w'') := fun w' ho => by rw [← BV]; exact bound_any k xs vs w' (hv.keep ho) (by omega)
  have HI := Lib.hid hv
  obtain ⟨ad, cap, rfl⟩ : ∃ ad cap, vs = .slice ad xs.length cap := by
    rcases hv with ⟨⟨a, c, rfl⟩, rfl⟩ | ⟨bk, o, c, rfl, _⟩
    · exact ⟨a, c, rfl⟩
    · exact ⟨_, _, rfl⟩
  have l20 : ¬ (20 : Int) < xs.length := by omega
  have HL : Hid ((cmdC kd i n g (.slice a1 n1 c1) d str).length = 7) := rfl
  have f0 : Hid ((cmdC kd i n g (.slice a1 n1 c1) d str)[0]? = some (.int .i64 kd)) := rfl
  have f1 : Hid ((cmdC kd i n g (.slice a1 n1 c1) d str)[1]? = some (.int .i64 i)) := rfl
  have f3 : Hid ((cmdC kd i n g (.slice a1 n1 c1) d str)[3]? = some (.bool g)) := rfl
  have f5 : Hid ((cmdC kd i n g (.slice a1 n1 c1) d str)[5]? = some d) := rfl
  have f6 : Hid ((cmdC kd i n g (.slice a1 n1 c1) d str)[6]? = some (.string str)) := rfl
  have f2 : Hid ((cmdC kd i n g (.slice a1 n1 c1) d str)[2]? = some (.int .i64 n)) := rfl
  have f4 : Hid ((cmdC kd i n g (.slice a1 n1 c1) d str)[4]? = some (.slice a1 n1 c1)) := rfl
  obtain ⟨K, eK⟩ : ∃ K, K = cmdC kd i n g (.slice a1 n1 c1) d str := ⟨_, rfl⟩
  rw [← eK] at hb0 HL f0 f1 f2 f3 f4 f5 f6 ⊢
  obtain ⟨s, es⟩ : ∃ s, s = sumM xs := ⟨_, rfl⟩
  have ES : Hid (sumM xs = s) := es.symm
  rw [← es] at hs
  clear eK es hv hc BV
  go_enter Tryz.func3, Tryz.ntmps3
  go_wp2_with (go_at_call 4; refine (AW.out _).mono ?_)
  intro e w1 hx
  first | (subst hx; intro ho1) | (obtain ⟨rfl, ho1⟩ := hx)
  have k1 := hb0.keep ho1
  have a1' : Only [] w w1 := ((Only.refl [] w).alloc _).trans ho1
  clear hb0 ho1 AW
  go_wp2_with fail
  go_loopw [7, 8] (fun s i wr => ∃ (j : Nat), j ≤ xs.length ∧ i = .int .i64 (j : Int) ∧ s = .int .i64 (sumM (xs.take j)) ∧ wr = w1) (fun _ i _ => xs.length - (intOf i).toNat)
  case atStart => exact ⟨0, by omega, rfl, rfl, rfl⟩
  case round =>
    obtain ⟨j, hj, rfl, rfl, rfl⟩ := hrel
    by_cases hlt : j < xs.length
    · obtain ⟨bk, o, c, hcc⟩ : ∃ bk o c, ad = some ⟨bk, o, none⟩ ∧ cap = c ∧ wr.cell? ⟨bk, o + j, none⟩ = some (.int .i64 xs[j]) := by
        rcases HI.out with ⟨_, h0⟩ | ⟨bk, o, c, hv, h1, h2, h3⟩
        · subst h0; simp at hlt
        · injection hv with e1 e2 e3
          refine ⟨bk, o, c, e1, e3, ?_⟩
          rw [a1'.cellAt bk (o + j) h2 (by simp)]
          exact h1 j _ (List.getElem?_eq_getElem hlt)
      obtain ⟨rfl, rfl, hcc⟩ := hcc
      have k64 : (j : Int) < xs.length := by omega
      have hS : Hid (sumM (xs.take (j + 1)) = min (sumM (xs.take j) + clM xs[j]) 1099511627776) := by show _ = _; rw [List.take_succ_eq_append_getElem hlt, sumM_snoc]
      obtain ⟨t0, t1⟩ := sumM_bounds (xs.take j)
      obtain ⟨t, et⟩ : ∃ t, t = sumM (xs.take j) := ⟨_, rfl⟩
      rw [← et] at hS t0 t1 ⊢
      obtain ⟨x, ex⟩ : ∃ x, x = xs[j] := ⟨_, rfl⟩
      rw [← ex] at hcc hS
      clear ex et BC PC
      go_wp2_with fail
      all_goals
        go_roundw
        case rel =>
          refine ⟨j + 1, by omega, by go_num, ?_, trivial⟩
          rw [hS.out]
          congr 1
          unfold clM
          split
          · omega
          · split <;> omega
        case measure => simp [intOf]; omega
    · obtain rfl : j = xs.length := by omega
      have HT : Hid (xs.take xs.length = xs) := List.take_length
      rw [HT.out, ES.out]
      have c0 := k1.cell f0.out
      have c1' := k1.cell f1.out
      have c2 := k1.cell f2.out
      have c3 := k1.cell f3.out
      have c5 := k1.cell f5.out
      have c6 := k1.cell f6.out
      have c4 := k1.cell f4.out
      have BC' := Lib.hid (BC.out wr a1')
      clear BC
      subst hs
      by_cases hn1 : 1099511627776 < n
      · by_cases hkd : kd = 1
        · have e1 : (kd == 1) = true := by rw [beq_iff_eq]; exact hkd
          clear hkd PC
          go_wp2_with (first | (go_at_call 5; refine BC'.out.mono ?_; rintro e w5 ⟨rfl, rfl⟩) | (go_at_call 7; refine (DR.out _).mono ?_; rintro e w7 ⟨rfl, ho7⟩))
          go_ret
          exact ⟨rfl, a1'.trans ho7⟩
        · have e1 : (kd == 1) = false := by rw [beq_eq_false_iff_ne]; exact hkd
          clear hkd PC
          go_wp2_with (first | (go_at_call 5; refine BC'.out.mono ?_; rintro e w5 ⟨rfl, rfl⟩) | (go_at_call 7; refine (DR.out _).mono ?_; rintro e w7 ⟨rfl, ho7⟩))
          go_ret
          exact ⟨rfl, a1'.trans ho7⟩
      · by_cases hn2 : n < -1099511627776
        · by_cases hkd : kd = 1
          · have e1 : (kd == 1) = true := by rw [beq_iff_eq]; exact hkd
            clear hkd PC
            go_wp2_with (first | (go_at_call 5; refine BC'.out.mono ?_; rintro e w5 ⟨rfl, rfl⟩) | (go_at_call 7; refine (DR.out _).mono ?_; rintro e w7 ⟨rfl, ho7⟩))
            go_ret
            exact ⟨rfl, a1'.trans ho7⟩
          · have e1 : (kd == 1) = false := by rw [beq_eq_false_iff_ne]; exact hkd
            clear hkd PC
            go_wp2_with (first | (go_at_call 5; refine BC'.out.mono ?_; rintro e w5 ⟨rfl, rfl⟩) | (go_at_call 7; refine (DR.out _).mono ?_; rintro e w7 ⟨rfl, ho7⟩))
            go_ret
            exact ⟨rfl, a1'.trans ho7⟩
        · by_cases hkd : kd = 1
          · have e1 : (kd == 1) = true := by rw [beq_iff_eq]; exact hkd
            rw [if_pos hkd] at PC
            clear hkd
            by_cases hz : wrap64 (wrap64 ((n1 : Int) + n) - 1) < 0
            · have E : (if lessOne n1 n < 0 then 0 else lessOne n1 n) = 0 := by unfold lessOne; rw [if_pos hz]
              rw [E] at PC
              clear E
              go_wp2_with (first | (go_at_call 5; refine BC'.out.mono ?_; rintro e w5 ⟨rfl, rfl⟩) | (go_at_call 6; refine (PC.out _).mono ?_; rintro e w6 ⟨rfl, ho6⟩) | (go_at_call 7; refine (DR.out _).mono ?_; rintro e w7 ⟨rfl, ho7⟩))
              go_ret
              exact ⟨rfl, (a1'.trans ho6).trans ho7⟩
            · have E : (if lessOne n1 n < 0 then 0 else lessOne n1 n) = wrap64 (wrap64 ((n1 : Int) + n) - 1) := by unfold lessOne; rw [if_neg hz]
              rw [E] at PC
              clear E
              go_wp2_with (first | (go_at_call 5; refine BC'.out.mono ?_; rintro e w5 ⟨rfl, rfl⟩) | (go_at_call 6; refine (PC.out _).mono ?_; rintro e w6 ⟨rfl, ho6⟩) | (go_at_call 7; refine (DR.out _).mono ?_; rintro e w7 ⟨rfl, ho7⟩))
              go_ret
              exact ⟨rfl, (a1'.trans ho6).trans ho7⟩
          · have e1 : (kd == 1) = false := by rw [beq_eq_false_iff_ne]; exact hkd
            rw [if_neg hkd] at PC
            clear hkd
            go_wp2_with (first | (go_at_call 5; refine BC'.out.mono ?_; rintro e w5 ⟨rfl, rfl⟩) | (go_at_call 6; refine (PC.out _).mono ?_; rintro e w6 ⟨rfl, ho6⟩) | (go_at_call 7; refine (DR.out _).mono ?_; rintro e w7 ⟨rfl, ho7⟩))
            go_ret
            exact ⟨rfl, (a1'.trans ho6).trans ho7⟩

set_option maxRecDepth 100000 in
set_option maxHeartbeats 32000000 in
theorem fb_gb (k : Int) (xs : List Int) (vs : Value) (kd i n : Int) (g : Bool) (a1 : Option Addr) (n1 c1 : Nat) (d : Value) (str : ByteArray) (w : World) (hv : Ints w vs xs) (hl : xs.length ≤ 20) (hk : 1099511627776 < k) (hs : 0 < sumM xs) (hq : Int.tdiv 1099511627776 (sumM xs) < 1099511627776) :
    Calls Tryz.prog 3 #[.int .i64 k, vs, .agg (cmdC kd i n g (.slice a1 n1 c1) d str).toArray] w fun e w' => e = .returned (.bool true) ∧ Only [] w w' := by
  have hb0 := Blk.new w (cmdC kd i n g (.slice a1 n1 c1) d str) 24
  have AW : Hid (∀ w, Calls Tryz.prog 4 #[] w fun e w' => e = .returned (.bool true) ∧ Only [] w w') := awake38_any
  have DR := Lib.hid drain_any
  have PC : Hid (∀ w, Calls Tryz.prog 6 #[.agg #[.int .i64 kd, .int .i64 i, .int .i64 n, .bool g, .slice a1 n1 c1, d, .string str]] w fun e w' => e = .returned (.int .i64 (if kd = 1 then (if lessOne n1 n < 0 then 0 else lessOne n1 n) else 0)) ∧ Only [] w w') := places_any kd i n g a1 n1 c1 d str
  have hc : clM k = 1099511627776 := by unfold clM; rw [if_neg (by omega), if_pos hk]
  have BV : boundOf k xs = 1099511627776 := by unfold boundOf; rw [hc]; rw [if_pos ⟨hs, hq⟩]
  have BC : Hid (∀ w', Only [] w w' → Calls Tryz.prog 5 #[.int .i64 k, vs] w' fun e w'' => e = .returned (.int .i64 (1099511627776)) ∧ w' = w'') := fun w' ho => by rw [← BV]; exact bound_any k xs vs w' (hv.keep ho) (by omega)
  obtain ⟨b0, b1⟩ := sumM_bounds xs
  have q0 : 0 ≤ Int.tdiv 1099511627776 (sumM xs) := Int.tdiv_nonneg (by omega) (by omega)
  have q1 : Int.tdiv 1099511627776 (sumM xs) ≤ 1099511627776 := by rw [Int.tdiv_eq_ediv_of_nonneg (by omega)]; exact Int.ediv_le_self _ (by omega)
  have HI := Lib.hid hv
  obtain ⟨ad, cap, rfl⟩ : ∃ ad cap, vs = .slice ad xs.length cap := by
    rcases hv with ⟨⟨a, c, rfl⟩, rfl⟩ | ⟨bk, o, c, rfl, _⟩
    · exact ⟨a, c, rfl⟩
    · exact ⟨_, _, rfl⟩
  have l20 : ¬ (20 : Int) < xs.length := by omega
  have HL : Hid ((cmdC kd i n g (.slice a1 n1 c1) d str).length = 7) := rfl
  have f0 : Hid ((cmdC kd i n g (.slice a1 n1 c1) d str)[0]? = some (.int .i64 kd)) := rfl
  have f1 : Hid ((cmdC kd i n g (.slice a1 n1 c1) d str)[1]? = some (.int .i64 i)) := rfl
  have f3 : Hid ((cmdC kd i n g (.slice a1 n1 c1) d str)[3]? = some (.bool g)) := rfl
  have f5 : Hid ((cmdC kd i n g (.slice a1 n1 c1) d str)[5]? = some d) := rfl
  have f6 : Hid ((cmdC kd i n g (.slice a1 n1 c1) d str)[6]? = some (.string str)) := rfl
  have f2 : Hid ((cmdC kd i n g (.slice a1 n1 c1) d str)[2]? = some (.int .i64 n)) := rfl
  have f4 : Hid ((cmdC kd i n g (.slice a1 n1 c1) d str)[4]? = some (.slice a1 n1 c1)) := rfl
  obtain ⟨K, eK⟩ : ∃ K, K = cmdC kd i n g (.slice a1 n1 c1) d str := ⟨_, rfl⟩
  rw [← eK] at hb0 HL f0 f1 f2 f3 f4 f5 f6 ⊢
  obtain ⟨s, es⟩ : ∃ s, s = sumM xs := ⟨_, rfl⟩
  have ES : Hid (sumM xs = s) := es.symm
  rw [← es] at hs hq b0 b1 q0 q1
  clear eK es hv hc BV
  go_enter Tryz.func3, Tryz.ntmps3
  go_wp2_with (go_at_call 4; refine (AW.out _).mono ?_)
  intro e w1 hx
  first | (subst hx; intro ho1) | (obtain ⟨rfl, ho1⟩ := hx)
  have k1 := hb0.keep ho1
  have a1' : Only [] w w1 := ((Only.refl [] w).alloc _).trans ho1
  clear hb0 ho1 AW
  go_wp2_with fail
  go_loopw [7, 8] (fun s i wr => ∃ (j : Nat), j ≤ xs.length ∧ i = .int .i64 (j : Int) ∧ s = .int .i64 (sumM (xs.take j)) ∧ wr = w1) (fun _ i _ => xs.length - (intOf i).toNat)
  case atStart => exact ⟨0, by omega, rfl, rfl, rfl⟩
  case round =>
    obtain ⟨j, hj, rfl, rfl, rfl⟩ := hrel
    by_cases hlt : j < xs.length
    · obtain ⟨bk, o, c, hcc⟩ : ∃ bk o c, ad = some ⟨bk, o, none⟩ ∧ cap = c ∧ wr.cell? ⟨bk, o + j, none⟩ = some (.int .i64 xs[j]) := by
        rcases HI.out with ⟨_, h0⟩ | ⟨bk, o, c, hv, h1, h2, h3⟩
        · subst h0; simp at hlt
        · injection hv with e1 e2 e3
          refine ⟨bk, o, c, e1, e3, ?_⟩
          rw [a1'.cellAt bk (o + j) h2 (by simp)]
          exact h1 j _ (List.getElem?_eq_getElem hlt)
      obtain ⟨rfl, rfl, hcc⟩ := hcc
      have k64 : (j : Int) < xs.length := by omega
      have hS : Hid (sumM (xs.take (j + 1)) = min (sumM (xs.take j) + clM xs[j]) 1099511627776) := by show _ = _; rw [List.take_succ_eq_append_getElem hlt, sumM_snoc]
      obtain ⟨t0, t1⟩ := sumM_bounds (xs.take j)
      obtain ⟨t, et⟩ : ∃ t, t = sumM (xs.take j) := ⟨_, rfl⟩
      rw [← et] at hS t0 t1 ⊢
      obtain ⟨x, ex⟩ : ∃ x, x = xs[j] := ⟨_, rfl⟩
      rw [← ex] at hcc hS
      clear ex et BC PC
      go_wp2_with fail
      all_goals
        go_roundw
        case rel =>
          refine ⟨j + 1, by omega, by go_num, ?_, trivial⟩
          rw [hS.out]
          congr 1
          unfold clM
          split
          · omega
          · split <;> omega
        case measure => simp [intOf]; omega
    · obtain rfl : j = xs.length := by omega
      have HT : Hid (xs.take xs.length = xs) := List.take_length
      rw [HT.out, ES.out]
      have c0 := k1.cell f0.out
      have c1' := k1.cell f1.out
      have c2 := k1.cell f2.out
      have c3 := k1.cell f3.out
      have c5 := k1.cell f5.out
      have c6 := k1.cell f6.out
      have c4 := k1.cell f4.out
      have BC' := Lib.hid (BC.out wr a1')
      clear BC
      have sne : (s == 0) = false := by rw [beq_eq_false_iff_ne]; omega
      by_cases hn1 : 1099511627776 < n
      · by_cases hkd : kd = 1
        · have e1 : (kd == 1) = true := by rw [beq_iff_eq]; exact hkd
          clear hkd PC
          go_wp2_with (first | (go_at_call 5; refine BC'.out.mono ?_; rintro e w5 ⟨rfl, rfl⟩) | (go_at_call 7; refine (DR.out _).mono ?_; rintro e w7 ⟨rfl, ho7⟩))
          go_ret
          exact ⟨rfl, a1'.trans ho7⟩
        · have e1 : (kd == 1) = false := by rw [beq_eq_false_iff_ne]; exact hkd
          clear hkd PC
          go_wp2_with (first | (go_at_call 5; refine BC'.out.mono ?_; rintro e w5 ⟨rfl, rfl⟩) | (go_at_call 7; refine (DR.out _).mono ?_; rintro e w7 ⟨rfl, ho7⟩))
          go_ret
          exact ⟨rfl, a1'.trans ho7⟩
      · by_cases hn2 : n < -1099511627776
        · by_cases hkd : kd = 1
          · have e1 : (kd == 1) = true := by rw [beq_iff_eq]; exact hkd
            clear hkd PC
            go_wp2_with (first | (go_at_call 5; refine BC'.out.mono ?_; rintro e w5 ⟨rfl, rfl⟩) | (go_at_call 7; refine (DR.out _).mono ?_; rintro e w7 ⟨rfl, ho7⟩))
            go_ret
            exact ⟨rfl, a1'.trans ho7⟩
          · have e1 : (kd == 1) = false := by rw [beq_eq_false_iff_ne]; exact hkd
            clear hkd PC
            go_wp2_with (first | (go_at_call 5; refine BC'.out.mono ?_; rintro e w5 ⟨rfl, rfl⟩) | (go_at_call 7; refine (DR.out _).mono ?_; rintro e w7 ⟨rfl, ho7⟩))
            go_ret
            exact ⟨rfl, a1'.trans ho7⟩
        · by_cases hkd : kd = 1
          · have e1 : (kd == 1) = true := by rw [beq_iff_eq]; exact hkd
            rw [if_pos hkd] at PC
            clear hkd
            by_cases hz : wrap64 (wrap64 ((n1 : Int) + n) - 1) < 0
            · have E : (if lessOne n1 n < 0 then 0 else lessOne n1 n) = 0 := by unfold lessOne; rw [if_pos hz]
              rw [E] at PC
              clear E
              go_wp2_with (first | (go_at_call 5; refine BC'.out.mono ?_; rintro e w5 ⟨rfl, rfl⟩) | (go_at_call 6; refine (PC.out _).mono ?_; rintro e w6 ⟨rfl, ho6⟩) | (go_at_call 7; refine (DR.out _).mono ?_; rintro e w7 ⟨rfl, ho7⟩))
              go_ret
              exact ⟨rfl, (a1'.trans ho6).trans ho7⟩
            · have E : (if lessOne n1 n < 0 then 0 else lessOne n1 n) = wrap64 (wrap64 ((n1 : Int) + n) - 1) := by unfold lessOne; rw [if_neg hz]
              rw [E] at PC
              clear E
              go_wp2_with (first | (go_at_call 5; refine BC'.out.mono ?_; rintro e w5 ⟨rfl, rfl⟩) | (go_at_call 6; refine (PC.out _).mono ?_; rintro e w6 ⟨rfl, ho6⟩) | (go_at_call 7; refine (DR.out _).mono ?_; rintro e w7 ⟨rfl, ho7⟩))
              go_ret
              exact ⟨rfl, (a1'.trans ho6).trans ho7⟩
          · have e1 : (kd == 1) = false := by rw [beq_eq_false_iff_ne]; exact hkd
            rw [if_neg hkd] at PC
            clear hkd
            go_wp2_with (first | (go_at_call 5; refine BC'.out.mono ?_; rintro e w5 ⟨rfl, rfl⟩) | (go_at_call 6; refine (PC.out _).mono ?_; rintro e w6 ⟨rfl, ho6⟩) | (go_at_call 7; refine (DR.out _).mono ?_; rintro e w7 ⟨rfl, ho7⟩))
            go_ret
            exact ⟨rfl, (a1'.trans ho6).trans ho7⟩

set_option maxRecDepth 100000 in
set_option maxHeartbeats 32000000 in
theorem fb_gc (k : Int) (xs : List Int) (vs : Value) (kd i n : Int) (g : Bool) (a1 : Option Addr) (n1 c1 : Nat) (d : Value) (str : ByteArray) (w : World) (hv : Ints w vs xs) (hl : xs.length ≤ 20) (hk : 1099511627776 < k) (hs : 0 < sumM xs) (hq : ¬ Int.tdiv 1099511627776 (sumM xs) < 1099511627776) :
    Calls Tryz.prog 3 #[.int .i64 k, vs, .agg (cmdC kd i n g (.slice a1 n1 c1) d str).toArray] w fun e w' => e = .returned (.bool true) ∧ Only [] w w' := by
  have hb0 := Blk.new w (cmdC kd i n g (.slice a1 n1 c1) d str) 24
  have AW : Hid (∀ w, Calls Tryz.prog 4 #[] w fun e w' => e = .returned (.bool true) ∧ Only [] w w') := awake38_any
  have DR := Lib.hid drain_any
  have PC : Hid (∀ w, Calls Tryz.prog 6 #[.agg #[.int .i64 kd, .int .i64 i, .int .i64 n, .bool g, .slice a1 n1 c1, d, .string str]] w fun e w' => e = .returned (.int .i64 (if kd = 1 then (if lessOne n1 n < 0 then 0 else lessOne n1 n) else 0)) ∧ Only [] w w') := places_any kd i n g a1 n1 c1 d str
  have hc : clM k = 1099511627776 := by unfold clM; rw [if_neg (by omega), if_pos hk]
  have BV : boundOf k xs = 1099511627776 * sumM xs := by unfold boundOf; rw [hc]; rw [if_neg (fun h => hq h.2)]
  have BC : Hid (∀ w', Only [] w w' → Calls Tryz.prog 5 #[.int .i64 k, vs] w' fun e w'' => e = .returned (.int .i64 (1099511627776 * sumM xs)) ∧ w' = w'') := fun w' ho => by rw [← BV]; exact bound_any k xs vs w' (hv.keep ho) (by omega)
  obtain ⟨b0, b1⟩ := sumM_bounds xs
  have q0 : 0 ≤ Int.tdiv 1099511627776 (sumM xs) := Int.tdiv_nonneg (by omega) (by omega)
  have q1 : Int.tdiv 1099511627776 (sumM xs) ≤ 1099511627776 := by rw [Int.tdiv_eq_ediv_of_nonneg (by omega)]; exact Int.ediv_le_self _ (by omega)
  have p0 : 0 ≤ 1099511627776 * sumM xs := Int.mul_nonneg (by omega) b0
  have p1 : 1099511627776 * sumM xs ≤ 1099511627776 := tdiv_le (sumM xs) (1099511627776) hs hq
  have HI := Lib.hid hv
  obtain ⟨ad, cap, rfl⟩ : ∃ ad cap, vs = .slice ad xs.length cap := by
    rcases hv with ⟨⟨a, c, rfl⟩, rfl⟩ | ⟨bk, o, c, rfl, _⟩
    · exact ⟨a, c, rfl⟩
    · exact ⟨_, _, rfl⟩
  have l20 : ¬ (20 : Int) < xs.length := by omega
  have HL : Hid ((cmdC kd i n g (.slice a1 n1 c1) d str).length = 7) := rfl
  have f0 : Hid ((cmdC kd i n g (.slice a1 n1 c1) d str)[0]? = some (.int .i64 kd)) := rfl
  have f1 : Hid ((cmdC kd i n g (.slice a1 n1 c1) d str)[1]? = some (.int .i64 i)) := rfl
  have f3 : Hid ((cmdC kd i n g (.slice a1 n1 c1) d str)[3]? = some (.bool g)) := rfl
  have f5 : Hid ((cmdC kd i n g (.slice a1 n1 c1) d str)[5]? = some d) := rfl
  have f6 : Hid ((cmdC kd i n g (.slice a1 n1 c1) d str)[6]? = some (.string str)) := rfl
  have f2 : Hid ((cmdC kd i n g (.slice a1 n1 c1) d str)[2]? = some (.int .i64 n)) := rfl
  have f4 : Hid ((cmdC kd i n g (.slice a1 n1 c1) d str)[4]? = some (.slice a1 n1 c1)) := rfl
  obtain ⟨K, eK⟩ : ∃ K, K = cmdC kd i n g (.slice a1 n1 c1) d str := ⟨_, rfl⟩
  rw [← eK] at hb0 HL f0 f1 f2 f3 f4 f5 f6 ⊢
  obtain ⟨s, es⟩ : ∃ s, s = sumM xs := ⟨_, rfl⟩
  have ES : Hid (sumM xs = s) := es.symm
  rw [← es] at hs hq b0 b1 q0 q1 BC p0 p1
  clear eK es hv hc BV
  go_enter Tryz.func3, Tryz.ntmps3
  go_wp2_with (go_at_call 4; refine (AW.out _).mono ?_)
  intro e w1 hx
  first | (subst hx; intro ho1) | (obtain ⟨rfl, ho1⟩ := hx)
  have k1 := hb0.keep ho1
  have a1' : Only [] w w1 := ((Only.refl [] w).alloc _).trans ho1
  clear hb0 ho1 AW
  go_wp2_with fail
  go_loopw [7, 8] (fun s i wr => ∃ (j : Nat), j ≤ xs.length ∧ i = .int .i64 (j : Int) ∧ s = .int .i64 (sumM (xs.take j)) ∧ wr = w1) (fun _ i _ => xs.length - (intOf i).toNat)
  case atStart => exact ⟨0, by omega, rfl, rfl, rfl⟩
  case round =>
    obtain ⟨j, hj, rfl, rfl, rfl⟩ := hrel
    by_cases hlt : j < xs.length
    · obtain ⟨bk, o, c, hcc⟩ : ∃ bk o c, ad = some ⟨bk, o, none⟩ ∧ cap = c ∧ wr.cell? ⟨bk, o + j, none⟩ = some (.int .i64 xs[j]) := by
        rcases HI.out with ⟨_, h0⟩ | ⟨bk, o, c, hv, h1, h2, h3⟩
        · subst h0; simp at hlt
        · injection hv with e1 e2 e3
          refine ⟨bk, o, c, e1, e3, ?_⟩
          rw [a1'.cellAt bk (o + j) h2 (by simp)]
          exact h1 j _ (List.getElem?_eq_getElem hlt)
      obtain ⟨rfl, rfl, hcc⟩ := hcc
      have k64 : (j : Int) < xs.length := by omega
      have hS : Hid (sumM (xs.take (j + 1)) = min (sumM (xs.take j) + clM xs[j]) 1099511627776) := by show _ = _; rw [List.take_succ_eq_append_getElem hlt, sumM_snoc]
      obtain ⟨t0, t1⟩ := sumM_bounds (xs.take j)
      obtain ⟨t, et⟩ : ∃ t, t = sumM (xs.take j) := ⟨_, rfl⟩
      rw [← et] at hS t0 t1 ⊢
      obtain ⟨x, ex⟩ : ∃ x, x = xs[j] := ⟨_, rfl⟩
      rw [← ex] at hcc hS
      clear ex et BC PC
      go_wp2_with fail
      all_goals
        go_roundw
        case rel =>
          refine ⟨j + 1, by omega, by go_num, ?_, trivial⟩
          rw [hS.out]
          congr 1
          unfold clM
          split
          · omega
          · split <;> omega
        case measure => simp [intOf]; omega
    · obtain rfl : j = xs.length := by omega
      have HT : Hid (xs.take xs.length = xs) := List.take_length
      rw [HT.out, ES.out]
      have c0 := k1.cell f0.out
      have c1' := k1.cell f1.out
      have c2 := k1.cell f2.out
      have c3 := k1.cell f3.out
      have c5 := k1.cell f5.out
      have c6 := k1.cell f6.out
      have c4 := k1.cell f4.out
      have BC' := Lib.hid (BC.out wr a1')
      clear BC
      have sne : (s == 0) = false := by rw [beq_eq_false_iff_ne]; omega
      by_cases hn1 : 1099511627776 < n
      · by_cases hkd : kd = 1
        · have e1 : (kd == 1) = true := by rw [beq_iff_eq]; exact hkd
          clear hkd PC
          go_wp2_with (first | (go_at_call 5; refine BC'.out.mono ?_; rintro e w5 ⟨rfl, rfl⟩) | (go_at_call 7; refine (DR.out _).mono ?_; rintro e w7 ⟨rfl, ho7⟩))
          go_ret
          exact ⟨rfl, a1'.trans ho7⟩
        · have e1 : (kd == 1) = false := by rw [beq_eq_false_iff_ne]; exact hkd
          clear hkd PC
          go_wp2_with (first | (go_at_call 5; refine BC'.out.mono ?_; rintro e w5 ⟨rfl, rfl⟩) | (go_at_call 7; refine (DR.out _).mono ?_; rintro e w7 ⟨rfl, ho7⟩))
          go_ret
          exact ⟨rfl, a1'.trans ho7⟩
      · by_cases hn2 : n < -1099511627776
        · by_cases hkd : kd = 1
          · have e1 : (kd == 1) = true := by rw [beq_iff_eq]; exact hkd
            clear hkd PC
            go_wp2_with (first | (go_at_call 5; refine BC'.out.mono ?_; rintro e w5 ⟨rfl, rfl⟩) | (go_at_call 7; refine (DR.out _).mono ?_; rintro e w7 ⟨rfl, ho7⟩))
            go_ret
            exact ⟨rfl, a1'.trans ho7⟩
          · have e1 : (kd == 1) = false := by rw [beq_eq_false_iff_ne]; exact hkd
            clear hkd PC
            go_wp2_with (first | (go_at_call 5; refine BC'.out.mono ?_; rintro e w5 ⟨rfl, rfl⟩) | (go_at_call 7; refine (DR.out _).mono ?_; rintro e w7 ⟨rfl, ho7⟩))
            go_ret
            exact ⟨rfl, a1'.trans ho7⟩
        · by_cases hkd : kd = 1
          · have e1 : (kd == 1) = true := by rw [beq_iff_eq]; exact hkd
            rw [if_pos hkd] at PC
            clear hkd
            by_cases hz : wrap64 (wrap64 ((n1 : Int) + n) - 1) < 0
            · have E : (if lessOne n1 n < 0 then 0 else lessOne n1 n) = 0 := by unfold lessOne; rw [if_pos hz]
              rw [E] at PC
              clear E
              go_wp2_with (first | (go_at_call 5; refine BC'.out.mono ?_; rintro e w5 ⟨rfl, rfl⟩) | (go_at_call 6; refine (PC.out _).mono ?_; rintro e w6 ⟨rfl, ho6⟩) | (go_at_call 7; refine (DR.out _).mono ?_; rintro e w7 ⟨rfl, ho7⟩))
              go_ret
              exact ⟨rfl, (a1'.trans ho6).trans ho7⟩
            · have E : (if lessOne n1 n < 0 then 0 else lessOne n1 n) = wrap64 (wrap64 ((n1 : Int) + n) - 1) := by unfold lessOne; rw [if_neg hz]
              rw [E] at PC
              clear E
              go_wp2_with (first | (go_at_call 5; refine BC'.out.mono ?_; rintro e w5 ⟨rfl, rfl⟩) | (go_at_call 6; refine (PC.out _).mono ?_; rintro e w6 ⟨rfl, ho6⟩) | (go_at_call 7; refine (DR.out _).mono ?_; rintro e w7 ⟨rfl, ho7⟩))
              go_ret
              exact ⟨rfl, (a1'.trans ho6).trans ho7⟩
          · have e1 : (kd == 1) = false := by rw [beq_eq_false_iff_ne]; exact hkd
            rw [if_neg hkd] at PC
            clear hkd
            go_wp2_with (first | (go_at_call 5; refine BC'.out.mono ?_; rintro e w5 ⟨rfl, rfl⟩) | (go_at_call 6; refine (PC.out _).mono ?_; rintro e w6 ⟨rfl, ho6⟩) | (go_at_call 7; refine (DR.out _).mono ?_; rintro e w7 ⟨rfl, ho7⟩))
            go_ret
            exact ⟨rfl, (a1'.trans ho6).trans ho7⟩

set_option maxRecDepth 100000 in
set_option maxHeartbeats 32000000 in
theorem fb_ia (k : Int) (xs : List Int) (vs : Value) (kd i n : Int) (g : Bool) (a1 : Option Addr) (n1 c1 : Nat) (d : Value) (str : ByteArray) (w : World) (hv : Ints w vs xs) (hl : xs.length ≤ 20) (hk0 : 0 ≤ k) (hk1 : k ≤ 1099511627776) (hs : sumM xs = 0) :
    Calls Tryz.prog 3 #[.int .i64 k, vs, .agg (cmdC kd i n g (.slice a1 n1 c1) d str).toArray] w fun e w' => e = .returned (.bool true) ∧ Only [] w w' := by
  have hb0 := Blk.new w (cmdC kd i n g (.slice a1 n1 c1) d str) 24
  have AW : Hid (∀ w, Calls Tryz.prog 4 #[] w fun e w' => e = .returned (.bool true) ∧ Only [] w w') := awake38_any
  have DR := Lib.hid drain_any
  have PC : Hid (∀ w, Calls Tryz.prog 6 #[.agg #[.int .i64 kd, .int .i64 i, .int .i64 n, .bool g, .slice a1 n1 c1, d, .string str]] w fun e w' => e = .returned (.int .i64 (if kd = 1 then (if lessOne n1 n < 0 then 0 else lessOne n1 n) else 0)) ∧ Only [] w w') := places_any kd i n g a1 n1 c1 d str
  have hc : clM k = k := by unfold clM; rw [if_neg (by omega), if_neg (by omega)]
  have BV : boundOf k xs = 0 := by unfold boundOf; rw [hc]; rw [if_neg (by omega), hs, Int.mul_zero]
  have BC : Hid (∀ w', Only [] w w' → Calls Tryz.prog 5 #[.int .i64 k, vs] w' fun e w'' => e = .returned (.int .i64 (0)) ∧ w' = w'') := fun w' ho => by rw [← BV]; exact bound_any k xs vs w' (hv.keep ho) (by omega)
  have HI := Lib.hid hv
  obtain ⟨ad, cap, rfl⟩ : ∃ ad cap, vs = .slice ad xs.length cap := by
    rcases hv with ⟨⟨a, c, rfl⟩, rfl⟩ | ⟨bk, o, c, rfl, _⟩
    · exact ⟨a, c, rfl⟩
    · exact ⟨_, _, rfl⟩
  have l20 : ¬ (20 : Int) < xs.length := by omega
  have HL : Hid ((cmdC kd i n g (.slice a1 n1 c1) d str).length = 7) := rfl
  have f0 : Hid ((cmdC kd i n g (.slice a1 n1 c1) d str)[0]? = some (.int .i64 kd)) := rfl
  have f1 : Hid ((cmdC kd i n g (.slice a1 n1 c1) d str)[1]? = some (.int .i64 i)) := rfl
  have f3 : Hid ((cmdC kd i n g (.slice a1 n1 c1) d str)[3]? = some (.bool g)) := rfl
  have f5 : Hid ((cmdC kd i n g (.slice a1 n1 c1) d str)[5]? = some d) := rfl
  have f6 : Hid ((cmdC kd i n g (.slice a1 n1 c1) d str)[6]? = some (.string str)) := rfl
  have f2 : Hid ((cmdC kd i n g (.slice a1 n1 c1) d str)[2]? = some (.int .i64 n)) := rfl
  have f4 : Hid ((cmdC kd i n g (.slice a1 n1 c1) d str)[4]? = some (.slice a1 n1 c1)) := rfl
  obtain ⟨K, eK⟩ : ∃ K, K = cmdC kd i n g (.slice a1 n1 c1) d str := ⟨_, rfl⟩
  rw [← eK] at hb0 HL f0 f1 f2 f3 f4 f5 f6 ⊢
  obtain ⟨s, es⟩ : ∃ s, s = sumM xs := ⟨_, rfl⟩
  have ES : Hid (sumM xs = s) := es.symm
  rw [← es] at hs
  clear eK es hv hc BV
  go_enter Tryz.func3, Tryz.ntmps3
  go_wp2_with (go_at_call 4; refine (AW.out _).mono ?_)
  intro e w1 hx
  first | (subst hx; intro ho1) | (obtain ⟨rfl, ho1⟩ := hx)
  have k1 := hb0.keep ho1
  have a1' : Only [] w w1 := ((Only.refl [] w).alloc _).trans ho1
  clear hb0 ho1 AW
  go_wp2_with fail
  go_loopw [7, 8] (fun s i wr => ∃ (j : Nat), j ≤ xs.length ∧ i = .int .i64 (j : Int) ∧ s = .int .i64 (sumM (xs.take j)) ∧ wr = w1) (fun _ i _ => xs.length - (intOf i).toNat)
  case atStart => exact ⟨0, by omega, rfl, rfl, rfl⟩
  case round =>
    obtain ⟨j, hj, rfl, rfl, rfl⟩ := hrel
    by_cases hlt : j < xs.length
    · obtain ⟨bk, o, c, hcc⟩ : ∃ bk o c, ad = some ⟨bk, o, none⟩ ∧ cap = c ∧ wr.cell? ⟨bk, o + j, none⟩ = some (.int .i64 xs[j]) := by
        rcases HI.out with ⟨_, h0⟩ | ⟨bk, o, c, hv, h1, h2, h3⟩
        · subst h0; simp at hlt
        · injection hv with e1 e2 e3
          refine ⟨bk, o, c, e1, e3, ?_⟩
          rw [a1'.cellAt bk (o + j) h2 (by simp)]
          exact h1 j _ (List.getElem?_eq_getElem hlt)
      obtain ⟨rfl, rfl, hcc⟩ := hcc
      have k64 : (j : Int) < xs.length := by omega
      have hS : Hid (sumM (xs.take (j + 1)) = min (sumM (xs.take j) + clM xs[j]) 1099511627776) := by show _ = _; rw [List.take_succ_eq_append_getElem hlt, sumM_snoc]
      obtain ⟨t0, t1⟩ := sumM_bounds (xs.take j)
      obtain ⟨t, et⟩ : ∃ t, t = sumM (xs.take j) := ⟨_, rfl⟩
      rw [← et] at hS t0 t1 ⊢
      obtain ⟨x, ex⟩ : ∃ x, x = xs[j] := ⟨_, rfl⟩
      rw [← ex] at hcc hS
      clear ex et BC PC
      go_wp2_with fail
      all_goals
        go_roundw
        case rel =>
          refine ⟨j + 1, by omega, by go_num, ?_, trivial⟩
          rw [hS.out]
          congr 1
          unfold clM
          split
          · omega
          · split <;> omega
        case measure => simp [intOf]; omega
    · obtain rfl : j = xs.length := by omega
      have HT : Hid (xs.take xs.length = xs) := List.take_length
      rw [HT.out, ES.out]
      have c0 := k1.cell f0.out
      have c1' := k1.cell f1.out
      have c2 := k1.cell f2.out
      have c3 := k1.cell f3.out
      have c5 := k1.cell f5.out
      have c6 := k1.cell f6.out
      have c4 := k1.cell f4.out
      have BC' := Lib.hid (BC.out wr a1')
      clear BC
      subst hs
      by_cases hn1 : 1099511627776 < n
      · by_cases hkd : kd = 1
        · have e1 : (kd == 1) = true := by rw [beq_iff_eq]; exact hkd
          clear hkd PC
          go_wp2_with (first | (go_at_call 5; refine BC'.out.mono ?_; rintro e w5 ⟨rfl, rfl⟩) | (go_at_call 7; refine (DR.out _).mono ?_; rintro e w7 ⟨rfl, ho7⟩))
          go_ret
          exact ⟨rfl, a1'.trans ho7⟩
        · have e1 : (kd == 1) = false := by rw [beq_eq_false_iff_ne]; exact hkd
          clear hkd PC
          go_wp2_with (first | (go_at_call 5; refine BC'.out.mono ?_; rintro e w5 ⟨rfl, rfl⟩) | (go_at_call 7; refine (DR.out _).mono ?_; rintro e w7 ⟨rfl, ho7⟩))
          go_ret
          exact ⟨rfl, a1'.trans ho7⟩
      · by_cases hn2 : n < -1099511627776
        · by_cases hkd : kd = 1
          · have e1 : (kd == 1) = true := by rw [beq_iff_eq]; exact hkd
            clear hkd PC
            go_wp2_with (first | (go_at_call 5; refine BC'.out.mono ?_; rintro e w5 ⟨rfl, rfl⟩) | (go_at_call 7; refine (DR.out _).mono ?_; rintro e w7 ⟨rfl, ho7⟩))
            go_ret
            exact ⟨rfl, a1'.trans ho7⟩
          · have e1 : (kd == 1) = false := by rw [beq_eq_false_iff_ne]; exact hkd
            clear hkd PC
            go_wp2_with (first | (go_at_call 5; refine BC'.out.mono ?_; rintro e w5 ⟨rfl, rfl⟩) | (go_at_call 7; refine (DR.out _).mono ?_; rintro e w7 ⟨rfl, ho7⟩))
            go_ret
            exact ⟨rfl, a1'.trans ho7⟩
        · by_cases hkd : kd = 1
          · have e1 : (kd == 1) = true := by rw [beq_iff_eq]; exact hkd
            rw [if_pos hkd] at PC
            clear hkd
            by_cases hz : wrap64 (wrap64 ((n1 : Int) + n) - 1) < 0
            · have E : (if lessOne n1 n < 0 then 0 else lessOne n1 n) = 0 := by unfold lessOne; rw [if_pos hz]
              rw [E] at PC
              clear E
              go_wp2_with (first | (go_at_call 5; refine BC'.out.mono ?_; rintro e w5 ⟨rfl, rfl⟩) | (go_at_call 6; refine (PC.out _).mono ?_; rintro e w6 ⟨rfl, ho6⟩) | (go_at_call 7; refine (DR.out _).mono ?_; rintro e w7 ⟨rfl, ho7⟩))
              go_ret
              exact ⟨rfl, (a1'.trans ho6).trans ho7⟩
            · have E : (if lessOne n1 n < 0 then 0 else lessOne n1 n) = wrap64 (wrap64 ((n1 : Int) + n) - 1) := by unfold lessOne; rw [if_neg hz]
              rw [E] at PC
              clear E
              go_wp2_with (first | (go_at_call 5; refine BC'.out.mono ?_; rintro e w5 ⟨rfl, rfl⟩) | (go_at_call 6; refine (PC.out _).mono ?_; rintro e w6 ⟨rfl, ho6⟩) | (go_at_call 7; refine (DR.out _).mono ?_; rintro e w7 ⟨rfl, ho7⟩))
              go_ret
              exact ⟨rfl, (a1'.trans ho6).trans ho7⟩
          · have e1 : (kd == 1) = false := by rw [beq_eq_false_iff_ne]; exact hkd
            rw [if_neg hkd] at PC
            clear hkd
            go_wp2_with (first | (go_at_call 5; refine BC'.out.mono ?_; rintro e w5 ⟨rfl, rfl⟩) | (go_at_call 6; refine (PC.out _).mono ?_; rintro e w6 ⟨rfl, ho6⟩) | (go_at_call 7; refine (DR.out _).mono ?_; rintro e w7 ⟨rfl, ho7⟩))
            go_ret
            exact ⟨rfl, (a1'.trans ho6).trans ho7⟩

set_option maxRecDepth 100000 in
set_option maxHeartbeats 32000000 in
theorem fb_ib (k : Int) (xs : List Int) (vs : Value) (kd i n : Int) (g : Bool) (a1 : Option Addr) (n1 c1 : Nat) (d : Value) (str : ByteArray) (w : World) (hv : Ints w vs xs) (hl : xs.length ≤ 20) (hk0 : 0 ≤ k) (hk1 : k ≤ 1099511627776) (hs : 0 < sumM xs) (hq : Int.tdiv 1099511627776 (sumM xs) < k) :
    Calls Tryz.prog 3 #[.int .i64 k, vs, .agg (cmdC kd i n g (.slice a1 n1 c1) d str).toArray] w fun e w' => e = .returned (.bool true) ∧ Only [] w w' := by
  have hb0 := Blk.new w (cmdC kd i n g (.slice a1 n1 c1) d str) 24
  have AW : Hid (∀ w, Calls Tryz.prog 4 #[] w fun e w' => e = .returned (.bool true) ∧ Only [] w w') := awake38_any
  have DR := Lib.hid drain_any
  have PC : Hid (∀ w, Calls Tryz.prog 6 #[.agg #[.int .i64 kd, .int .i64 i, .int .i64 n, .bool g, .slice a1 n1 c1, d, .string str]] w fun e w' => e = .returned (.int .i64 (if kd = 1 then (if lessOne n1 n < 0 then 0 else lessOne n1 n) else 0)) ∧ Only [] w w') := places_any kd i n g a1 n1 c1 d str
  have hc : clM k = k := by unfold clM; rw [if_neg (by omega), if_neg (by omega)]
  have BV : boundOf k xs = 1099511627776 := by unfold boundOf; rw [hc]; rw [if_pos ⟨hs, hq⟩]
  have BC : Hid (∀ w', Only [] w w' → Calls Tryz.prog 5 #[.int .i64 k, vs] w' fun e w'' => e = .returned (.int .i64 (1099511627776)) ∧ w' = w'') := fun w' ho => by rw [← BV]; exact bound_any k xs vs w' (hv.keep ho) (by omega)
  obtain ⟨b0, b1⟩ := sumM_bounds xs
  have q0 : 0 ≤ Int.tdiv 1099511627776 (sumM xs) := Int.tdiv_nonneg (by omega) (by omega)
  have q1 : Int.tdiv 1099511627776 (sumM xs) ≤ 1099511627776 := by rw [Int.tdiv_eq_ediv_of_nonneg (by omega)]; exact Int.ediv_le_self _ (by omega)
  have HI := Lib.hid hv
  obtain ⟨ad, cap, rfl⟩ : ∃ ad cap, vs = .slice ad xs.length cap := by
    rcases hv with ⟨⟨a, c, rfl⟩, rfl⟩ | ⟨bk, o, c, rfl, _⟩
    · exact ⟨a, c, rfl⟩
    · exact ⟨_, _, rfl⟩
  have l20 : ¬ (20 : Int) < xs.length := by omega
  have HL : Hid ((cmdC kd i n g (.slice a1 n1 c1) d str).length = 7) := rfl
  have f0 : Hid ((cmdC kd i n g (.slice a1 n1 c1) d str)[0]? = some (.int .i64 kd)) := rfl
  have f1 : Hid ((cmdC kd i n g (.slice a1 n1 c1) d str)[1]? = some (.int .i64 i)) := rfl
  have f3 : Hid ((cmdC kd i n g (.slice a1 n1 c1) d str)[3]? = some (.bool g)) := rfl
  have f5 : Hid ((cmdC kd i n g (.slice a1 n1 c1) d str)[5]? = some d) := rfl
  have f6 : Hid ((cmdC kd i n g (.slice a1 n1 c1) d str)[6]? = some (.string str)) := rfl
  have f2 : Hid ((cmdC kd i n g (.slice a1 n1 c1) d str)[2]? = some (.int .i64 n)) := rfl
  have f4 : Hid ((cmdC kd i n g (.slice a1 n1 c1) d str)[4]? = some (.slice a1 n1 c1)) := rfl
  obtain ⟨K, eK⟩ : ∃ K, K = cmdC kd i n g (.slice a1 n1 c1) d str := ⟨_, rfl⟩
  rw [← eK] at hb0 HL f0 f1 f2 f3 f4 f5 f6 ⊢
  obtain ⟨s, es⟩ : ∃ s, s = sumM xs := ⟨_, rfl⟩
  have ES : Hid (sumM xs = s) := es.symm
  rw [← es] at hs hq b0 b1 q0 q1
  clear eK es hv hc BV
  go_enter Tryz.func3, Tryz.ntmps3
  go_wp2_with (go_at_call 4; refine (AW.out _).mono ?_)
  intro e w1 hx
  first | (subst hx; intro ho1) | (obtain ⟨rfl, ho1⟩ := hx)
  have k1 := hb0.keep ho1
  have a1' : Only [] w w1 := ((Only.refl [] w).alloc _).trans ho1
  clear hb0 ho1 AW
  go_wp2_with fail
  go_loopw [7, 8] (fun s i wr => ∃ (j : Nat), j ≤ xs.length ∧ i = .int .i64 (j : Int) ∧ s = .int .i64 (sumM (xs.take j)) ∧ wr = w1) (fun _ i _ => xs.length - (intOf i).toNat)
  case atStart => exact ⟨0, by omega, rfl, rfl, rfl⟩
  case round =>
    obtain ⟨j, hj, rfl, rfl, rfl⟩ := hrel
    by_cases hlt : j < xs.length
    · obtain ⟨bk, o, c, hcc⟩ : ∃ bk o c, ad = some ⟨bk, o, none⟩ ∧ cap = c ∧ wr.cell? ⟨bk, o + j, none⟩ = some (.int .i64 xs[j]) := by
        rcases HI.out with ⟨_, h0⟩ | ⟨bk, o, c, hv, h1, h2, h3⟩
        · subst h0; simp at hlt
        · injection hv with e1 e2 e3
          refine ⟨bk, o, c, e1, e3, ?_⟩
          rw [a1'.cellAt bk (o + j) h2 (by simp)]
          exact h1 j _ (List.getElem?_eq_getElem hlt)
      obtain ⟨rfl, rfl, hcc⟩ := hcc
      have k64 : (j : Int) < xs.length := by omega
      have hS : Hid (sumM (xs.take (j + 1)) = min (sumM (xs.take j) + clM xs[j]) 1099511627776) := by show _ = _; rw [List.take_succ_eq_append_getElem hlt, sumM_snoc]
      obtain ⟨t0, t1⟩ := sumM_bounds (xs.take j)
      obtain ⟨t, et⟩ : ∃ t, t = sumM (xs.take j) := ⟨_, rfl⟩
      rw [← et] at hS t0 t1 ⊢
      obtain ⟨x, ex⟩ : ∃ x, x = xs[j] := ⟨_, rfl⟩
      rw [← ex] at hcc hS
      clear ex et BC PC
      go_wp2_with fail
      all_goals
        go_roundw
        case rel =>
          refine ⟨j + 1, by omega, by go_num, ?_, trivial⟩
          rw [hS.out]
          congr 1
          unfold clM
          split
          · omega
          · split <;> omega
        case measure => simp [intOf]; omega
    · obtain rfl : j = xs.length := by omega
      have HT : Hid (xs.take xs.length = xs) := List.take_length
      rw [HT.out, ES.out]
      have c0 := k1.cell f0.out
      have c1' := k1.cell f1.out
      have c2 := k1.cell f2.out
      have c3 := k1.cell f3.out
      have c5 := k1.cell f5.out
      have c6 := k1.cell f6.out
      have c4 := k1.cell f4.out
      have BC' := Lib.hid (BC.out wr a1')
      clear BC
      have sne : (s == 0) = false := by rw [beq_eq_false_iff_ne]; omega
      by_cases hn1 : 1099511627776 < n
      · by_cases hkd : kd = 1
        · have e1 : (kd == 1) = true := by rw [beq_iff_eq]; exact hkd
          clear hkd PC
          go_wp2_with (first | (go_at_call 5; refine BC'.out.mono ?_; rintro e w5 ⟨rfl, rfl⟩) | (go_at_call 7; refine (DR.out _).mono ?_; rintro e w7 ⟨rfl, ho7⟩))
          go_ret
          exact ⟨rfl, a1'.trans ho7⟩
        · have e1 : (kd == 1) = false := by rw [beq_eq_false_iff_ne]; exact hkd
          clear hkd PC
          go_wp2_with (first | (go_at_call 5; refine BC'.out.mono ?_; rintro e w5 ⟨rfl, rfl⟩) | (go_at_call 7; refine (DR.out _).mono ?_; rintro e w7 ⟨rfl, ho7⟩))
          go_ret
          exact ⟨rfl, a1'.trans ho7⟩
      · by_cases hn2 : n < -1099511627776
        · by_cases hkd : kd = 1
          · have e1 : (kd == 1) = true := by rw [beq_iff_eq]; exact hkd
            clear hkd PC
            go_wp2_with (first | (go_at_call 5; refine BC'.out.mono ?_; rintro e w5 ⟨rfl, rfl⟩) | (go_at_call 7; refine (DR.out _).mono ?_; rintro e w7 ⟨rfl, ho7⟩))
            go_ret
            exact ⟨rfl, a1'.trans ho7⟩
          · have e1 : (kd == 1) = false := by rw [beq_eq_false_iff_ne]; exact hkd
            clear hkd PC
            go_wp2_with (first | (go_at_call 5; refine BC'.out.mono ?_; rintro e w5 ⟨rfl, rfl⟩) | (go_at_call 7; refine (DR.out _).mono ?_; rintro e w7 ⟨rfl, ho7⟩))
            go_ret
            exact ⟨rfl, a1'.trans ho7⟩
        · by_cases hkd : kd = 1
          · have e1 : (kd == 1) = true := by rw [beq_iff_eq]; exact hkd
            rw [if_pos hkd] at PC
            clear hkd
            by_cases hz : wrap64 (wrap64 ((n1 : Int) + n) - 1) < 0
            · have E : (if lessOne n1 n < 0 then 0 else lessOne n1 n) = 0 := by unfold lessOne; rw [if_pos hz]
              rw [E] at PC
              clear E
              go_wp2_with (first | (go_at_call 5; refine BC'.out.mono ?_; rintro e w5 ⟨rfl, rfl⟩) | (go_at_call 6; refine (PC.out _).mono ?_; rintro e w6 ⟨rfl, ho6⟩) | (go_at_call 7; refine (DR.out _).mono ?_; rintro e w7 ⟨rfl, ho7⟩))
              go_ret
              exact ⟨rfl, (a1'.trans ho6).trans ho7⟩
            · have E : (if lessOne n1 n < 0 then 0 else lessOne n1 n) = wrap64 (wrap64 ((n1 : Int) + n) - 1) := by unfold lessOne; rw [if_neg hz]
              rw [E] at PC
              clear E
              go_wp2_with (first | (go_at_call 5; refine BC'.out.mono ?_; rintro e w5 ⟨rfl, rfl⟩) | (go_at_call 6; refine (PC.out _).mono ?_; rintro e w6 ⟨rfl, ho6⟩) | (go_at_call 7; refine (DR.out _).mono ?_; rintro e w7 ⟨rfl, ho7⟩))
              go_ret
              exact ⟨rfl, (a1'.trans ho6).trans ho7⟩
          · have e1 : (kd == 1) = false := by rw [beq_eq_false_iff_ne]; exact hkd
            rw [if_neg hkd] at PC
            clear hkd
            go_wp2_with (first | (go_at_call 5; refine BC'.out.mono ?_; rintro e w5 ⟨rfl, rfl⟩) | (go_at_call 6; refine (PC.out _).mono ?_; rintro e w6 ⟨rfl, ho6⟩) | (go_at_call 7; refine (DR.out _).mono ?_; rintro e w7 ⟨rfl, ho7⟩))
            go_ret
            exact ⟨rfl, (a1'.trans ho6).trans ho7⟩

set_option maxRecDepth 100000 in
set_option maxHeartbeats 32000000 in
theorem fb_ic (k : Int) (xs : List Int) (vs : Value) (kd i n : Int) (g : Bool) (a1 : Option Addr) (n1 c1 : Nat) (d : Value) (str : ByteArray) (w : World) (hv : Ints w vs xs) (hl : xs.length ≤ 20) (hk0 : 0 ≤ k) (hk1 : k ≤ 1099511627776) (hs : 0 < sumM xs) (hq : ¬ Int.tdiv 1099511627776 (sumM xs) < k) :
    Calls Tryz.prog 3 #[.int .i64 k, vs, .agg (cmdC kd i n g (.slice a1 n1 c1) d str).toArray] w fun e w' => e = .returned (.bool true) ∧ Only [] w w' := by
  have hb0 := Blk.new w (cmdC kd i n g (.slice a1 n1 c1) d str) 24
  have AW : Hid (∀ w, Calls Tryz.prog 4 #[] w fun e w' => e = .returned (.bool true) ∧ Only [] w w') := awake38_any
  have DR := Lib.hid drain_any
  have PC : Hid (∀ w, Calls Tryz.prog 6 #[.agg #[.int .i64 kd, .int .i64 i, .int .i64 n, .bool g, .slice a1 n1 c1, d, .string str]] w fun e w' => e = .returned (.int .i64 (if kd = 1 then (if lessOne n1 n < 0 then 0 else lessOne n1 n) else 0)) ∧ Only [] w w') := places_any kd i n g a1 n1 c1 d str
  have hc : clM k = k := by unfold clM; rw [if_neg (by omega), if_neg (by omega)]
  have BV : boundOf k xs = k * sumM xs := by unfold boundOf; rw [hc]; rw [if_neg (fun h => hq h.2)]
  have BC : Hid (∀ w', Only [] w w' → Calls Tryz.prog 5 #[.int .i64 k, vs] w' fun e w'' => e = .returned (.int .i64 (k * sumM xs)) ∧ w' = w'') := fun w' ho => by rw [← BV]; exact bound_any k xs vs w' (hv.keep ho) (by omega)
  obtain ⟨b0, b1⟩ := sumM_bounds xs
  have q0 : 0 ≤ Int.tdiv 1099511627776 (sumM xs) := Int.tdiv_nonneg (by omega) (by omega)
  have q1 : Int.tdiv 1099511627776 (sumM xs) ≤ 1099511627776 := by rw [Int.tdiv_eq_ediv_of_nonneg (by omega)]; exact Int.ediv_le_self _ (by omega)
  have p0 : 0 ≤ k * sumM xs := Int.mul_nonneg (by omega) b0
  have p1 : k * sumM xs ≤ 1099511627776 := tdiv_le (sumM xs) (k) hs hq
  have HI := Lib.hid hv
  obtain ⟨ad, cap, rfl⟩ : ∃ ad cap, vs = .slice ad xs.length cap := by
    rcases hv with ⟨⟨a, c, rfl⟩, rfl⟩ | ⟨bk, o, c, rfl, _⟩
    · exact ⟨a, c, rfl⟩
    · exact ⟨_, _, rfl⟩
  have l20 : ¬ (20 : Int) < xs.length := by omega
  have HL : Hid ((cmdC kd i n g (.slice a1 n1 c1) d str).length = 7) := rfl
  have f0 : Hid ((cmdC kd i n g (.slice a1 n1 c1) d str)[0]? = some (.int .i64 kd)) := rfl
  have f1 : Hid ((cmdC kd i n g (.slice a1 n1 c1) d str)[1]? = some (.int .i64 i)) := rfl
  have f3 : Hid ((cmdC kd i n g (.slice a1 n1 c1) d str)[3]? = some (.bool g)) := rfl
  have f5 : Hid ((cmdC kd i n g (.slice a1 n1 c1) d str)[5]? = some d) := rfl
  have f6 : Hid ((cmdC kd i n g (.slice a1 n1 c1) d str)[6]? = some (.string str)) := rfl
  have f2 : Hid ((cmdC kd i n g (.slice a1 n1 c1) d str)[2]? = some (.int .i64 n)) := rfl
  have f4 : Hid ((cmdC kd i n g (.slice a1 n1 c1) d str)[4]? = some (.slice a1 n1 c1)) := rfl
  obtain ⟨K, eK⟩ : ∃ K, K = cmdC kd i n g (.slice a1 n1 c1) d str := ⟨_, rfl⟩
  rw [← eK] at hb0 HL f0 f1 f2 f3 f4 f5 f6 ⊢
  obtain ⟨s, es⟩ : ∃ s, s = sumM xs := ⟨_, rfl⟩
  have ES : Hid (sumM xs = s) := es.symm
  rw [← es] at hs hq b0 b1 q0 q1 BC p0 p1
  clear eK es hv hc BV
  go_enter Tryz.func3, Tryz.ntmps3
  go_wp2_with (go_at_call 4; refine (AW.out _).mono ?_)
  intro e w1 hx
  first | (subst hx; intro ho1) | (obtain ⟨rfl, ho1⟩ := hx)
  have k1 := hb0.keep ho1
  have a1' : Only [] w w1 := ((Only.refl [] w).alloc _).trans ho1
  clear hb0 ho1 AW
  go_wp2_with fail
  go_loopw [7, 8] (fun s i wr => ∃ (j : Nat), j ≤ xs.length ∧ i = .int .i64 (j : Int) ∧ s = .int .i64 (sumM (xs.take j)) ∧ wr = w1) (fun _ i _ => xs.length - (intOf i).toNat)
  case atStart => exact ⟨0, by omega, rfl, rfl, rfl⟩
  case round =>
    obtain ⟨j, hj, rfl, rfl, rfl⟩ := hrel
    by_cases hlt : j < xs.length
    · obtain ⟨bk, o, c, hcc⟩ : ∃ bk o c, ad = some ⟨bk, o, none⟩ ∧ cap = c ∧ wr.cell? ⟨bk, o + j, none⟩ = some (.int .i64 xs[j]) := by
        rcases HI.out with ⟨_, h0⟩ | ⟨bk, o, c, hv, h1, h2, h3⟩
        · subst h0; simp at hlt
        · injection hv with e1 e2 e3
          refine ⟨bk, o, c, e1, e3, ?_⟩
          rw [a1'.cellAt bk (o + j) h2 (by simp)]
          exact h1 j _ (List.getElem?_eq_getElem hlt)
      obtain ⟨rfl, rfl, hcc⟩ := hcc
      have k64 : (j : Int) < xs.length := by omega
      have hS : Hid (sumM (xs.take (j + 1)) = min (sumM (xs.take j) + clM xs[j]) 1099511627776) := by show _ = _; rw [List.take_succ_eq_append_getElem hlt, sumM_snoc]
      obtain ⟨t0, t1⟩ := sumM_bounds (xs.take j)
      obtain ⟨t, et⟩ : ∃ t, t = sumM (xs.take j) := ⟨_, rfl⟩
      rw [← et] at hS t0 t1 ⊢
      obtain ⟨x, ex⟩ : ∃ x, x = xs[j] := ⟨_, rfl⟩
      rw [← ex] at hcc hS
      clear ex et BC PC
      go_wp2_with fail
      all_goals
        go_roundw
        case rel =>
          refine ⟨j + 1, by omega, by go_num, ?_, trivial⟩
          rw [hS.out]
          congr 1
          unfold clM
          split
          · omega
          · split <;> omega
        case measure => simp [intOf]; omega
    · obtain rfl : j = xs.length := by omega
      have HT : Hid (xs.take xs.length = xs) := List.take_length
      rw [HT.out, ES.out]
      have c0 := k1.cell f0.out
      have c1' := k1.cell f1.out
      have c2 := k1.cell f2.out
      have c3 := k1.cell f3.out
      have c5 := k1.cell f5.out
      have c6 := k1.cell f6.out
      have c4 := k1.cell f4.out
      have BC' := Lib.hid (BC.out wr a1')
      clear BC
      have sne : (s == 0) = false := by rw [beq_eq_false_iff_ne]; omega
      by_cases hn1 : 1099511627776 < n
      · by_cases hkd : kd = 1
        · have e1 : (kd == 1) = true := by rw [beq_iff_eq]; exact hkd
          clear hkd PC
          go_wp2_with (first | (go_at_call 5; refine BC'.out.mono ?_; rintro e w5 ⟨rfl, rfl⟩) | (go_at_call 7; refine (DR.out _).mono ?_; rintro e w7 ⟨rfl, ho7⟩))
          go_ret
          exact ⟨rfl, a1'.trans ho7⟩
        · have e1 : (kd == 1) = false := by rw [beq_eq_false_iff_ne]; exact hkd
          clear hkd PC
          go_wp2_with (first | (go_at_call 5; refine BC'.out.mono ?_; rintro e w5 ⟨rfl, rfl⟩) | (go_at_call 7; refine (DR.out _).mono ?_; rintro e w7 ⟨rfl, ho7⟩))
          go_ret
          exact ⟨rfl, a1'.trans ho7⟩
      · by_cases hn2 : n < -1099511627776
        · by_cases hkd : kd = 1
          · have e1 : (kd == 1) = true := by rw [beq_iff_eq]; exact hkd
            clear hkd PC
            go_wp2_with (first | (go_at_call 5; refine BC'.out.mono ?_; rintro e w5 ⟨rfl, rfl⟩) | (go_at_call 7; refine (DR.out _).mono ?_; rintro e w7 ⟨rfl, ho7⟩))
            go_ret
            exact ⟨rfl, a1'.trans ho7⟩
          · have e1 : (kd == 1) = false := by rw [beq_eq_false_iff_ne]; exact hkd
            clear hkd PC
            go_wp2_with (first | (go_at_call 5; refine BC'.out.mono ?_; rintro e w5 ⟨rfl, rfl⟩) | (go_at_call 7; refine (DR.out _).mono ?_; rintro e w7 ⟨rfl, ho7⟩))
            go_ret
            exact ⟨rfl, a1'.trans ho7⟩
        · by_cases hkd : kd = 1
          · have e1 : (kd == 1) = true := by rw [beq_iff_eq]; exact hkd
            rw [if_pos hkd] at PC
            clear hkd
            by_cases hz : wrap64 (wrap64 ((n1 : Int) + n) - 1) < 0
            · have E : (if lessOne n1 n < 0 then 0 else lessOne n1 n) = 0 := by unfold lessOne; rw [if_pos hz]
              rw [E] at PC
              clear E
              go_wp2_with (first | (go_at_call 5; refine BC'.out.mono ?_; rintro e w5 ⟨rfl, rfl⟩) | (go_at_call 6; refine (PC.out _).mono ?_; rintro e w6 ⟨rfl, ho6⟩) | (go_at_call 7; refine (DR.out _).mono ?_; rintro e w7 ⟨rfl, ho7⟩))
              go_ret
              exact ⟨rfl, (a1'.trans ho6).trans ho7⟩
            · have E : (if lessOne n1 n < 0 then 0 else lessOne n1 n) = wrap64 (wrap64 ((n1 : Int) + n) - 1) := by unfold lessOne; rw [if_neg hz]
              rw [E] at PC
              clear E
              go_wp2_with (first | (go_at_call 5; refine BC'.out.mono ?_; rintro e w5 ⟨rfl, rfl⟩) | (go_at_call 6; refine (PC.out _).mono ?_; rintro e w6 ⟨rfl, ho6⟩) | (go_at_call 7; refine (DR.out _).mono ?_; rintro e w7 ⟨rfl, ho7⟩))
              go_ret
              exact ⟨rfl, (a1'.trans ho6).trans ho7⟩
          · have e1 : (kd == 1) = false := by rw [beq_eq_false_iff_ne]; exact hkd
            rw [if_neg hkd] at PC
            clear hkd
            go_wp2_with (first | (go_at_call 5; refine BC'.out.mono ?_; rintro e w5 ⟨rfl, rfl⟩) | (go_at_call 6; refine (PC.out _).mono ?_; rintro e w6 ⟨rfl, ho6⟩) | (go_at_call 7; refine (DR.out _).mono ?_; rintro e w7 ⟨rfl, ho7⟩))
            go_ret
            exact ⟨rfl, (a1'.trans ho6).trans ho7⟩

theorem fb_any (k : Int) (xs : List Int) (vs : Value) (kd i n : Int) (g : Bool) (a1 : Option Addr) (n1 c1 : Nat) (d : Value) (str : ByteArray) (w : World) (hv : Ints w vs xs) :
    Calls Tryz.prog 3 #[.int .i64 k, vs, .agg (cmdC kd i n g (.slice a1 n1 c1) d str).toArray] w fun e w' => e = .returned (.bool true) ∧ Only [] w w' := by
  by_cases hl : 20 < xs.length
  · exact fb_long k xs vs _ w hv hl
  have hl' : xs.length ≤ 20 := by omega
  obtain ⟨b0, b1⟩ := sumM_bounds xs
  by_cases hs : sumM xs = 0
  · by_cases k0 : k < 0
    · exact fb_na k xs vs kd i n g a1 n1 c1 d str w hv hl' k0 hs
    · by_cases k1 : 1099511627776 < k
      · exact fb_ga k xs vs kd i n g a1 n1 c1 d str w hv hl' k1 hs
      · exact fb_ia k xs vs kd i n g a1 n1 c1 d str w hv hl' (by omega) (by omega) hs
  · have hs' : 0 < sumM xs := by omega
    have q0 : 0 ≤ Int.tdiv 1099511627776 (sumM xs) := Int.tdiv_nonneg (by omega) (by omega)
    by_cases k0 : k < 0
    · exact fb_nc k xs vs kd i n g a1 n1 c1 d str w hv hl' k0 hs' (by omega)
    · by_cases k1 : 1099511627776 < k
      · by_cases hq : Int.tdiv 1099511627776 (sumM xs) < 1099511627776
        · exact fb_gb k xs vs kd i n g a1 n1 c1 d str w hv hl' k1 hs' hq
        · exact fb_gc k xs vs kd i n g a1 n1 c1 d str w hv hl' k1 hs' hq
      · by_cases hq : Int.tdiv 1099511627776 (sumM xs) < k
        · exact fb_ib k xs vs kd i n g a1 n1 c1 d str w hv hl' (by omega) (by omega) hs' hq
        · exact fb_ic k xs vs kd i n g a1 n1 c1 d str w hv hl' (by omega) (by omega) hs' hq

end Go.Proofs.YthlkmjkjlhjejaaGreat
