/- ConfCover, walked: the parts of a shape cover its weights. -/
import Derived.Test.YtbfjhpbppaddfaaConfL
import Derived.Test.YtbfjhpbppaddfaaCoverP
namespace Go.Proofs.Ytbfjhpbppaddfaa
open Go.RowKit

section
variable {P : Program} {w : World} {ops : Array Oper} {rest : List Oper} {o : Oper} {a : Act} {Q : Exit → Act → World → Prop}
/-- A new row of whole numbers. -/
theorem wpL_make (hgd : o.guard = none) (t : TypeId) (x : Operand) (ho : o.op = .makeSlice t x x) {e : TypeId} (ht : P.underlying t = some (.slice e))
    (hi : (P.info? e).map (fun i => (i.zero, i.size, i.bytes)) = some (some (.int .i64 0), 1, 8)) (n : Nat) (hx : a.eval x = .int .i64 (n : Int)) (hn : n ≤ 16777216)
    (h : ∀ w1, Only [] w w1 → Hid (w1.heap.size = w.heap.size + 1) → Blk w1 w.heap.size (List.replicate n (.int .i64 0)) e → wpList P ops Q rest (a.put o.dst (.slice (some ⟨w.heap.size, 0, none⟩) n n)) w1) : wpList P ops Q (o :: rest) a w := by
  obtain ⟨i, hi1, hi2, hi3, hi4⟩ : ∃ i, P.info? e = some i ∧ i.zero = some (.int .i64 0) ∧ i.size = 1 ∧ i.bytes = 8 := by
    cases hq : P.info? e with
    | none => simp [hq] at hi
    | some i => simp [hq] at hi; exact ⟨i, rfl, hi.1, hi.2.1, hi.2.2⟩
  have hrun := run_make (P := P) w t e i _ ht hi1 hi2 .i64 .i64 n n (by omega) (Int.le_refl _) (by rw [hi4]; omega) (by omega)
  have hc : madeCells (Value.int .i64 0).cells ((n : Int).toNat * i.size) = (List.replicate n (Value.int .i64 0)).toArray := by
    rw [hi3, Int.toNat_natCast, Nat.mul_one]
    apply Array.ext'
    unfold madeCells
    apply List.ext_getElem?
    intro j
    simp [Value.cells, List.getElem?_replicate]
    by_cases hj : j < n
    · simp [hj]
      rw [Nat.mod_one]
      rfl
    · simp [hj]
  rw [hc, Int.toNat_natCast] at hrun
  refine wpList_plain hgd fun K hK => ?_
  unfold Oper.wp
  simp only [execOp, ho, hx, Sem.run_bind, hrun, Result.andThen_ok, Sem.run_pure]
  exact hK _ _ (h _ ((Only.refl _ w).alloc _) (show _ = _ by simp) (Blk.new _ _ _))
end

set_option maxRecDepth 100000 in
set_option maxHeartbeats 16000000 in
theorem confCover_yes (c : Cfg) (h : CanBe c) (w : World) : Calls Try.prog 5 #[.agg c.cells.toArray] w fun e w' => e = .returned (.bool true) ∧ Only [] w w' := by
  have hb0 := Blk.new w c.cells 39
  have HF := Lib.hid h.fit
  have AW : Hid (∀ w, Calls Try.prog 13 #[] w fun e w' => e = .returned (.bool true) ∧ Only [] w w') := awake15_any
  have CGD : Hid (∀ w, Calls Try.prog 16 #[.agg c.cells.toArray] w fun e w' => e = .returned (.bool true) ∧ Only [] w w') := confGood_yes c h
  obtain ⟨N, hN⟩ : ∃ N : Nat, c.all = (N : Int) := ⟨c.all.toNat, by have := (all_bounds h.fit).1; omega⟩
  have hN2 : N ≤ 8192 := by have := h.all; omega
  obtain ⟨bn, hbn, hbn1, hbn3⟩ := Cfg.bn h.fit
  obtain ⟨q, eq⟩ : ∃ q, q = c.D / c.H := ⟨_, rfl⟩
  obtain ⟨D, eD⟩ : ∃ D, D = c.D := ⟨_, rfl⟩
  obtain ⟨H, eH⟩ : ∃ H, H = c.H := ⟨_, rfl⟩
  have hqD : q * H = D := by rw [eq, eH, eD]; have := h.div; exact Int.ediv_mul_cancel (Int.dvd_of_emod_eq_zero this)
  have hD0 : 0 ≤ D ∧ D ≤ 16 := by rw [eD]; have := h.fit.d0; have := h.fit.d1; omega
  have SZ : Hid (∀ w, Calls Try.prog 22 #[.agg c.cells.toArray] w fun e w' => e = .returned (.int .i64 (N : Int)) ∧ Only [] w w') := fun w => by rw [← hN]; exact size_yes c h w
  have HDM : Hid (∀ w, Calls Try.prog 23 #[.agg c.cells.toArray] w fun e w' => e = .returned (.int .i64 q) ∧ Only [] w w') := fun w => by rw [eq]; exact head_yes c h w
  have SD : Hid (∀ p w, Calls Try.prog 18 #[.agg c.cells.toArray, .int .i64 p] w fun e w' => e = .returned (.tuple #[.int .i64 (c.side p).1, .int .i64 (c.side p).2]) ∧ Only [] w w') := fun p w => side_yes c p h w
  have RNG : Hid (∀ p b w, Calls Try.prog 20 #[.agg c.cells.toArray, .int .i64 p, .int .i64 b] w fun e w' => e = .returned (c.told p b) ∧ Only [] w w') := fun p b w => range_told c p b h w
  have R4 : Hid (∀ w, Calls Try.prog 20 #[.agg c.cells.toArray, .int .i64 4, .int .i64 (bn : Int)] w fun e w' => e = .returned (.tuple #[.int .i64 0, .int .i64 0, .bool false]) ∧ Only [] w w') := fun w => by rw [← told_none h.fit 4 bn (by rw [hbn]; omega)]; exact range_told c 4 bn h w
  have R12 : Hid (∀ w, Calls Try.prog 20 #[.agg c.cells.toArray, .int .i64 12, .int .i64 0] w fun e w' => e = .returned (.tuple #[.int .i64 0, .int .i64 0, .bool false]) ∧ Only [] w w') := fun w => by rw [← told_none h.fit 12 0 (by omega)]; exact range_told c 12 0 h w
  have e1 : Hid (c.cells[1]? = some (.int .i64 D)) := by rw [eD]; exact rfl
  have e2 : Hid (c.cells[2]? = some (.int .i64 H)) := by rw [eH]; exact rfl
  have e3 : Hid (c.cells[3]? = some (.int .i64 (bn : Int))) := by rw [← hbn]; exact rfl
  have HL : Hid (c.cells.length = 6) := rfl
  have HO : Hid (c.cells.toArray.all (·.oneCell') = true) := c.cells_one
  have BU : Hid (Try.prog.built 42 [(0, .agg c.cells.toArray)] = some c.cells.toArray) := built_shp c
  have HBN := Lib.hid hbn
  have HN := Lib.hid hN
  obtain ⟨K, eK⟩ : ∃ K, K = c.cells := ⟨_, rfl⟩
  rw [← eK] at hb0 CGD SZ HDM SD RNG R4 R12 e1 e2 e3 HL HO BU ⊢
  clear eK eq eD eH h hbn hN
  obtain ⟨Z, eZ⟩ : ∃ Z, Z = zeros6 := ⟨_, rfl⟩
  have ZL : Hid (Z.length = 6) := by rw [eZ]; exact rfl
  have ZI : Hid ((Try.prog.info? 42).map (·.zero) = some (some (.agg Z.toArray))) := by rw [eZ]; show _ = _; kernel_rfl
  clear eZ
  go_enter Try.func5, Try.ntmps5
  go_wp2_with (go_at_call 13; refine (AW.out _).mono ?_)
  intro e w1 hx
  first | (subst hx; intro ho1) | (obtain ⟨rfl, ho1⟩ := hx)
  have k1 := hb0.keep ho1
  have a1 : Only [] w w1 := ((Only.refl [] w).alloc _).trans ho1
  clear hb0 ho1
  go_wp2_with (first
    | (refine wpL_load rfl 39 _ rfl w.heap.size rfl _ _ _ k1 Try.underlying39 rfl cfgInfo HL.out ?_)
    | (go_at_call 16; refine (CGD.out _).mono ?_))
  intro e w2 hx
  first | (subst hx; intro ho2) | (obtain ⟨rfl, ho2⟩ := hx)
  have k2 := k1.keep ho2
  have a2 := a1.trans ho2
  clear k1 a1 ho2
  go_wp2_with (first
    | (refine wpL_load rfl 39 (.tmp 1) rfl w.heap.size rfl _ _ _ k2 Try.underlying39 rfl cfgInfo HL.out ?_)
    | (refine wpL_build1 rfl 42 0 (.tmp 25) rfl (.agg K.toArray) rfl K BU.out ?_)
    | (refine wpL_alloc rfl 3 rfl _ rfl (.agg Z.toArray) Z ZI.out rfl ?_; intro w3 ho3 hs3 hb3)
    | (refine wpL_store rfl 42 _ _ rfl w2.heap.size K.toArray rfl rfl _ _ hb3 shpInfo HL.out ZL.out HO.out ?_))
  intro w4 ho4 hs4 hb4
  have a4 : Only [] w w4 := (a2.trans ho3).step ho4 (fun i hi => .inr (by simp at hi; subst hi; exact a2.size))
  have k4 := (k2.keep ho3).only ho4 (by have := k2.lt; simp; omega)
  have hsz0 : w.heap.size < w2.heap.size := k2.lt
  obtain ⟨S, eS⟩ : ∃ S, S = w2.heap.size := ⟨_, rfl⟩
  rw [← eS] at hb4 hsz0
  have hS4 : S < w4.heap.size := hb4.lt
  rw [← eS]
  clear k2 a2 ho3 ho4 hs3 hs4 hb3 eS
  go_wp2_with (first
    | (refine wpL_load rfl 42 (.tmp 3) rfl S rfl _ _ _ hb4 Try.underlying42 rfl shpInfo HL.out ?_)
    | (go_at_call 22; refine (SZ.out _).mono ?_))
  intro e w5 hx
  first | (subst hx; intro ho5) | (obtain ⟨rfl, ho5⟩ := hx)
  go_wp2_with (first
    | (refine wpL_make rfl 30 (.tmp 28) rfl Try.underlying30 (by kernel_rfl : (Try.prog.info? 3).map (fun i => (i.zero, i.size, i.bytes)) = some (some (.int .i64 0), 1, 8)) N rfl (by omega) ?_; intro w6 ho6 hs6 hb6))
  have a6 := (a4.trans ho5).trans ho6
  have k6 := (k4.keep ho5).keep ho6
  have s6 := (hb4.keep ho5).keep ho6
  obtain ⟨G, eG⟩ : ∃ G, G = w5.heap.size := ⟨_, rfl⟩
  have hG0 : S < G := by have := ho5.size; omega
  have hGw : w.heap.size ≤ G := by omega
  rw [← eG] at hb6
  rw [← eG]
  have hG1 : G < w6.heap.size := hb6.lt
  rw [← cntCells_zero] at hb6
  have hb6' : Blk w6 G (cntCells N (c.cnt 0)) 3 := hb6
  clear k4 a4 hb4 ho5 ho6 hs6 eG hb6 hS4
  go_loopw [5] (fun p wr => ∃ (m : Nat), m ≤ 12 ∧ p = .int .i64 (m : Int) ∧ Blk wr G (cntCells N (c.cnt m)) 3 ∧ Only [G] w6 wr) (fun p _ => (12 - intOf p).toNat)
  case atStart => exact ⟨0, by omega, rfl, hb6', Only.refl _ _⟩
  case round =>
    obtain ⟨m, hm, rfl, hg, hor⟩ := hrel
    by_cases hlt : m < 12
    · have g1 : (m : Int) ≤ 11 := by omega
      go_wp2_with fail
      go_loopw [6] (fun b wj => ∃ (k : Nat), k ≤ bn ∧ b = .int .i64 (k : Int) ∧ Blk wj G (cntCells N (fun i => c.cnt m i + c.rowB m k i)) 3 ∧ Only [G] w6 wj) (fun b _ => (bn - intOf b).toNat)
      case atStart => exact ⟨0, by omega, rfl, by rw [cntCells_congr N (fun i => c.cnt m i + c.rowB m 0 i) (c.cnt m) (fun j _ => by simp [Cfg.rowB])]; exact hg, hor⟩
      case round =>
        obtain ⟨k, hk, rfl, hgk, hok⟩ := hrel
        have kj := k6.only hok (by simp; omega)
        have sj := s6.only hok (by simp; omega)
        have c3 := kj.cell e3.out
        by_cases hlb : k < bn
        · have g2 : (k : Int) < bn := by omega
          have hkB : (k : Int) < c.B := by rw [HBN.out]; exact g2
          cases hh : has (m : Int) (k : Int) with
          | true =>
            have RK : Hid (∀ w, Calls Try.prog 20 #[.agg K.toArray, .int .i64 (m : Int), .int .i64 (k : Int)] w fun e w' => e = .returned (.tuple #[.int .i64 (c.place m k), .int .i64 (c.sz m), .bool true]) ∧ Only [] w w') := fun w => by rw [← told_has HF.out m k (by omega) g1 (by omega) hkB hh]; exact RNG.out m k w
            have SK := Lib.hid (SD.out (m : Int))
            obtain ⟨pb0, pb1⟩ := place_bounds HF.out m k (by omega) g1 (by omega) hkB
            obtain ⟨z0, z1⟩ := sz_bounds HF.out (m : Int)
            have hz : c.sz (m : Int) = (c.side (m : Int)).1 * (c.side (m : Int)).2 := rfl
            have HI : Hid (∀ i, c.rowB m (k + 1) i = c.rowB m k i + if c.place m k ≤ i ∧ i < c.place m k + c.sz m then 1 else 0) := fun i => by rw [Cfg.rowB]; unfold Cfg.ind; simp only [hh, true_and]
            rw [HN.out] at pb1
            obtain ⟨n, hn⟩ : ∃ n : Nat, c.sz (m : Int) = (n : Int) := ⟨(c.sz (m : Int)).toNat, by omega⟩
            obtain ⟨A, hA⟩ : ∃ A : Nat, c.place m k = (A : Int) := ⟨(c.place m k).toNat, by omega⟩
            rw [hn] at RK z0 z1 hz pb1 HI
            rw [hA] at RK pb1 HI
            obtain ⟨x, ex⟩ : ∃ x, x = (c.side (m : Int)).1 := ⟨_, rfl⟩
            obtain ⟨y, ey⟩ : ∃ y, y = (c.side (m : Int)).2 := ⟨_, rfl⟩
            rw [← ex, ← ey] at SK hz
            have z2 : 0 ≤ x * y := by omega
            have z3 : x * y ≤ 1024 := by omega
            have hne : ((n : Int) != x * y) = false := by rw [hz]; simp
            obtain ⟨f, ef⟩ : ∃ f : Int → Int, f = fun i => c.cnt m i + c.rowB m k i := ⟨_, rfl⟩
            have FB : Hid (∀ i, 0 ≤ f i ∧ f i ≤ 100) := fun i => by rw [ef]; have := cnt_bounds HF.out m i; have := rowB_bounds c m k i; constructor <;> simp only <;> omega
            have EF := Lib.hid ef
            rw [← ef] at hgk
            have z5 : (A : Int) + n ≤ N := pb1
            clear hh hn hA ex ey ef hkB pb0 pb1 z0 z1 SD RNG
            go_wp2_with (first
              | (refine wpL_load rfl 42 (.tmp 3) rfl S rfl _ _ _ sj Try.underlying42 rfl shpInfo HL.out ?_)
              | (go_at_call 20; refine (RK.out _).mono ?_))
            intro e w7 hx
            first | (subst hx; intro ho7) | (obtain ⟨rfl, ho7⟩ := hx)
            have s7 := sj.keep ho7
            go_wp2_with (first
              | (refine wpL_load rfl 42 (.tmp 3) rfl S rfl _ _ _ s7 Try.underlying42 rfl shpInfo HL.out ?_)
              | (go_at_call 18; refine (SK.out _).mono ?_))
            intro e w8 hx
            first | (subst hx; intro ho8) | (obtain ⟨rfl, ho8⟩ := hx)
            have o8 : Only [G] w6 w8 := (hok.step ho7 (by simp)).step ho8 (by simp)
            have g8 := (hgk.keep ho7).keep ho8
            clear s7 sj kj c3 ho7 ho8 hok hgk
            go_wp2_with fail
            go_loopw [12] (fun iv wi => ∃ (j : Nat), A ≤ j ∧ (j : Int) ≤ A + x * y ∧ iv = .int .i64 (j : Int) ∧ Blk wi G (cntCells N (part1 f A j)) 3 ∧ Only [G] w6 wi) (fun iv _ => ((A : Int) + x * y - intOf iv).toNat)
            case atStart => exact ⟨A, by omega, by omega, rfl, by rw [cntCells_congr N (part1 f A A) f (fun j _ => part1_none f A j)]; exact g8, o8⟩
            case round =>
              obtain ⟨j, hj0, hj1, rfl, hgj, hoj⟩ := hrel
              by_cases hlj : (j : Int) < A + x * y
              · have hjN : j < N := by omega
                have cj := hgj.cell (cntCells_get N _ j hjN)
                rw [part1_here] at cj
                obtain ⟨fb0, fb1⟩ := FB.out (j : Int)
                have PS := Lib.hid (part1_set N f A j (by omega))
                obtain ⟨v, ev⟩ : ∃ v, v = f (j : Int) := ⟨_, rfl⟩
                rw [← ev] at cj fb0 fb1 PS
                have fj := hgj.free j
                clear ev
                go_wp2_with fail
                go_roundw
                case rel =>
                  refine ⟨j + 1, by omega, by omega, by go_num, ?_, hoj.set (.inl (by simp)) _⟩
                  rw [show ((j + 1 : Nat) : Int) = (j : Int) + 1 by omega, ← PS.out]
                  exact hgj.set j _
                case measure => simp [intOf]; omega
              · have ej : (j : Int) = A + x * y := by omega
                have kj := k6.only hoj (by simp; omega)
                have hgj' : Blk wr G (cntCells N (fun i => c.cnt m i + c.rowB m (k + 1) i)) 3 := by
                  rw [cntCells_congr N (fun i => c.cnt m i + c.rowB m (k + 1) i) (part1 f A j) (fun i _ => by unfold part1; rw [HI.out, EF.out, ej, hz]; exact (Int.add_assoc _ _ _).symm)]
                  exact hgj
                go_wp2_with fail
                go_roundw
                case rel => exact ⟨k + 1, by omega, by go_num, hgj', hoj⟩
                case measure => simp [intOf]; omega
          | false =>
            obtain ⟨kne, hp, T⟩ := told_hasnt HF.out (m : Int) (k : Int) (by omega) g1 (by omega) hh
            have RK : Hid (∀ w, Calls Try.prog 20 #[.agg K.toArray, .int .i64 (m : Int), .int .i64 (k : Int)] w fun e w' => e = .returned (.tuple #[.int .i64 0, .int .i64 0, .bool false]) ∧ Only [] w w') := fun w => by rw [← T]; exact RNG.out m k w
            have hk0 : ((k : Int) == 0) = false := by rw [beq_eq_false_iff_ne]; exact kne
            have hgk' : Blk wr G (cntCells N (fun i => c.cnt m i + c.rowB m (k + 1) i)) 3 := by
              rw [cntCells_congr N (fun i => c.cnt m i + c.rowB m (k + 1) i) (fun i => c.cnt m i + c.rowB m k i) (fun i _ => by rw [Cfg.rowB, ind_hasnt c _ _ _ hh]; omega)]
              exact hgk
            have hm3 : ((m : Int) != 0) = false ∨ (((m : Int) != 0) = true ∧ ((m : Int) != 1) = false) ∨ (((m : Int) != 0) = true ∧ ((m : Int) != 1) = true ∧ ((m : Int) != 11) = false) := by
              simp only [bne_eq_false_iff_eq, bne_iff_ne]
              omega
            clear T SD RNG hkB hgk kne hp
            rcases hm3 with f0 | ⟨f0, f1⟩ | ⟨f0, f1, f11⟩
            · go_wp2_with (first
                | (refine wpL_load rfl 42 (.tmp 3) rfl S rfl _ _ _ sj Try.underlying42 rfl shpInfo HL.out ?_)
                | (go_at_call 20; refine (RK.out _).mono ?_))
              intro e w7 hx
              first | (subst hx; intro ho7) | (obtain ⟨rfl, ho7⟩ := hx)
              go_wp2_with fail
              go_roundw
              case rel => exact ⟨k + 1, by omega, by go_num, hgk'.keep ho7, hok.step ho7 (by simp)⟩
              case measure => simp [intOf]; omega
            · go_wp2_with (first
                | (refine wpL_load rfl 42 (.tmp 3) rfl S rfl _ _ _ sj Try.underlying42 rfl shpInfo HL.out ?_)
                | (go_at_call 20; refine (RK.out _).mono ?_))
              intro e w7 hx
              first | (subst hx; intro ho7) | (obtain ⟨rfl, ho7⟩ := hx)
              go_wp2_with fail
              go_roundw
              case rel => exact ⟨k + 1, by omega, by go_num, hgk'.keep ho7, hok.step ho7 (by simp)⟩
              case measure => simp [intOf]; omega
            · go_wp2_with (first
                | (refine wpL_load rfl 42 (.tmp 3) rfl S rfl _ _ _ sj Try.underlying42 rfl shpInfo HL.out ?_)
                | (go_at_call 20; refine (RK.out _).mono ?_))
              intro e w7 hx
              first | (subst hx; intro ho7) | (obtain ⟨rfl, ho7⟩ := hx)
              go_wp2_with fail
              go_roundw
              case rel => exact ⟨k + 1, by omega, by go_num, hgk'.keep ho7, hok.step ho7 (by simp)⟩
              case measure => simp [intOf]; omega
        · have g2 : ¬ (k : Int) < bn := by omega
          have ek : k = bn := by omega
          subst ek
          go_wp2_with fail
          go_roundw
          case rel => exact ⟨m + 1, by omega, by go_num, by rw [cntCells_congr N (c.cnt (m + 1)) (fun i => c.cnt m i + c.rowB m k i) (fun j _ => by rw [Cfg.cnt, HBN.out, Int.toNat_natCast])]; exact hgk, hok⟩
          case measure => simp [intOf]; omega
    · have g1 : ¬ (m : Int) ≤ 11 := by omega
      obtain rfl : m = 12 := by omega
      have kj := k6.only hor (by simp; omega)
      have sj := s6.only hor (by simp; omega)
      have aj : Only [] w wr := a6.step hor (fun i hi => .inr (by simp at hi; omega))
      have HC : Hid (∀ i : Nat, i < N → wr.cell? ⟨G, i, none⟩ = some (.int .i64 1)) := fun i hi => by
        have := hg.cell (cntCells_get N _ i hi)
        rwa [cnt_all HF.out i (by omega) (by rw [HN.out]; omega)] at this
      have g3 : ((1 : Int) != 1) = false := rfl
      clear hg hor k6 s6 SD RNG
      go_wp2_with fail
      go_loopw [13] (fun iv wi => ∃ (j : Nat), j ≤ N ∧ iv = .int .i64 (j : Int) ∧ wi = wr) (fun iv _ => ((N : Int) - intOf iv).toNat)
      case atStart => exact ⟨0, by omega, rfl, rfl⟩
      case round =>
        obtain ⟨j, hj, rfl, rfl⟩ := hrel
        by_cases hlj : j < N
        · have g2 : (j : Int) < N := by omega
          have cj := HC.out j hlj
          go_wp2_with fail
          go_roundw
          case rel => exact ⟨j + 1, by omega, by go_num, trivial⟩
          case measure => simp [intOf]; omega
        · have g2 : ¬ (j : Int) < N := by omega
          obtain rfl : j = N := by omega
          have c3 := kj.cell e3.out
          clear HC
          go_wp2_with (first
            | (refine wpL_load rfl 42 (.tmp 3) rfl S rfl _ _ _ sj Try.underlying42 rfl shpInfo HL.out ?_)
            | (go_at_call 20; refine (R4.out _).mono ?_))
          intro e w7 hx
          first | (subst hx; intro ho7) | (obtain ⟨rfl, ho7⟩ := hx)
          have s7 := sj.keep ho7
          have k7 := kj.keep ho7
          clear c3 sj kj
          go_wp2_with (first
            | (refine wpL_load rfl 42 (.tmp 3) rfl S rfl _ _ _ s7 Try.underlying42 rfl shpInfo HL.out ?_)
            | (go_at_call 20; refine (R12.out _).mono ?_))
          intro e w8 hx
          first | (subst hx; intro ho8) | (obtain ⟨rfl, ho8⟩ := hx)
          have s8 := s7.keep ho8
          have k8 := k7.keep ho8
          clear s7 k7
          have gN : (j : Int) ≤ 8192 := by omega
          have s9 := s8.drew
          have k9 := k8.drew
          have a9 := ((aj.trans ho7).trans ho8).drew
          clear s8 k8
          go_wp2_with fail
          refine wp_region_ord [8, 13] [0, 1, 2, 3, 4, 5, 6, 7, 8, 9, 10, 11, 12, 14, 15, 17, 18, 13, 16, 19, 20, 21] (by kernel_rfl) (by kernel_rfl) ?_
          generalize w8.drew = W at *
          refine Ord.cut 7 6 rfl rfl rfl rfl (by kernel_rfl) (by kernel_rfl) ?_
          simp only [List.take_succ_cons, List.take_zero, List.drop_succ_cons, List.drop_zero, List.filterMap_cons, List.filterMap_nil, List.getElem?_cons_succ, List.getElem?_cons_zero]
          go_wp2_with fail
          refine TextQ.mk ⟨fun h => by simp at h, ?_⟩ rfl
          refine Ord.cut 1 7 rfl rfl rfl rfl (by kernel_rfl) (by kernel_rfl) ?_
          simp only [List.take_succ_cons, List.take_zero, List.drop_succ_cons, List.drop_zero, List.filterMap_cons, List.filterMap_nil, List.getElem?_cons_succ, List.getElem?_cons_zero]
          refine wpL_yes rfl (wpL_load rfl 42 (.tmp 3) rfl S rfl _ _ _ s9 Try.underlying42 rfl shpInfo HL.out ?_)
          refine TextQ.mk ⟨fun h => by simp at h, ?_⟩ rfl
          refine Ord.cut 1 8 rfl rfl rfl rfl (by kernel_rfl) (by kernel_rfl) ?_
          simp only [List.take_succ_cons, List.take_zero, List.drop_succ_cons, List.drop_zero, List.filterMap_cons, List.filterMap_nil, List.getElem?_cons_succ, List.getElem?_cons_zero]
          go_wp2_with (go_at_call 22; refine (SZ.out _).mono ?_; rintro e w10 ⟨rfl, ho10⟩)
          have s10 := s9.keep ho10
          have k10 := k9.keep ho10
          have d1 := k10.cell e1.out
          have d2 := k10.cell e2.out
          refine TextQ.mk ⟨fun _ => ho10, ?_⟩ rfl
          refine Ord.cut 3 11 rfl rfl rfl rfl (by kernel_rfl) (by kernel_rfl) ?_
          simp only [List.take_succ_cons, List.take_zero, List.drop_succ_cons, List.drop_zero, List.filterMap_cons, List.filterMap_nil, List.getElem?_cons_succ, List.getElem?_cons_zero]
          go_wp2_with fail
          refine TextQ.mk ⟨fun h => by simp at h, ?_⟩ rfl
          refine Ord.cut 1 12 rfl rfl rfl rfl (by kernel_rfl) (by kernel_rfl) ?_
          simp only [List.take_succ_cons, List.take_zero, List.drop_succ_cons, List.drop_zero, List.filterMap_cons, List.filterMap_nil, List.getElem?_cons_succ, List.getElem?_cons_zero]
          refine wpL_yes rfl (wpL_load rfl 42 (.tmp 3) rfl S rfl _ _ _ s10 Try.underlying42 rfl shpInfo HL.out ?_)
          refine TextQ.mk ⟨fun h => by simp at h, ?_⟩ rfl
          refine Ord.cut 4 18 rfl rfl rfl rfl (by kernel_rfl) (by kernel_rfl) ?_
          simp only [List.take_succ_cons, List.take_zero, List.drop_succ_cons, List.drop_zero, List.filterMap_cons, List.filterMap_nil, List.getElem?_cons_succ, List.getElem?_cons_zero]
          go_wp2_with fail
          refine TextQ.mk ⟨fun h => by simp at h, ?_⟩ rfl
          refine Ord.cut 1 13 rfl rfl rfl rfl (by kernel_rfl) (by kernel_rfl) ?_
          simp only [List.take_succ_cons, List.take_zero, List.drop_succ_cons, List.drop_zero, List.filterMap_cons, List.filterMap_nil, List.getElem?_cons_succ, List.getElem?_cons_zero]
          go_wp2_with (go_at_call 23; refine (HDM.out _).mono ?_; rintro e w11 ⟨rfl, ho11⟩)
          refine TextQ.mk ⟨fun _ => ho11, ?_⟩ rfl
          refine Ord.cut 4 21 rfl rfl rfl rfl (by kernel_rfl) (by kernel_rfl) ?_
          simp only [List.take_succ_cons, List.take_zero, List.drop_succ_cons, List.drop_zero, List.filterMap_cons, List.filterMap_nil, List.getElem?_cons_succ, List.getElem?_cons_zero]
          go_wp2_with fail
          refine TextQ.mk ⟨fun h => by simp at h, ?_⟩ rfl
          refine Ord.done ?_
          go_wp2_with fail
          go_ret
          exact ⟨rfl, (a9.trans ho10).trans ho11⟩

set_option maxRecDepth 100000 in
set_option maxHeartbeats 2000000 in
theorem confCover_no (c : Cfg) (h : ¬ CanBe c) (w : World) : Calls Try.prog 5 #[.agg c.cells.toArray] w fun e w' => e = .returned (.bool true) ∧ Only [] w w' := by
  have hb0 := Blk.new w c.cells 39
  have AW : Hid (∀ w, Calls Try.prog 13 #[] w fun e w' => e = .returned (.bool true) ∧ Only [] w w') := awake15_any
  have CGD : Hid (∀ w, Calls Try.prog 16 #[.agg c.cells.toArray] w fun e w' => e = .returned (.bool false) ∧ Only [] w w') := confGood_no c h
  have HL : Hid (c.cells.length = 6) := rfl
  obtain ⟨K, eK⟩ : ∃ K, K = c.cells := ⟨_, rfl⟩
  rw [← eK] at hb0 CGD HL ⊢
  clear eK
  go_enter Try.func5, Try.ntmps5
  go_wp2_with (go_at_call 13; refine (AW.out _).mono ?_)
  intro e w1 hx
  first | (subst hx; intro ho1) | (obtain ⟨rfl, ho1⟩ := hx)
  have k1 := hb0.keep ho1
  have a1 : Only [] w w1 := ((Only.refl [] w).alloc _).trans ho1
  clear hb0 ho1
  go_wp2_with (first
    | (refine wpL_load rfl 39 _ rfl w.heap.size rfl _ _ _ k1 Try.underlying39 rfl cfgInfo HL.out ?_)
    | (go_at_call 16; refine (CGD.out _).mono ?_))
  intro e w2 hx
  first | (subst hx; intro ho2) | (obtain ⟨rfl, ho2⟩ := hx)
  go_wp2_with fail
  go_ret
  exact ⟨rfl, a1.trans ho2⟩

theorem confCover_any (c : Cfg) (w : World) : Calls Try.prog 5 #[.agg c.cells.toArray] w fun e w' => e = .returned (.bool true) ∧ Only [] w w' := by
  by_cases h : CanBe c
  · exact confCover_yes c h w
  · exact confCover_no c h w

end Go.Proofs.Ytbfjhpbppaddfaa
