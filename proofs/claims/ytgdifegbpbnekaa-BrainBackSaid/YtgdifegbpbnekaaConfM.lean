/- Shapes: read from bytes, by the program. -/
import Derived.Test.YtgdifegbpbnekaaConfL
import Derived.Test.YtgdifegbpbnekaaEyeC
namespace Go.Proofs.Ytgdifegbpbnekaa
open Go.RowKit

/-- An eye before its k-th number; that number. -/
def eyeSt (most : Int) (s : ByteArray) : Nat → ByteArray × Bool
  | 0 => (s, false)
  | k + 1 => (eyeNum most (eyeSt most s k).1 (eyeSt most s k).2).2
def eyeVal (most : Int) (s : ByteArray) (k : Nat) : Int := (eyeNum most (eyeSt most s k).1 (eyeSt most s k).2).1
def beyond : Int := 4294967295
/-- The shape that bytes tell. -/
def sixCfg (s : ByteArray) : Cfg := ⟨eyeVal beyond s 0, eyeVal beyond s 1, eyeVal beyond s 2, eyeVal beyond s 3, eyeVal beyond s 4, eyeVal beyond s 5⟩
/-- .. if they tell one. -/
def fits (s : ByteArray) : Prop := eyeDone (eyeSt beyond s 6).1 (eyeSt beyond s 6).2 = true ∧ CanBe (sixCfg s)

def parC (v : Nat → Int) (k : Nat) : List Value := (List.range 6).map fun j => .int .i64 (if j < k then v j else 0)
theorem parC_length (v : Nat → Int) (k : Nat) : (parC v k).length = 6 := by simp [parC]
theorem parC_set (v : Nat → Int) (k : Nat) : (parC v k).set k (.int .i64 (v k)) = parC v (k + 1) := by
  refine List.ext_getElem? fun i => ?_
  rw [List.getElem?_set]
  unfold parC
  by_cases hi : i < 6
  · rw [List.getElem?_map, List.getElem?_map, List.getElem?_range hi]
    by_cases h : k = i
    · subst h
      rw [if_pos rfl, if_pos (by simpa using hi), Option.map_some, if_pos (Nat.lt_succ_self _)]
    · rw [if_neg h, Option.map_some, Option.map_some]
      by_cases h2 : i < k
      · rw [if_pos h2, if_pos (by omega)]
      · rw [if_neg h2, if_neg (by omega)]
  · have h1 : ((List.range 6).map fun j => Value.int .i64 (if j < k then v j else 0))[i]? = none := List.getElem?_eq_none (by simp; omega)
    have h2 : ((List.range 6).map fun j => Value.int .i64 (if j < k + 1 then v j else 0))[i]? = none := List.getElem?_eq_none (by simp; omega)
    rw [h1, h2]
    split
    · split
      · rename_i h3 h4
        simp at h4
        omega
      · rfl
    · rfl
theorem parC_at (v : Nat → Int) (k : Nat) (h : k < 6) : (parC v k)[k]? = some (.int .i64 0) := by
  unfold parC
  rw [List.getElem?_map, List.getElem?_range h, Option.map_some, if_neg (by omega)]
theorem parC_0 (v : Nat → Int) : parC v 0 = zeros6 := rfl
theorem parC_6 (s : ByteArray) : parC (eyeVal beyond s) 6 = (sixCfg s).cells := rfl

theorem ptrInfo : (Try.prog.info? 164).map (fun i => (i.zero, i.size, i.bytes)) = some (some (.pointer none), 1, 8) := by kernel_rfl

set_option maxRecDepth 100000 in
set_option maxHeartbeats 1000000 in
theorem penOf_any (s : ByteArray) (w : World) : Calls Try.prog 99 #[.string s] w fun e w' => e = .returned (.pointer (some ⟨w.heap.size, 0, none⟩)) ∧ Blk w' w.heap.size [.string s, .bool false] 214 ∧ Only [] w w' := by
  go_enter Try.func99, Try.ntmps99
  go_wp2
  go_ret
  exact ⟨rfl, Blk.new w _ _, (Only.refl [] w).alloc _⟩

set_option maxRecDepth 100000 in
set_option maxHeartbeats 16000000 in
theorem confParse_any (s : ByteArray) (r : Value) (h1 : fits s → r = .tuple #[.agg (sixCfg s).cells.toArray, .int .i64 0]) (h2 : ¬ fits s → r = .tuple #[.agg zeros6.toArray, .int .i64 5]) (w : World) :
    Calls Try.prog 108 #[.string s] w fun e w' => e = .returned r ∧ Only [] w w' := by
  have H1 := Lib.hid h1
  have H2 := Lib.hid h2
  clear h1 h2
  have ZO := Lib.hid zeros6_one
  go_enter Try.func108, Try.ntmps108
  go_wp2_with (first
    | (refine wpL_alloc rfl 2 rfl _ rfl (.agg zeros6.toArray) zeros6 (by kernel_rfl) rfl ?_; intro w1 ho1 hs1 hb1)
    | (go_at_call 99; refine (penOf_any s _).mono ?_))
  rintro e w2 ⟨rfl, hbe, ho2⟩
  go_wp2_with (first
    | (refine wpL_alloc rfl 5 rfl _ rfl (.agg zeros6.toArray) zeros6 (by kernel_rfl) rfl ?_; intro w3 ho3 hs3 hb3)
    | (refine wpL_slice_lit rfl 165 6 _ rfl Try.underlying165 ptrInfo (by decide) (by decide) [.pointer (some ⟨w2.heap.size, 0, none⟩), .pointer (some ⟨w2.heap.size, 1, none⟩), .pointer (some ⟨w2.heap.size, 2, none⟩), .pointer (some ⟨w2.heap.size, 3, none⟩), .pointer (some ⟨w2.heap.size, 4, none⟩), .pointer (some ⟨w2.heap.size, 5, none⟩)] rfl rfl (by simp [Value.cells]) ?_))
  intro w4 ho4 hs4 hb4
  have hR4 := ((hb1.keep ho2).keep ho3).keep ho4
  have hE4 := (hbe.keep ho3).keep ho4
  have hG4 := hb3.keep ho4
  have a4 : Only [] w w4 := ((ho1.trans ho2).trans ho3).trans ho4
  have s1 : w.heap.size < w1.heap.size := by have := hs1.out; omega
  have s2 : w1.heap.size < w2.heap.size := hbe.lt
  have s3 : w2.heap.size < w3.heap.size := by have := hs3.out; omega
  have s4 : w3.heap.size < w4.heap.size := by have := hs4.out; omega
  have HP : Hid (∀ k, k < 6 → w4.cell? ⟨w3.heap.size, k, none⟩ = some (.pointer (some ⟨w2.heap.size, k, none⟩))) := fun k hk => by
    have : k = 0 ∨ k = 1 ∨ k = 2 ∨ k = 3 ∨ k = 4 ∨ k = 5 := by omega
    rcases this with rfl | rfl | rfl | rfl | rfl | rfl <;> exact hb4.cell rfl
  clear ho1 hs1 hb1 hbe ho2 ho3 hs3 hb3 ho4 hs4 hb4
  generalize w3.heap.size = Q at *
  generalize w2.heap.size = G at *
  generalize w1.heap.size = E at *
  rw [← parC_0 (eyeVal beyond s)] at hG4
  have hE4' : Blk w4 E [.string (eyeSt beyond s 0).1, .bool (eyeSt beyond s 0).2] 214 := hE4
  clear hE4
  go_wp2_with fail
  go_loopw [18] (fun i wr => ∃ (k : Nat), k ≤ 6 ∧ i = .int .i64 (k : Int) ∧ Blk wr G (parC (eyeVal beyond s) k) 23 ∧ Blk wr E [.string (eyeSt beyond s k).1, .bool (eyeSt beyond s k).2] 214 ∧ Only [G, E] w4 wr) (fun i _ => (6 - intOf i).toNat)
  case atStart => exact ⟨0, by omega, rfl, hG4, hE4', Only.refl _ _⟩
  case round =>
    obtain ⟨k, hk, rfl, hG, hE, hor⟩ := hrel
    by_cases hlt : k < 6
    · have g1 : (k : Int) < 6 := by omega
      have cp : wr.cell? ⟨Q, k, none⟩ = some (.pointer (some ⟨G, k, none⟩)) := by rw [hor.cellAt _ _ s4 (by simp; omega)]; exact HP.out k hlt
      have EN : Hid (Calls Try.prog 100 #[.pointer (some ⟨E, 0, none⟩), .int .i64 4294967295] wr fun e w' => e = .returned (.int .i64 (eyeVal beyond s k)) ∧ Blk w' E [.string (eyeSt beyond s (k + 1)).1, .bool (eyeSt beyond s (k + 1)).2] 214 ∧ Only [E] wr w') := penEyeNum_any E _ _ beyond wr hE
      have c0 := parC_at (eyeVal beyond s) k hlt
      have PS := Lib.hid (parC_set (eyeVal beyond s) k)
      obtain ⟨v, ev⟩ : ∃ v, v = eyeVal beyond s k := ⟨_, rfl⟩
      rw [← ev] at EN PS
      clear ev
      go_wp2_with (go_at_call 100; refine EN.out.mono ?_; rintro e w5 ⟨rfl, hE5, ho5⟩; have hG5 := hG.only ho5 (by simp; omega); have c5 := hG5.cell c0; have f5 := hG5.free k)
      go_roundw
      case rel =>
        refine ⟨k + 1, by omega, by go_num, ?_, hE5.set_other (by show E ≠ G; omega) _, (hor.step ho5 (by simp)).set (.inl (by simp)) _⟩
        rw [← PS.out]
        exact hG5.set k _
      case measure => simp [intOf]; omega
    · obtain rfl : k = 6 := by omega
      rw [parC_6] at hG
      have hR := hR4.only hor (by simp; omega)
      have aj : Only [] w wr := a4.step hor (fun i hi => .inr (by simp at hi; omega))
      have sR : w.heap.size < wr.heap.size := hR.lt
      clear hR4 a4 HP hG4 hE4'
      have EE := Lib.hid (penEnd_any E _ _ wr hE)
      by_cases hd : eyeDone (eyeSt beyond s 6).1 (eyeSt beyond s 6).2 = true
      · rw [hd, if_pos rfl] at EE
        have HD := Lib.hid hd
        clear hd
        by_cases hc : CanBe (sixCfg s)
        · have ER := Lib.hid (H1.out ⟨HD.out, hc⟩)
          have GY : Hid (∀ w, Calls Try.prog 83 #[.agg (sixCfg s).cells.toArray] w fun e w' => e = .returned (.bool true) ∧ Only [] w w') := confGood_yes _ hc
          have BU : Hid (Try.prog.built 36 [(0, .agg (sixCfg s).cells.toArray)] = some (sixCfg s).cells.toArray) := built_shp _
          have HL : Hid ((sixCfg s).cells.length = 6) := rfl
          have HO : Hid ((sixCfg s).cells.toArray.all (·.oneCell') = true) := Cfg.cells_one _
          obtain ⟨K, eK⟩ : ∃ K, K = (sixCfg s).cells := ⟨_, rfl⟩
          rw [← eK] at ER GY BU HL HO hG
          clear eK hc HD H1 H2
          go_wp2_with (first
            | (go_at_call 149; refine EE.out.mono ?_; rintro e w5 ⟨rfl, rfl⟩)
            | (refine wpL_yes rfl (wpL_load rfl 23 (.tmp 5) rfl G rfl _ _ _ hG Try.underlying23 rfl cfgInfo HL.out ?_))
            | (go_at_call 83; refine (GY.out _).mono ?_))
          intro e w6 hx
          first | (subst hx; intro ho6) | (obtain ⟨rfl, ho6⟩ := hx)
          have hG6 := hG.keep ho6
          have hR6 := hR.keep ho6
          go_wp2_with (first
            | (refine wpL_load rfl 23 (.tmp 5) rfl G rfl _ _ _ hG6 Try.underlying23 rfl cfgInfo HL.out ?_)
            | (refine wpL_build1 rfl 36 0 (.tmp 36) rfl (.agg K.toArray) rfl K BU.out ?_)
            | (refine wpL_store rfl 36 (.tmp 2) (.tmp 37) rfl w.heap.size K.toArray rfl rfl _ _ hR6 shpInfo HL.out rfl HO.out ?_))
          intro w7 ho7 hs7 hb7
          go_wp2_with fail
          refine end_row_tmp2 (ty := 36) Try.results108 rfl hb7 Try.underlying36 rfl shpInfo HL.out rfl rfl ⟨?_, ?_⟩
          · rw [ER.out]; exact rfl
          · exact (aj.trans ho6).step ho7 (fun i hi => .inr (by simp at hi; omega))
        · have ER := Lib.hid (H2.out fun h => hc h.2)
          have GY : Hid (∀ w, Calls Try.prog 83 #[.agg (sixCfg s).cells.toArray] w fun e w' => e = .returned (.bool false) ∧ Only [] w w') := confGood_no _ hc
          have HL : Hid ((sixCfg s).cells.length = 6) := rfl
          obtain ⟨K, eK⟩ : ∃ K, K = (sixCfg s).cells := ⟨_, rfl⟩
          rw [← eK] at GY HL hG
          clear eK hc HD H1 H2
          go_wp2_with (first
            | (go_at_call 149; refine EE.out.mono ?_; rintro e w5 ⟨rfl, rfl⟩)
            | (refine wpL_yes rfl (wpL_load rfl 23 (.tmp 5) rfl G rfl _ _ _ hG Try.underlying23 rfl cfgInfo HL.out ?_))
            | (go_at_call 83; refine (GY.out _).mono ?_))
          intro e w6 hx
          first | (subst hx; intro ho6) | (obtain ⟨rfl, ho6⟩ := hx)
          have hR6 := hR.keep ho6
          go_wp2_with (first
            | (refine wpL_build rfl 36 #[] rfl zeros6 (by kernel_rfl) ?_)
            | (refine wpL_store rfl 36 (.tmp 2) (.tmp 35) rfl w.heap.size zeros6.toArray rfl rfl _ _ hR6 shpInfo rfl rfl ZO.out ?_))
          intro w7 ho7 hs7 hb7
          go_wp2_with fail
          refine end_row_tmp2 (ty := 36) Try.results108 rfl hb7 Try.underlying36 rfl shpInfo rfl rfl rfl ⟨?_, ?_⟩
          · rw [ER.out]; exact rfl
          · exact (aj.trans ho6).step ho7 (fun i hi => .inr (by simp at hi; omega))
      · rw [if_neg hd] at EE
        have ER := Lib.hid (H2.out fun h => hd h.1)
        clear hd H1 H2
        go_wp2_with (first
          | (go_at_call 149; refine EE.out.mono ?_; rintro e w5 ⟨rfl, rfl⟩)
          | (refine wpL_build rfl 36 #[] rfl zeros6 (by kernel_rfl) ?_)
          | (refine wpL_store rfl 36 (.tmp 2) (.tmp 35) rfl w.heap.size zeros6.toArray rfl rfl _ _ hR shpInfo rfl rfl ZO.out ?_))
        intro w7 ho7 hs7 hb7
        go_wp2_with fail
        refine end_row_tmp2 (ty := 36) Try.results108 rfl hb7 Try.underlying36 rfl shpInfo rfl rfl rfl ⟨?_, ?_⟩
        · rw [ER.out]; exact rfl
        · exact aj.step ho7 (fun i hi => .inr (by simp at hi; omega))

end Go.Proofs.Ytgdifegbpbnekaa
