/- Walks: the reference's tree. -/
import Derived.Test.YtmogkiacakkmbaaRefD
namespace Go.Proofs.Ytmogkiacakkmbaa
open Go.RowKit

theorem level_append : ∀ (a b : List (List UInt8)), a.length % 2 = 0 → Sha.level (a ++ b) = Sha.level a ++ Sha.level b
  | [], b, _ => by simp [Sha.level]
  | [_], _, h => by simp at h
  | x :: y :: r, b, h => by
    show Sha.pair x y :: Sha.level (r ++ b) = _
    rw [level_append r b (by simp only [List.length_cons] at h; omega)]
    rfl
theorem level_two (ds : List (List UInt8)) (k : Nat) (h : 2 * k + 1 < ds.length) : Sha.level (ds.take (2 * (k + 1))) = Sha.level (ds.take (2 * k)) ++ [Sha.pair (ds.getD (2 * k) []) (ds.getD (2 * k + 1) [])] := by
  have e : ds.take (2 * (k + 1)) = ds.take (2 * k) ++ [ds.getD (2 * k) [], ds.getD (2 * k + 1) []] := by
    rw [show 2 * (k + 1) = 2 * k + 1 + 1 by omega, List.take_succ_eq_append_getElem (by omega), List.take_succ_eq_append_getElem (by omega), List.append_assoc, List.getD_eq_getElem?_getD, List.getD_eq_getElem?_getD, List.getElem?_eq_getElem (by omega), List.getElem?_eq_getElem (by omega)]
    rfl
  rw [e, level_append _ _ (by rw [List.length_take]; omega)]
  rfl
theorem level_odd (ds : List (List UInt8)) (k : Nat) (h : 2 * k + 1 = ds.length) : Sha.level (ds.take (2 * (k + 1))) = Sha.level (ds.take (2 * k)) ++ [ds.getD (2 * k) []] := by
  have h1 : ds.take (2 * k + 1) = ds.take (2 * k) ++ [ds.getD (2 * k) []] := by
    rw [List.take_succ_eq_append_getElem (by omega), List.getD_eq_getElem?_getD, List.getElem?_eq_getElem (by omega)]
    rfl
  have e : ds.take (2 * (k + 1)) = ds.take (2 * k) ++ [ds.getD (2 * k) []] := by
    rw [← h1, List.take_of_length_le (by omega), List.take_of_length_le (by omega)]
  rw [e, level_append _ _ (by rw [List.length_take]; omega)]
  rfl
theorem digCells_at {ds : List (List UInt8)} (hw : Wide ds) {i : Nat} (hi : i < ds.length) {w : World} {bk o : Nat} (h : ∀ j u, (digCells ds)[j]? = some u → w.cell? ⟨bk, o + j, none⟩ = some u) :
    ∀ j u, (Lib.byteCells (ds.getD i []))[j]? = some u → w.cell? ⟨bk, o + i * 32 + j, none⟩ = some u := by
  intro j u hu
  have e : ds = ds.take i ++ (ds.getD i [] :: ds.drop (i + 1)) := by
    rw [List.getD_eq_getElem?_getD, List.getElem?_eq_getElem hi]
    show ds = ds.take i ++ (ds[i] :: ds.drop (i + 1))
    rw [← List.drop_eq_getElem_cons hi, List.take_append_drop]
  have hl : (digCells (ds.take i)).length = i * 32 := by rw [digCells_length _ (hw.take i), List.length_take]; omega
  have := h (i * 32 + j) u (by
    rw [e, digCells_append, List.getElem?_append_right (by omega), hl, show i * 32 + j - i * 32 = j by omega]
    show (Lib.byteCells (ds.getD i []) ++ digCells (ds.drop (i + 1)))[j]? = _
    rw [List.getElem?_append_left (List.getElem?_eq_some_iff.1 hu).1]
    exact hu)
  rwa [← Nat.add_assoc] at this

section
variable {P : Program} {w : World} {ops : Array Oper} {rest : List Oper} {o : Oper} {a : Act} {Q : Exit → Act → World → Prop}
/-- An empty slice literal. -/
theorem wpL_slice_none (hgd : o.guard = none) (t : TypeId) (ho : o.op = .buildSlice t 0 #[]) {e : TypeId} (ht : P.underlying t = some (.slice e))
    {size : Nat} (hinfo : (P.info? e).map (·.size) = some size)
    (h : ∀ w1, Only [] w w1 → Hid (w1.heap.size = w.heap.size + 1) → w1.ownsRow w.heap.size e size (.slice (some ⟨w.heap.size, 0, none⟩) 0 0) 0 [] → wpList P ops Q rest (a.put o.dst (.slice (some ⟨w.heap.size, 0, none⟩) 0 0)) w1) : wpList P ops Q (o :: rest) a w := by
  obtain ⟨i, hi, hs⟩ : ∃ i, P.info? e = some i ∧ i.size = size := by
    cases hi : P.info? e with
    | none => simp [hi] at hinfo
    | some i => exact ⟨i, rfl, by simpa [hi] using hinfo⟩
  have hsz : (sizeOf e).run P w = .ok size w := by simp [sizeOf, typeInfo, hi, hs]
  have hrun : (Instr.buildSlice t 0 #[]).run P w = .ok (.slice (some ⟨w.heap.size, 0, none⟩) 0 0) (w.alloc (.cells #[] e)) := by
    unfold Instr.buildSlice
    rw [Sem.run_bind, run_underlying ht w, Result.andThen_ok]
    simp only
    rw [Sem.run_bind, hsz, Result.andThen_ok]
    have e0 : Array.range 0 = (#[] : Array Nat) := Array.eq_empty_of_size_eq_zero (by simp)
    simp [Instr.fill, newRow, e0]
  refine wpList_plain hgd fun K hK => ?_
  unfold Oper.wp
  simp only [execOp, ho, Sem.run_bind, List.map_toArray, List.map_nil, hrun, Result.andThen_ok, Sem.run_pure]
  refine hK _ _ (h _ ((Only.refl _ w).alloc _) (show _ = _ by simp) ⟨by simp, .inr ⟨w.heap.size, 0, #[], rfl, Nat.le_refl _, heap_alloc_new w _, Nat.le_refl _, by decide, by simp, by simp⟩⟩)
end

theorem dig32Info : (Try.prog.info? 101).map (·.size) = some 32 := by kernel_rfl
theorem dig32Info3 : (Try.prog.info? 101).map (fun i => (i.zero, i.size, i.bytes)) = some (some (.agg zeros32.toArray), 32, 32) := by kernel_rfl

set_option maxRecDepth 100000 in
set_option maxHeartbeats 1000000 in
theorem refTree_none (a : Option Addr) (c : Nat) (w : World) : Calls Try.prog 71 #[.slice a 0 c] w fun e w' => e = .returned (.agg (Lib.byteCells (Sha.sum [])).toArray) ∧ Only [] w w' := by
  have HO : Hid (∀ w, Calls Try.prog 93 #[.string ⟨#[]⟩] w fun e w' => e = .returned (.agg (Lib.byteCells (Sha.sum [])).toArray) ∧ Only [] w w') := fun w => refOf_any ⟨#[]⟩ w (by decide)
  go_enter Try.func71, Try.ntmps71
  go_wp2_with (first
    | (refine wpL_alloc rfl 2 rfl _ rfl (.agg zeros32.toArray) zeros32 (by kernel_rfl) rfl ?_; intro w1 ho1 hs1 hb1)
    | (go_at_call 93; refine (HO.out _).mono ?_; rintro e w2 ⟨rfl, ho2⟩)
    | (refine wpL_store rfl _ _ _ rfl w.heap.size (Lib.byteCells (Sha.sum [])).toArray rfl rfl _ _ (hb1.keep ho2) dig32Info (by simp [byteCells_length, Sha.sum_length]) rfl (byteCells_one _) ?_; intro w3 ho3 hs3 hb3))
  refine end_row (ty := 101) Try.results71 rfl hb3 Try.underlying101 rfl dig32Info (by simp [byteCells_length, Sha.sum_length]) rfl ⟨rfl, (ho1.trans ho2).step ho3 (by simp)⟩

set_option maxRecDepth 100000 in
set_option maxHeartbeats 2000000 in
theorem refTree_many (v : Value) (ds : List (List UInt8)) (w : World) (hw : Wide ds) (hne : ds ≠ []) (hmax : ds.length ≤ 1000000) (h : Digs w v ds) :
    Calls Try.prog 71 #[v] w fun e w' => e = .returned (.agg (Lib.byteCells (Sha.tree ds)).toArray) ∧ Only [] w w' := by
  have HW := Lib.hid hw
  have HNE := Lib.hid hne
  have HD := Lib.hid h
  obtain ⟨bk, o, c, rfl, hc1, hbk, _⟩ := h
  have hlen : ds.length ≠ 0 := by simpa using hne
  clear hw hne
  go_enter Try.func71, Try.ntmps71
  go_wp2_with (refine wpL_alloc rfl 2 rfl _ rfl (.agg zeros32.toArray) zeros32 (by kernel_rfl) rfl ?_; intro w1 ho1 hs1 hb1)
  have HD1 : Digs w1 _ ds := HD.out.keep ho1
  have z1 := hs1.out
  clear HD hs1
  go_loopw [0] (fun x wr => ∃ (es : List (List UInt8)), Digs wr x es ∧ Hid (Wide es) ∧ es.length ≠ 0 ∧ es.length ≤ ds.length ∧ Hid (Sha.tree es = Sha.tree ds) ∧ Only [] w1 wr) (fun x _ => match x with | .slice _ n _ => n | _ => 0)
  case atStart => exact ⟨ds, HD1, HW.out, hlen, Nat.le_refl _, rfl, Only.refl _ _⟩
  case round =>
    obtain ⟨es, hd, hwe, hn0, hle, htree, hor⟩ := hrel
    obtain ⟨bk, o, c, rfl, hc1, hbk, hcells⟩ := hd
    have hsz := hor.size
    by_cases h1 : 1 < es.length
    · have h1' : (1 : Int) < es.length := by omega
      have HC := Lib.hid hcells
      clear hcells
      go_wp2_with (refine wpL_slice_none rfl _ rfl Try.underlying105 dig32Info ?_; intro w3 ho3 hs3 hown3)
      obtain ⟨W0, hW0⟩ : ∃ W, W = wr := ⟨_, rfl⟩
      subst hW0
      have HC3 : Hid (∀ w', Only [] W0 w' → ∀ j u, (digCells es)[j]? = some u → w'.cell? ⟨bk, o + j, none⟩ = some u) := fun w' ho j u hu => by
        rw [ho.cellAt _ _ hbk (by simp)]
        exact HC.out j u hu
      clear hs3 HC
      go_loopw [3, 4] (fun nx i wj => ∃ (k : Nat), 2 * k ≤ es.length + 1 ∧ i = .int .i64 (2 * (k : Int)) ∧ wj.ownsRow W0.heap.size 101 32 nx (Sha.level (es.take (2 * k))).length (digCells (Sha.level (es.take (2 * k)))) ∧ Only [] W0 wj) (fun _ i _ => es.length + 1 - (intOf i).toNat)
      case atStart => exact ⟨0, by omega, rfl, hown3, ho3⟩
      case round =>
        obtain ⟨k, hk, rfl, hown, hoj⟩ := hrel
        have hCk := HC3.out _ hoj.drew
        have hll : (Sha.level (es.take (2 * k))).length ≤ 1000000 := by rw [Sha.level_length, List.length_take]; omega
        have hBj : W0.heap.size ≤ wr.drew.heap.size := hoj.size
        have hownd := ownsRow_only hown (Only.refl [] wr).drew (by simp)
        obtain ⟨nx, enx⟩ : ∃ n, n = Sha.level (es.take (2 * k)) := ⟨_, rfl⟩
        rw [← enx] at hown hownd hll
        have ENX := Lib.hid enx
        clear enx
        by_cases h2 : 2 * k + 1 < es.length
        · have K0 := Lib.hid (digCells_at hwe.out (i := 2 * k) (by omega) hCk)
          have K1 := Lib.hid (digCells_at hwe.out (i := 2 * k + 1) (by omega) hCk)
          have i1 : 2 * (k : Int) < es.length := by omega
          have i2 : 2 * (k : Int) + 1 < es.length := by omega
          obtain ⟨d0, ed0⟩ : ∃ d, d = es.getD (2 * k) [] := ⟨_, rfl⟩
          obtain ⟨d1, ed1⟩ : ∃ d, d = es.getD (2 * k + 1) [] := ⟨_, rfl⟩
          have WD0 : Hid (d0.length = 32) := by
            refine hwe.out d0 ?_
            rw [ed0, List.getD_eq_getElem?_getD, List.getElem?_eq_getElem (by omega)]
            exact List.getElem_mem _
          have WD1 : Hid (d1.length = 32) := by
            refine hwe.out d1 ?_
            rw [ed1, List.getD_eq_getElem?_getD, List.getElem?_eq_getElem (by omega)]
            exact List.getElem_mem _
          rw [← ed0] at K0
          rw [← ed1] at K1
          obtain ⟨pd, hpd⟩ : ∃ pd, pd = Sha.pair d0 d1 := ⟨_, rfl⟩
          have PL : Hid (pd.length = 32) := by subst hpd; exact Sha.sum_length _
          have HPR : Hid (∀ w, Calls Try.prog 126 #[.agg (Lib.byteCells d0).toArray, .agg (Lib.byteCells d1).toArray] w fun e w' => e = .returned (.agg (Lib.byteCells pd).toArray) ∧ Only [] w w') := fun w => by subst hpd; exact refPair_any d0 d1 w WD0.out WD1.out
          have LEV : Hid (Sha.level (es.take (2 * (k + 1))) = nx ++ [pd]) := by show _ = _; rw [level_two es k h2, ENX.out, hpd, ed0, ed1]
          clear hpd ed0 ed1 hCk
          go_wp2_with fail
          refine wp_region_text (by kernel_rfl) (by kernel_rfl) ?_
          go_wp2_with (first
            | (refine wpL_load_at rfl _ _ rfl bk (o + 2 * k * 32) rfl (Lib.byteCells d0) _ K0.out Try.underlying101 rfl dig32Info (by rw [byteCells_length, WD0.out]) ?_)
            | (refine wpL_load_at rfl _ _ rfl bk (o + (2 * k + 1) * 32) rfl (Lib.byteCells d1) _ K1.out Try.underlying101 rfl dig32Info (by rw [byteCells_length, WD1.out]) ?_)
            | (go_at_call 126; refine (HPR.out _).mono ?_))
          rintro e w2 ⟨rfl, ho2⟩
          have hown2 := ownsRow_only hownd ho2 (by simp)
          have hb2 := Nat.le_trans hBj ho2.size
          rename_i hK
          refine hK _ _ ?_
          refine wpL_slice_lit rfl 105 1 _ rfl Try.underlying105 dig32Info3 (by decide) (by decide) [.agg (Lib.byteCells pd).toArray] ?hv rfl (by simp [byteCells_length, PL.out, Value.cells]) ?_
          case hv => rfl
          intro w4 ho4 hs4 hb4
          have hb4' : Blk w4 w2.heap.size (Lib.byteCells pd) 101 := by simpa [Value.cells] using hb4
          refine wpL_append rfl (.tmp 24) (.tmp 35) 105 rfl W0.heap.size 101 Try.underlying105 dig32Info3 rfl (by decide) u3 nx.length (digCells nx) rfl (ownsRow_only hown2 ho4 (by simp)) ⟨w2.heap.size, 0, none⟩ 1 1 (Lib.byteCells pd) rfl (by rw [byteCells_length, PL.out]) ?hn ?h1 ?h63 ?hby ?hba ?_
          case hn => exact fun j u hu => by rw [addr_add, Nat.zero_add]; exact hb4'.cell hu
          case h1 => exact byteCells_ones _
          case h63 => unfold maxLen; omega
          case hby => omega
          case hba => exact Nat.le_trans hb2 ho4.size
          intro v' w5 hown5 hg5 hv5 hiff5
          go_wp2_with fail
          refine TextQ.mk ?_ rfl
          go_wp2_with fail
          go_roundw
          case rel =>
            refine ⟨k + 1, by omega, by go_num, ?_, ((hoj.drew.trans ho2).trans ho4).step (Only.of_grown hg5) fun i hi => .inr ?_⟩
            · rw [LEV.out, digCells_append, List.length_append]
              simpa [digCells] using hown5
            · simp only [Option.mem_toList] at hi
              exact (World.ownsRow.lt hown i hi).1
          case measure => simp [intOf]; omega
        · by_cases h3 : 2 * k + 1 = es.length
          · have K0 := Lib.hid (digCells_at hwe.out (i := 2 * k) (by omega) (HC3.out _ hoj))
            have i1 : 2 * (k : Int) < es.length := by omega
            have i2 : ¬ 2 * (k : Int) + 1 < es.length := by omega
            obtain ⟨d0, ed0⟩ : ∃ d, d = es.getD (2 * k) [] := ⟨_, rfl⟩
            have W0' : Hid (d0.length = 32) := by
              refine hwe.out d0 ?_
              rw [ed0, List.getD_eq_getElem?_getD, List.getElem?_eq_getElem (by omega)]
              exact List.getElem_mem _
            rw [← ed0] at K0
            have LEV : Hid (Sha.level (es.take (2 * (k + 1))) = nx ++ [d0]) := by show _ = _; rw [level_odd es k h3, ENX.out, ed0]
            clear ed0 hCk hownd
            go_wp2_with (first
              | (refine wpL_load_at rfl _ _ rfl bk (o + 2 * k * 32) rfl (Lib.byteCells d0) _ K0.out Try.underlying101 rfl dig32Info (by rw [byteCells_length, W0'.out]) ?_)
              | (refine wpL_slice_lit rfl 105 1 _ rfl Try.underlying105 dig32Info3 (by decide) (by decide) [.agg (Lib.byteCells d0).toArray] ?hv rfl (by simp [byteCells_length, W0'.out, Value.cells]) ?_))
            intro w4 ho4 hs4 hb4
            refine wpL_append rfl (.tmp 37) (.tmp 42) 105 rfl W0.heap.size 101 Try.underlying105 dig32Info3 rfl (by decide) u3 nx.length (digCells nx) rfl (ownsRow_only hown ho4 (by simp)) ⟨wr.heap.size, 0, none⟩ 1 1 (Lib.byteCells d0) rfl (by rw [byteCells_length, W0'.out]) ?hn ?h1 ?h63 ?hby ?hba ?_
            case hn => exact fun j u hu => by rw [addr_add, Nat.zero_add]; exact (show Blk w4 wr.heap.size (Lib.byteCells d0) 101 by simpa [Value.cells] using hb4).cell hu
            case h1 => exact byteCells_ones _
            case h63 => unfold maxLen; omega
            case hby => omega
            case hba => exact Nat.le_trans hBj ho4.size
            intro v' w5 hown5 hg5 hv5 hiff5
            go_wp2_with fail
            go_roundw
            case rel =>
              refine ⟨k + 1, by omega, by go_num, ?_, (hoj.trans ho4).step (Only.of_grown hg5) fun i hi => .inr ?_⟩
              · rw [LEV.out, digCells_append, List.length_append]
                simpa [digCells] using hown5
              · simp only [Option.mem_toList] at hi
                exact (World.ownsRow.lt hown i hi).1
            case measure => simp [intOf]; omega
          · have i1 : ¬ 2 * (k : Int) < es.length := by omega
            have hnx : nx = Sha.level es := by rw [ENX.out, List.take_of_length_le (by omega)]
            have hnl : nx.length = (es.length + 1) / 2 := by rw [hnx, Sha.level_length]
            have hdn : Digs wr u3 nx := Digs.of_owned hown (fun h => by rw [h] at hnl; simp at hnl; omega)
            have hwn : Hid (Wide nx) := by show Wide nx; rw [hnx]; exact wide_level _ hwe.out
            have htn : Hid (Sha.tree nx = Sha.tree ds) := by show _ = _; rw [hnx, ← Sha.tree_level es (by omega), htree.out]
            clear hnx hown hownd hCk
            have hdn' := hdn
            obtain ⟨g, o', c', rfl, _⟩ := hdn'
            have HNL := Lib.hid hnl
            clear hnl
            go_wp2_with fail
            have hnl := HNL.out
            go_roundw
            case rel => exact ⟨nx, hdn, hwn, by first | omega | (intro h; rw [h] at hnl; simp at hnl; omega), by omega, htn, hor.trans hoj⟩
            case measure => first | omega | (simp; omega)
    · obtain ⟨d, rfl⟩ : ∃ d, es = [d] := by
        match es, hn0, h1 with
        | [d], _, _ => exact ⟨d, rfl⟩
        | _ :: _ :: _, _, h => simp at h
      have hc := dig_head hcells
      have HDL : Hid (d.length = 32) := hwe.out d (by simp)
      have HC := Lib.hid hc
      have htd : Hid (d = Sha.tree ds) := by show _ = _; rw [← htree.out]; rfl
      clear hcells hc hn0 h1
      go_wp2_with (first
        | (refine wpL_load_at rfl _ _ rfl bk o rfl (Lib.byteCells d) _ HC.out Try.underlying101 rfl dig32Info (by rw [byteCells_length, HDL.out]) ?_)
        | (refine wpL_store rfl _ _ _ rfl w.heap.size (Lib.byteCells d).toArray rfl rfl _ _ (hb1.keep hor) dig32Info (by simp [byteCells_length, HDL.out]) rfl (byteCells_one _) ?_; intro w3 ho3 hs3 hb3))
      refine end_row (ty := 101) Try.results71 rfl hb3 Try.underlying101 rfl dig32Info (by simp [byteCells_length, HDL.out]) rfl ⟨by rw [htd.out], (ho1.trans hor).step ho3 (by simp)⟩

end Go.Proofs.Ytmogkiacakkmbaa
