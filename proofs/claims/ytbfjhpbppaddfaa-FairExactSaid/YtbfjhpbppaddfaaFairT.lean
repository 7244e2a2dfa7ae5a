/- Picks that leave nobody out, by the document: See. -/
import Derived.Test.YtbfjhpbppaddfaaFairS
namespace Go.Proofs.Ytbfjhpbppaddfaa
open Go.RowKit

/-- Who waits behind a pick, of the first so many. -/
def refTo (L : List (Int × Int)) (id : Int) (xs : List Int) : Nat → List (Int × Int)
  | 0 => []
  | k + 1 => if xs.getD k 0 = id ∨ xs.getD k 0 ∈ xs.take k then refTo L id xs k else refTo L id xs k ++ [(xs.getD k 0, lookL L (xs.getD k 0) + 1)]
theorem take_more (xs : List Int) (k : Nat) (h : k < xs.length) : xs.take (k + 1) = xs.take k ++ [xs.getD k 0] := by
  rw [List.take_succ_eq_append_getElem h, List.getD_eq_getElem?_getD, List.getElem?_eq_getElem h]
  rfl
theorem refTo_length (L : List (Int × Int)) (id : Int) (xs : List Int) (k : Nat) : (refTo L id xs k).length ≤ k := by
  induction k with
  | zero => exact Nat.le_refl _
  | succ k ih =>
    unfold refTo
    split
    · omega
    · rw [List.length_append, List.length_singleton]; omega
theorem refTo_keys (L : List (Int × Int)) (id : Int) (xs : List Int) (k : Nat) (hk : k ≤ xs.length) : ∀ p ∈ refTo L id xs k, p.1 ∈ xs.take k := by
  induction k with
  | zero => intro p hp; simp [refTo] at hp
  | succ k ih =>
    intro p hp
    rw [take_more xs k (by omega)]
    unfold refTo at hp
    split at hp
    · exact List.mem_append_left _ (ih (by omega) p hp)
    · rcases List.mem_append.1 hp with hp | hp
      · exact List.mem_append_left _ (ih (by omega) p hp)
      · simp at hp
        exact List.mem_append_right _ (by rw [hp]; simp)
theorem refTo_look (L : List (Int × Int)) (id : Int) (xs : List Int) (k : Nat) (hk : k ≤ xs.length) (y : Int) : lookL (refTo L id xs k) y = nextF (lookL L) id (xs.take k) y := by
  induction k with
  | zero => simp [refTo, lookL, nextF]
  | succ k ih =>
    have ih := ih (by omega)
    have ht := take_more xs k (by omega)
    generalize xs.getD k 0 = x at ht
    unfold refTo
    have hx : xs.getD k 0 = x := by
      have := take_more xs k (by omega)
      rw [ht] at this
      have := List.append_inj_right' this rfl
      simpa using this.symm
    rw [hx, ht]
    by_cases h1 : x = id
    · rw [if_pos (.inl h1), ih, h1, nextF_same]
    · by_cases h2 : x ∈ xs.take k
      · rw [if_pos (.inr h2), ih, nextF_more _ _ _ _ h1]
        by_cases e : y = x
        · subst e; rw [if_pos rfl]; unfold nextF; rw [if_pos ⟨h2, h1⟩]
        · rw [if_neg e]
      · rw [if_neg (fun h => h.elim h1 h2), nextF_more _ _ _ _ h1]
        by_cases e : y = x
        · subst e
          rw [if_pos rfl]
          exact lookL_snoc_same _ _ _ fun p hp e => h2 (by rw [← e]; exact refTo_keys L id xs k (by omega) p hp)
        · rw [if_neg e, lookL_snoc_other _ _ _ _ e, ih]
theorem okAll_again (f : Int → Int) (id K : Int) (P : List Int) (x : Int) (h : x = id ∨ x ∈ P) : okAll f id K (P ++ [x]) = okAll f id K P := by
  rw [okAll_snoc]
  rcases h with h | h
  · simp [h]
  · cases hb : okAll f id K P with
    | false => rfl
    | true =>
      have := List.all_eq_true.1 hb x h
      rw [this]
      rfl

theorem waitInfo3 : (Try.prog.info? 70).map (fun i => (i.zero, i.size, i.bytes)) = some (some (.agg #[.int .i64 0, .int .i64 0]), 2, 16) := by kernel_rfl
theorem waitInfo : (Try.prog.info? 70).map (·.size) = some 2 := by kernel_rfl

set_option maxRecDepth 100000 in
set_option maxHeartbeats 8000000 in
theorem refSee38_any (a : Nat) (K id : Int) (V : Value) (L : List (Int × Int)) (xs : List Int) (vs : Value) (w : World) (ha : Blk w a [.int .i64 K, V] 29) (hv : Waits w V L) (hi : Ints w vs xs) (hl : L.length ≤ 1000)
    (hf : ∀ x, 0 ≤ lookL L x ∧ lookL L x ≤ 1000000) (hx : xs.length ≤ 1000) :
    Calls Try.prog 10 #[.pointer (some ⟨a, 0, none⟩), .int .i64 id, vs] w fun e w' => e = .returned (.bool (okAll (lookL L) id K xs)) ∧ (∃ V', Blk w' a [.int .i64 K, V'] 29 ∧ Waits w' V' (refTo L id xs xs.length) ∧ (∀ b n c, V' = .slice (some b) n c → w.heap.size ≤ b.block)) ∧ Only [a] w w' := by
  have HI := Lib.hid hi
  have HA := Lib.hid ha
  have HF := Lib.hid hf
  have hlta := ha.lt
  have HD : Hid (∀ x wr, Only [] w wr → Calls Try.prog 30 #[.pointer (some ⟨a, 0, none⟩), .int .i64 x] wr fun e w' => e = .returned (.int .i64 (lookL L x)) ∧ wr = w') := fun x wr ho => of38_any a K x V L wr (ha.keep ho) (hv.keep ho) hl
  obtain ⟨ad, cap, rfl⟩ : ∃ ad cap, vs = .slice ad xs.length cap := by
    rcases hi with ⟨⟨a, c, rfl⟩, rfl⟩ | ⟨bk, o, c, rfl, _⟩
    · exact ⟨a, c, rfl⟩
    · exact ⟨_, _, rfl⟩
  clear hi hv ha hf
  go_enter Try.func10, Try.ntmps10
  go_wp2_with (refine wpL_slice_none3 rfl _ rfl Try.underlying27 waitInfo ?_)
  intro w1 ho1 hs1 hown1
  have HO1 := Lib.hid ho1
  have hsz : w.heap.size < w1.heap.size := by have := hs1.out; omega
  clear hs1 ho1
  go_wp2_with fail
  go_loopw [7, 8, 9] (fun l g i wr => ∃ (m : Nat), m ≤ xs.length ∧ i = .int .i64 (m : Int) ∧ g = .bool (okAll (lookL L) id K (xs.take m)) ∧ wr.ownsRow w.heap.size 70 2 l (refTo L id xs m).length (waitCells (refTo L id xs m)) ∧ Only [] w wr) (fun _ _ i _ => xs.length - (intOf i).toNat)
  case atStart => exact ⟨0, by omega, rfl, rfl, hown1, HO1.out⟩
  case round =>
    obtain ⟨m, hm, rfl, rfl, hown, hor⟩ := hrel
    by_cases hlt : m < xs.length
    · have hcell : ∀ j (hj : j < xs.length), ∀ wr', Only [] w wr' → ∃ bk o, ad = some ⟨bk, o, none⟩ ∧ wr'.cell? ⟨bk, o + j, none⟩ = some (.int .i64 xs[j]) := fun j hj wr' hor' => by
        rcases HI.out with ⟨_, h0⟩ | ⟨bk, o, c, hv, h1, h2, h3⟩
        · subst h0; simp at hj
        · injection hv with e1 e2 e3
          refine ⟨bk, o, e1, ?_⟩
          rw [hor'.cellAt bk (o + j) h2 (by simp)]
          exact h1 j _ (List.getElem?_eq_getElem hj)
      have HCELL := Lib.hid hcell
      have m64 : (m : Int) < xs.length := by omega
      have hgx : xs.getD m 0 = xs[m] := by rw [List.getD_eq_getElem?_getD, List.getElem?_eq_getElem hlt]; rfl
      have hT := take_more xs m hlt
      have hR : refTo L id xs (m + 1) = if xs.getD m 0 = id ∨ xs.getD m 0 ∈ xs.take m then refTo L id xs m else refTo L id xs m ++ [(xs.getD m 0, lookL L (xs.getD m 0) + 1)] := rfl
      have hml := refTo_length L id xs m
      obtain ⟨bk0, o0, e0, hcm⟩ := hcell m hlt wr hor
      subst e0
      rw [hgx] at hT hR
      obtain ⟨x, ex⟩ : ∃ x, x = xs[m] := ⟨_, rfl⟩
      rw [← ex] at hT hR hcm
      have HEX : Hid (x = xs[m]) := ex
      have HT := Lib.hid hT
      have HRR := Lib.hid hR
      clear ex hT hR hgx hcell
      go_wp2_with fail
      go_loopw [10, 11] (fun ag i wj => ∃ (j : Nat), j ≤ m ∧ i = .int .i64 (j : Int) ∧ ag = .bool (decide (x ∈ xs.take j)) ∧ Only [] wr wj) (fun _ i _ => m - (intOf i).toNat)
      case atStart => exact ⟨0, by omega, rfl, by simp, Only.refl _ _⟩
      case round =>
        obtain ⟨j, hj, rfl, rfl, hoj⟩ := hrel
        have hO := hor.trans hoj
        obtain ⟨bk1, o1, e1', hcx⟩ := HCELL.out m hlt _ hO
        injection e1' with e1'
        injection e1' with ea eb
        subst ea eb
        rw [← HEX.out] at hcx
        by_cases hjm : j < m
        · obtain ⟨bk2, o2, e2', hcy⟩ := HCELL.out j (by omega) _ hO
          injection e2' with e2'
          injection e2' with ea eb
          subst ea eb
          have j64 : (j : Int) < m := by omega
          have HTj : Hid (xs.take (j + 1) = xs.take j ++ [xs[j]]) := List.take_succ_eq_append_getElem (by omega)
          obtain ⟨y, ey⟩ : ∃ y, y = xs[j] := ⟨_, rfl⟩
          rw [← ey] at hcy HTj
          have HM : Hid (decide (x ∈ xs.take (j + 1)) = (decide (x ∈ xs.take j) || decide (y = x))) := by
            show _ = _
            rw [HTj.out]
            by_cases h1 : x ∈ xs.take j
            · simp [h1]
            · by_cases h2 : y = x
              · subst h2; simp
              · have h3 : ¬ x = y := fun e => h2 e.symm
                simp [h1, h2, h3]
          obtain ⟨b, eb⟩ : ∃ b, b = decide (x ∈ xs.take j) := ⟨_, rfl⟩
          rw [← eb] at HM ⊢
          clear ey eb
          cases b with
          | true =>
            go_wp2_with fail
            go_big_quiet (fail)
            go_wp2_with fail
            go_roundw
            case rel => exact ⟨j + 1, by omega, by go_num, by rw [HM.out]; rfl, hoj.drewN _⟩
            case measure => simp [intOf]; omega
          | false =>
            by_cases hyx : y = x
            · have e1 : (y == x) = true := by rw [beq_iff_eq]; exact hyx
              have HM' : Hid (decide (x ∈ xs.take (j + 1)) = true) := by show _ = _; rw [HM.out, decide_eq_true hyx]; rfl
              clear hyx HM
              go_wp2_with fail
              go_big_quiet (fail)
              go_wp2_with fail
              go_roundw
              case rel => exact ⟨j + 1, by omega, by go_num, by rw [HM'.out], hoj.drewN _⟩
              case measure => simp [intOf]; omega
            · have e1 : (y == x) = false := by rw [beq_eq_false_iff_ne]; exact hyx
              have HM' : Hid (decide (x ∈ xs.take (j + 1)) = false) := by show _ = _; rw [HM.out, decide_eq_false hyx]; rfl
              clear hyx HM
              go_wp2_with fail
              go_big_quiet (fail)
              go_wp2_with fail
              go_roundw
              case rel => exact ⟨j + 1, by omega, by go_num, by rw [HM'.out], hoj.drewN _⟩
              case measure => simp [intOf]; omega
        · obtain rfl : j = m := by omega
          have j64 : ¬ (j : Int) < j := by omega
          have hown' := ownsRow_only hown hoj (S := []) (by simp)
          obtain ⟨b, eb⟩ : ∃ b, b = decide (x ∈ xs.take j) := ⟨_, rfl⟩
          rw [← eb]
          have HB : Hid (b = decide (x ∈ xs.take j)) := eb
          obtain ⟨g, eg⟩ : ∃ g, g = okAll (lookL L) id K (xs.take j) := ⟨_, rfl⟩
          rw [← eg]
          have HG : Hid (g = okAll (lookL L) id K (xs.take j)) := eg
          clear eb eg hcm
          by_cases hid : x = id
          · have e1 : (x == id) = true := by rw [beq_iff_eq]; exact hid
            have HR' : Hid (refTo L id xs (j + 1) = refTo L id xs j) := by show _ = _; rw [HRR.out, if_pos (.inl hid)]
            have HO' : Hid (okAll (lookL L) id K (xs.take (j + 1)) = g) := by show _ = _; rw [HT.out, okAll_again _ _ _ _ _ (.inl hid), HG.out]
            clear hid
            go_wp2_with fail
            go_roundw
            case rel => exact ⟨j + 1, by omega, by go_num, by rw [HO'.out], by rw [HR'.out]; exact hown', hO⟩
            case measure => simp [intOf]; omega
          · have e1 : (x == id) = false := by rw [beq_eq_false_iff_ne]; exact hid
            cases b with
            | true =>
              have hin : x ∈ xs.take j := of_decide_eq_true HB.out.symm
              have HR' : Hid (refTo L id xs (j + 1) = refTo L id xs j) := by show _ = _; rw [HRR.out, if_pos (.inr hin)]
              have HO' : Hid (okAll (lookL L) id K (xs.take (j + 1)) = g) := by show _ = _; rw [HT.out, okAll_again _ _ _ _ _ (.inr hin), HG.out]
              clear hid hin HB
              go_wp2_with fail
              go_roundw
              case rel => exact ⟨j + 1, by omega, by go_num, by rw [HO'.out], by rw [HR'.out]; exact hown', hO⟩
              case measure => simp [intOf]; omega
            | false =>
              have hin : ¬ x ∈ xs.take j := of_decide_eq_false HB.out.symm
              obtain ⟨z, ez⟩ : ∃ z, z = lookL L x := ⟨_, rfl⟩
              obtain ⟨z0, z1⟩ := HF.out x
              have HC := Lib.hid (HD.out x)
              have HR' : Hid (refTo L id xs (j + 1) = refTo L id xs j ++ [(x, z + 1)]) := by show _ = _; rw [HRR.out, if_neg (fun h => h.elim hid hin), ez]
              have HO' : Hid (okAll (lookL L) id K (xs.take (j + 1)) = (g && decide (z + 1 < K))) := by show _ = _; rw [HT.out, okAll_snoc, HG.out, decide_eq_false hid, Bool.false_or, ez]
              rw [← ez] at z0 z1 HC
              clear ez hid hin HB HRR HG
              go_wp2_with (first
                | (go_at_call 30; refine (HC.out _ hO).mono ?_; rintro e w3 ⟨rfl, rfl⟩)
                | (refine wpL_slice_lit rfl 27 1 _ rfl Try.underlying27 waitInfo3 (by decide) (by decide) [.agg [.int .i64 x, .int .i64 (z + 1)].toArray] rfl rfl (by simp [Value.cells]) ?_))
              intro w4 ho4 hs4 hb4
              have hb4' : Blk w4 wr.heap.size [.int .i64 x, .int .i64 (z + 1)] 70 := by simpa [Value.cells] using hb4
              refine wpL_append rfl (.tmp 53) (.tmp 60) 27 rfl w.heap.size 70 Try.underlying27 waitInfo3 rfl (by decide) u7 (refTo L id xs j).length (waitCells (refTo L id xs j)) rfl (ownsRow_only hown' ho4 (by simp)) ⟨wr.heap.size, 0, none⟩ 1 1 [.int .i64 x, .int .i64 (z + 1)] rfl rfl ?hn ?h1 ?h63 ?hby ?hba ?_
              case hn => exact fun j u hu => by rw [show (⟨wr.heap.size, 0, none⟩ : Addr).add j = ⟨wr.heap.size, j, none⟩ by unfold Addr.add; split <;> simp_all]; exact hb4'.cell hu
              case h1 =>
                intro u hu
                simp only [List.mem_cons, List.not_mem_nil, or_false] at hu
                rcases hu with rfl | rfl <;> rfl
              case h63 => unfold maxLen; omega
              case hby => omega
              case hba => have := hO.size; have := ho4.size; omega
              intro v' w5 hown5 hg5 hv5 hiff5
              have hO5 : Only [] w w5 := (hO.trans ho4).step (Only.of_grown hg5) fun i hi => .inr (by
                simp only [Option.mem_toList] at hi
                have := (World.ownsRow.lt hown' i hi).1
                omega)
              have hown6 : w5.ownsRow w.heap.size 70 2 v' (refTo L id xs (j + 1)).length (waitCells (refTo L id xs (j + 1))) := by
                rw [HR'.out, List.length_append, List.length_singleton, waitCells_append]
                exact hown5
              have c0 := (HA.out.keep hO5).cell (i := 0) rfl
              clear hown hown' hown5 hg5 hv5 hiff5 hb4 hb4' ho4 hs4 HR' HC hcx HCELL HEX HD HO1 hown1
              cases g with
              | true =>
                go_wp2_with fail
                go_roundw
                case rel => exact ⟨j + 1, by omega, by go_num, by rw [HO'.out, Bool.true_and], hown6, hO5⟩
                case measure => simp [intOf]; omega
              | false =>
                go_wp2_with fail
                go_roundw
                case rel => exact ⟨j + 1, by omega, by go_num, by rw [HO'.out, Bool.false_and], hown6, hO5⟩
                case measure => simp [intOf]; omega
    · obtain rfl : m = xs.length := by omega
      have har := HA.out.keep hor
      have f1 := har.free 1
      have c1 := har.cell (i := 1) rfl
      have m64 : ¬ (xs.length : Int) < xs.length := by omega
      have HT : Hid (xs.take xs.length = xs) := List.take_length
      rw [HT.out]
      obtain ⟨g, eg⟩ : ∃ g, g = okAll (lookL L) id K xs := ⟨_, rfl⟩
      have GO : Hid (okAll (lookL L) id K xs = g) := eg.symm
      rw [← eg]
      clear eg
      obtain ⟨ad7, n7, cap7, rfl⟩ : ∃ ad n c, u7 = .slice ad n c := by
        rcases hown.2 with ⟨rfl, _⟩ | ⟨g, cap, cur, rfl, _⟩
        · exact ⟨_, _, _, rfl⟩
        · exact ⟨_, _, _, rfl⟩
      go_wp2_with fail
      go_ret
      have hsep : ∀ (b : Addr) (n c : Nat), Value.slice ad7 n7 cap7 = .slice (some b) n c → w.heap.size ≤ b.block := fun b n c e => (World.ownsRow.lt hown b.block (by rw [e]; rfl)).1
      have hset : Only [a] wr (wr.setCell ⟨a, 1, none⟩ (.slice ad7 n7 cap7)) := (Only.refl _ wr).set (p := ⟨a, 1, none⟩) (.inl (by simp)) _
      exact ⟨by rw [GO.out]; exact rfl, ⟨.slice ad7 n7 cap7, har.set 1 _, (Waits.of_owns hown).only hset (fun b n c e => by have := hsep b n c e; simp; omega), hsep⟩, (hor.mono (by simp)).set (p := ⟨a, 1, none⟩) (.inl (by simp)) _⟩

end Go.Proofs.Ytbfjhpbppaddfaa
