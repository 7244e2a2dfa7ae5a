/- Manifests in the reference: made of a patch. -/
import Derived.Test.YtmogkiacakkmbaaMrF
namespace Go.Proofs.Ytmogkiacakkmbaa
open Go.RowKit

set_option maxRecDepth 100000 in
set_option maxHeartbeats 16000000 in
theorem rmanMake_yes (b v : Int) (K : Nat) (s : ByteArray) (r : List UInt8) (n : Nat) (w : World) (hr : r.length = 32) (hh : HeadOk b v (s.size : Int) (K : Int)) (hn : nch b v (s.size : Int) (K : Int) = (n : Int)) :
    Calls Try.prog 76 #[.int .i64 b, .int .i64 v, .int .i64 (K : Int), .string s, .agg (Lib.byteCells r).toArray] w fun e w' => ∃ V, e = .returned (.tuple #[.agg (Value.int .i64 b :: .int .i64 v :: .int .i64 (s.size : Int) :: .int .i64 (K : Int) :: V :: Lib.byteCells r).toArray, .bool true]) ∧ w'.ownsRow w.heap.size 101 32 V n (digCells (dsOf b v (s.size : Int) (K : Int) n s n)) ∧ Only [] w w' := by
  have hR : (Lib.byteCells r).length = 32 := digLen r hr
  have hR1 : (Lib.byteCells r).all (·.oneCell') = true := digOne r
  obtain ⟨R, eR⟩ : ∃ R, R = Lib.byteCells r := ⟨_, rfl⟩
  rw [← eR] at hR hR1 ⊢
  have hst := (St.start w []).box R 101
  have BM := Lib.hid (rbuilt_mf b v (s.size : Int) (K : Int) R hR)
  have HR0 : Hid ((R.drop 0).take 32 = R) := List.take_of_length_le (by simp [hR])
  have HR := Lib.hid hR
  have HR1 := Lib.hid hR1
  have H1K : Hid ((Value.int .i64 b :: .int .i64 v :: .int .i64 (s.size : Int) :: .int .i64 (K : Int) :: .slice none 0 0 :: R).all (·.oneCell') = true) := by show _ = _; simp only [List.all_cons, hR1]; rfl
  have HLK : Hid (∀ V, (Value.int .i64 b :: .int .i64 v :: .int .i64 (s.size : Int) :: .int .i64 (K : Int) :: V :: R).length = mfZ.length) := fun V => by simp [hR]; rfl
  have HD0 := fun V w => rmanHead_any b v (s.size : Int) (K : Int) V R w
  rw [headB_yes hh] at HD0
  have HD := Lib.hid HD0
  have HT := Lib.hid (fun V => mfTake b v (s.size : Int) (K : Int) V R hR)
  have HL := Lib.hid (fun V => mfLen b v (s.size : Int) (K : Int) V R hR)
  have hnb := nch_bounds b v (s.size : Int) (K : Int)
  have hny := nch_yes hh
  have hcn : cnt b v (s.size : Int) (K : Int) n = (n : Int) := by unfold cnt; rw [hn, if_pos rfl]
  have hh' := hh
  unfold HeadOk at hh'
  have hn1 : 1 ≤ n := by
    have := div_pos' (s.size : Int) (K : Int) (by omega) (by omega)
    omega
  have hn64 : n ≤ 64 := by omega
  have k1 : 1 ≤ K := by omega
  have k2 : K ≤ 256 := by omega
  have s2 : s.size ≤ 4096 := by omega
  have hend : s.size ≤ n * K := by
    have h3 := Int.lt_ediv_add_one_mul_self ((s.size : Int) + (K : Int) - 1) (by omega : (0 : Int) < (K : Int))
    rw [Int.add_mul, Int.one_mul, ← hny, hn, show (n : Int) * (K : Int) = ((n * K : Nat) : Int) by simp] at h3
    omega
  have HPT : Hid (∀ j, j < n → j * K < s.size ∧ partM b v (s.size : Int) (K : Int) n (j : Int) s = s.extract (j * K) (min (j * K + K) s.size)) := fun j hj => by
    have hl := lenM_at (b := b) (v := v) (z := (s.size : Int)) (k := (K : Int)) (a := (j : Int)) (n := n) (by omega) (by omega)
    have el : lenM b v (s.size : Int) (K : Int) n (j : Int) = min (K : Int) ((s.size : Int) - (j : Int) * K) := by
      unfold lenM
      rw [if_pos ⟨by omega, by omega⟩]
    have hjk : ((j : Int) * (K : Int)) = ((j * K : Nat) : Int) := by simp
    rw [hjk] at hl el
    refine ⟨by omega, ?_⟩
    unfold partM
    rw [if_pos ⟨by rw [el]; omega, rfl⟩, el, hjk]
    congr 1
    omega
  have HX := Lib.hid (fun j => congrArg digCells (dsOf_succ b v (s.size : Int) (K : Int) n s j))
  have HAPP : Hid (∀ ds d, digCells (ds ++ [d]) = digCells ds ++ Lib.byteCells d) := fun ds d => by rw [digCells_append, digCells_one1]
  have HEN := Lib.hid hend
  obtain ⟨DJ, eDJ⟩ : ∃ DJ, DJ = fun j => digCells (dsOf b v (s.size : Int) (K : Int) n s j) := ⟨_, rfl⟩
  have HDJ : Hid (∀ j, DJ (j + 1) = DJ j ++ Lib.byteCells (Sha.sum (bl (partM b v (s.size : Int) (K : Int) n (j : Int) s)))) := fun j => by rw [eDJ]; show digCells _ = _; rw [HX.out j, HAPP.out]
  have HDN : Hid (digCells (dsOf b v (s.size : Int) (K : Int) n s n) = DJ n) := by show _ = _; rw [eDJ]
  have HD00 : Hid (DJ 0 = []) := by show _ = _; rw [eDJ]; rfl
  rw [HDN.out]
  clear hh hh' eR hR1 hR HD0 hn hny hnb hcn hend HX HAPP eDJ HDN
  go_enter Try.func76, Try.ntmps76
  go_wp2_with (first
    | ((with_reducible refine wpL_isAlloc rfl ?_); refine wpL_allocS hst rfl 107 rfl (.agg mfZ.toArray) mfZ (by kernel_rfl) rfl 10 rfl ?_; clear hst; intro w1 X hX hst)
    | ((with_reducible refine wpL_isAlloc rfl ?_); refine wpL_allocS hst rfl 107 rfl (.agg mfZ.toArray) mfZ (by kernel_rfl) rfl 12 rfl ?_; clear hst; intro w1 G hG hst)
    | ((with_reducible refine wpL_isLoad rfl ?_); refine wpL_loadAtS hst rfl (ty := 101) rfl 1 rfl rfl (by kernel_rfl) 32 (by kernel_rfl) _ HR0.out HR.out ?_)
    | ((with_reducible refine wpL_isLoad rfl ?_); refine wpL_loadAtS hst rfl (ty := 107) rfl 0 rfl rfl (by kernel_rfl) 37 (by kernel_rfl) _ (HT.out _) (HL.out _) ?_)
    | ((with_reducible refine wpL_isBuild rfl ?_); refine wpL_build5 rfl 107 rfl rfl rfl rfl rfl rfl _ BM.out ?_)
    | ((with_reducible refine wpL_isStore rfl ?_); refine wpL_storeS hst rfl (ty := 107) rfl 0 rfl rfl (D := Value.int .i64 b :: .int .i64 v :: .int .i64 (s.size : Int) :: .int .i64 (K : Int) :: .slice none 0 0 :: R) rfl (by kernel_rfl) (by kernel_rfl) (HLK.out _) H1K.out ?_; clear hst; intro w1 hst; simp only [List.set] at hst)
    | (go_at_call 123; (with_reducible refine (HD.out _ _).mono ?_); rintro e1 w1 ⟨rfl, ho1⟩; replace hst := hst.keep ho1; clear ho1))
  have hG := (hst.blk 0 rfl).lt
  have hX := (hst.blk 1 rfl).lt
  have hW := (hst.blk 2 rfl).lt
  have hwl := hst.only.size
  simp only at hG hX hW
  have hown0 := World.ownsRow_nil w1 w1.heap.size 101 32
  obtain ⟨B, eB⟩ : ∃ B, B = w1.heap.size := ⟨_, rfl⟩
  rw [← eB] at hG hX hW hwl hown0
  rw [← HD00.out] at hown0
  have hBw : Hid (B ≤ w1.heap.size) := Nat.le_of_eq eB
  clear eB
  go_loopw [13] (fun i wr => ∃ (j q : Nat) (V : Value), j ≤ n ∧ Hid (q = j * K) ∧ i = .int .i64 (q : Int) ∧ St w [] wr [⟨G, Value.int .i64 b :: .int .i64 v :: .int .i64 (s.size : Int) :: .int .i64 (K : Int) :: V :: R, 107, true⟩, ⟨X, mfZ, 107, true⟩, ⟨w.heap.size, R, 101, true⟩] ∧ wr.ownsRow B 101 32 V j (DJ j) ∧ Hid (B ≤ wr.heap.size)) (fun i _ => ((s.size : Int) - intOf i).toNat)
  case atStart => exact ⟨0, 0, _, by omega, by show _ = _; simp, rfl, hst, hown0, hBw⟩
  case round =>
    obtain ⟨j, q, V, hj, HQ, rfl, hst, hown, hBr⟩ := hrel
    by_cases hlt : j < n
    · obtain ⟨hql, epe⟩ := HPT.out j hlt
      rw [← HQ.out] at hql epe
      have q1 : (q : Int) < s.size := by omega
      have q0 : (0 : Int) ≤ q := by omega
      have s3 : (s.size : Int) ≤ 4096 := by omega
      have k3 : (K : Int) ≤ 256 := by omega
      have k4 : (1 : Int) ≤ K := by omega
      have HQ2 : Hid (q + K = (j + 1) * K) := by show _ = _; rw [Nat.add_mul, Nat.one_mul, ← HQ.out]
      obtain ⟨pt, ept⟩ : ∃ pt, pt = partM b v (s.size : Int) (K : Int) n (j : Int) s := ⟨_, rfl⟩
      obtain ⟨d, ed⟩ : ∃ d, d = Sha.sum (bl pt) := ⟨_, rfl⟩
      have HTK : Hid (DJ (j + 1) = DJ j ++ Lib.byteCells d) := by show _ = _; rw [ed, ept]; exact HDJ.out j
      have hdl : d.length = 32 := by rw [ed]; exact Sha.sum_length _
      have HDL := Lib.hid hdl
      have HA : Hid (j + 1 ≤ maxLen ∧ (j + 1) * 32 ≤ 140737488355328) := by
        have e : maxLen = 9223372036854775807 := rfl
        show _ ∧ _
        rw [e]
        omega
      clear HPT HDJ HEN
      by_cases hle : q + K ≤ s.size
      · have l1 : (q : Int) + K ≤ s.size := by omega
        have l2 : ((q : Int) + K).toNat = q + K := by omega
        have em : (min ((q : Int) + K) (s.size : Int)).toNat = min (q + K) s.size := by omega
        have OO : Hid (∀ w, Calls Try.prog 93 #[.string (s.extract q (min ((q : Int) + K) (s.size : Int)).toNat)] w fun e w' => e = .returned (.agg (Lib.byteCells d).toArray) ∧ Only [] w w') := fun w => by
          rw [em, ed, ept, epe]
          exact refOf_any _ w (by rw [ext_size _ _ _ (by omega) (by omega)]; omega)
        clear ed ept epe hdl em
        go_wp2_with fail
        replace hst := hst.drew
        replace hown := ownsRow_only hown (Only.refl [] wr).drew (by simp)
        have hBd : Hid (B ≤ wr.drew.heap.size) := hBr
        clear hBr
        refine wp_region_ord [9, 11, 12] [0, 1, 2, 3, 4, 5, 6, 7, 8, 9, 10, 11, 12, 13, 14, 15] (by kernel_rfl) (by kernel_rfl) ?_
        generalize World.drew _ = W at *
        refine Ord.cut 1 0 rfl rfl rfl rfl (by kernel_rfl) (by kernel_rfl) ?_; simp only [List.take_succ_cons, List.take_zero, List.drop_succ_cons, List.drop_zero, List.filterMap_cons, List.filterMap_nil, List.getElem?_cons_succ, List.getElem?_cons_zero]; go_wp2_with fail; refine TextQ.mk ⟨fun h => by simp at h, ?_⟩ rfl
        refine Ord.cut 1 1 rfl rfl rfl rfl (by kernel_rfl) (by kernel_rfl) ?_; simp only [List.take_succ_cons, List.take_zero, List.drop_succ_cons, List.drop_zero, List.filterMap_cons, List.filterMap_nil, List.getElem?_cons_succ, List.getElem?_cons_zero]; (try refine wpL_peel rfl rfl ?_); (first | (refine wpL_load1S hst rfl rfl 0 rfl rfl rfl (by kernel_rfl) ?_) | (refine wpL_load1S hst rfl rfl 1 rfl rfl rfl (by kernel_rfl) ?_) | (refine wpL_load1S hst rfl rfl 2 rfl rfl rfl (by kernel_rfl) ?_) | (refine wpL_load1S hst rfl rfl 3 rfl rfl rfl (by kernel_rfl) ?_)); refine TextQ.mk ⟨fun h => by simp at h, ?_⟩ rfl
        refine Ord.cut 4 5 rfl rfl rfl rfl (by kernel_rfl) (by kernel_rfl) ?_; simp only [List.take_succ_cons, List.take_zero, List.drop_succ_cons, List.drop_zero, List.filterMap_cons, List.filterMap_nil, List.getElem?_cons_succ, List.getElem?_cons_zero]; go_wp2_with fail; refine TextQ.mk ⟨fun h => by simp at h, ?_⟩ rfl
        refine Ord.cut 4 9 rfl rfl rfl rfl (by kernel_rfl) (by kernel_rfl) ?_; simp only [List.take_succ_cons, List.take_zero, List.drop_succ_cons, List.drop_zero, List.filterMap_cons, List.filterMap_nil, List.getElem?_cons_succ, List.getElem?_cons_zero]
        go_wp2_with fail
        refine TextQ.mk ⟨fun _ => Only.refl _ _, ?_⟩ rfl
        refine Ord.cut 1 10 rfl rfl rfl rfl (by kernel_rfl) (by kernel_rfl) ?_; simp only [List.take_succ_cons, List.take_zero, List.drop_succ_cons, List.drop_zero, List.filterMap_cons, List.filterMap_nil, List.getElem?_cons_succ, List.getElem?_cons_zero]; go_wp2_with fail; refine TextQ.mk ⟨fun h => by simp at h, ?_⟩ rfl
        refine Ord.cut 1 11 rfl rfl rfl rfl (by kernel_rfl) (by kernel_rfl) ?_; simp only [List.take_succ_cons, List.take_zero, List.drop_succ_cons, List.drop_zero, List.filterMap_cons, List.filterMap_nil, List.getElem?_cons_succ, List.getElem?_cons_zero]
        go_wp2_with (go_at_call 93; refine (OO.out _).mono ?_; rintro e1 w2 ⟨rfl, ho2⟩)
        refine TextQ.mk ⟨fun _ => ho2, ?_⟩ rfl
        replace hst := hst.keep ho2
        replace hown := ownsRow_only hown ho2 (by simp)
        have hB2 : Hid (B ≤ w2.heap.size) := Nat.le_trans hBd.out ho2.size
        clear ho2 hBd
        refine Ord.cut 1 12 rfl rfl rfl rfl (by kernel_rfl) (by kernel_rfl) ?_; simp only [List.take_succ_cons, List.take_zero, List.drop_succ_cons, List.drop_zero, List.filterMap_cons, List.filterMap_nil, List.getElem?_cons_succ, List.getElem?_cons_zero]
        refine wpL_slice_lit rfl 105 1 _ rfl Try.underlying105 digInfoR (by decide) (by decide) [.agg (Lib.byteCells d).toArray] rfl rfl (by simp [byteCells_length, HDL.out, Value.cells]) ?_
        intro w3 ho3 hs3 hB3
        have hB3' : Blk w3 w2.heap.size (Lib.byteCells d) 101 := by simpa [Value.cells] using hB3
        go_wp2_with fail
        refine TextQ.mk ⟨ho3, ?_⟩ rfl
        replace hst := hst.keep ho3
        replace hown := ownsRow_only hown ho3 (by simp)
        have hB4 : Hid (B ≤ w3.heap.size) := Nat.le_trans hB2.out ho3.size
        clear ho3 hs3 hB3 hB2
        refine Ord.cut 1 13 rfl rfl rfl rfl (by kernel_rfl) (by kernel_rfl) ?_; simp only [List.take_succ_cons, List.take_zero, List.drop_succ_cons, List.drop_zero, List.filterMap_cons, List.filterMap_nil, List.getElem?_cons_succ, List.getElem?_cons_zero]
        refine wpL_append rfl _ _ 105 rfl B 101 Try.underlying105 digInfoR rfl (by decide) V j (DJ j) rfl hown ⟨w2.heap.size, 0, none⟩ 1 1 (Lib.byteCells d) rfl (by rw [byteCells_length, HDL.out]) (fun j u hu => by rw [addr_add, Nat.zero_add]; exact hB3'.cell hu) (byteCells_ones _) HA.out.1 HA.out.2 hB4.out ?_
        intro V' w5 hown5 hg5 hv5 hiff5
        go_wp2_with fail
        refine TextQ.mk ?_ rfl
        have hgo := Only.of_grown hg5
        have hlo : ∀ i, i ∈ V.ownBlock.toList → B ≤ i := fun i hi => (World.ownsRow.lt hown i (by simpa using hi)).1
        replace hst := hst.others hgo (fun i hi => .inr (Nat.le_trans hwl (hlo i hi))) (fun i hi x hx => by
          have := hlo i hi
          simp only [List.mem_cons, List.not_mem_nil, or_false] at hx
          rcases hx with rfl | rfl | rfl <;> simp only <;> omega)
        have hB5 : Hid (B ≤ w5.heap.size) := Nat.le_trans hB4.out hgo.size
        have h1V := Lib.hid (owns_one hown5)
        rw [← HTK.out] at hown5
        clear hgo hlo hg5 hv5 hiff5 hown hB4 hB3'
        refine Ord.cut 1 14 rfl rfl rfl rfl (by kernel_rfl) (by kernel_rfl) ?_; simp only [List.take_succ_cons, List.take_zero, List.drop_succ_cons, List.drop_zero, List.filterMap_cons, List.filterMap_nil, List.getElem?_cons_succ, List.getElem?_cons_zero]; go_wp2_with fail; refine TextQ.mk ⟨fun h => by simp at h, ?_⟩ rfl
        refine Ord.cut 1 15 rfl rfl rfl rfl (by kernel_rfl) (by kernel_rfl) ?_; simp only [List.take_succ_cons, List.take_zero, List.drop_succ_cons, List.drop_zero, List.filterMap_cons, List.filterMap_nil, List.getElem?_cons_succ, List.getElem?_cons_zero]
        refine wpL_store1 rfl 105 _ _ rfl G 4 V' rfl rfl _ _ (hst.blk 0 rfl) (by simp) (by kernel_rfl) h1V.out ?_
        intro w6 ho6 hs6 hb6
        go_wp2_with fail
        refine TextQ.mk ?_ rfl
        replace hst := hst.chg 0 rfl ho6 hb6
        simp only [List.set] at hst
        replace hown5 := ownsRow_only hown5 ho6 (fun i hi => by have := (World.ownsRow.lt hown5 i hi).1; simp; omega)
        have hB6 : Hid (B ≤ w6.heap.size) := Nat.le_trans hB5.out ho6.size
        clear ho6 hb6 hs6 hB5
        refine Ord.done ?_
        go_wp2_with fail
        exact ⟨⟨j + 1, q + K, V', by omega, HQ2, by go_num, hst, hown5, hB6⟩, by simp [intOf]; omega⟩
      · have l1 : (s.size : Int) < (q : Int) + K := by omega
        have em : (min ((q : Int) + K) (s.size : Int)).toNat = min (q + K) s.size := by omega
        have OO : Hid (∀ w, Calls Try.prog 93 #[.string (s.extract q (min ((q : Int) + K) (s.size : Int)).toNat)] w fun e w' => e = .returned (.agg (Lib.byteCells d).toArray) ∧ Only [] w w') := fun w => by
          rw [em, ed, ept, epe]
          exact refOf_any _ w (by rw [ext_size _ _ _ (by omega) (by omega)]; omega)
        clear ed ept epe hdl em
        go_wp2_with fail
        replace hst := hst.drew
        replace hown := ownsRow_only hown (Only.refl [] wr).drew (by simp)
        have hBd : Hid (B ≤ wr.drew.heap.size) := hBr
        clear hBr
        refine wp_region_ord [9, 11, 12] [0, 1, 2, 3, 4, 5, 6, 7, 8, 9, 10, 11, 12, 13, 14, 15] (by kernel_rfl) (by kernel_rfl) ?_
        generalize World.drew _ = W at *
        refine Ord.cut 1 0 rfl rfl rfl rfl (by kernel_rfl) (by kernel_rfl) ?_; simp only [List.take_succ_cons, List.take_zero, List.drop_succ_cons, List.drop_zero, List.filterMap_cons, List.filterMap_nil, List.getElem?_cons_succ, List.getElem?_cons_zero]; go_wp2_with fail; refine TextQ.mk ⟨fun h => by simp at h, ?_⟩ rfl
        refine Ord.cut 1 1 rfl rfl rfl rfl (by kernel_rfl) (by kernel_rfl) ?_; simp only [List.take_succ_cons, List.take_zero, List.drop_succ_cons, List.drop_zero, List.filterMap_cons, List.filterMap_nil, List.getElem?_cons_succ, List.getElem?_cons_zero]; (try refine wpL_peel rfl rfl ?_); (first | (refine wpL_load1S hst rfl rfl 0 rfl rfl rfl (by kernel_rfl) ?_) | (refine wpL_load1S hst rfl rfl 1 rfl rfl rfl (by kernel_rfl) ?_) | (refine wpL_load1S hst rfl rfl 2 rfl rfl rfl (by kernel_rfl) ?_) | (refine wpL_load1S hst rfl rfl 3 rfl rfl rfl (by kernel_rfl) ?_)); refine TextQ.mk ⟨fun h => by simp at h, ?_⟩ rfl
        refine Ord.cut 4 5 rfl rfl rfl rfl (by kernel_rfl) (by kernel_rfl) ?_; simp only [List.take_succ_cons, List.take_zero, List.drop_succ_cons, List.drop_zero, List.filterMap_cons, List.filterMap_nil, List.getElem?_cons_succ, List.getElem?_cons_zero]; go_wp2_with fail; refine TextQ.mk ⟨fun h => by simp at h, ?_⟩ rfl
        refine Ord.cut 4 9 rfl rfl rfl rfl (by kernel_rfl) (by kernel_rfl) ?_; simp only [List.take_succ_cons, List.take_zero, List.drop_succ_cons, List.drop_zero, List.filterMap_cons, List.filterMap_nil, List.getElem?_cons_succ, List.getElem?_cons_zero]
        go_wp2_with fail
        refine TextQ.mk ⟨fun _ => Only.refl _ _, ?_⟩ rfl
        refine Ord.cut 1 10 rfl rfl rfl rfl (by kernel_rfl) (by kernel_rfl) ?_; simp only [List.take_succ_cons, List.take_zero, List.drop_succ_cons, List.drop_zero, List.filterMap_cons, List.filterMap_nil, List.getElem?_cons_succ, List.getElem?_cons_zero]; go_wp2_with fail; refine TextQ.mk ⟨fun h => by simp at h, ?_⟩ rfl
        refine Ord.cut 1 11 rfl rfl rfl rfl (by kernel_rfl) (by kernel_rfl) ?_; simp only [List.take_succ_cons, List.take_zero, List.drop_succ_cons, List.drop_zero, List.filterMap_cons, List.filterMap_nil, List.getElem?_cons_succ, List.getElem?_cons_zero]
        go_wp2_with (go_at_call 93; refine (OO.out _).mono ?_; rintro e1 w2 ⟨rfl, ho2⟩)
        refine TextQ.mk ⟨fun _ => ho2, ?_⟩ rfl
        replace hst := hst.keep ho2
        replace hown := ownsRow_only hown ho2 (by simp)
        have hB2 : Hid (B ≤ w2.heap.size) := Nat.le_trans hBd.out ho2.size
        clear ho2 hBd
        refine Ord.cut 1 12 rfl rfl rfl rfl (by kernel_rfl) (by kernel_rfl) ?_; simp only [List.take_succ_cons, List.take_zero, List.drop_succ_cons, List.drop_zero, List.filterMap_cons, List.filterMap_nil, List.getElem?_cons_succ, List.getElem?_cons_zero]
        refine wpL_slice_lit rfl 105 1 _ rfl Try.underlying105 digInfoR (by decide) (by decide) [.agg (Lib.byteCells d).toArray] rfl rfl (by simp [byteCells_length, HDL.out, Value.cells]) ?_
        intro w3 ho3 hs3 hB3
        have hB3' : Blk w3 w2.heap.size (Lib.byteCells d) 101 := by simpa [Value.cells] using hB3
        go_wp2_with fail
        refine TextQ.mk ⟨ho3, ?_⟩ rfl
        replace hst := hst.keep ho3
        replace hown := ownsRow_only hown ho3 (by simp)
        have hB4 : Hid (B ≤ w3.heap.size) := Nat.le_trans hB2.out ho3.size
        clear ho3 hs3 hB3 hB2
        refine Ord.cut 1 13 rfl rfl rfl rfl (by kernel_rfl) (by kernel_rfl) ?_; simp only [List.take_succ_cons, List.take_zero, List.drop_succ_cons, List.drop_zero, List.filterMap_cons, List.filterMap_nil, List.getElem?_cons_succ, List.getElem?_cons_zero]
        refine wpL_append rfl _ _ 105 rfl B 101 Try.underlying105 digInfoR rfl (by decide) V j (DJ j) rfl hown ⟨w2.heap.size, 0, none⟩ 1 1 (Lib.byteCells d) rfl (by rw [byteCells_length, HDL.out]) (fun j u hu => by rw [addr_add, Nat.zero_add]; exact hB3'.cell hu) (byteCells_ones _) HA.out.1 HA.out.2 hB4.out ?_
        intro V' w5 hown5 hg5 hv5 hiff5
        go_wp2_with fail
        refine TextQ.mk ?_ rfl
        have hgo := Only.of_grown hg5
        have hlo : ∀ i, i ∈ V.ownBlock.toList → B ≤ i := fun i hi => (World.ownsRow.lt hown i (by simpa using hi)).1
        replace hst := hst.others hgo (fun i hi => .inr (Nat.le_trans hwl (hlo i hi))) (fun i hi x hx => by
          have := hlo i hi
          simp only [List.mem_cons, List.not_mem_nil, or_false] at hx
          rcases hx with rfl | rfl | rfl <;> simp only <;> omega)
        have hB5 : Hid (B ≤ w5.heap.size) := Nat.le_trans hB4.out hgo.size
        have h1V := Lib.hid (owns_one hown5)
        rw [← HTK.out] at hown5
        clear hgo hlo hg5 hv5 hiff5 hown hB4 hB3'
        refine Ord.cut 1 14 rfl rfl rfl rfl (by kernel_rfl) (by kernel_rfl) ?_; simp only [List.take_succ_cons, List.take_zero, List.drop_succ_cons, List.drop_zero, List.filterMap_cons, List.filterMap_nil, List.getElem?_cons_succ, List.getElem?_cons_zero]; go_wp2_with fail; refine TextQ.mk ⟨fun h => by simp at h, ?_⟩ rfl
        refine Ord.cut 1 15 rfl rfl rfl rfl (by kernel_rfl) (by kernel_rfl) ?_; simp only [List.take_succ_cons, List.take_zero, List.drop_succ_cons, List.drop_zero, List.filterMap_cons, List.filterMap_nil, List.getElem?_cons_succ, List.getElem?_cons_zero]
        refine wpL_store1 rfl 105 _ _ rfl G 4 V' rfl rfl _ _ (hst.blk 0 rfl) (by simp) (by kernel_rfl) h1V.out ?_
        intro w6 ho6 hs6 hb6
        go_wp2_with fail
        refine TextQ.mk ?_ rfl
        replace hst := hst.chg 0 rfl ho6 hb6
        simp only [List.set] at hst
        replace hown5 := ownsRow_only hown5 ho6 (fun i hi => by have := (World.ownsRow.lt hown5 i hi).1; simp; omega)
        have hB6 : Hid (B ≤ w6.heap.size) := Nat.le_trans hB5.out ho6.size
        clear ho6 hb6 hs6 hB5
        refine Ord.done ?_
        go_wp2_with fail
        exact ⟨⟨j + 1, q + K, V', by omega, HQ2, by go_num, hst, hown5, hB6⟩, by simp [intOf]; omega⟩
    · obtain rfl : j = n := by omega
      have q1 : ¬ (q : Int) < s.size := by have := HEN.out; have := HQ.out; omega
      have h1V := owns_one hown
      have HVA : Hid ((Value.int .i64 b :: .int .i64 v :: .int .i64 (s.size : Int) :: .int .i64 (K : Int) :: V :: R).all (·.oneCell') = true) := by show _ = _; simp only [List.all_cons, HR1.out, h1V]; rfl
      have HVS : Hid ((Value.int .i64 b :: .int .i64 v :: .int .i64 (s.size : Int) :: .int .i64 (K : Int) :: V :: R).toArray.size = mfZ.length) := by show _ = _; rw [List.size_toArray, HLK.out]
      have HVB : Hid ((Value.int .i64 b :: .int .i64 v :: .int .i64 (s.size : Int) :: .int .i64 (K : Int) :: V :: R).toArray.all (·.oneCell') = true) := by show _ = _; rw [List.all_toArray]; exact HVA.out
      clear h1V hBr HVA HPT HDJ HEN
      go_wp2_with (first
        | ((with_reducible refine wpL_isLoad rfl ?_); refine wpL_loadAtS hst rfl (ty := 107) rfl 0 rfl rfl (by kernel_rfl) 37 (by kernel_rfl) _ (HT.out _) (HL.out _) ?_)
        | ((with_reducible refine wpL_isStore rfl ?_); refine wpL_store rfl 107 _ _ rfl X (Value.int .i64 b :: .int .i64 v :: .int .i64 (s.size : Int) :: .int .i64 (K : Int) :: V :: R).toArray rfl rfl _ _ (hst.blk 1 rfl) (by kernel_rfl) HVS.out rfl HVB.out ?_; intro w8 ho8 hs8 hb8))
      replace hst := hst.chg 1 rfl ho8 hb8
      simp only [List.set] at hst
      replace hown := ownsRow_only hown ho8 (fun i hi => by have := (World.ownsRow.lt hown i hi).1; simp; omega)
      refine end_row_tmp2 (ty := 107) Try.results76 rfl (hst.blk 1 rfl) Try.underlying107 rfl rmfInfo (HL.out _) rfl rfl ⟨V, rfl, owns_base' hown hwl, hst.only⟩

end Go.Proofs.Ytmogkiacakkmbaa
