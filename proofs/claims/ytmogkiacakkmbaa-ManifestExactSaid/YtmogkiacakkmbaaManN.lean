/- Manifests: read from bytes, walked. -/
import Derived.Test.YtmogkiacakkmbaaManM
namespace Go.Proofs.Ytmogkiacakkmbaa
open Go.RowKit

def ptr4 (G : Nat) : List Value := [.pointer (some ⟨G, 0, none⟩), .pointer (some ⟨G, 1, none⟩), .pointer (some ⟨G, 2, none⟩), .pointer (some ⟨G, 3, none⟩)]
theorem ptr4_at (G k : Nat) (h : k < 4) : (ptr4 G)[k]? = some (.pointer (some ⟨G, k, none⟩)) := by
  have : k = 0 ∨ k = 1 ∨ k = 2 ∨ k = 3 := by omega
  rcases this with rfl | rfl | rfl | rfl <;> rfl

/-- Blocks of T change, none of them known. -/
theorem St.others {w0 : World} {S : List Nat} {w w' : World} {L : List Ent} (h : St w0 S w L) {T : List Nat} (ho : Only T w w') (hT : ∀ i ∈ T, i ∈ S ∨ w0.heap.size ≤ i) (hn : ∀ i ∈ T, Away L i) : St w0 S w' L :=
  ⟨h.only.step ho hT, fun x hx => ⟨(h.each x hx).1.only ho (fun hm => hn _ hm x hx rfl), (h.each x hx).2⟩, h.apart⟩
theorem owns_one {w : World} {base : Nat} {e : TypeId} {size n : Nat} {v : Value} {xs : List Value} (h : w.ownsRow base e size v n xs) : v.oneCell' = true := by
  rcases h.2 with ⟨rfl, _⟩ | ⟨g, cap, cur, rfl, _⟩ <;> rfl

set_option maxRecDepth 100000 in
set_option maxHeartbeats 16000000 in
theorem manParse_yes (b v z k : Int) (ds : List (List UInt8)) (r : List UInt8) (n : Nat) (w : World) (hr : r.length = 32) (hw : Wide ds) (hn : ds.length = n) (hcnt : 0 < cnt b v z k n) :
    Calls Try.prog 122 #[.string ⟨(manB b v z k ds r).toArray⟩] w fun e w' => ∃ g cp rest, e = .returned (.tuple #[.agg (Value.int .i64 b :: .int .i64 v :: .int .i64 z :: .int .i64 k :: .slice (some ⟨g, 0, none⟩) n cp :: Lib.byteCells r).toArray, .int .i64 0]) ∧ n ≤ cp ∧ w.heap.size ≤ g ∧ Blk w' g (digCells ds ++ rest) 102 ∧ Only [] w w' := by
  obtain ⟨hh, hnn, hx1, hx2⟩ := cnt_pos hcnt
  have hb64 := cnt_bounds' b v z k n
  have hn64 : n ≤ 64 := by omega
  have hn1 : 1 ≤ n := by omega
  clear hx1 hx2
  have hne : ds ≠ [] := by intro h; rw [h] at hn; simp at hn; omega
  have htl := tree_wide _ ds (Nat.le_refl _) hw
  have hms : ∀ m ∈ [b, v, z, k], told m = true ∧ m ≤ 2147483647 := by
    intro m hm
    unfold HeadOk at hh
    simp only [List.mem_cons, List.not_mem_nil, or_false] at hm
    rcases hm with rfl | rfl | rfl | rfl <;> simp [told] <;> omega
  have HE := Lib.hid (eyeSt_most 2147483647 [b, v, z, k] (sumT ds r 0) hms 4 (by simp))
  have HV := Lib.hid (eyeVal_most 2147483647 [b, v, z, k] (sumT ds r 0) hms)
  have HSZ := Lib.hid (sumT_size ds r hw hr htl)
  rw [manB_sumT]
  obtain ⟨s, es⟩ : ∃ s : ByteArray, s = ⟨(([b, v, z, k].map num4).flatten ++ sumT ds r 0).toArray⟩ := ⟨_, rfl⟩
  rw [← es] at HE HV ⊢
  have hst := St.start w []
  have PO : Hid (∀ w, Calls Try.prog 85 #[.string s] w fun e w' => ∃ p, e = .returned (.pointer (some ⟨p, 0, none⟩)) ∧ w.heap.size ≤ p ∧ Blk w' p [.string s, .bool false] 190 ∧ Only [] w w') := fun w => (penOf_any s w).mono fun e w' h => ⟨_, h.1, Nat.le_refl _, h.2.1, h.2.2⟩
  clear es hms
  go_enter Try.func122, Try.ntmps122
  go_wp2_with (first
    | ((with_reducible refine wpL_isAlloc rfl ?_); refine wpL_allocS hst rfl 104 rfl (.agg mfZ.toArray) mfZ (by kernel_rfl) rfl 2 rfl ?_; clear hst; intro w1 R hR hst)
    | ((with_reducible refine wpL_isAlloc rfl ?_); refine wpL_allocS hst rfl 104 rfl (.agg mfZ.toArray) mfZ (by kernel_rfl) rfl 5 rfl ?_; clear hst; intro w1 G hG hst)
    | (go_at_call 85; refine (PO.out _).mono ?_; rintro e1 w1 ⟨E, rfl, hE, hBE, hoE⟩; replace hst := hst.new hoE hBE hE; clear hBE hoE)
    | ((with_reducible refine wpL_isSlice rfl ?_); refine wpL_slice_lit rfl 210 4 _ rfl Try.underlying210 ptrInfo (by decide) (by decide) (ptr4 G) rfl rfl (by simp [Value.cells, ptr4]) ?_))
  intro w4 ho4 hs4 hB4
  have hB4' : Blk w4 w1.heap.size (ptr4 G) 209 := hB4
  replace hst := hst.new ho4 hB4' (Nat.le_refl _)
  clear ho4 hs4 hB4 hB4'
  obtain ⟨Q, eQ⟩ : ∃ Q, Q = w1.heap.size := ⟨_, rfl⟩
  rw [← eQ] at hst ⊢
  clear eQ
  rw [← parM_0 (eyeVal 2147483647 s)] at hst
  have hst : St w [] w4 [⟨Q, ptr4 G, 209, true⟩, ⟨G, parM (eyeVal 2147483647 s) 0, 104, true⟩, ⟨E, [.string (eyeSt 2147483647 s 0).1, .bool (eyeSt 2147483647 s 0).2], 190, true⟩, ⟨R, parM (eyeVal 2147483647 s) 0, 104, true⟩] := hst
  go_wp2_with fail
  go_loopw [17] (fun i wr => ∃ (j : Nat), j ≤ 4 ∧ i = .int .i64 (j : Int) ∧ St w [] wr [⟨Q, ptr4 G, 209, true⟩, ⟨G, parM (eyeVal 2147483647 s) j, 104, true⟩, ⟨E, [.string (eyeSt 2147483647 s j).1, .bool (eyeSt 2147483647 s j).2], 190, true⟩, ⟨R, mfZ, 104, true⟩]) (fun i _ => (4 - intOf i).toNat)
  case atStart => exact ⟨0, by omega, rfl, hst⟩
  case round =>
    obtain ⟨j, hj, rfl, hst⟩ := hrel
    by_cases hlt : j < 4
    · have g1 : (j : Int) < 4 := by omega
      have HP := Lib.hid (ptr4_at G j hlt)
      have EN : Hid (Calls Try.prog 86 #[.pointer (some ⟨E, 0, none⟩), .int .i64 2147483647] wr fun e w' => e = .returned (.int .i64 (eyeVal 2147483647 s j)) ∧ Blk w' E [.string (eyeSt 2147483647 s (j + 1)).1, .bool (eyeSt 2147483647 s (j + 1)).2] 190 ∧ Only [E] wr w') := penEyeNum_any E _ _ 2147483647 wr (hst.blk 2 rfl)
      have PS := Lib.hid (parM_set (eyeVal 2147483647 s) j hlt)
      have HLT : Hid (Nat.ble (j + 1) (parM (eyeVal 2147483647 s) j).length = true) := by show _ = _; rw [parM_length]; exact Nat.ble_eq_true_of_le (by omega)
      obtain ⟨V, eV⟩ : ∃ V, V = eyeVal 2147483647 s j := ⟨_, rfl⟩
      rw [← eV] at EN PS
      clear eV
      have cp : wr.cell? ⟨Q, j, none⟩ = some (.pointer (some ⟨G, j, none⟩)) := (hst.blk 0 rfl).cell HP.out
      go_wp2_with (first
        | (go_at_call 86; refine EN.out.mono ?_; rintro e1 w5 ⟨rfl, hE5, ho5⟩; replace hst := hst.chg 2 rfl ho5 hE5; simp only [List.set] at hst; clear hE5 ho5 cp)
        | ((with_reducible refine wpL_isStore rfl ?_); refine wpL_store1S hst rfl rfl 1 rfl rfl HLT.out (v := .int .i64 V) rfl (by kernel_rfl) rfl ?_; clear hst; intro w1 hst; simp only [List.set] at hst; rw [PS.out] at hst))
      go_roundw
      case rel => exact ⟨j + 1, by omega, by go_num, hst⟩
      case measure => simp [intOf]; omega
    · obtain rfl : j = 4 := by omega
      rw [HE.out, parM_4, HV.out 0 (by simp), HV.out 1 (by simp), HV.out 2 (by simp), HV.out 3 (by simp)] at hst
      clear HE HV
      have hst : St w [] wr [⟨Q, ptr4 G, 209, true⟩, ⟨G, .int .i64 b :: .int .i64 v :: .int .i64 z :: .int .i64 k :: .slice none 0 0 :: zeros32, 104, true⟩, ⟨E, [.string ⟨(sumT ds r 0).toArray⟩, .bool false], 190, true⟩, ⟨R, mfZ, 104, true⟩] := hst
      replace hst : St w [] wr [⟨G, .int .i64 b :: .int .i64 v :: .int .i64 z :: .int .i64 k :: .slice none 0 0 :: zeros32, 104, true⟩, ⟨E, [.string ⟨(sumT ds r 0).toArray⟩, .bool false], 190, true⟩, ⟨R, mfZ, 104, true⟩] := hst.dropN 1
      have HZL : zeros32.length = 32 := rfl
      have HT := Lib.hid (fun V => mfTake b v z k V zeros32 HZL)
      have HL := Lib.hid (fun V => mfLen b v z k V zeros32 HZL)
      have CH : Hid (∀ w, Calls Try.prog 124 #[.agg (Value.int .i64 b :: .int .i64 v :: .int .i64 z :: .int .i64 k :: .slice none 0 0 :: zeros32).toArray] w fun e w' => e = .returned (.int .i64 (n : Int)) ∧ Only [] w w') := fun w => by rw [← hnn]; exact chunks_any b v z k _ zeros32 w
      have ER : Hid (∀ w, Blk w E [.string ⟨(sumT ds r 0).toArray⟩, .bool false] 190 → Calls Try.prog 87 #[.pointer (some ⟨E, 0, none⟩)] w fun e w' => e = .returned (.int .i64 0) ∧ w = w') := fun w h => penErr_any E _ false w h
      have LF : Hid (∀ w, Blk w E [.string ⟨(sumT ds r 0).toArray⟩, .bool false] 190 → Calls Try.prog 153 #[.pointer (some ⟨E, 0, none⟩)] w fun e w' => e = .returned (.int .i64 (32 * ((n : Int) + 2))) ∧ w = w') := fun w h => by
        have := penLeft_any E _ false w h
        rw [HSZ.out, hn] at this
        rwa [show ((32 * (n + 2) : Nat) : Int) = 32 * ((n : Int) + 2) by omega] at this
      have en : ((n : Int) == 0) = false := beq_eq_false_iff_ne.2 (by omega)
      clear HZL hnn hh hcnt hb64 HSZ hlt hj
      go_wp2_with (first
        | ((with_reducible refine wpL_isLoad rfl ?_); refine wpL_loadAtS hst rfl (ty := 104) rfl 0 rfl rfl (by kernel_rfl) 37 (by kernel_rfl) _ (HT.out _) (HL.out _) ?_)
        | ((with_reducible refine wpL_peel rfl ?_ ?_); focus (go_simp; done)) | ((with_reducible refine wpL_isLoad rfl ?_); first | (refine wpL_load1S hst rfl rfl 0 rfl rfl rfl (by kernel_rfl) ?_) | (refine wpL_load1S hst rfl rfl 1 rfl rfl rfl (by kernel_rfl) ?_) | (refine wpL_load1S hst rfl rfl 2 rfl rfl rfl (by kernel_rfl) ?_) | (refine wpL_load1S hst rfl rfl 3 rfl rfl rfl (by kernel_rfl) ?_))
        | (go_at_call 124; (with_reducible refine (CH.out _).mono ?_); rintro e1 w1 ⟨rfl, ho1⟩; replace hst := hst.keep ho1; clear ho1)
        | (go_at_call 87; (with_reducible refine (ER.out _ (hst.blk 1 rfl)).mono ?_); rintro e1 w1 ⟨rfl, rfl⟩)
        | (go_at_call 153; (with_reducible refine (LF.out _ (hst.blk 1 rfl)).mono ?_); rintro e1 w1 ⟨rfl, rfl⟩))
      have hRlt := (hst.blk 2 rfl).lt
      have hElt := (hst.blk 1 rfl).lt
      have hGlt := (hst.blk 0 rfl).lt
      have hwl := hst.only.size
      have hEG := hst.neq 0 1 rfl rfl (by decide)
      simp only at hRlt hElt hGlt hEG
      have hown0 := World.ownsRow_nil w1 w1.heap.size 102 32
      obtain ⟨B, eB⟩ : ∃ B, B = w1.heap.size := ⟨_, rfl⟩
      rw [← eB] at hRlt hElt hGlt hwl hown0
      have HT2 := Lib.hid (fun V R hR => mfTake b v z k V R hR)
      have hBw : Hid (B ≤ w1.heap.size) := Nat.le_of_eq eB
      clear eB CH ER LF PO
      go_loopw [45] (fun i wr => ∃ (j : Nat) (V : Value), j ≤ n ∧ i = .int .i64 (j : Int) ∧ St w [] wr [⟨G, .int .i64 b :: .int .i64 v :: .int .i64 z :: .int .i64 k :: V :: zeros32, 104, true⟩, ⟨E, [.string ⟨(sumT ds r j).toArray⟩, .bool false], 190, true⟩, ⟨R, mfZ, 104, true⟩] ∧ wr.ownsRow B 102 32 V j (digCells (ds.take j)) ∧ Hid (B ≤ wr.heap.size)) (fun i _ => (n - intOf i).toNat)
      case atStart => exact ⟨0, _, by omega, rfl, hst, hown0, hBw⟩
      case round =>
        obtain ⟨j, V, hj, rfl, hst, hown, hBr⟩ := hrel
        by_cases hlt : j < n
        · have j1 : (j : Int) < n := by omega
          obtain ⟨d, ed⟩ : ∃ d, d = ds.getD j [] := ⟨_, rfl⟩
          have hd : d.length = 32 := by rw [ed]; exact getD_wide ds hw j (by omega)
          have HDL := Lib.hid hd
          have HNX : Hid (sumT ds r j = d ++ sumT ds r (j + 1)) := by show _ = _; rw [ed]; exact sumT_next ds r j (by omega)
          have HTK : Hid (digCells (ds.take (j + 1)) = digCells (ds.take j) ++ Lib.byteCells d) := by show _ = _; rw [ed]; exact digCells_take_succ ds j (by omega)
          rw [HNX.out] at hst
          have HNB : Hid (G ∉ [E]) := by show ¬ _; simpa using hEG
          clear ed hd
          go_wp2_with fail
          replace hst := hst.drew
          replace hown := ownsRow_only hown (Only.refl [] wr).drew (by simp)
          have hBd : Hid (B ≤ wr.drew.heap.size) := hBr
          clear hBr
          refine wp_region_ordH [E] [3, 4] [1] [0, 1, 2, 3, 4, 5, 6, 7] (by kernel_rfl) (by kernel_rfl) ?_
          generalize World.drew _ = W at *
          refine OrdH.cut 1 0 rfl rfl rfl rfl (by kernel_rfl) (by kernel_rfl) (by kernel_rfl) ?_; simp only [List.take_succ_cons, List.take_zero, List.drop_succ_cons, List.drop_zero, List.filterMap_cons, List.filterMap_nil, List.getElem?_cons_succ, List.getElem?_cons_zero]; go_wp2_with fail; refine TextQ.mk ⟨fun h => by simp at h, ?_⟩ rfl
          refine OrdH.load 1 rfl rfl rfl rfl (by kernel_rfl) (by kernel_rfl) rfl (sure_load1 rfl rfl (hst.blk 0 rfl) rfl rfl (by kernel_rfl) HNB.out) ?_; simp only [List.take_succ_cons, List.take_zero, List.drop_succ_cons, List.drop_zero, List.filterMap_cons, List.filterMap_nil, List.getElem?_cons_succ, List.getElem?_cons_zero]
          refine wpL_load1S hst rfl rfl 0 rfl rfl rfl (by kernel_rfl) ?_
          refine TextQ.mk ⟨fun h => by simp at h, ?_⟩ rfl
          refine OrdH.cut 1 2 rfl rfl rfl rfl (by kernel_rfl) (by kernel_rfl) (by kernel_rfl) ?_; simp only [List.take_succ_cons, List.take_zero, List.drop_succ_cons, List.drop_zero, List.filterMap_cons, List.filterMap_nil, List.getElem?_cons_succ, List.getElem?_cons_zero]; go_wp2_with fail; refine TextQ.mk ⟨fun h => by simp at h, ?_⟩ rfl
          refine OrdH.cut 1 3 rfl rfl rfl rfl (by kernel_rfl) (by kernel_rfl) (by kernel_rfl) ?_; simp only [List.take_succ_cons, List.take_zero, List.drop_succ_cons, List.drop_zero, List.filterMap_cons, List.filterMap_nil, List.getElem?_cons_succ, List.getElem?_cons_zero]
          go_wp2_with (go_at_call 154; refine (eyeDigest_list E d _ W HDL.out (hst.blk 1 rfl)).mono ?_; rintro e1 w2 ⟨rfl, hE2, ho2⟩)
          refine TextQ.mk ⟨fun _ => ho2, ?_⟩ rfl
          replace hst := hst.chg 1 rfl ho2 hE2
          simp only [List.set] at hst
          replace hown := ownsRow_only hown ho2 (fun i hi => by have := (World.ownsRow.lt hown i hi).1; simp; omega)
          have hB2 : Hid (B ≤ w2.heap.size) := Nat.le_trans hBd.out ho2.size
          clear hE2 ho2 hBd
          refine OrdH.cut 1 4 rfl rfl rfl rfl (by kernel_rfl) (by kernel_rfl) (by kernel_rfl) ?_; simp only [List.take_succ_cons, List.take_zero, List.drop_succ_cons, List.drop_zero, List.filterMap_cons, List.filterMap_nil, List.getElem?_cons_succ, List.getElem?_cons_zero]
          refine wpL_slice_lit rfl 100 1 _ rfl Try.underlying100 digInfo3 (by decide) (by decide) [.agg (Lib.byteCells d).toArray] rfl rfl (by simp [byteCells_length, HDL.out, Value.cells]) ?_
          intro w3 ho3 hs3 hB3
          refine TextQ.mk ⟨fun _ => (ho3.mono (by simp)), ?_⟩ rfl
          have hB3' : Blk w3 w2.heap.size (Lib.byteCells d) 102 := by simpa [Value.cells] using hB3
          replace hst := hst.keep ho3
          replace hown := ownsRow_only hown ho3 (by simp)
          have hB4 : Hid (B ≤ w3.heap.size) := Nat.le_trans hB2.out ho3.size
          clear ho3 hs3 hB3 hB2
          refine OrdH.cut 1 5 rfl rfl rfl rfl (by kernel_rfl) (by kernel_rfl) (by kernel_rfl) ?_; simp only [List.take_succ_cons, List.take_zero, List.drop_succ_cons, List.drop_zero, List.filterMap_cons, List.filterMap_nil, List.getElem?_cons_succ, List.getElem?_cons_zero]
          refine wpL_append rfl (.tmp 48) (.tmp 51) 100 rfl B 102 Try.underlying100 digInfo3 rfl (by decide) V j (digCells (ds.take j)) rfl hown ⟨w2.heap.size, 0, none⟩ 1 1 (Lib.byteCells d) rfl (by rw [byteCells_length, HDL.out]) ?hn ?h1 ?h63 ?hby ?hba ?_
          case hn => exact fun j u hu => by rw [addr_add, Nat.zero_add]; exact hB3'.cell hu
          case h1 => exact byteCells_ones _
          case h63 => unfold maxLen; omega
          case hby => omega
          case hba => exact hB4.out
          intro V' w5 hown5 hg5 hv5 hiff5
          refine TextQ.mk ⟨fun h => by simp at h, ?_⟩ rfl
          have hgo := Only.of_grown hg5
          have hlo : ∀ i, i ∈ V.ownBlock.toList → B ≤ i := fun i hi => (World.ownsRow.lt hown i (by simpa using hi)).1
          replace hst := hst.others hgo (fun i hi => .inr (Nat.le_trans hwl (hlo i hi))) (fun i hi x hx => by
            have := hlo i hi
            simp only [List.mem_cons, List.not_mem_nil, or_false] at hx
            rcases hx with rfl | rfl | rfl <;> simp only <;> omega)
          have hB5 : Hid (B ≤ w5.heap.size) := Nat.le_trans hB4.out hgo.size
          have h1V := Lib.hid (owns_one hown5)
          rw [← HTK.out] at hown5
          clear hgo hlo hg5 hv5 hiff5 hown hB4 hB3'
          refine OrdH.cut 1 6 rfl rfl rfl rfl (by kernel_rfl) (by kernel_rfl) (by kernel_rfl) ?_; simp only [List.take_succ_cons, List.take_zero, List.drop_succ_cons, List.drop_zero, List.filterMap_cons, List.filterMap_nil, List.getElem?_cons_succ, List.getElem?_cons_zero]; go_wp2_with fail; refine TextQ.mk ⟨fun h => by simp at h, ?_⟩ rfl
          refine OrdH.cut 1 7 rfl rfl rfl rfl (by kernel_rfl) (by kernel_rfl) (by kernel_rfl) ?_; simp only [List.take_succ_cons, List.take_zero, List.drop_succ_cons, List.drop_zero, List.filterMap_cons, List.filterMap_nil, List.getElem?_cons_succ, List.getElem?_cons_zero]
          refine wpL_store1 rfl 100 (.tmp 53) (.tmp 52) rfl G 4 V' rfl rfl _ _ (hst.blk 0 rfl) (by simp) (by kernel_rfl) h1V.out ?_
          intro w6 ho6 hs6 hb6
          refine TextQ.mk ⟨fun h => by simp at h, ?_⟩ rfl
          replace hst := hst.chg 0 rfl ho6 hb6
          simp only [List.set] at hst
          replace hown5 := ownsRow_only hown5 ho6 (fun i hi => by have := (World.ownsRow.lt hown5 i hi).1; simp; omega)
          have hB6 : Hid (B ≤ w6.heap.size) := Nat.le_trans hB5.out ho6.size
          clear ho6 hb6 hs6 hB5
          refine OrdH.done ?_
          go_wp2_with fail
          exact ⟨⟨j + 1, V', by omega, by go_num, hst, hown5, hB6⟩, by simp [intOf]; omega⟩
        · obtain rfl : j = n := by omega
          have j1 : ¬ (j : Int) < j := by omega
          have hb0 := ownsRow_blk hown (by omega)
          obtain ⟨g, cap, rest, rfl, hcap, hBg, hgb⟩ := hb0
          rw [show ds.take j = ds from List.take_of_length_le (by omega)] at hgb
          replace hst := hst.read hgb (fun x hx => by
            simp only [List.mem_cons, List.not_mem_nil, or_false] at hx
            rcases hx with rfl | rfl | rfl <;> simp only <;> omega)
          have HD1 := Lib.hid hr
          have HD2 := Lib.hid htl
          have HEND : Hid (sumT ds r j = r ++ (Sha.tree ds ++ [])) := by show _ = _; rw [← hn]; exact sumT_end ds r
          rw [HEND.out] at hst
          have RT : Hid (∀ w', Blk w' g (digCells ds ++ rest) 102 → Calls Try.prog 70 #[.agg (Value.int .i64 b :: .int .i64 v :: .int .i64 z :: .int .i64 k :: .slice (some ⟨g, 0, none⟩) j cap :: Lib.byteCells r).toArray] w' fun e w'' => e = .returned (.agg (Lib.byteCells (Sha.tree ds)).toArray) ∧ Only [] w' w'') := fun w' hb => manRoot_any b v z k _ j cap _ ds w' hw (by omega) hne ⟨g, 0, cap, by rw [hn], by omega, hb.lt, fun i u hu => hb.cell (by rw [Nat.zero_add, List.getElem?_append_left (List.getElem?_eq_some_iff.1 hu).1]; exact hu)⟩
          have HCP := Lib.hid hcap
          have HPUT : Hid (putAt (.int .i64 b :: .int .i64 v :: .int .i64 z :: .int .i64 k :: .slice (some ⟨g, 0, none⟩) j cap :: zeros32) (Lib.byteCells r) 5 = .int .i64 b :: .int .i64 v :: .int .i64 z :: .int .i64 k :: .slice (some ⟨g, 0, none⟩) j cap :: Lib.byteCells r) := by
            show _ = _
            unfold putAt
            rw [digLen r hr]
            simp [zeros32]
          have HRL := Lib.hid (digLen r hr)
          have HR1 := Lib.hid (digOne r)
          have HT3 := Lib.hid (mfTake b v z k (.slice (some ⟨g, 0, none⟩) j cap) (Lib.byteCells r) (digLen r hr))
          have HL3 := Lib.hid (mfLen b v z k (.slice (some ⟨g, 0, none⟩) j cap) (Lib.byteCells r) (digLen r hr))
          have H1L : Hid ((.int .i64 b :: .int .i64 v :: .int .i64 z :: .int .i64 k :: .slice (some ⟨g, 0, none⟩) j cap :: Lib.byteCells r).all (·.oneCell') = true) := by show _ = _; simp only [List.all_cons, HR1.out]; rfl
          have HLL : Hid ((.int .i64 b :: .int .i64 v :: .int .i64 z :: .int .i64 k :: .slice (some ⟨g, 0, none⟩) j cap :: Lib.byteCells r).length = mfZ.length) := by show _ = _; rw [HL3.out]; rfl
          have HNB : Hid (G ∉ [E]) := by show ¬ _; simpa using hEG
          have HBG : Hid (w.heap.size ≤ g) := Nat.le_trans hwl hBg
          obtain ⟨tr, etr⟩ : ∃ tr, tr = Sha.tree ds := ⟨_, rfl⟩
          rw [← etr] at hst RT HD2
          obtain ⟨RC, eRC⟩ : ∃ RC, RC = Lib.byteCells r := ⟨_, rfl⟩
          rw [← eRC] at RT HPUT HRL HR1 HT3 HL3 H1L HLL
          have ERC := Lib.hid eRC
          have DG1 : Hid (∀ w, Blk w E [.string ⟨(r ++ (tr ++ [])).toArray⟩, .bool false] 190 → Calls Try.prog 154 #[.pointer (some ⟨E, 0, none⟩)] w fun e w' => e = .returned (.agg RC.toArray) ∧ Blk w' E [.string ⟨(tr ++ []).toArray⟩, .bool false] 190 ∧ Only [E] w w') := fun w hb => by rw [eRC]; exact eyeDigest_list E r _ w hr hb
          clear etr eRC hr hw hn hne htl hown hBr hgb hcap hBg hRlt hElt hGlt hwl hEG HEND HT HL HT2 en hlt hj hBw
          go_wp2_with (first
            | (go_at_call 154; refine (DG1.out _ (hst.blk 2 rfl)).mono ?_; rintro e1 w2 ⟨rfl, hE2, ho2⟩; replace hst := hst.chg 2 rfl ho2 hE2; simp only [List.set] at hst; clear hE2 ho2)
            | ((with_reducible refine wpL_isStore rfl ?_); refine wpL_storeAtS hst rfl (ty := 102) rfl 1 (j := 5) rfl rfl (D := RC) rfl (by rw [HRL.out]; exact digInfo) (by rw [HRL.out]; simp [zeros32]) HR1.out ?_; clear hst; intro w1 hst; simp only [List.set] at hst; rw [HPUT.out] at hst))
          go_wp2_with fail
          replace hst := hst.drew
          have DG2 : Hid (∀ w, Blk w E [.string ⟨(tr ++ []).toArray⟩, .bool false] 190 → Calls Try.prog 154 #[.pointer (some ⟨E, 0, none⟩)] w fun e w' => e = .returned (.agg (Lib.byteCells tr).toArray) ∧ Blk w' E [.string ⟨#[]⟩, .bool false] 190 ∧ Only [E] w w') := fun w hb => eyeDigest_list E tr [] w HD2.out hb
          refine wp_region_ordH [E] [1, 3] [2] [0, 2, 1, 3, 4] (by kernel_rfl) (by kernel_rfl) ?_
          generalize World.drew _ = W at *
          refine OrdH.cut 1 0 rfl rfl rfl rfl (by kernel_rfl) (by kernel_rfl) (by kernel_rfl) ?_; simp only [List.take_succ_cons, List.take_zero, List.drop_succ_cons, List.drop_zero, List.filterMap_cons, List.filterMap_nil, List.getElem?_cons_succ, List.getElem?_cons_zero]; go_wp2_with fail; refine TextQ.mk ⟨fun h => by simp at h, ?_⟩ rfl
          refine OrdH.load 2 rfl rfl rfl rfl (by kernel_rfl) (by kernel_rfl) rfl (sure_row rfl rfl (hst.blk 1 rfl) rfl (by kernel_rfl) (by kernel_rfl) HL3.out HNB.out) ?_; simp only [List.take_succ_cons, List.take_zero, List.drop_succ_cons, List.drop_zero, List.filterMap_cons, List.filterMap_nil, List.getElem?_cons_succ, List.getElem?_cons_zero]
          refine wpL_loadAtS hst rfl (ty := 104) rfl 1 rfl rfl (by kernel_rfl) 37 (by kernel_rfl) _ HT3.out HL3.out ?_
          refine TextQ.mk ⟨fun h => by simp at h, ?_⟩ rfl
          refine OrdH.cut 1 1 rfl rfl rfl rfl (by kernel_rfl) (by kernel_rfl) (by kernel_rfl) ?_; simp only [List.take_succ_cons, List.take_zero, List.drop_succ_cons, List.drop_zero, List.filterMap_cons, List.filterMap_nil, List.getElem?_cons_succ, List.getElem?_cons_zero]
          go_wp2_with (go_at_call 154; refine (DG2.out _ (hst.blk 2 rfl)).mono ?_; rintro e1 w2 ⟨rfl, hE2, ho2⟩)
          refine TextQ.mk ⟨fun _ => ho2, ?_⟩ rfl
          replace hst := hst.chg 2 rfl ho2 hE2
          simp only [List.set] at hst
          clear hE2 ho2
          refine OrdH.cut 1 3 rfl rfl rfl rfl (by kernel_rfl) (by kernel_rfl) (by kernel_rfl) ?_; simp only [List.take_succ_cons, List.take_zero, List.drop_succ_cons, List.drop_zero, List.filterMap_cons, List.filterMap_nil, List.getElem?_cons_succ, List.getElem?_cons_zero]
          go_wp2_with (go_at_call 70; refine (RT.out _ (hst.blk 0 rfl)).mono ?_; rintro e1 w3 ⟨rfl, ho3⟩)
          refine TextQ.mk ⟨fun _ => (ho3.mono (by simp)), ?_⟩ rfl
          replace hst := hst.keep ho3
          clear ho3
          refine OrdH.cut 1 4 rfl rfl rfl rfl (by kernel_rfl) (by kernel_rfl) (by kernel_rfl) ?_; simp only [List.take_succ_cons, List.take_zero, List.drop_succ_cons, List.drop_zero, List.filterMap_cons, List.filterMap_nil, List.getElem?_cons_succ, List.getElem?_cons_zero]
          refine wpL_neqB rfl 102 _ _ _ rfl 5 32 Try.underlying102 Try.underlying5 (by kernel_rfl) (by kernel_rfl) tr tr rfl rfl HD2.out HD2.out true (by simp) ?_
          refine TextQ.mk ⟨fun h => by simp at h, ?_⟩ ?_
          case refine_2 => repeat' (first | exact rfl | exact fine_bytes rfl rfl rfl | refine fine_cons ?_ ?_)
          refine OrdH.done ?_
          go_wp2_with (first
            | ((with_reducible refine wpL_isLoad rfl ?_); refine wpL_loadAtS hst rfl (ty := 104) rfl 1 rfl rfl (by kernel_rfl) 37 (by kernel_rfl) _ HT3.out HL3.out ?_)
            | ((with_reducible refine wpL_isStore rfl ?_); refine wpL_storeS hst rfl (ty := 104) rfl 3 rfl rfl rfl (by kernel_rfl) (by kernel_rfl) HLL.out H1L.out ?_; clear hst; intro w1 hst; simp only [List.set] at hst))
          refine end_row_tmp2 (ty := 104) Try.results122 rfl (hst.blk 3 rfl) Try.underlying104 rfl mfInfo HL3.out rfl rfl ⟨g, cap, rest, ?_, HCP.out, HBG.out, hst.blk 0 rfl, hst.only⟩
          rw [ERC.out]
          exact rfl

end Go.Proofs.Ytmogkiacakkmbaa
