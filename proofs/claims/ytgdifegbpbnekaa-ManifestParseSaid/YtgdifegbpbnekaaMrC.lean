/- Manifests in the reference: bytes of the form, read; the law ManifestParse, walked. -/
import Derived.Test.YtgdifegbpbnekaaMrA
namespace Go.Proofs.Ytgdifegbpbnekaa
open Go.RowKit

section
variable {P : Program} {w : World} {ops : Array Oper} {rest : List Oper} {o : Oper} {a : Act} {Q : Exit → Act → World → Prop}
/-- Two texts, compared the other way. -/
theorem wpL_neqStr (hgd : o.guard = none) {t r : TypeId} {x y : Operand} (ho : o.op = .binOp .neq t x y r) (s u : ByteArray) (hx : a.eval x = .string s) (hy : a.eval y = .string u) (β : Bool) (hβ : decide (s = u) = β)
    (h : wpList P ops Q rest (a.put o.dst (.bool !β)) w) : wpList P ops Q (o :: rest) a w := by
  refine wpL_run hgd (v := .bool !β) ?_ h
  subst hβ
  have e : (s.toList == u.toList) = decide (s = u) := by
    by_cases hs : s = u
    · rw [str_eqq hs, decide_eq_true hs]
    · rw [str_neq hs, decide_eq_false hs]
  unfold execOp
  simp only [ho, Sem.run_bind, hx, hy]
  simp [eqGuard, binOp, Op.stringOp]
  exact e
end
/-- The last sum is told by the bytes. -/
theorem sum_told {b v z k : Int} {ds : List (List UInt8)} {r t : List UInt8} (h : manB b v z k ds r = ([b, v, z, k].map num4).flatten ++ sumX ds r t 0) : t = Sha.tree ds := by
  rw [manB_sumT, ← sumX_tree] at h
  have h1 := List.append_cancel_left h
  unfold sumX at h1
  have h2 := List.append_cancel_left h1
  simp only [List.flatten_cons, List.flatten_nil, List.append_nil] at h2
  exact (List.append_cancel_left h2).symm
theorem rtake_list (b : Nat) (d t : List UInt8) (w : World) (hd : d.length = 32) (h : Blk w b [.string ⟨(d ++ t).toArray⟩, .bool false] 168) :
    Calls Try.prog 106 #[.pointer (some ⟨b, 0, none⟩), .int .i64 32] w fun e w' => e = .returned (.string ⟨d.toArray⟩) ∧ Blk w' b [.string ⟨t.toArray⟩, .bool false] 168 ∧ Only [b] w w' := by
  obtain ⟨h1, h2, h3⟩ := digs_take d t hd
  have := refTake_yes b _ 32 w h h3
  rw [h1, h2] at this
  exact this
theorem rdigest_list (d : List UInt8) (w : World) (hd : d.length = 32) : Calls Try.prog 105 #[.string ⟨d.toArray⟩] w fun e w' => e = .returned (.agg (Lib.byteCells d).toArray) ∧ Only [] w w' := rdigest_yes ⟨d.toArray⟩ (by rw [str_size, hd]) w

set_option maxRecDepth 100000 in
set_option maxHeartbeats 16000000 in
theorem rmanParse_form (b v z k : Int) (ds : List (List UInt8)) (r t : List UInt8) (n : Nat) (s : ByteArray) (w : World) (hr : r.length = 32) (ht : t.length = 32) (hw : Wide ds) (hn : ds.length = n) (hcnt : 0 < cnt b v z k n)
    (hs : s = ⟨(([b, v, z, k].map num4).flatten ++ sumX ds r t 0).toArray⟩) :
    Calls Try.prog 40 #[.string s] w fun e w' => (t = Sha.tree ds ∧ ∃ g cp rest, e = .returned (.tuple #[.agg (Value.int .i64 b :: .int .i64 v :: .int .i64 z :: .int .i64 k :: .slice (some ⟨g, 0, none⟩) n cp :: Lib.byteCells r).toArray, .int .i64 0]) ∧ n ≤ cp ∧ w.heap.size ≤ g ∧ Blk w' g (digCells ds ++ rest) 47 ∧ Only [] w w') ∨ (t ≠ Sha.tree ds ∧ e = .returned (.tuple #[.agg mfZ.toArray, .int .i64 6]) ∧ Only [] w w') := by
  obtain ⟨hh, hnn, hx1, hx2⟩ := cnt_pos hcnt
  have hb64 := cnt_bounds' b v z k n
  have hn64 : n ≤ 64 := by omega
  have hn1 : 1 ≤ n := by omega
  clear hx1 hx2
  have hne : ds ≠ [] := by intro h; rw [h] at hn; simp at hn; omega
  have htl := tree_wide _ ds (Nat.le_refl _) hw
  have hms : ∀ m ∈ [b, v, z, k], told m = true ∧ m ≤ 2147483647 := by
    intro m hm
    unfold HeadOk at hh
    simp only [List.mem_cons, List.not_mem_nil, or_false] at hm
    rcases hm with rfl | rfl | rfl | rfl <;> simp [told] <;> omega
  have HE := eyeSt_most 2147483647 [b, v, z, k] (sumX ds r t 0) hms 4 (by simp)
  have HV := eyeVal_most 2147483647 [b, v, z, k] (sumX ds r t 0) hms
  rw [← hs] at HE HV
  have HSZ := sumX_size ds r t hw hr ht
  have hst := St.start w []
  obtain ⟨ST, eST⟩ : ∃ ST : Nat → ByteArray, ST = fun k => (eyeSt 2147483647 s k).1 := ⟨_, rfl⟩
  obtain ⟨BD, eBD⟩ : ∃ BD : Nat → Bool, BD = fun k => (eyeSt 2147483647 s k).2 := ⟨_, rfl⟩
  obtain ⟨VL, eVL⟩ : ∃ VL : Nat → Int, VL = fun k => eyeVal 2147483647 s k := ⟨_, rfl⟩
  have EN0 : Hid (∀ E w, Blk w E [.string s, .bool false] 168 → Calls Try.prog 104 #[.pointer (some ⟨E, 0, none⟩), .int .i64 2147483647] w fun e w' => e = .returned (.int .i64 (VL 0)) ∧ Blk w' E [.string (ST 1), .bool (BD 1)] 168 ∧ Only [E] w w') := fun E w h => by rw [eST, eBD, eVL]; exact refEyeNum_any E s false 2147483647 w h
  have EN : Hid (∀ k E w, Blk w E [.string (ST k), .bool (BD k)] 168 → Calls Try.prog 104 #[.pointer (some ⟨E, 0, none⟩), .int .i64 2147483647] w fun e w' => e = .returned (.int .i64 (VL k)) ∧ Blk w' E [.string (ST (k + 1)), .bool (BD (k + 1))] 168 ∧ Only [E] w w') := fun k E w h => by rw [eST, eBD, eVL] at *; exact refEyeNum_any E _ _ 2147483647 w h
  have EN1 : Hid (∀ E w, Blk w E [.string (ST 1), .bool (BD 1)] 168 → Calls Try.prog 104 #[.pointer (some ⟨E, 0, none⟩), .int .i64 2147483647] w fun e w' => e = .returned (.int .i64 (VL 1)) ∧ Blk w' E [.string (ST 2), .bool (BD 2)] 168 ∧ Only [E] w w') := EN.out 1
  have EN2 : Hid (∀ E w, Blk w E [.string (ST 2), .bool (BD 2)] 168 → Calls Try.prog 104 #[.pointer (some ⟨E, 0, none⟩), .int .i64 2147483647] w fun e w' => e = .returned (.int .i64 (VL 2)) ∧ Blk w' E [.string (ST 3), .bool (BD 3)] 168 ∧ Only [E] w w') := EN.out 2
  have EN3 : Hid (∀ E w, Blk w E [.string (ST 3), .bool (BD 3)] 168 → Calls Try.prog 104 #[.pointer (some ⟨E, 0, none⟩), .int .i64 2147483647] w fun e w' => e = .returned (.int .i64 (VL 3)) ∧ Blk w' E [.string (ST 4), .bool (BD 4)] 168 ∧ Only [E] w w') := EN.out 3
  clear EN
  have h0 : VL 0 = hdV s 0 := by rw [eVL]; rfl
  have h1 : VL 1 = hdV s 1 := by rw [eVL]; rfl
  have h2 : VL 2 = hdV s 2 := by rw [eVL]; rfl
  have h3 : VL 3 = hdV s 3 := by rw [eVL]; rfl
  have h4 : ST 4 = hdR s := by rw [eST]; rfl
  have h5 : BD 4 = hdB s := by rw [eBD]; rfl
  clear eST eBD eVL
  have g0 : hdV s 0 = b := HV 0 (by simp)
  have g1 : hdV s 1 = v := HV 1 (by simp)
  have g2 : hdV s 2 = z := HV 2 (by simp)
  have g3 : hdV s 3 = k := HV 3 (by simp)
  have g4 : hdR s = ⟨(sumX ds r t 0).toArray⟩ := by unfold hdR; rw [HE]; rfl
  have g5 : hdB s = false := by unfold hdB; rw [HE]
  rw [h0, g0] at EN0
  rw [h1, g1] at EN1
  rw [h2, g2] at EN2
  rw [h3, g3, h4, g4, h5, g5] at EN3
  clear h0 h1 h2 h3 h4 h5 g0 g1 g2 g3 g4 g5 HE HV hms
  have HZL : zeros32.length = 32 := rfl
  have HT := Lib.hid (fun V => mfTake b v z k V zeros32 HZL)
  have HL := Lib.hid (fun V => mfLen b v z k V zeros32 HZL)
  have HZ1 : Hid (mfZ.all (·.oneCell') = true) := by show _ = _; rfl
  have HG1 : Hid ((Value.int .i64 b :: .int .i64 v :: .int .i64 z :: .int .i64 k :: .slice none 0 0 :: zeros32).all (·.oneCell') = true) := by show _ = _; rfl
  have HD0 := fun w => rmanHead_any b v z k (.slice none 0 0) zeros32 w
  rw [headB_yes hh] at HD0
  have HD := Lib.hid HD0
  have hz3 : (z + k - 1) / k = (n : Int) := by rw [← hnn, nch_yes hh]
  have hz2 : (((⟨(sumX ds r t 0).toArray⟩ : ByteArray).size : Int) != 32 * ((n : Int) + 2)) = false := by
    rw [HSZ, hn, bne_eq_false_iff_eq]
    omega
  have hz4 : ((sumX ds r t 0).length : Int) = 32 * ((n : Int) + 2) := by rw [str_size, hn] at HSZ; omega
  have hz5 : (((sumX ds r t 0).length : Int) != 32 * ((n : Int) + 2)) = false := by rw [bne_eq_false_iff_eq]; exact hz4
  have hh' := hh
  unfold HeadOk at hh'
  have z1 : 1 ≤ z := by omega
  have z2 : z ≤ 4096 := by omega
  have k1 : 1 ≤ k := by omega
  have k2 : k ≤ 256 := by omega
  have HH := Lib.hid hh
  have HS := Lib.hid hs
  have n2 : (n : Int) ≤ 64 := by omega
  clear HD0 hh' hh hs HSZ hnn hcnt hb64
  go_enter Try.func40, Try.ntmps40
  go_wp2_with (first
    | ((with_reducible refine wpL_isAlloc rfl ?_); refine wpL_allocS hst rfl 53 rfl (.agg mfZ.toArray) mfZ (by kernel_rfl) rfl 2 rfl ?_; clear hst; intro w1 R hR hst)
    | ((with_reducible refine wpL_isAlloc rfl ?_); refine wpL_allocS hst rfl 53 rfl (.agg mfZ.toArray) mfZ (by kernel_rfl) rfl 6 rfl ?_; clear hst; intro w1 G hG hst)
    | ((with_reducible refine wpL_isBox rfl ?_); refine wpL_boxE hst rfl 168 rfl rfl ?_; clear hst; intro w1 E hE hst)
    | (go_at_call 104; (first | (with_reducible refine (EN0.out _ _ (hst.blk 0 rfl)).mono ?_) | (with_reducible refine (EN1.out _ _ (hst.blk 0 rfl)).mono ?_) | (with_reducible refine (EN2.out _ _ (hst.blk 0 rfl)).mono ?_) | (with_reducible refine (EN3.out _ _ (hst.blk 0 rfl)).mono ?_)); rintro e1 w5 ⟨rfl, hE5, ho5⟩; replace hst := hst.chg 0 rfl ho5 hE5; simp only [List.set] at hst; clear hE5 ho5)
    | ((with_reducible refine wpL_isBuild rfl ?_); refine wpL_build4 rfl 53 rfl rfl rfl rfl rfl _ (rbuilt_mf4 _ _ _ _) ?_)
    | ((with_reducible refine wpL_isBuild rfl ?_); refine wpL_build0 rfl 53 rfl _ rbuilt_mf0 ?_)
    | ((with_reducible refine wpL_isLoad rfl ?_); first | (refine wpL_loadAtS hst rfl (ty := 53) rfl 0 rfl rfl (by kernel_rfl) 37 (by kernel_rfl) _ (HT.out _) (HL.out _) ?_) | (refine wpL_loadAtS hst rfl (ty := 53) rfl 1 rfl rfl (by kernel_rfl) 37 (by kernel_rfl) _ (HT.out _) (HL.out _) ?_) | (refine wpL_loadAtS hst rfl (ty := 53) rfl 2 rfl rfl (by kernel_rfl) 37 (by kernel_rfl) _ (HT.out _) (HL.out _) ?_))
    | ((with_reducible refine wpL_peel rfl ?_ ?_); focus (go_simp; done)) | ((with_reducible refine wpL_isLoad rfl ?_); first | (refine wpL_load1S hst rfl rfl 0 rfl rfl rfl (by kernel_rfl) ?_) | (refine wpL_load1S hst rfl rfl 1 rfl rfl rfl (by kernel_rfl) ?_) | (refine wpL_load1S hst rfl rfl 2 rfl rfl rfl (by kernel_rfl) ?_) | (refine wpL_load1S hst rfl rfl 3 rfl rfl rfl (by kernel_rfl) ?_))
    | (go_at_call 89; (with_reducible refine (HD.out _).mono ?_); rintro e1 w1 ⟨rfl, ho1⟩; replace hst := hst.keep ho1; clear ho1)
    | ((with_reducible refine wpL_isStore rfl ?_); refine wpL_storeS hst rfl (ty := 53) rfl 0 rfl rfl (D := Value.int .i64 b :: .int .i64 v :: .int .i64 z :: .int .i64 k :: .slice none 0 0 :: zeros32) rfl (by kernel_rfl) (by kernel_rfl) rfl HG1.out ?_; clear hst; intro w1 hst; simp only [List.set] at hst))
  have hRlt := (hst.blk 2 rfl).lt
  have hElt := (hst.blk 1 rfl).lt
  have hGlt := (hst.blk 0 rfl).lt
  have hwl := hst.only.size
  have hEG := hst.neq 0 1 rfl rfl (by decide)
  simp only at hRlt hElt hGlt hEG
  have hown0 := World.ownsRow_nil w1 w1.heap.size 47 32
  obtain ⟨B, eB⟩ : ∃ B, B = w1.heap.size := ⟨_, rfl⟩
  rw [← eB] at hRlt hElt hGlt hwl hown0
  have HT2 := Lib.hid (fun V R hR => mfTake b v z k V R hR)
  have hBw : Hid (B ≤ w1.heap.size) := Nat.le_of_eq eB
  clear eB
  go_loopw [8] (fun i wr => ∃ (j : Nat) (V : Value), j ≤ n ∧ i = .int .i64 (j : Int) ∧ St w [] wr [⟨G, .int .i64 b :: .int .i64 v :: .int .i64 z :: .int .i64 k :: V :: zeros32, 53, true⟩, ⟨E, [.string ⟨(sumX ds r t j).toArray⟩, .bool false], 168, true⟩, ⟨R, mfZ, 53, true⟩] ∧ wr.ownsRow B 47 32 V j (digCells (ds.take j)) ∧ Hid (B ≤ wr.heap.size)) (fun i _ => (n - intOf i).toNat)
  case atStart => exact ⟨0, _, by omega, rfl, hst, hown0, hBw⟩
  case round =>
    obtain ⟨j, V, hj, rfl, hst, hown, hBr⟩ := hrel
    by_cases hlt : j < n
    · have j1 : (j : Int) < n := by omega
      obtain ⟨d, ed⟩ : ∃ d, d = ds.getD j [] := ⟨_, rfl⟩
      have hd : d.length = 32 := by rw [ed]; exact getD_wide ds hw j (by omega)
      have HDL := Lib.hid hd
      have HNX : Hid (sumX ds r t j = d ++ sumX ds r t (j + 1)) := by show _ = _; rw [ed]; exact sumX_next ds r t j (by omega)
      have HTK : Hid (digCells (ds.take (j + 1)) = digCells (ds.take j) ++ Lib.byteCells d) := by show _ = _; rw [ed]; exact digCells_take_succ ds j (by omega)
      rw [HNX.out] at hst
      have HNB : Hid (G ∉ [E]) := by show ¬ _; simpa using hEG
      clear ed hd
      go_wp2_with fail
      replace hst := hst.drew
      replace hown := ownsRow_only hown (Only.refl [] wr).drew (by simp)
      have hBd : Hid (B ≤ wr.drew.heap.size) := hBr
      clear hBr
      refine wp_region_ordH [E] [3, 4, 5] [1] [0, 1, 2, 3, 4, 5, 6, 7, 8] (by kernel_rfl) (by kernel_rfl) ?_
      generalize World.drew _ = W at *
      refine OrdH.cut 1 0 rfl rfl rfl rfl (by kernel_rfl) (by kernel_rfl) (by kernel_rfl) ?_; simp only [List.take_succ_cons, List.take_zero, List.drop_succ_cons, List.drop_zero, List.filterMap_cons, List.filterMap_nil, List.getElem?_cons_succ, List.getElem?_cons_zero]; go_wp2_with fail; refine TextQ.mk ⟨fun h => by simp at h, ?_⟩ rfl
      refine OrdH.load 1 rfl rfl rfl rfl (by kernel_rfl) (by kernel_rfl) rfl (sure_load1 rfl rfl (hst.blk 0 rfl) rfl rfl (by kernel_rfl) HNB.out) ?_; simp only [List.take_succ_cons, List.take_zero, List.drop_succ_cons, List.drop_zero, List.filterMap_cons, List.filterMap_nil, List.getElem?_cons_succ, List.getElem?_cons_zero]
      refine wpL_load1S hst rfl rfl 0 rfl rfl rfl (by kernel_rfl) ?_
      refine TextQ.mk ⟨fun h => by simp at h, ?_⟩ rfl
      refine OrdH.cut 1 2 rfl rfl rfl rfl (by kernel_rfl) (by kernel_rfl) (by kernel_rfl) ?_; simp only [List.take_succ_cons, List.take_zero, List.drop_succ_cons, List.drop_zero, List.filterMap_cons, List.filterMap_nil, List.getElem?_cons_succ, List.getElem?_cons_zero]; go_wp2_with fail; refine TextQ.mk ⟨fun h => by simp at h, ?_⟩ rfl
      refine OrdH.cut 1 3 rfl rfl rfl rfl (by kernel_rfl) (by kernel_rfl) (by kernel_rfl) ?_; simp only [List.take_succ_cons, List.take_zero, List.drop_succ_cons, List.drop_zero, List.filterMap_cons, List.filterMap_nil, List.getElem?_cons_succ, List.getElem?_cons_zero]
      go_wp2_with (go_at_call 106; refine (rtake_list E d _ W HDL.out (hst.blk 1 rfl)).mono ?_; rintro e1 w2 ⟨rfl, hE2, ho2⟩)
      refine TextQ.mk ⟨fun _ => ho2, ?_⟩ rfl
      replace hst := hst.chg 1 rfl ho2 hE2
      simp only [List.set] at hst
      replace hown := ownsRow_only hown ho2 (fun i hi => by have := (World.ownsRow.lt hown i hi).1; simp; omega)
      have hB2 : Hid (B ≤ w2.heap.size) := Nat.le_trans hBd.out ho2.size
      clear hE2 ho2 hBd
      refine OrdH.cut 1 4 rfl rfl rfl rfl (by kernel_rfl) (by kernel_rfl) (by kernel_rfl) ?_; simp only [List.take_succ_cons, List.take_zero, List.drop_succ_cons, List.drop_zero, List.filterMap_cons, List.filterMap_nil, List.getElem?_cons_succ, List.getElem?_cons_zero]
      go_wp2_with (go_at_call 105; refine (rdigest_list d _ HDL.out).mono ?_; rintro e1 w2' ⟨rfl, ho2'⟩)
      refine TextQ.mk ⟨fun _ => (ho2'.mono (by simp)), ?_⟩ rfl
      replace hst := hst.keep ho2'
      replace hown := ownsRow_only hown ho2' (by simp)
      have hB2' : Hid (B ≤ w2'.heap.size) := Nat.le_trans hB2.out ho2'.size
      clear ho2' hB2
      refine OrdH.cut 1 5 rfl rfl rfl rfl (by kernel_rfl) (by kernel_rfl) (by kernel_rfl) ?_; simp only [List.take_succ_cons, List.take_zero, List.drop_succ_cons, List.drop_zero, List.filterMap_cons, List.filterMap_nil, List.getElem?_cons_succ, List.getElem?_cons_zero]
      refine wpL_slice_lit rfl 51 1 _ rfl Try.underlying51 digInfoR (by decide) (by decide) [.agg (Lib.byteCells d).toArray] rfl rfl (by simp [byteCells_length, HDL.out, Value.cells]) ?_
      intro w3 ho3 hs3 hB3
      refine TextQ.mk ⟨fun _ => (ho3.mono (by simp)), ?_⟩ rfl
      have hB3' : Blk w3 w2'.heap.size (Lib.byteCells d) 47 := by simpa [Value.cells] using hB3
      replace hst := hst.keep ho3
      replace hown := ownsRow_only hown ho3 (by simp)
      have hB4 : Hid (B ≤ w3.heap.size) := Nat.le_trans hB2'.out ho3.size
      clear ho3 hs3 hB3 hB2'
      refine OrdH.cut 1 6 rfl rfl rfl rfl (by kernel_rfl) (by kernel_rfl) (by kernel_rfl) ?_; simp only [List.take_succ_cons, List.take_zero, List.drop_succ_cons, List.drop_zero, List.filterMap_cons, List.filterMap_nil, List.getElem?_cons_succ, List.getElem?_cons_zero]
      refine wpL_append rfl _ _ 51 rfl B 47 Try.underlying51 digInfoR rfl (by decide) V j (digCells (ds.take j)) rfl hown ⟨w2'.heap.size, 0, none⟩ 1 1 (Lib.byteCells d) rfl (by rw [byteCells_length, HDL.out]) ?hn ?h1 ?h63 ?hby ?hba ?_
      case hn => exact fun j u hu => by rw [addr_add, Nat.zero_add]; exact hB3'.cell hu
      case h1 => exact byteCells_ones _
      case h63 => unfold maxLen; omega
      case hby => omega
      case hba => exact hB4.out
      intro V' w5 hown5 hg5 hv5 hiff5
      refine TextQ.mk ⟨fun h => by simp at h, ?_⟩ rfl
      have hgo := Only.of_grown hg5
      have hlo : ∀ i, i ∈ V.ownBlock.toList → B ≤ i := fun i hi => (World.ownsRow.lt hown i (by simpa using hi)).1
      replace hst := hst.others hgo (fun i hi => .inr (Nat.le_trans hwl (hlo i hi))) (fun i hi x hx => by
        have := hlo i hi
        simp only [List.mem_cons, List.not_mem_nil, or_false] at hx
        rcases hx with rfl | rfl | rfl <;> simp only <;> omega)
      have hB5 : Hid (B ≤ w5.heap.size) := Nat.le_trans hB4.out hgo.size
      have h1V := Lib.hid (owns_one hown5)
      rw [← HTK.out] at hown5
      clear hgo hlo hg5 hv5 hiff5 hown hB4 hB3'
      refine OrdH.cut 1 7 rfl rfl rfl rfl (by kernel_rfl) (by kernel_rfl) (by kernel_rfl) ?_; simp only [List.take_succ_cons, List.take_zero, List.drop_succ_cons, List.drop_zero, List.filterMap_cons, List.filterMap_nil, List.getElem?_cons_succ, List.getElem?_cons_zero]; go_wp2_with fail; refine TextQ.mk ⟨fun h => by simp at h, ?_⟩ rfl
      refine OrdH.cut 1 8 rfl rfl rfl rfl (by kernel_rfl) (by kernel_rfl) (by kernel_rfl) ?_; simp only [List.take_succ_cons, List.take_zero, List.drop_succ_cons, List.drop_zero, List.filterMap_cons, List.filterMap_nil, List.getElem?_cons_succ, List.getElem?_cons_zero]
      refine wpL_store1 rfl 51 _ _ rfl G 4 V' rfl rfl _ _ (hst.blk 0 rfl) (by simp) (by kernel_rfl) h1V.out ?_
      intro w6 ho6 hs6 hb6
      refine TextQ.mk ⟨fun h => by simp at h, ?_⟩ rfl
      replace hst := hst.chg 0 rfl ho6 hb6
      simp only [List.set] at hst
      replace hown5 := ownsRow_only hown5 ho6 (fun i hi => by have := (World.ownsRow.lt hown5 i hi).1; simp; omega)
      have hB6 : Hid (B ≤ w6.heap.size) := Nat.le_trans hB5.out ho6.size
      clear ho6 hb6 hs6 hB5
      refine OrdH.done ?_
      go_wp2_with fail
      exact ⟨⟨j + 1, V', by omega, by go_num, hst, hown5, hB6⟩, by simp [intOf]; omega⟩
    · obtain rfl : j = n := by omega
      have j1 : ¬ (j : Int) < j := by omega
      have hb0 := ownsRow_blk hown (by omega)
      obtain ⟨g, cap, rest, rfl, hcap, hBg, hgb⟩ := hb0
      rw [show ds.take j = ds from List.take_of_length_le (by omega)] at hgb
      replace hst := hst.read hgb (fun x hx => by
        simp only [List.mem_cons, List.not_mem_nil, or_false] at hx
        rcases hx with rfl | rfl | rfl <;> simp only <;> omega)
      have HD1 := Lib.hid hr
      have HTX := Lib.hid ht
      have HEND : Hid (sumX ds r t j = r ++ (t ++ [])) := by show _ = _; rw [← hn]; exact sumX_end ds r t
      rw [HEND.out] at hst
      obtain ⟨M, eM⟩ : ∃ M : ByteArray, M = ⟨(manB b v z k ds r).toArray⟩ := ⟨_, rfl⟩
      have BY : Hid (∀ w', Blk w' g (digCells ds ++ rest) 47 → Calls Try.prog 35 #[.agg (Value.int .i64 b :: .int .i64 v :: .int .i64 z :: .int .i64 k :: .slice (some ⟨g, 0, none⟩) j cap :: Lib.byteCells r).toArray] w' fun e w'' => e = .returned (.string M) ∧ Only [] w' w'') := fun w' hb => by
        rw [eM]
        exact rmanBytes_yes b v z k g 0 j cap ds r w' hr hw hn (by omega) hne HH.out ⟨g, 0, cap, by rw [hn], by omega, hb.lt, fun i u hu => hb.cell (by rw [Nat.zero_add, List.getElem?_append_left (List.getElem?_eq_some_iff.1 hu).1]; exact hu)⟩
      have HCP := Lib.hid hcap
      have HPUT : Hid (putAt (Value.int .i64 b :: .int .i64 v :: .int .i64 z :: .int .i64 k :: .slice (some ⟨g, 0, none⟩) j cap :: zeros32) (Lib.byteCells r) 5 = Value.int .i64 b :: .int .i64 v :: .int .i64 z :: .int .i64 k :: .slice (some ⟨g, 0, none⟩) j cap :: Lib.byteCells r) := by
        show _ = _
        unfold putAt
        rw [digLen r hr]
        simp [zeros32]
      have HRL := Lib.hid (digLen r hr)
      have HR1 := Lib.hid (digOne r)
      have HT3 := Lib.hid (mfTake b v z k (.slice (some ⟨g, 0, none⟩) j cap) (Lib.byteCells r) (digLen r hr))
      have HL3 := Lib.hid (mfLen b v z k (.slice (some ⟨g, 0, none⟩) j cap) (Lib.byteCells r) (digLen r hr))
      have H1L : Hid ((Value.int .i64 b :: .int .i64 v :: .int .i64 z :: .int .i64 k :: .slice (some ⟨g, 0, none⟩) j cap :: Lib.byteCells r).all (·.oneCell') = true) := by show _ = _; simp only [List.all_cons, HR1.out]; rfl
      have HLL : Hid ((Value.int .i64 b :: .int .i64 v :: .int .i64 z :: .int .i64 k :: .slice (some ⟨g, 0, none⟩) j cap :: Lib.byteCells r).length = mfZ.length) := by show _ = _; rw [HL3.out]; rfl
      have HBG : Hid (w.heap.size ≤ g) := Nat.le_trans hwl hBg
      obtain ⟨RC, eRC⟩ : ∃ RC, RC = Lib.byteCells r := ⟨_, rfl⟩
      have TK1 : Hid (∀ w, Blk w E [.string ⟨(r ++ (t ++ [])).toArray⟩, .bool false] 168 → Calls Try.prog 106 #[.pointer (some ⟨E, 0, none⟩), .int .i64 32] w fun e w' => e = .returned (.string ⟨r.toArray⟩) ∧ Blk w' E [.string ⟨(t ++ []).toArray⟩, .bool false] 168 ∧ Only [E] w w') := fun w hb => rtake_list E r _ w hr hb
      have DG1 : Hid (∀ w, Calls Try.prog 105 #[.string ⟨r.toArray⟩] w fun e w' => e = .returned (.agg (Lib.byteCells r).toArray) ∧ Only [] w w') := fun w => rdigest_list r w hr
      rw [← eRC] at BY HPUT HRL HR1 HT3 HL3 H1L HLL DG1
      have ERC := Lib.hid eRC
      have EM := Lib.hid eM
      clear eRC eM hr hw hn hne htl hown hBr hgb hcap hBg hRlt hElt hGlt hwl hEG HEND HT HL HT2 hlt hj hBw ht
      by_cases hT : t = Sha.tree ds
      · have HEQ : Hid (decide (M = s) = true) := by
          show _ = _
          rw [EM.out, HS.out, hT, sumX_tree, ← manB_sumT]
          exact decide_eq_true rfl
        have HTT := Lib.hid hT
        clear hT
        go_wp2_with (first
          | (go_at_call 106; refine (TK1.out _ (hst.blk 2 rfl)).mono ?_; rintro e1 w2 ⟨rfl, hE2, ho2⟩; replace hst := hst.chg 2 rfl ho2 hE2; simp only [List.set] at hst; clear hE2 ho2)
          | (go_at_call 105; (with_reducible refine (DG1.out _).mono ?_); rintro e1 w1 ⟨rfl, ho1⟩; replace hst := hst.keep ho1; clear ho1)
          | ((with_reducible refine wpL_isStore rfl ?_); refine wpL_storeAtS hst rfl (ty := 47) rfl 1 (j := 5) rfl rfl (D := RC) rfl (by rw [HRL.out]; exact arrInfo32) (by rw [HRL.out]; simp [zeros32]) HR1.out ?_; clear hst; intro w1 hst; simp only [List.set] at hst; rw [HPUT.out] at hst)
          | ((with_reducible refine wpL_isLoad rfl ?_); first | (refine wpL_loadAtS hst rfl (ty := 53) rfl 0 rfl rfl (by kernel_rfl) 37 (by kernel_rfl) _ HT3.out HL3.out ?_) | (refine wpL_loadAtS hst rfl (ty := 53) rfl 1 rfl rfl (by kernel_rfl) 37 (by kernel_rfl) _ HT3.out HL3.out ?_) | (refine wpL_loadAtS hst rfl (ty := 53) rfl 2 rfl rfl (by kernel_rfl) 37 (by kernel_rfl) _ HT3.out HL3.out ?_))
          | ((with_reducible refine wpL_peel rfl ?_ ?_); focus (go_simp; done)) | ((with_reducible refine wpL_isLoad rfl ?_); first | (refine wpL_load1S hst rfl rfl 0 rfl rfl rfl (by kernel_rfl) ?_) | (refine wpL_load1S hst rfl rfl 1 rfl rfl rfl (by kernel_rfl) ?_) | (refine wpL_load1S hst rfl rfl 2 rfl rfl rfl (by kernel_rfl) ?_) | (refine wpL_load1S hst rfl rfl 3 rfl rfl rfl (by kernel_rfl) ?_))
          | (go_at_call 35; (with_reducible refine (BY.out _ (hst.blk 0 rfl)).mono ?_); rintro e1 w1 ⟨rfl, ho1⟩; replace hst := hst.keep ho1; clear ho1)
          | ((with_reducible refine wpL_isBin rfl ?_); refine wpL_neqStr rfl rfl M s rfl rfl true HEQ.out ?_)
          | ((with_reducible refine wpL_isBuild rfl ?_); refine wpL_build0 rfl 53 rfl _ rbuilt_mf0 ?_)
          | ((with_reducible refine wpL_isStore rfl ?_); refine wpL_storeS hst rfl (ty := 53) rfl 3 rfl rfl (D := Value.int .i64 b :: .int .i64 v :: .int .i64 z :: .int .i64 k :: .slice (some ⟨g, 0, none⟩) j cap :: RC) rfl (by kernel_rfl) (by kernel_rfl) HLL.out H1L.out ?_; clear hst; intro w1 hst; simp only [List.set] at hst))
        refine end_row_tmp2 (ty := 53) Try.results40 rfl (hst.blk 3 rfl) Try.underlying53 rfl rmfInfo HL3.out rfl rfl (.inl ⟨HTT.out, g, cap, rest, ?_, HCP.out, HBG.out, hst.blk 0 rfl, hst.only⟩)
        rw [ERC.out]
        exact rfl
      · have HEQ : Hid (decide (M = s) = false) := by
          show _ = _
          refine decide_eq_false fun e => hT ?_
          rw [EM.out, HS.out] at e
          exact sum_told (by have := congrArg bl e; rwa [bl_mk, bl_mk] at this)
        have HTT := Lib.hid hT
        clear hT
        go_wp2_with (first
          | (go_at_call 106; refine (TK1.out _ (hst.blk 2 rfl)).mono ?_; rintro e1 w2 ⟨rfl, hE2, ho2⟩; replace hst := hst.chg 2 rfl ho2 hE2; simp only [List.set] at hst; clear hE2 ho2)
          | (go_at_call 105; (with_reducible refine (DG1.out _).mono ?_); rintro e1 w1 ⟨rfl, ho1⟩; replace hst := hst.keep ho1; clear ho1)
          | ((with_reducible refine wpL_isStore rfl ?_); refine wpL_storeAtS hst rfl (ty := 47) rfl 1 (j := 5) rfl rfl (D := RC) rfl (by rw [HRL.out]; exact arrInfo32) (by rw [HRL.out]; simp [zeros32]) HR1.out ?_; clear hst; intro w1 hst; simp only [List.set] at hst; rw [HPUT.out] at hst)
          | ((with_reducible refine wpL_isLoad rfl ?_); first | (refine wpL_loadAtS hst rfl (ty := 53) rfl 0 rfl rfl (by kernel_rfl) 37 (by kernel_rfl) _ HT3.out HL3.out ?_) | (refine wpL_loadAtS hst rfl (ty := 53) rfl 1 rfl rfl (by kernel_rfl) 37 (by kernel_rfl) _ HT3.out HL3.out ?_) | (refine wpL_loadAtS hst rfl (ty := 53) rfl 2 rfl rfl (by kernel_rfl) 37 (by kernel_rfl) _ HT3.out HL3.out ?_))
          | ((with_reducible refine wpL_peel rfl ?_ ?_); focus (go_simp; done)) | ((with_reducible refine wpL_isLoad rfl ?_); first | (refine wpL_load1S hst rfl rfl 0 rfl rfl rfl (by kernel_rfl) ?_) | (refine wpL_load1S hst rfl rfl 1 rfl rfl rfl (by kernel_rfl) ?_) | (refine wpL_load1S hst rfl rfl 2 rfl rfl rfl (by kernel_rfl) ?_) | (refine wpL_load1S hst rfl rfl 3 rfl rfl rfl (by kernel_rfl) ?_))
          | (go_at_call 35; (with_reducible refine (BY.out _ (hst.blk 0 rfl)).mono ?_); rintro e1 w1 ⟨rfl, ho1⟩; replace hst := hst.keep ho1; clear ho1)
          | ((with_reducible refine wpL_isBin rfl ?_); refine wpL_neqStr rfl rfl M s rfl rfl false HEQ.out ?_)
          | ((with_reducible refine wpL_isBuild rfl ?_); refine wpL_build0 rfl 53 rfl _ rbuilt_mf0 ?_)
          | ((with_reducible refine wpL_isStore rfl ?_); refine wpL_storeS hst rfl (ty := 53) rfl 3 rfl rfl (D := mfZ) rfl (by kernel_rfl) (by kernel_rfl) rfl HZ1.out ?_; clear hst; intro w1 hst; simp only [List.set] at hst))
        refine end_row_tmp2 (ty := 53) Try.results40 rfl (hst.blk 3 rfl) Try.underlying53 rfl rmfInfo rfl rfl rfl (.inr ⟨HTT.out, rfl, hst.only⟩)

end Go.Proofs.Ytgdifegbpbnekaa

namespace Go.Proofs.Ytgdifegbpbnekaa
open Go.RowKit

def zeroB : List UInt8 := List.replicate 32 0
theorem mfZ_none : mfZ = Value.int .i64 0 :: .int .i64 0 :: .int .i64 0 :: .int .i64 0 :: .slice none 0 0 :: Lib.byteCells zeroB := by kernel_rfl

set_option maxRecDepth 100000 in
set_option maxHeartbeats 16000000 in
/-- Both give the same error, and nothing. -/
theorem parseLaw_no (s : ByteArray) (c : Int) (w : World) (h3 : ¬ 4096 < (s.size : Int)) (h1 : ∀ w, Calls Try.prog 39 #[.string s] w fun e w' => e = .returned (.tuple #[.agg mfZ.toArray, .int .i64 c]) ∧ Only [] w w')
    (h2 : ∀ w, Calls Try.prog 40 #[.string s] w fun e w' => e = .returned (.tuple #[.agg mfZ.toArray, .int .i64 c]) ∧ Only [] w w') :
    Calls Try.prog 5 #[.string s] w fun e w' => e = .returned (.bool true) ∧ Only [] w w' := by
  have hst := St.start w []
  have AW := Lib.hid awake20_any
  have P1 := Lib.hid h1
  have P2 := Lib.hid h2
  have d3 : decide (4096 < (s.size : Int)) = false := decide_eq_false h3
  have AL : Hid (∀ w, Calls Try.prog 38 #[.agg mfZ.toArray, .agg mfZ.toArray] w fun e w' => e = .returned (.bool true) ∧ Only [] w w') := fun w => by
    rw [mfZ_none]
    exact manAlike_same 0 0 0 0 none none 0 0 0 [] zeroB w rfl (fun d hd => by simp at hd) rfl (by omega) (fun h => absurd rfl h) (fun h => absurd rfl h)
  have HZ1 : Hid (mfZ.all (·.oneCell') = true) := by show _ = _; rfl
  have HTZ : Hid ((mfZ.drop 0).take 37 = mfZ) := by show _ = _; rfl
  have HLZ : Hid (mfZ.length = 37) := by show _ = _; rfl
  have HCC : (c == c) = true := by simp
  clear h1 h2 h3
  generalize mfZ = Z at P1 P2 AL HZ1 HTZ HLZ
  go_enter Try.func5, Try.ntmps5
  go_wp2_with (first
    | ((with_reducible refine wpL_peel rfl ?_ ?_); focus (go_simp; done))
    | ((with_reducible refine wpL_isAlloc rfl ?_); refine wpL_allocS hst rfl 50 rfl (.agg mfZ.toArray) mfZ (by kernel_rfl) rfl 3 rfl ?_; clear hst; intro w1 A hA hst)
    | ((with_reducible refine wpL_isAlloc rfl ?_); refine wpL_allocS hst rfl 53 rfl (.agg mfZ.toArray) mfZ (by kernel_rfl) rfl 5 rfl ?_; clear hst; intro w1 B hB hst)
    | (go_at_call 20; (with_reducible refine (AW.out _).mono ?_); rintro e1 w1 ⟨rfl, ho1⟩; replace hst := hst.keep ho1; clear ho1)
    | (go_at_call 39; (with_reducible refine (P1.out _).mono ?_); rintro e1 w1 ⟨rfl, ho1⟩; replace hst := hst.keep ho1; clear ho1)
    | (go_at_call 40; (with_reducible refine (P2.out _).mono ?_); rintro e1 w1 ⟨rfl, ho1⟩; replace hst := hst.keep ho1; clear ho1)
    | (go_at_call 38; (with_reducible refine (AL.out _).mono ?_); rintro e1 w1 ⟨rfl, ho1⟩; replace hst := hst.keep ho1; clear ho1)
    | ((with_reducible refine wpL_isLoad rfl ?_); first | (refine wpL_loadAtS hst rfl (ty := 50) rfl 1 rfl rfl (by kernel_rfl) 37 (by kernel_rfl) _ HTZ.out HLZ.out ?_) | (refine wpL_loadAtS hst rfl (ty := 53) rfl 0 rfl rfl (by kernel_rfl) 37 (by kernel_rfl) _ HTZ.out HLZ.out ?_))
    | ((with_reducible refine wpL_isStore rfl ?_); first | (refine wpL_storeS hst rfl (ty := 50) rfl 0 rfl rfl (D := Z) rfl (by kernel_rfl) (by kernel_rfl) HLZ.out HZ1.out ?_; clear hst; intro w1 hst; simp only [List.set] at hst) | (refine wpL_storeS hst rfl (ty := 53) rfl 0 rfl rfl (D := Z) rfl (by kernel_rfl) (by kernel_rfl) HLZ.out HZ1.out ?_; clear hst; intro w1 hst; simp only [List.set] at hst)))
  go_ret
  exact ⟨rfl, hst.only⟩

set_option maxRecDepth 100000 in
set_option maxHeartbeats 16000000 in
/-- Both give the same manifest. -/
theorem parseLaw_yes (b v z k : Int) (ds : List (List UInt8)) (r : List UInt8) (n : Nat) (s : ByteArray) (w : World) (hr : r.length = 32) (hw : Wide ds) (hn : ds.length = n) (hn1 : n ≤ 1000) (h3 : ¬ 4096 < (s.size : Int))
    (h1 : ∀ w, Calls Try.prog 39 #[.string s] w fun e w' => ∃ g cp rest, e = .returned (.tuple #[.agg (Value.int .i64 b :: .int .i64 v :: .int .i64 z :: .int .i64 k :: .slice (some ⟨g, 0, none⟩) n cp :: Lib.byteCells r).toArray, .int .i64 0]) ∧ n ≤ cp ∧ w.heap.size ≤ g ∧ Blk w' g (digCells ds ++ rest) 48 ∧ Only [] w w')
    (h2 : ∀ w, Calls Try.prog 40 #[.string s] w fun e w' => ∃ g cp rest, e = .returned (.tuple #[.agg (Value.int .i64 b :: .int .i64 v :: .int .i64 z :: .int .i64 k :: .slice (some ⟨g, 0, none⟩) n cp :: Lib.byteCells r).toArray, .int .i64 0]) ∧ n ≤ cp ∧ w.heap.size ≤ g ∧ Blk w' g (digCells ds ++ rest) 47 ∧ Only [] w w') :
    Calls Try.prog 5 #[.string s] w fun e w' => e = .returned (.bool true) ∧ Only [] w w' := by
  have hst := St.start w []
  have AW := Lib.hid awake20_any
  have d3 : decide (4096 < (s.size : Int)) = false := decide_eq_false h3
  have DG : ∀ g cp rest w ty, n ≤ cp → Blk w g (digCells ds ++ rest) ty → Digs w (.slice (some ⟨g, 0, none⟩) n cp) ds := fun g cp rest w ty hc hb => ⟨g, 0, cp, by rw [hn], by omega, hb.lt, fun i u hu => hb.cell (by rw [Nat.zero_add, List.getElem?_append_left (List.getElem?_eq_some_iff.1 hu).1]; exact hu)⟩
  have AL : Hid (∀ g1 g2 c1 c2 r1 r2 w, n ≤ c1 → n ≤ c2 → Blk w g1 (digCells ds ++ r1) 48 → Blk w g2 (digCells ds ++ r2) 47 → Calls Try.prog 38 #[.agg (Value.int .i64 b :: .int .i64 v :: .int .i64 z :: .int .i64 k :: .slice (some ⟨g1, 0, none⟩) n c1 :: Lib.byteCells r).toArray, .agg (Value.int .i64 b :: .int .i64 v :: .int .i64 z :: .int .i64 k :: .slice (some ⟨g2, 0, none⟩) n c2 :: Lib.byteCells r).toArray] w fun e w' => e = .returned (.bool true) ∧ Only [] w w') := fun g1 g2 c1 c2 r1 r2 w hc1 hc2 hb1 hb2 =>
    manAlike_same b v z k (some ⟨g1, 0, none⟩) (some ⟨g2, 0, none⟩) n c1 c2 ds r w hr hw hn hn1 (fun _ => DG _ _ _ _ _ hc1 hb1) (fun _ => DG _ _ _ _ _ hc2 hb2)
  have hRL := digLen r hr
  have HR1 := Lib.hid (digOne r)
  obtain ⟨RC, eRC⟩ : ∃ RC, RC = Lib.byteCells r := ⟨_, rfl⟩
  rw [← eRC] at hRL HR1 AL h1 h2
  have P1 := Lib.hid h1
  have P2 := Lib.hid h2
  have HT := Lib.hid (fun V => mfTake b v z k V RC hRL)
  have HL := Lib.hid (fun V => mfLen b v z k V RC hRL)
  have H1L : Hid (∀ g c, (Value.int .i64 b :: .int .i64 v :: .int .i64 z :: .int .i64 k :: .slice (some ⟨g, 0, none⟩) n c :: RC).all (·.oneCell') = true) := fun g c => by simp only [List.all_cons, HR1.out]; rfl
  have HLK : Hid (∀ V, (Value.int .i64 b :: .int .i64 v :: .int .i64 z :: .int .i64 k :: V :: RC).length = mfZ.length) := fun V => by rw [HL.out]; rfl
  clear eRC hRL h1 h2 h3 DG hw hr hn
  go_enter Try.func5, Try.ntmps5
  go_wp2_with (first
    | ((with_reducible refine wpL_peel rfl ?_ ?_); focus (go_simp; done))
    | ((with_reducible refine wpL_isAlloc rfl ?_); refine wpL_allocS hst rfl 50 rfl (.agg mfZ.toArray) mfZ (by kernel_rfl) rfl 3 rfl ?_; clear hst; intro w1 A hA hst)
    | ((with_reducible refine wpL_isAlloc rfl ?_); refine wpL_allocS hst rfl 53 rfl (.agg mfZ.toArray) mfZ (by kernel_rfl) rfl 5 rfl ?_; clear hst; intro w1 B hB hst)
    | (go_at_call 20; (with_reducible refine (AW.out _).mono ?_); rintro e1 w1 ⟨rfl, ho1⟩; replace hst := hst.keep ho1; clear ho1)
    | (go_at_call 39; refine (P1.out _).mono ?_; rintro e1 w1 ⟨g1, c1, r1, rfl, hc1, hg1, hB1, ho1⟩; replace hst := hst.new ho1 hB1 hg1; clear ho1 hB1; have HC1 := Lib.hid hc1; clear hc1)
    | (go_at_call 40; refine (P2.out _).mono ?_; rintro e1 w1 ⟨g2, c2, r2, rfl, hc2, hg2, hB2, ho1⟩; replace hst := hst.new ho1 hB2 hg2; clear ho1 hB2; have HC2 := Lib.hid hc2; clear hc2)
    | (go_at_call 38; refine (AL.out _ _ _ _ _ _ _ HC1.out HC2.out (hst.blk 3 rfl) (hst.blk 1 rfl)).mono ?_; rintro e1 w1 ⟨rfl, ho1⟩; replace hst := hst.keep ho1; clear ho1)
    | ((with_reducible refine wpL_isLoad rfl ?_); first | (refine wpL_loadAtS hst rfl (ty := 50) rfl 2 rfl rfl (by kernel_rfl) 37 (by kernel_rfl) _ (HT.out _) (HL.out _) ?_) | (refine wpL_loadAtS hst rfl (ty := 53) rfl 0 rfl rfl (by kernel_rfl) 37 (by kernel_rfl) _ (HT.out _) (HL.out _) ?_))
    | ((with_reducible refine wpL_isStore rfl ?_); first | (refine wpL_storeS hst rfl (ty := 50) rfl 0 rfl rfl rfl (by kernel_rfl) (by kernel_rfl) (HLK.out _) (H1L.out _ _) ?_; clear hst; intro w1 hst; simp only [List.set] at hst) | (refine wpL_storeS hst rfl (ty := 53) rfl 0 rfl rfl rfl (by kernel_rfl) (by kernel_rfl) (HLK.out _) (H1L.out _ _) ?_; clear hst; intro w1 hst; simp only [List.set] at hst)))
  go_ret
  exact ⟨rfl, hst.only⟩

set_option maxRecDepth 100000 in
set_option maxHeartbeats 4000000 in
theorem parseLaw_far (s : ByteArray) (w : World) (h3 : 4096 < (s.size : Int)) : Calls Try.prog 5 #[.string s] w fun e w' => e = .returned (.bool true) ∧ Only [] w w' := by
  have hst := St.start w []
  have AW := Lib.hid awake20_any
  have d3 : decide (4096 < (s.size : Int)) = true := decide_eq_true h3
  go_enter Try.func5, Try.ntmps5
  go_wp2_with (first | (go_at_call 20; (with_reducible refine (AW.out _).mono ?_); rintro e1 w1 ⟨rfl, ho1⟩; replace hst := hst.keep ho1; clear ho1))
  go_ret
  exact ⟨rfl, hst.only⟩

theorem manParse_walk (s : ByteArray) (w : World) : Calls Try.prog 5 #[.string s] w fun e w' => e = .returned (.bool true) ∧ Only [] w w' := by
  by_cases h3 : 4096 < (s.size : Int)
  · exact parseLaw_far s w h3
  by_cases hf : formM s
  · have hh := hf.2.1
    obtain ⟨ds, r, t, n, hw, hn, hr, ht, hnn, hs⟩ := formM_split s hf
    generalize hdV s 0 = b at *
    generalize hdV s 1 = v at *
    generalize hdV s 2 = z at *
    generalize hdV s 3 = k at *
    have hnb := nch_bounds b v z k
    have hn1 : 1 ≤ n := by
      have := nch_yes hh
      have hh' := hh
      unfold HeadOk at hh'
      have := div_pos' z k (by omega) (by omega)
      omega
    have hcnt : 0 < cnt b v z k n := by unfold cnt; rw [hnn, if_pos rfl]; omega
    by_cases hT : t = Sha.tree ds
    · refine parseLaw_yes b v z k ds r n s w hr hw hn (by omega) h3 (fun w => ?_) (fun w => ?_)
      · rw [hs, hT, sumX_tree, ← manB_sumT]
        exact manParse_yes b v z k ds r n w hr hw hn hcnt
      · refine (rmanParse_form b v z k ds r t n s w hr ht hw hn hcnt hs).mono ?_
        rintro e w' (⟨_, h⟩ | ⟨h, _⟩)
        · exact h
        · exact absurd hT h
    · refine parseLaw_no s 6 w h3 (fun w => ?_) (fun w => ?_)
      · rw [hs]
        exact manParse_sum b v z k ds r t n w hr ht hT hw hn hcnt
      · refine (rmanParse_form b v z k ds r t n s w hr ht hw hn hcnt hs).mono ?_
        rintro e w' (⟨h, _⟩ | ⟨_, h⟩)
        · exact absurd h hT
        · exact h
  · exact parseLaw_no s 5 w h3 (fun w => manParse_bad s (by omega) hf w) (fun w => rmanParse_bad s (by omega) hf w)

end Go.Proofs.Ytgdifegbpbnekaa
