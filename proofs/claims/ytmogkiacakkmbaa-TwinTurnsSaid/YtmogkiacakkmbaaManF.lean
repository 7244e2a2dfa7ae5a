/- Manifests: their root; whether bytes are a chunk. -/
import Derived.Test.YtmogkiacakkmbaaManE
namespace Go.Proofs.Ytmogkiacakkmbaa
open Go.RowKit

theorem Digs.of_blk {w : World} {g n cp : Nat} {ds : List (List UInt8)} {ty : TypeId} (h : Blk w g (digCells ds) ty) (hn : ds.length = n) (hc : n ≤ cp) : Digs w (.slice (some ⟨g, 0, none⟩) n cp) ds :=
  ⟨g, 0, cp, by rw [hn], by omega, h.lt, fun j u hu => h.cell (by rw [Nat.zero_add]; exact hu)⟩
theorem digOne (r : List UInt8) : (Lib.byteCells r).all (·.oneCell') = true := by rw [List.all_eq_true]; exact byteCells_ones _
theorem digLen (r : List UInt8) (h : r.length = 32) : (Lib.byteCells r).length = 32 := by simp [Lib.byteCells, h]

set_option maxRecDepth 100000 in
set_option maxHeartbeats 4000000 in
theorem manRoot_any (b v z k : Int) (ad : Option Addr) (n cp : Nat) (R : List Value) (ds : List (List UInt8)) (w : World) (hw : Wide ds) (hl : ds.length ≤ 1000) (hne : ds ≠ []) (h : Digs w (.slice ad n cp) ds) :
    Calls Try.prog 70 #[.agg (Value.int .i64 b :: .int .i64 v :: .int .i64 z :: .int .i64 k :: .slice ad n cp :: R).toArray] w fun e w' => e = .returned (.agg (Lib.byteCells (Sha.tree ds)).toArray) ∧ Only [] w w' := by
  have hst := (St.start w []).box (.int .i64 b :: .int .i64 v :: .int .i64 z :: .int .i64 k :: .slice ad n cp :: R) 104
  have TR : Hid (∀ w', Only [] w w' → Calls Try.prog 125 #[.slice ad n cp] w' fun e w'' => e = .returned (.agg (Lib.byteCells (Sha.tree ds)).toArray) ∧ Only [] w' w'') := fun w' ho => tree_any _ ds w' hw (by omega) (.inr ⟨hne, h.keep ho⟩)
  have hdl := tree_wide _ ds (Nat.le_refl _) hw
  have HL : Hid ((Lib.byteCells (Sha.tree ds)).length = zeros32.length) := by show _ = _; rw [digLen _ hdl]; rfl
  have H1 := Lib.hid (digOne (Sha.tree ds))
  generalize Lib.byteCells (Sha.tree ds) = D at *
  clear hw hl hne h hdl
  go_enter Try.func70, Try.ntmps70
  go_wp2_with (first
    | ((with_reducible refine wpL_isAlloc rfl ?_); refine wpL_allocS hst rfl 102 rfl (.agg zeros32.toArray) zeros32 (by kernel_rfl) rfl _ rfl ?_; clear hst; intro w1 b1 hb1 hst)
    | ((with_reducible refine wpL_peel rfl ?_ ?_); focus (go_simp; done)) | ((with_reducible refine wpL_isLoad rfl ?_); first | (refine wpL_load1S hst rfl rfl 0 rfl rfl rfl (by kernel_rfl) ?_) | (refine wpL_load1S hst rfl rfl 1 rfl rfl rfl (by kernel_rfl) ?_) | (refine wpL_load1S hst rfl rfl 2 rfl rfl rfl (by kernel_rfl) ?_) | (refine wpL_load1S hst rfl rfl 3 rfl rfl rfl (by kernel_rfl) ?_))
    | (go_at_call 125; (with_reducible refine (TR.out _ hst.only).mono ?_); rintro e1 w1 ⟨rfl, ho1⟩; replace hst := hst.keep ho1; clear ho1)
    | ((with_reducible refine wpL_isStore rfl ?_); refine wpL_storeS hst rfl (ty := 102) rfl 0 rfl rfl (D := D) rfl (by kernel_rfl) (by kernel_rfl) HL.out H1.out ?_; clear hst; intro w1 hst; simp only [List.set] at hst))
  refine end_row Try.results70 rfl (hst.blk 0 rfl) Try.underlying102 rfl digInfo (by rw [HL.out]; rfl) rfl ⟨rfl, hst.only⟩

theorem digCells_atM {ds : List (List UInt8)} (hw : Wide ds) {i : Nat} (hi : i < ds.length) {w : World} {bk o : Nat} (h : ∀ j u, (digCells ds)[j]? = some u → w.cell? ⟨bk, o + j, none⟩ = some u) :
    ∀ j u, (Lib.byteCells (ds.getD i []))[j]? = some u → w.cell? ⟨bk, o + i * 32 + j, none⟩ = some u := by
  intro j u hu
  have hd := digCells_drop ds hw i
  have hsplit : ds.drop i = ds.getD i [] :: ds.drop (i + 1) := by
    rw [List.drop_eq_getElem_cons hi, List.getD_eq_getElem?_getD, List.getElem?_eq_getElem hi]
    rfl
  have h2 : (digCells ds)[i * 32 + j]? = some u := by
    have : ((digCells ds).drop (i * 32))[j]? = some u := by
      rw [← hd, hsplit, show ds.getD i [] :: ds.drop (i + 1) = [ds.getD i []] ++ ds.drop (i + 1) from rfl, digCells_append, digCells_one1, List.getElem?_append_left (List.getElem?_eq_some_iff.1 hu).1]
      exact hu
    rwa [List.getElem?_drop] at this
  have := h (i * 32 + j) u h2
  rwa [← Nat.add_assoc] at this

set_option maxRecDepth 100000 in
set_option maxHeartbeats 4000000 in
theorem manCheck_range (b v z k : Int) (ad : Option Addr) (n cp : Nat) (R : List Value) (hR : R.length = 32) (a : Int) (s : ByteArray) (w : World) (h0 : lenM b v z k n a = 0) :
    Calls Try.prog 68 #[.agg (Value.int .i64 b :: .int .i64 v :: .int .i64 z :: .int .i64 k :: .slice ad n cp :: R).toArray, .int .i64 a, .string s] w fun e w' => e = .returned (.int .i64 3) ∧ Only [] w w' := by
  have hst := (St.start w []).box (.int .i64 b :: .int .i64 v :: .int .i64 z :: .int .i64 k :: .slice ad n cp :: R) 104
  have HT := Lib.hid (mfTake b v z k (.slice ad n cp) R hR)
  have HL := Lib.hid (mfLen b v z k (.slice ad n cp) R hR)
  have LN : Hid (∀ w, Calls Try.prog 64 #[.agg (Value.int .i64 b :: .int .i64 v :: .int .i64 z :: .int .i64 k :: .slice ad n cp :: R).toArray, .int .i64 a] w fun e w' => e = .returned (.int .i64 0) ∧ Only [] w w') := fun w => by rw [← h0]; exact manLength_any b v z k ad n cp R hR a w
  clear h0
  go_enter Try.func68, Try.ntmps68
  go_wp2_with (first | ((with_reducible refine wpL_isLoad rfl ?_); first | (refine wpL_loadAtS hst rfl (ty := 104) rfl 0 rfl rfl (by kernel_rfl) 37 (by kernel_rfl) _ HT.out HL.out ?_) | (refine wpL_loadAtS hst rfl (ty := 104) rfl 1 rfl rfl (by kernel_rfl) 37 (by kernel_rfl) _ HT.out HL.out ?_) | (refine wpL_loadAtS hst rfl (ty := 104) rfl 2 rfl rfl (by kernel_rfl) 37 (by kernel_rfl) _ HT.out HL.out ?_)) | ((with_reducible refine wpL_peel rfl ?_ ?_); focus (go_simp; done)) | ((with_reducible refine wpL_isLoad rfl ?_); first | (refine wpL_load1S hst rfl rfl 0 rfl rfl rfl (by kernel_rfl) ?_) | (refine wpL_load1S hst rfl rfl 1 rfl rfl rfl (by kernel_rfl) ?_) | (refine wpL_load1S hst rfl rfl 2 rfl rfl rfl (by kernel_rfl) ?_) | (refine wpL_load1S hst rfl rfl 3 rfl rfl rfl (by kernel_rfl) ?_)) | (go_at_call 64; (with_reducible refine (LN.out _).mono ?_); rintro e1 w1 ⟨rfl, ho1⟩; replace hst := hst.keep ho1; clear ho1))
  go_ret
  exact ⟨rfl, hst.only⟩

set_option maxRecDepth 100000 in
set_option maxHeartbeats 4000000 in
theorem manCheck_form (b v z k : Int) (ad : Option Addr) (n cp : Nat) (R : List Value) (hR : R.length = 32) (a : Int) (s : ByteArray) (w : World) (h0 : lenM b v z k n a ≠ 0) (h1 : (s.size : Int) ≠ lenM b v z k n a) :
    Calls Try.prog 68 #[.agg (Value.int .i64 b :: .int .i64 v :: .int .i64 z :: .int .i64 k :: .slice ad n cp :: R).toArray, .int .i64 a, .string s] w fun e w' => e = .returned (.int .i64 5) ∧ Only [] w w' := by
  have hst := (St.start w []).box (.int .i64 b :: .int .i64 v :: .int .i64 z :: .int .i64 k :: .slice ad n cp :: R) 104
  have HT := Lib.hid (mfTake b v z k (.slice ad n cp) R hR)
  have HL := Lib.hid (mfLen b v z k (.slice ad n cp) R hR)
  have LN : Hid (∀ w, Calls Try.prog 64 #[.agg (Value.int .i64 b :: .int .i64 v :: .int .i64 z :: .int .i64 k :: .slice ad n cp :: R).toArray, .int .i64 a] w fun e w' => e = .returned (.int .i64 (lenM b v z k n a)) ∧ Only [] w w') := fun w => manLength_any b v z k ad n cp R hR a w
  have e0 : (lenM b v z k n a == 0) = false := beq_eq_false_iff_ne.2 h0
  have e1 : ((s.size : Int) != lenM b v z k n a) = true := by rw [bne_iff_ne]; exact h1
  generalize lenM b v z k n a = m at *
  clear h0 h1
  go_enter Try.func68, Try.ntmps68
  go_wp2_with (first | ((with_reducible refine wpL_isLoad rfl ?_); first | (refine wpL_loadAtS hst rfl (ty := 104) rfl 0 rfl rfl (by kernel_rfl) 37 (by kernel_rfl) _ HT.out HL.out ?_) | (refine wpL_loadAtS hst rfl (ty := 104) rfl 1 rfl rfl (by kernel_rfl) 37 (by kernel_rfl) _ HT.out HL.out ?_) | (refine wpL_loadAtS hst rfl (ty := 104) rfl 2 rfl rfl (by kernel_rfl) 37 (by kernel_rfl) _ HT.out HL.out ?_)) | ((with_reducible refine wpL_peel rfl ?_ ?_); focus (go_simp; done)) | ((with_reducible refine wpL_isLoad rfl ?_); first | (refine wpL_load1S hst rfl rfl 0 rfl rfl rfl (by kernel_rfl) ?_) | (refine wpL_load1S hst rfl rfl 1 rfl rfl rfl (by kernel_rfl) ?_) | (refine wpL_load1S hst rfl rfl 2 rfl rfl rfl (by kernel_rfl) ?_) | (refine wpL_load1S hst rfl rfl 3 rfl rfl rfl (by kernel_rfl) ?_)) | (go_at_call 64; (with_reducible refine (LN.out _).mono ?_); rintro e1 w1 ⟨rfl, ho1⟩; replace hst := hst.keep ho1; clear ho1))
  go_ret
  exact ⟨rfl, hst.only⟩

set_option maxRecDepth 100000 in
set_option maxHeartbeats 4000000 in
theorem manCheck_ok (b v z k : Int) (ad : Option Addr) (n cp : Nat) (R : List Value) (ds : List (List UInt8)) (hR : R.length = 32) (i : Nat) (s : ByteArray) (w : World) (h0 : lenM b v z k n (i : Int) ≠ 0) (h1 : (s.size : Int) = lenM b v z k n (i : Int)) (hs : s.size ≤ 1000000)
    (hw : Wide ds) (hn : ds.length = n) (hi : i < n) (hn64 : n ≤ 64) (h : Digs w (.slice ad n cp) ds) (hd : ds.getD i [] = Sha.sum (bl s)) :
    Calls Try.prog 68 #[.agg (Value.int .i64 b :: .int .i64 v :: .int .i64 z :: .int .i64 k :: .slice ad n cp :: R).toArray, .int .i64 (i : Int), .string s] w fun e w' => e = .returned (.int .i64 0) ∧ Only [] w w' := by
  have hst := (St.start w []).box (.int .i64 b :: .int .i64 v :: .int .i64 z :: .int .i64 k :: .slice ad n cp :: R) 104
  have HT := Lib.hid (mfTake b v z k (.slice ad n cp) R hR)
  have HL := Lib.hid (mfLen b v z k (.slice ad n cp) R hR)
  have LN : Hid (∀ w, Calls Try.prog 64 #[.agg (Value.int .i64 b :: .int .i64 v :: .int .i64 z :: .int .i64 k :: .slice ad n cp :: R).toArray, .int .i64 (i : Int)] w fun e w' => e = .returned (.int .i64 (s.size : Int)) ∧ Only [] w w') := fun w => by rw [h1]; exact manLength_any b v z k ad n cp R hR i w
  have e0 : ((s.size : Int) == 0) = false := beq_eq_false_iff_ne.2 (by rw [h1]; exact h0)
  obtain ⟨bk, o, c, eV, _, hbk, hcell⟩ := h
  injection eV with ea en ec
  subst ea
  subst ec
  have HC : Hid (∀ w', Only [] w w' → ∀ j u, (Lib.byteCells (Sha.sum (bl s)))[j]? = some u → w'.cell? ⟨bk, o + i * 32 + j, none⟩ = some u) := fun w' ho j u hu => by
    rw [ho.cellAt _ _ hbk (by simp)]
    rw [← hd] at hu
    exact digCells_atM hw (by omega) hcell j u hu
  have OO : Hid (∀ b w, Blk w b [.string s] 9 → Calls Try.prog 121 #[.slice (some ⟨b, 0, none⟩) 1 1] w fun e w' => e = .returned (.agg (Lib.byteCells (Sha.sum (bl s))).toArray) ∧ Only [] w w') := fun b w h => of_one b s w _ h hs
  have HDL : Hid ((Sha.sum (bl s)).length = 32) := Sha.sum_length _
  have HD32 : Hid ((Lib.byteCells (Sha.sum (bl s))).length = 32) := digLen _ (Sha.sum_length _)
  obtain ⟨d, ed⟩ : ∃ d, d = Sha.sum (bl s) := ⟨_, rfl⟩
  rw [← ed] at HC OO HDL HD32
  have i1 : (i : Int) < n := by omega
  have i0 : (0 : Int) ≤ i := by omega
  have n64 : (n : Int) ≤ 64 := by omega
  clear h0 h1 hs hw hn hd hcell ed en
  go_enter Try.func68, Try.ntmps68
  go_wp2_with (first | ((with_reducible refine wpL_isLoad rfl ?_); first | (refine wpL_loadAtS hst rfl (ty := 104) rfl 0 rfl rfl (by kernel_rfl) 37 (by kernel_rfl) _ HT.out HL.out ?_) | (refine wpL_loadAtS hst rfl (ty := 104) rfl 1 rfl rfl (by kernel_rfl) 37 (by kernel_rfl) _ HT.out HL.out ?_) | (refine wpL_loadAtS hst rfl (ty := 104) rfl 2 rfl rfl (by kernel_rfl) 37 (by kernel_rfl) _ HT.out HL.out ?_)) | ((with_reducible refine wpL_peel rfl ?_ ?_); focus (go_simp; done)) | ((with_reducible refine wpL_isLoad rfl ?_); first | (refine wpL_load1S hst rfl rfl 0 rfl rfl rfl (by kernel_rfl) ?_) | (refine wpL_load1S hst rfl rfl 1 rfl rfl rfl (by kernel_rfl) ?_) | (refine wpL_load1S hst rfl rfl 2 rfl rfl rfl (by kernel_rfl) ?_) | (refine wpL_load1S hst rfl rfl 3 rfl rfl rfl (by kernel_rfl) ?_)) | (go_at_call 64; (with_reducible refine (LN.out _).mono ?_); rintro e1 w1 ⟨rfl, ho1⟩; replace hst := hst.keep ho1; clear ho1))
  replace hst := hst.drew
  refine wp_region_ord [1, 2] [3, 4, 5, 6, 7, 0, 1, 2, 8, 9] (by kernel_rfl) (by kernel_rfl) ?_
  generalize World.drew _ = W at *
  refine Ord.cut 1 3 rfl rfl rfl rfl (by kernel_rfl) (by kernel_rfl) ?_; simp only [List.take_succ_cons, List.take_zero, List.drop_succ_cons, List.drop_zero, List.filterMap_cons, List.filterMap_nil, List.getElem?_cons_succ, List.getElem?_cons_zero]; go_wp2_with fail; refine TextQ.mk ⟨fun h => by simp at h, ?_⟩ rfl
  refine Ord.cut 1 4 rfl rfl rfl rfl (by kernel_rfl) (by kernel_rfl) ?_; simp only [List.take_succ_cons, List.take_zero, List.drop_succ_cons, List.drop_zero, List.filterMap_cons, List.filterMap_nil, List.getElem?_cons_succ, List.getElem?_cons_zero]; (try refine wpL_peel rfl rfl ?_); (first | (refine wpL_load1S hst rfl rfl 0 rfl rfl rfl (by kernel_rfl) ?_) | (refine wpL_load1S hst rfl rfl 1 rfl rfl rfl (by kernel_rfl) ?_) | (refine wpL_load1S hst rfl rfl 2 rfl rfl rfl (by kernel_rfl) ?_) | (refine wpL_load1S hst rfl rfl 3 rfl rfl rfl (by kernel_rfl) ?_)); refine TextQ.mk ⟨fun h => by simp at h, ?_⟩ rfl
  refine Ord.cut 2 6 rfl rfl rfl rfl (by kernel_rfl) (by kernel_rfl) ?_; simp only [List.take_succ_cons, List.take_zero, List.drop_succ_cons, List.drop_zero, List.filterMap_cons, List.filterMap_nil, List.getElem?_cons_succ, List.getElem?_cons_zero]; go_wp2_with fail; refine TextQ.mk ⟨fun h => by simp at h, ?_⟩ rfl
  refine Ord.cut 1 7 rfl rfl rfl rfl (by kernel_rfl) (by kernel_rfl) ?_; simp only [List.take_succ_cons, List.take_zero, List.drop_succ_cons, List.drop_zero, List.filterMap_cons, List.filterMap_nil, List.getElem?_cons_succ, List.getElem?_cons_zero]
  refine wpL_load_at rfl 102 _ rfl bk (o + i * 32) rfl (Lib.byteCells d) _ (HC.out _ hst.only) Try.underlying102 rfl digInfo HD32.out ?_
  refine TextQ.mk ⟨fun h => by simp at h, ?_⟩ rfl
  refine Ord.cut 1 0 rfl rfl rfl rfl (by kernel_rfl) (by kernel_rfl) ?_; simp only [List.take_succ_cons, List.take_zero, List.drop_succ_cons, List.drop_zero, List.filterMap_cons, List.filterMap_nil, List.getElem?_cons_zero]; go_wp2_with fail; refine TextQ.mk ⟨fun h => by simp at h, ?_⟩ rfl
  refine Ord.cut 1 1 rfl rfl rfl rfl (by kernel_rfl) (by kernel_rfl) ?_; simp only [List.take_succ_cons, List.take_zero, List.drop_succ_cons, List.drop_zero, List.filterMap_cons, List.filterMap_nil, List.getElem?_cons_succ, List.getElem?_cons_zero]
  refine wpL_slice_lit rfl 40 1 _ rfl Try.underlying40 strInfo (by decide) (by decide) [.string s] rfl rfl (by simp [Value.cells]) ?_
  intro w2 ho2 hs2 hB2
  refine TextQ.mk ⟨fun _ => ho2, ?_⟩ rfl
  replace hst := hst.new ho2 hB2 (Nat.le_refl _)
  clear ho2 hs2 hB2
  refine Ord.cut 1 2 rfl rfl rfl rfl (by kernel_rfl) (by kernel_rfl) ?_; simp only [List.take_succ_cons, List.take_zero, List.drop_succ_cons, List.drop_zero, List.filterMap_cons, List.filterMap_nil, List.getElem?_cons_succ, List.getElem?_cons_zero]
  go_wp2_with (go_at_call 121; refine (OO.out _ _ (hst.blk 0 rfl)).mono ?_; rintro e1 w3 ⟨rfl, ho3⟩)
  refine TextQ.mk ⟨fun _ => ho3, ?_⟩ rfl
  replace hst := hst.keep ho3
  clear ho3
  refine Ord.cut 1 8 rfl rfl rfl rfl (by kernel_rfl) (by kernel_rfl) ?_; simp only [List.take_succ_cons, List.take_zero, List.drop_succ_cons, List.drop_zero, List.filterMap_cons, List.filterMap_nil, List.getElem?_cons_succ, List.getElem?_cons_zero]
  refine wpL_neqB rfl 102 _ _ _ rfl 5 32 Try.underlying102 Try.underlying5 (by kernel_rfl) (by kernel_rfl) d d rfl rfl HDL.out HDL.out true (by simp) ?_
  refine TextQ.mk ⟨fun h => by simp at h, ?_⟩ ?_
  case refine_2 => repeat' (first | exact rfl | exact fine_bytes rfl rfl rfl | refine fine_cons ?_ ?_)
  refine Ord.cut 1 9 rfl rfl rfl rfl (by kernel_rfl) (by kernel_rfl) ?_; simp only [List.take_succ_cons, List.take_zero, List.drop_succ_cons, List.drop_zero, List.filterMap_cons, List.filterMap_nil, List.getElem?_cons_succ, List.getElem?_cons_zero]; go_wp2_with fail; refine TextQ.mk ⟨fun h => by simp at h, ?_⟩ rfl
  refine Ord.done ?_
  go_wp2_with fail
  go_ret
  exact ⟨rfl, hst.only⟩

end Go.Proofs.Ytmogkiacakkmbaa
