/- Manifests: in the document's form; alike; the reference's digest. -/
import Derived.Test.YtmogkiacakkmbaaManU
namespace Go.Proofs.Ytmogkiacakkmbaa
open Go.RowKit

theorem digInfoR : (Try.prog.info? 101).map (fun i => (i.zero, i.size, i.bytes)) = some (some (.agg zeros32.toArray), 32, 32) := by kernel_rfl
theorem rmfInfo : (Try.prog.info? 107).map (·.size) = some 37 := by kernel_rfl
theorem rbuilt_mf (b v z k : Int) (R : List Value) (hR : R.length = 32) : Try.prog.built 107 [(0, .int .i64 b), (1, .int .i64 v), (2, .int .i64 z), (3, .int .i64 k), (5, .agg R.toArray)] = some (Value.int .i64 b :: .int .i64 v :: .int .i64 z :: .int .i64 k :: .slice none 0 0 :: R).toArray := by
  obtain ⟨a0, a1, a2, a3, a4, a5, a6, a7, a8, a9, a10, a11, a12, a13, a14, a15, a16, a17, a18, a19, a20, a21, a22, a23, a24, a25, a26, a27, a28, a29, a30, a31, rfl⟩ := list32 hR
  kernel_rfl
/-- A row of sums that a call has made. -/
theorem owns_base' {w : World} {base base' : Nat} {e : TypeId} {size : Nat} {v : Value} {n : Nat} {xs : List Value} (h : w.ownsRow base e size v n xs) (hb : base' ≤ base) : w.ownsRow base' e size v n xs := by
  refine ⟨h.1, ?_⟩
  rcases h.2 with h0 | ⟨g, cap, cur, h1, h2, h3⟩
  · exact .inl h0
  · exact .inr ⟨g, cap, cur, h1, Nat.le_trans hb h2, h3⟩

set_option maxRecDepth 100000 in
set_option maxHeartbeats 16000000 in
theorem manForm_any (b v z k : Int) (ad : Option Addr) (n cp : Nat) (ds : List (List UInt8)) (r : List UInt8) (w : World) (hr : r.length = 32) (hw : Wide ds) (hn : ds.length = n) (hn1 : n ≤ 1000) (hD : ds ≠ [] → Digs w (.slice ad n cp) ds) :
    Calls Try.prog 60 #[.agg (Value.int .i64 b :: .int .i64 v :: .int .i64 z :: .int .i64 k :: .slice ad n cp :: Lib.byteCells r).toArray] w fun e w' => ∃ V, e = .returned (.agg (Value.int .i64 b :: .int .i64 v :: .int .i64 z :: .int .i64 k :: V :: Lib.byteCells r).toArray) ∧ w'.ownsRow w.heap.size 101 32 V n (digCells ds) ∧ Only [] w w' := by
  have hRL := digLen r hr
  have HR1 := Lib.hid (digOne r)
  obtain ⟨RC, eRC⟩ : ∃ RC, RC = Lib.byteCells r := ⟨_, rfl⟩
  rw [← eRC] at hRL HR1 ⊢
  have hst := (St.start w []).box (.int .i64 b :: .int .i64 v :: .int .i64 z :: .int .i64 k :: .slice ad n cp :: RC) 104
  have BM := Lib.hid (rbuilt_mf b v z k RC hRL)
  have HR0 : Hid (((Value.int .i64 b :: .int .i64 v :: .int .i64 z :: .int .i64 k :: .slice ad n cp :: RC).drop 5).take 32 = RC) := by show _ = _; exact List.take_of_length_le (by simp [hRL])
  have HRL := Lib.hid hRL
  have HT := Lib.hid (fun V => mfTake b v z k V RC hRL)
  have HL := Lib.hid (fun V => mfLen b v z k V RC hRL)
  have H1K : Hid ((Value.int .i64 b :: .int .i64 v :: .int .i64 z :: .int .i64 k :: .slice none 0 0 :: RC).all (·.oneCell') = true) := by show _ = _; simp only [List.all_cons, HR1.out]; rfl
  have HLK : Hid (∀ V, (Value.int .i64 b :: .int .i64 v :: .int .i64 z :: .int .i64 k :: V :: RC).length = mfZ.length) := fun V => by rw [HL.out]; rfl
  clear eRC hRL
  go_enter Try.func60, Try.ntmps60
  go_wp2_with (first
    | ((with_reducible refine wpL_isAlloc rfl ?_); refine wpL_allocS hst rfl 107 rfl (.agg mfZ.toArray) mfZ (by kernel_rfl) rfl 2 rfl ?_; clear hst; intro w1 R hR hst)
    | ((with_reducible refine wpL_isAlloc rfl ?_); refine wpL_allocS hst rfl 107 rfl (.agg mfZ.toArray) mfZ (by kernel_rfl) rfl 3 rfl ?_; clear hst; intro w1 G hG hst)
    | ((with_reducible refine wpL_isLoad rfl ?_); refine wpL_loadAtS hst rfl (ty := 102) rfl 1 rfl rfl (by kernel_rfl) 32 (by kernel_rfl) _ HR0.out HRL.out ?_)
    | ((with_reducible refine wpL_peel rfl ?_ ?_); focus (go_simp; done)) | ((with_reducible refine wpL_isLoad rfl ?_); first | (refine wpL_load1S hst rfl rfl 0 rfl rfl rfl (by kernel_rfl) ?_) | (refine wpL_load1S hst rfl rfl 1 rfl rfl rfl (by kernel_rfl) ?_) | (refine wpL_load1S hst rfl rfl 2 rfl rfl rfl (by kernel_rfl) ?_) | (refine wpL_load1S hst rfl rfl 3 rfl rfl rfl (by kernel_rfl) ?_))
    | ((with_reducible refine wpL_isBuild rfl ?_); refine wpL_build5 rfl 107 rfl rfl rfl rfl rfl rfl _ BM.out ?_)
    | ((with_reducible refine wpL_isStore rfl ?_); refine wpL_storeS hst rfl (ty := 107) rfl 0 rfl rfl rfl (by kernel_rfl) (by kernel_rfl) (HLK.out _) H1K.out ?_; clear hst; intro w1 hst; simp only [List.set] at hst))
  have hG := (hst.blk 0 rfl).lt
  have hR := (hst.blk 1 rfl).lt
  have hX := (hst.blk 2 rfl).lt
  have hwl := hst.only.size
  simp only at hG hR hX
  have hown0 := World.ownsRow_nil w1 w1.heap.size 101 32
  obtain ⟨B, eB⟩ : ∃ B, B = w1.heap.size := ⟨_, rfl⟩
  rw [← eB] at hG hR hX hwl hown0
  have hBw : Hid (B ≤ w1.heap.size) := Nat.le_of_eq eB
  clear eB
  go_loopw [4] (fun i wr => ∃ (j : Nat) (V : Value), j ≤ n ∧ i = .int .i64 (j : Int) ∧ St w [] wr [⟨G, Value.int .i64 b :: .int .i64 v :: .int .i64 z :: .int .i64 k :: V :: RC, 107, true⟩, ⟨R, mfZ, 107, true⟩, ⟨w.heap.size, Value.int .i64 b :: .int .i64 v :: .int .i64 z :: .int .i64 k :: .slice ad n cp :: RC, 104, true⟩] ∧ wr.ownsRow B 101 32 V j (digCells (ds.take j)) ∧ Hid (B ≤ wr.heap.size)) (fun i _ => (n - intOf i).toNat)
  case atStart => exact ⟨0, _, by omega, rfl, hst, hown0, hBw⟩
  case round =>
    obtain ⟨j, V, hj, rfl, hst, hown, hBr⟩ := hrel
    by_cases hlt : j < n
    · have j1 : (j : Int) < n := by omega
      have j0 : (0 : Int) ≤ j := by omega
      have n2 : (n : Int) ≤ 1000 := by omega
      obtain ⟨d, ed⟩ : ∃ d, d = ds.getD j [] := ⟨_, rfl⟩
      have hd : d.length = 32 := by rw [ed]; exact getD_wide ds hw j (by omega)
      have HDL := Lib.hid hd
      have HD32 : Hid ((Lib.byteCells d).length = 32) := digLen _ hd
      have HTK : Hid (digCells (ds.take (j + 1)) = digCells (ds.take j) ++ Lib.byteCells d) := by show _ = _; rw [ed]; exact digCells_take_succ ds j (by omega)
      obtain ⟨bk, o, c, eV, hcc, hbk, hcell⟩ := hD (by intro e; rw [e] at hn; simp at hn; omega)
      injection eV with ea en ec
      subst ea
      subst ec
      have HC : Hid (∀ w', Only [] w w' → ∀ q u, (Lib.byteCells d)[q]? = some u → w'.cell? ⟨bk, o + j * 32 + q, none⟩ = some u) := fun w' ho q u hu => by
        rw [ho.cellAt _ _ hbk (by simp)]
        rw [ed] at hu
        exact digCells_atM hw (by omega) hcell q u hu
      have HA : Hid (j + 1 ≤ maxLen ∧ (j + 1) * 32 ≤ 140737488355328) := by
        have e : maxLen = 9223372036854775807 := rfl
        show _ ∧ _
        rw [e]
        omega
      clear ed hd hcc hcell en hD hn
      go_wp2_with (first | ((with_reducible refine wpL_peel rfl ?_ ?_); focus (go_simp; done)) | ((with_reducible refine wpL_isLoad rfl ?_); first | (refine wpL_load1S hst rfl rfl 0 rfl rfl rfl (by kernel_rfl) ?_) | (refine wpL_load1S hst rfl rfl 1 rfl rfl rfl (by kernel_rfl) ?_) | (refine wpL_load1S hst rfl rfl 2 rfl rfl rfl (by kernel_rfl) ?_) | (refine wpL_load1S hst rfl rfl 3 rfl rfl rfl (by kernel_rfl) ?_)))
      replace hst := hst.drew
      replace hown := ownsRow_only hown (Only.refl [] wr).drew (by simp)
      have hBd : Hid (B ≤ wr.drew.heap.size) := hBr
      clear hBr
      refine wp_region_ord [7] [0, 1, 2, 3, 4, 5, 6, 7, 8, 9, 10] (by kernel_rfl) (by kernel_rfl) ?_
      generalize World.drew _ = W at *
      refine Ord.cut 1 0 rfl rfl rfl rfl (by kernel_rfl) (by kernel_rfl) ?_; simp only [List.take_succ_cons, List.take_zero, List.drop_succ_cons, List.drop_zero, List.filterMap_cons, List.filterMap_nil, List.getElem?_cons_succ, List.getElem?_cons_zero]; go_wp2_with fail; refine TextQ.mk ⟨fun h => by simp at h, ?_⟩ rfl
      refine Ord.cut 1 1 rfl rfl rfl rfl (by kernel_rfl) (by kernel_rfl) ?_; simp only [List.take_succ_cons, List.take_zero, List.drop_succ_cons, List.drop_zero, List.filterMap_cons, List.filterMap_nil, List.getElem?_cons_succ, List.getElem?_cons_zero]; (try refine wpL_peel rfl rfl ?_); (first | (refine wpL_load1S hst rfl rfl 0 rfl rfl rfl (by kernel_rfl) ?_) | (refine wpL_load1S hst rfl rfl 1 rfl rfl rfl (by kernel_rfl) ?_) | (refine wpL_load1S hst rfl rfl 2 rfl rfl rfl (by kernel_rfl) ?_) | (refine wpL_load1S hst rfl rfl 3 rfl rfl rfl (by kernel_rfl) ?_)); refine TextQ.mk ⟨fun h => by simp at h, ?_⟩ rfl
      refine Ord.cut 1 2 rfl rfl rfl rfl (by kernel_rfl) (by kernel_rfl) ?_; simp only [List.take_succ_cons, List.take_zero, List.drop_succ_cons, List.drop_zero, List.filterMap_cons, List.filterMap_nil, List.getElem?_cons_succ, List.getElem?_cons_zero]; go_wp2_with fail; refine TextQ.mk ⟨fun h => by simp at h, ?_⟩ rfl
      refine Ord.cut 1 3 rfl rfl rfl rfl (by kernel_rfl) (by kernel_rfl) ?_; simp only [List.take_succ_cons, List.take_zero, List.drop_succ_cons, List.drop_zero, List.filterMap_cons, List.filterMap_nil, List.getElem?_cons_succ, List.getElem?_cons_zero]; (try refine wpL_peel rfl rfl ?_); (first | (refine wpL_load1S hst rfl rfl 0 rfl rfl rfl (by kernel_rfl) ?_) | (refine wpL_load1S hst rfl rfl 1 rfl rfl rfl (by kernel_rfl) ?_) | (refine wpL_load1S hst rfl rfl 2 rfl rfl rfl (by kernel_rfl) ?_) | (refine wpL_load1S hst rfl rfl 3 rfl rfl rfl (by kernel_rfl) ?_)); refine TextQ.mk ⟨fun h => by simp at h, ?_⟩ rfl
      refine Ord.cut 2 5 rfl rfl rfl rfl (by kernel_rfl) (by kernel_rfl) ?_; simp only [List.take_succ_cons, List.take_zero, List.drop_succ_cons, List.drop_zero, List.filterMap_cons, List.filterMap_nil, List.getElem?_cons_succ, List.getElem?_cons_zero]; go_wp2_with fail; refine TextQ.mk ⟨fun h => by simp at h, ?_⟩ rfl
      refine Ord.cut 1 6 rfl rfl rfl rfl (by kernel_rfl) (by kernel_rfl) ?_; simp only [List.take_succ_cons, List.take_zero, List.drop_succ_cons, List.drop_zero, List.filterMap_cons, List.filterMap_nil, List.getElem?_cons_succ, List.getElem?_cons_zero]
      refine wpL_load_at rfl 102 _ rfl bk (o + j * 32) rfl (Lib.byteCells d) _ (HC.out _ hst.only) Try.underlying102 rfl digInfo HD32.out ?_
      refine TextQ.mk ⟨fun h => by simp at h, ?_⟩ rfl
      refine Ord.cut 1 7 rfl rfl rfl rfl (by kernel_rfl) (by kernel_rfl) ?_; simp only [List.take_succ_cons, List.take_zero, List.drop_succ_cons, List.drop_zero, List.filterMap_cons, List.filterMap_nil, List.getElem?_cons_succ, List.getElem?_cons_zero]
      refine wpL_slice_lit rfl 105 1 _ rfl Try.underlying105 digInfoR (by decide) (by decide) [.agg (Lib.byteCells d).toArray] rfl rfl (by simp [byteCells_length, HDL.out, Value.cells]) ?_
      intro w3 ho3 hs3 hB3
      have hB3' : Blk w3 W.heap.size (Lib.byteCells d) 101 := by simpa [Value.cells] using hB3
      go_wp2_with fail
      refine TextQ.mk ⟨ho3, ?_⟩ rfl
      replace hst := hst.keep ho3
      replace hown := ownsRow_only hown ho3 (by simp)
      have hB4 : Hid (B ≤ w3.heap.size) := Nat.le_trans hBd.out ho3.size
      clear ho3 hs3 hB3 hBd
      refine Ord.cut 1 8 rfl rfl rfl rfl (by kernel_rfl) (by kernel_rfl) ?_; simp only [List.take_succ_cons, List.take_zero, List.drop_succ_cons, List.drop_zero, List.filterMap_cons, List.filterMap_nil, List.getElem?_cons_succ, List.getElem?_cons_zero]
      refine wpL_append rfl _ _ 105 rfl B 101 Try.underlying105 digInfoR rfl (by decide) V j (digCells (ds.take j)) rfl hown ⟨W.heap.size, 0, none⟩ 1 1 (Lib.byteCells d) rfl (by rw [byteCells_length, HDL.out]) (fun j u hu => by rw [addr_add, Nat.zero_add]; exact hB3'.cell hu) (byteCells_ones _) HA.out.1 HA.out.2 hB4.out ?_
      intro V' w5 hown5 hg5 hv5 hiff5
      go_wp2_with fail
      refine TextQ.mk ?_ rfl
      have hgo := Only.of_grown hg5
      have hlo : ∀ i, i ∈ V.ownBlock.toList → B ≤ i := fun i hi => (World.ownsRow.lt hown i (by simpa using hi)).1
      replace hst := hst.others hgo (fun i hi => .inr (Nat.le_trans hwl (hlo i hi))) (fun i hi x hx => by
        have := hlo i hi
        simp only [List.mem_cons, List.not_mem_nil, or_false] at hx
        rcases hx with rfl | rfl | rfl <;> simp only <;> omega)
      have hB5 : Hid (B ≤ w5.heap.size) := Nat.le_trans hB4.out hgo.size
      have h1V := Lib.hid (owns_one hown5)
      rw [← HTK.out] at hown5
      clear hgo hlo hg5 hv5 hiff5 hown hB4 hB3'
      refine Ord.cut 1 9 rfl rfl rfl rfl (by kernel_rfl) (by kernel_rfl) ?_; simp only [List.take_succ_cons, List.take_zero, List.drop_succ_cons, List.drop_zero, List.filterMap_cons, List.filterMap_nil, List.getElem?_cons_succ, List.getElem?_cons_zero]; go_wp2_with fail; refine TextQ.mk ⟨fun h => by simp at h, ?_⟩ rfl
      refine Ord.cut 1 10 rfl rfl rfl rfl (by kernel_rfl) (by kernel_rfl) ?_; simp only [List.take_succ_cons, List.take_zero, List.drop_succ_cons, List.drop_zero, List.filterMap_cons, List.filterMap_nil, List.getElem?_cons_succ, List.getElem?_cons_zero]
      refine wpL_store1 rfl 105 _ _ rfl G 4 V' rfl rfl _ _ (hst.blk 0 rfl) (by simp) (by kernel_rfl) h1V.out ?_
      intro w6 ho6 hs6 hb6
      go_wp2_with fail
      refine TextQ.mk ?_ rfl
      replace hst := hst.chg 0 rfl ho6 hb6
      simp only [List.set] at hst
      replace hown5 := ownsRow_only hown5 ho6 (fun i hi => by have := (World.ownsRow.lt hown5 i hi).1; simp; omega)
      have hB6 : Hid (B ≤ w6.heap.size) := Nat.le_trans hB5.out ho6.size
      clear ho6 hb6 hs6 hB5
      refine Ord.done ?_
      go_wp2_with fail
      exact ⟨⟨j + 1, V', by omega, by go_num, hst, hown5, hB6⟩, by simp [intOf]; omega⟩
    · obtain rfl : j = n := by omega
      have j1 : ¬ (j : Int) < j := by omega
      have h1V := owns_one hown
      have H1V : Hid ((Value.int .i64 b :: .int .i64 v :: .int .i64 z :: .int .i64 k :: V :: RC).all (·.oneCell') = true) := by show _ = _; simp only [List.all_cons, HR1.out, h1V]; rfl
      rw [show ds.take j = ds from List.take_of_length_le (by omega)] at hown
      have HVS : Hid ((Value.int .i64 b :: .int .i64 v :: .int .i64 z :: .int .i64 k :: V :: RC).toArray.size = mfZ.length) := by show _ = _; rw [List.size_toArray, HL.out]; rfl
      have HVA : Hid ((Value.int .i64 b :: .int .i64 v :: .int .i64 z :: .int .i64 k :: V :: RC).toArray.all (·.oneCell') = true) := by show _ = _; rw [List.all_toArray]; exact H1V.out
      clear h1V hBr H1V
      go_wp2_with (first
        | ((with_reducible refine wpL_isLoad rfl ?_); first | (refine wpL_loadAtS hst rfl (ty := 107) rfl 0 rfl rfl (by kernel_rfl) 37 (by kernel_rfl) _ (HT.out _) (HL.out _) ?_) | (refine wpL_loadAtS hst rfl (ty := 107) rfl 1 rfl rfl (by kernel_rfl) 37 (by kernel_rfl) _ (HT.out _) (HL.out _) ?_))
        | ((with_reducible refine wpL_peel rfl ?_ ?_); focus (go_simp; done)) | ((with_reducible refine wpL_isLoad rfl ?_); first | (refine wpL_load1S hst rfl rfl 0 rfl rfl rfl (by kernel_rfl) ?_) | (refine wpL_load1S hst rfl rfl 1 rfl rfl rfl (by kernel_rfl) ?_) | (refine wpL_load1S hst rfl rfl 2 rfl rfl rfl (by kernel_rfl) ?_) | (refine wpL_load1S hst rfl rfl 3 rfl rfl rfl (by kernel_rfl) ?_))
        | ((with_reducible refine wpL_isStore rfl ?_); refine wpL_store rfl 107 _ _ rfl R (Value.int .i64 b :: .int .i64 v :: .int .i64 z :: .int .i64 k :: V :: RC).toArray rfl rfl _ _ (hst.blk 1 rfl) (by kernel_rfl) HVS.out rfl HVA.out ?_; intro w8 ho8 hs8 hb8))
      replace hst := hst.chg 1 rfl ho8 hb8
      simp only [List.set] at hst
      replace hown := ownsRow_only hown ho8 (fun i hi => by have := (World.ownsRow.lt hown i hi).1; simp; omega)
      refine end_row Try.results60 rfl (hst.blk 1 rfl) Try.underlying107 rfl rmfInfo (HL.out _) rfl ⟨V, rfl, owns_base' hown hwl, hst.only⟩

end Go.Proofs.Ytmogkiacakkmbaa

namespace Go.Proofs.Ytmogkiacakkmbaa
open Go.RowKit

theorem owns_slice {w : World} {base : Nat} {e : TypeId} {size : Nat} {v : Value} {n : Nat} {xs : List Value} (h : w.ownsRow base e size v n xs) : ∃ ad cp, v = .slice ad n cp := by
  rcases h.2 with ⟨rfl, rfl⟩ | ⟨g, cap, cur, rfl, _⟩
  · exact ⟨none, 0, rfl⟩
  · exact ⟨_, _, rfl⟩

set_option maxRecDepth 100000 in
set_option maxHeartbeats 16000000 in
theorem manAlike_some (b v z k : Int) (ad ad2 : Option Addr) (n cp cp2 : Nat) (ds : List (List UInt8)) (r : List UInt8) (w : World) (hr : r.length = 32) (hw : Wide ds) (hn : ds.length = n) (hn1 : n ≤ 1000) (hne : ds ≠ []) (hD : Digs w (.slice ad n cp) ds) (hD2 : Digs w (.slice ad2 n cp2) ds) :
    Calls Try.prog 77 #[.agg (Value.int .i64 b :: .int .i64 v :: .int .i64 z :: .int .i64 k :: .slice ad n cp :: Lib.byteCells r).toArray, .agg (Value.int .i64 b :: .int .i64 v :: .int .i64 z :: .int .i64 k :: .slice ad2 n cp2 :: Lib.byteCells r).toArray] w fun e w' => e = .returned (.bool true) ∧ Only [] w w' := by
  have hsz : ∀ o, (w.alloc o).heap.size = w.heap.size + 1 := fun o => by simp
  have FM : Hid (∀ w', Only [] w w' → Calls Try.prog 60 #[.agg (Value.int .i64 b :: .int .i64 v :: .int .i64 z :: .int .i64 k :: .slice ad n cp :: Lib.byteCells r).toArray] w' fun e w'' => ∃ g cp3 rest, e = .returned (.agg (Value.int .i64 b :: .int .i64 v :: .int .i64 z :: .int .i64 k :: .slice (some ⟨g, 0, none⟩) n cp3 :: Lib.byteCells r).toArray) ∧ w'.heap.size ≤ g ∧ Blk w'' g (digCells ds ++ rest) 101 ∧ n ≤ cp3 ∧ Only [] w' w'') := fun w' ho => by
    refine (manForm_any b v z k ad n cp ds r w' hr hw hn hn1 (fun _ => hD.keep ho)).mono ?_
    rintro e w'' ⟨V, rfl, hown, ho2⟩
    obtain ⟨g, cap, rest, rfl, hc, hb, hB⟩ := ownsRow_blk hown (by intro e; rw [e] at hn; exact hne (List.eq_nil_of_length_eq_zero hn))
    exact ⟨g, cap, rest, rfl, hb, hB, hc, ho2⟩
  have hRL := digLen r hr
  have HR1 := Lib.hid (digOne r)
  have HR := Lib.hid hr
  obtain ⟨RC, eRC⟩ : ∃ RC, RC = Lib.byteCells r := ⟨_, rfl⟩
  have ERC := Lib.hid eRC
  rw [← eRC] at hRL HR1 FM ⊢
  have hst := ((St.start w []).box (Value.int .i64 b :: .int .i64 v :: .int .i64 z :: .int .i64 k :: .slice ad n cp :: RC) 104).box (Value.int .i64 b :: .int .i64 v :: .int .i64 z :: .int .i64 k :: .slice ad2 n cp2 :: RC) 107
  rw [hsz] at hst
  have HR0 : Hid (∀ V, ((Value.int .i64 b :: .int .i64 v :: .int .i64 z :: .int .i64 k :: V :: RC).drop 5).take 32 = RC) := fun V => List.take_of_length_le (by simp [hRL])
  have HRL := Lib.hid hRL
  have HT := Lib.hid (fun V => mfTake b v z k V RC hRL)
  have HL := Lib.hid (fun V => mfLen b v z k V RC hRL)
  have H1L : Hid (∀ g c, (Value.int .i64 b :: .int .i64 v :: .int .i64 z :: .int .i64 k :: .slice (some ⟨g, 0, none⟩) n c :: RC).all (·.oneCell') = true) := fun g c => by simp only [List.all_cons, HR1.out]; rfl
  have HLK : Hid (∀ V, (Value.int .i64 b :: .int .i64 v :: .int .i64 z :: .int .i64 k :: V :: RC).length = mfZ.length) := fun V => by rw [HL.out]; rfl
  have hn0 : 1 ≤ n := by
    cases n with
    | zero => exact absurd (List.eq_nil_of_length_eq_zero hn) hne
    | succ n => omega
  clear eRC hRL hsz
  go_enter Try.func77, Try.ntmps77
  go_wp2_with (first
    | ((with_reducible refine wpL_peel rfl ?_ ?_); focus (go_simp; done))
    | ((with_reducible refine wpL_isLoad rfl ?_); first | (refine wpL_loadAtS hst rfl (ty := 104) rfl 0 rfl rfl (by kernel_rfl) 37 (by kernel_rfl) _ (HT.out _) (HL.out _) ?_) | (refine wpL_loadAtS hst rfl (ty := 104) rfl 1 rfl rfl (by kernel_rfl) 37 (by kernel_rfl) _ (HT.out _) (HL.out _) ?_) | (refine wpL_loadAtS hst rfl (ty := 104) rfl 2 rfl rfl (by kernel_rfl) 37 (by kernel_rfl) _ (HT.out _) (HL.out _) ?_))
    | (go_at_call 60; refine (FM.out _ hst.only).mono ?_; rintro e1 w1 ⟨g, cp3, rest, rfl, hg, hB, hc3, ho1⟩; replace hst := hst.new ho1 hB hg; clear ho1 hB; have HC3 := Lib.hid hc3; clear hc3)
    | ((with_reducible refine wpL_isAlloc rfl ?_); refine wpL_allocS hst rfl 107 rfl (.agg mfZ.toArray) mfZ (by kernel_rfl) rfl _ rfl ?_; clear hst; intro w1 U hU hst)
    | ((with_reducible refine wpL_isStore rfl ?_); refine wpL_storeS hst rfl (ty := 107) rfl 0 rfl rfl rfl (by kernel_rfl) (by kernel_rfl) (HLK.out _) (H1L.out _ _) ?_; clear hst; intro w1 hst; simp only [List.set] at hst)
    | ((with_reducible refine wpL_isLoad rfl ?_); first | (refine wpL_loadAtS hst rfl (ty := 101) rfl 0 rfl rfl (by kernel_rfl) 32 (by kernel_rfl) _ (HR0.out _) HRL.out ?_) | (refine wpL_loadAtS hst rfl (ty := 101) rfl 2 rfl rfl (by kernel_rfl) 32 (by kernel_rfl) _ (HR0.out _) HRL.out ?_))
    | ((with_reducible refine wpL_peel rfl ?_ ?_); focus (go_simp; done)) | ((with_reducible refine wpL_isLoad rfl ?_); first | (refine wpL_load1S hst rfl rfl 0 rfl rfl rfl (by kernel_rfl) ?_) | (refine wpL_load1S hst rfl rfl 1 rfl rfl rfl (by kernel_rfl) ?_) | (refine wpL_load1S hst rfl rfl 2 rfl rfl rfl (by kernel_rfl) ?_) | (refine wpL_load1S hst rfl rfl 3 rfl rfl rfl (by kernel_rfl) ?_))
    | ((with_reducible refine wpL_isBin rfl ?_); refine wpL_neqB rfl 101 _ _ _ rfl 5 32 Try.underlying101 Try.underlying5 (by kernel_rfl) (by kernel_rfl) r r (by rw [← ERC.out]; rfl) (by rw [← ERC.out]; rfl) HR.out HR.out true (by simp) ?_))
  obtain ⟨bk, o, c, eV, hcc, hbk, hcell⟩ := hD2
  injection eV with ea en ec
  subst ea
  subst ec
  have HC2 : Hid (∀ j, j < n → ∀ w', Only [] w w' → ∀ q u, (Lib.byteCells (ds.getD j []))[q]? = some u → w'.cell? ⟨bk, o + j * 32 + q, none⟩ = some u) := fun j hj w' ho q u hu => by
    rw [ho.cellAt _ _ hbk (by simp)]
    exact digCells_atM hw (by omega) hcell q u hu
  have HC1 : Hid (∀ j, j < n → ∀ w', Blk w' g (digCells ds ++ rest) 101 → ∀ q u, (Lib.byteCells (ds.getD j []))[q]? = some u → w'.cell? ⟨g, j * 32 + q, none⟩ = some u) := fun j hj w' hb q u hu => by
    have := digCells_atM (w := w') (bk := g) (o := 0) hw (by omega : j < ds.length) (fun i x hx => by rw [Nat.zero_add]; exact hb.cell (by rw [List.getElem?_append_left (List.getElem?_eq_some_iff.1 hx).1]; exact hx)) q u hu
    rwa [Nat.zero_add] at this
  have HW : Hid (∀ j, j < n → (ds.getD j []).length = 32) := fun j hj => getD_wide ds hw j (by omega)
  clear FM hD hcc hcell en
  go_loopw [6] (fun i wr => ∃ (j : Nat), j ≤ n ∧ i = .int .i64 (j : Int) ∧ St w [] wr [⟨U, Value.int .i64 b :: .int .i64 v :: .int .i64 z :: .int .i64 k :: .slice (some ⟨g, 0, none⟩) n cp3 :: RC, 107, true⟩, ⟨g, digCells ds ++ rest, 101, true⟩, ⟨w.heap.size + 1, Value.int .i64 b :: .int .i64 v :: .int .i64 z :: .int .i64 k :: .slice (some ⟨bk, o, none⟩) n cp2 :: RC, 107, true⟩, ⟨w.heap.size, Value.int .i64 b :: .int .i64 v :: .int .i64 z :: .int .i64 k :: .slice ad n cp :: RC, 104, true⟩]) (fun i _ => (n - intOf i).toNat)
  case atStart => exact ⟨0, by omega, rfl, hst⟩
  case round =>
    obtain ⟨j, hj, rfl, hst⟩ := hrel
    by_cases hlt : j < n
    · have j1 : (j : Int) < n := by omega
      have j0 : (0 : Int) ≤ j := by omega
      have n2 : (n : Int) ≤ 1000 := by omega
      have D1 := Lib.hid (HC1.out j hlt)
      have D2 := Lib.hid (HC2.out j hlt)
      have HDL := Lib.hid (HW.out j hlt)
      have HD32 : Hid ((Lib.byteCells (ds.getD j [])).length = 32) := digLen _ (HW.out j hlt)
      generalize ds.getD j [] = d at *
      clear HC1 HC2 HW
      go_wp2_with (first | ((with_reducible refine wpL_peel rfl ?_ ?_); focus (go_simp; done)) | ((with_reducible refine wpL_isLoad rfl ?_); first | (refine wpL_load1S hst rfl rfl 0 rfl rfl rfl (by kernel_rfl) ?_) | (refine wpL_load1S hst rfl rfl 1 rfl rfl rfl (by kernel_rfl) ?_) | (refine wpL_load1S hst rfl rfl 2 rfl rfl rfl (by kernel_rfl) ?_) | (refine wpL_load1S hst rfl rfl 3 rfl rfl rfl (by kernel_rfl) ?_)))
      replace hst := hst.drew
      refine wp_region_ord [] [0, 1, 2, 3, 4, 5, 6, 7, 8, 9, 10] (by kernel_rfl) (by kernel_rfl) ?_
      generalize World.drew _ = W at *
      refine Ord.cut 1 0 rfl rfl rfl rfl (by kernel_rfl) (by kernel_rfl) ?_; simp only [List.take_succ_cons, List.take_zero, List.drop_succ_cons, List.drop_zero, List.filterMap_cons, List.filterMap_nil, List.getElem?_cons_succ, List.getElem?_cons_zero]; go_wp2_with fail; refine TextQ.mk ⟨fun h => by simp at h, ?_⟩ rfl
      refine Ord.cut 1 1 rfl rfl rfl rfl (by kernel_rfl) (by kernel_rfl) ?_; simp only [List.take_succ_cons, List.take_zero, List.drop_succ_cons, List.drop_zero, List.filterMap_cons, List.filterMap_nil, List.getElem?_cons_succ, List.getElem?_cons_zero]; (try refine wpL_peel rfl rfl ?_); (first | (refine wpL_load1S hst rfl rfl 0 rfl rfl rfl (by kernel_rfl) ?_) | (refine wpL_load1S hst rfl rfl 1 rfl rfl rfl (by kernel_rfl) ?_) | (refine wpL_load1S hst rfl rfl 2 rfl rfl rfl (by kernel_rfl) ?_) | (refine wpL_load1S hst rfl rfl 3 rfl rfl rfl (by kernel_rfl) ?_)); refine TextQ.mk ⟨fun h => by simp at h, ?_⟩ rfl
      refine Ord.cut 2 3 rfl rfl rfl rfl (by kernel_rfl) (by kernel_rfl) ?_; simp only [List.take_succ_cons, List.take_zero, List.drop_succ_cons, List.drop_zero, List.filterMap_cons, List.filterMap_nil, List.getElem?_cons_succ, List.getElem?_cons_zero]; go_wp2_with fail; refine TextQ.mk ⟨fun h => by simp at h, ?_⟩ rfl
      refine Ord.cut 1 4 rfl rfl rfl rfl (by kernel_rfl) (by kernel_rfl) ?_; simp only [List.take_succ_cons, List.take_zero, List.drop_succ_cons, List.drop_zero, List.filterMap_cons, List.filterMap_nil, List.getElem?_cons_succ, List.getElem?_cons_zero]
      refine wpL_load_at rfl 101 _ rfl g (j * 32) rfl (Lib.byteCells d) _ (D1.out _ (hst.blk 1 rfl)) Try.underlying101 rfl (n := 32) (by kernel_rfl) HD32.out ?_
      refine TextQ.mk ⟨fun h => by simp at h, ?_⟩ rfl
      refine Ord.cut 1 5 rfl rfl rfl rfl (by kernel_rfl) (by kernel_rfl) ?_; simp only [List.take_succ_cons, List.take_zero, List.drop_succ_cons, List.drop_zero, List.filterMap_cons, List.filterMap_nil, List.getElem?_cons_succ, List.getElem?_cons_zero]; go_wp2_with fail; refine TextQ.mk ⟨fun h => by simp at h, ?_⟩ rfl
      refine Ord.cut 1 6 rfl rfl rfl rfl (by kernel_rfl) (by kernel_rfl) ?_; simp only [List.take_succ_cons, List.take_zero, List.drop_succ_cons, List.drop_zero, List.filterMap_cons, List.filterMap_nil, List.getElem?_cons_succ, List.getElem?_cons_zero]; (try refine wpL_peel rfl rfl ?_); (first | (refine wpL_load1S hst rfl rfl 0 rfl rfl rfl (by kernel_rfl) ?_) | (refine wpL_load1S hst rfl rfl 1 rfl rfl rfl (by kernel_rfl) ?_) | (refine wpL_load1S hst rfl rfl 2 rfl rfl rfl (by kernel_rfl) ?_) | (refine wpL_load1S hst rfl rfl 3 rfl rfl rfl (by kernel_rfl) ?_)); refine TextQ.mk ⟨fun h => by simp at h, ?_⟩ rfl
      refine Ord.cut 2 8 rfl rfl rfl rfl (by kernel_rfl) (by kernel_rfl) ?_; simp only [List.take_succ_cons, List.take_zero, List.drop_succ_cons, List.drop_zero, List.filterMap_cons, List.filterMap_nil, List.getElem?_cons_succ, List.getElem?_cons_zero]; go_wp2_with fail; refine TextQ.mk ⟨fun h => by simp at h, ?_⟩ rfl
      refine Ord.cut 1 9 rfl rfl rfl rfl (by kernel_rfl) (by kernel_rfl) ?_; simp only [List.take_succ_cons, List.take_zero, List.drop_succ_cons, List.drop_zero, List.filterMap_cons, List.filterMap_nil, List.getElem?_cons_succ, List.getElem?_cons_zero]
      refine wpL_load_at rfl 101 _ rfl bk (o + j * 32) rfl (Lib.byteCells d) _ (D2.out _ hst.only) Try.underlying101 rfl (n := 32) (by kernel_rfl) HD32.out ?_
      refine TextQ.mk ⟨fun h => by simp at h, ?_⟩ rfl
      refine Ord.cut 1 10 rfl rfl rfl rfl (by kernel_rfl) (by kernel_rfl) ?_; simp only [List.take_succ_cons, List.take_zero, List.drop_succ_cons, List.drop_zero, List.filterMap_cons, List.filterMap_nil, List.getElem?_cons_succ, List.getElem?_cons_zero]
      refine wpL_neqB rfl 101 _ _ _ rfl 5 32 Try.underlying101 Try.underlying5 (by kernel_rfl) (by kernel_rfl) d d rfl rfl HDL.out HDL.out true (by simp) ?_
      refine TextQ.mk ⟨fun h => by simp at h, ?_⟩ ?_
      case refine_2 => repeat' (first | exact rfl | exact fine_bytes rfl rfl rfl | refine fine_cons ?_ ?_)
      refine Ord.done ?_
      go_wp2_with fail
      exact ⟨⟨j + 1, by omega, by go_num, hst⟩, by simp [intOf]; omega⟩
    · obtain rfl : j = n := by omega
      have j1 : ¬ (j : Int) < j := by omega
      go_wp2_with (first | ((with_reducible refine wpL_peel rfl ?_ ?_); focus (go_simp; done)) | ((with_reducible refine wpL_isLoad rfl ?_); first | (refine wpL_load1S hst rfl rfl 0 rfl rfl rfl (by kernel_rfl) ?_) | (refine wpL_load1S hst rfl rfl 1 rfl rfl rfl (by kernel_rfl) ?_) | (refine wpL_load1S hst rfl rfl 2 rfl rfl rfl (by kernel_rfl) ?_) | (refine wpL_load1S hst rfl rfl 3 rfl rfl rfl (by kernel_rfl) ?_)))
      go_ret
      exact ⟨rfl, hst.only⟩

set_option maxRecDepth 100000 in
set_option maxHeartbeats 16000000 in
theorem manAlike_none (b v z k : Int) (ad ad2 : Option Addr) (cp cp2 : Nat) (r : List UInt8) (w : World) (hr : r.length = 32) :
    Calls Try.prog 77 #[.agg (Value.int .i64 b :: .int .i64 v :: .int .i64 z :: .int .i64 k :: .slice ad 0 cp :: Lib.byteCells r).toArray, .agg (Value.int .i64 b :: .int .i64 v :: .int .i64 z :: .int .i64 k :: .slice ad2 0 cp2 :: Lib.byteCells r).toArray] w fun e w' => e = .returned (.bool true) ∧ Only [] w w' := by
  have hsz : ∀ o, (w.alloc o).heap.size = w.heap.size + 1 := fun o => by simp
  have FM : Hid (∀ w', Only [] w w' → Calls Try.prog 60 #[.agg (Value.int .i64 b :: .int .i64 v :: .int .i64 z :: .int .i64 k :: .slice ad 0 cp :: Lib.byteCells r).toArray] w' fun e w'' => ∃ g cp3, e = .returned (.agg (Value.int .i64 b :: .int .i64 v :: .int .i64 z :: .int .i64 k :: .slice g 0 cp3 :: Lib.byteCells r).toArray) ∧ Only [] w' w'') := fun w' ho => by
    refine (manForm_any b v z k ad 0 cp [] r w' hr (fun d hd => by simp at hd) rfl (by omega) (fun h => absurd rfl h)).mono ?_
    rintro e w'' ⟨V, rfl, hown, ho2⟩
    obtain ⟨g, cap, rfl⟩ := owns_slice hown
    exact ⟨g, cap, rfl, ho2⟩
  have hRL := digLen r hr
  have HR1 := Lib.hid (digOne r)
  have HR := Lib.hid hr
  obtain ⟨RC, eRC⟩ : ∃ RC, RC = Lib.byteCells r := ⟨_, rfl⟩
  have ERC := Lib.hid eRC
  rw [← eRC] at hRL HR1 FM ⊢
  have hst := ((St.start w []).box (Value.int .i64 b :: .int .i64 v :: .int .i64 z :: .int .i64 k :: .slice ad 0 cp :: RC) 104).box (Value.int .i64 b :: .int .i64 v :: .int .i64 z :: .int .i64 k :: .slice ad2 0 cp2 :: RC) 107
  rw [hsz] at hst
  have HR0 : Hid (∀ V, ((Value.int .i64 b :: .int .i64 v :: .int .i64 z :: .int .i64 k :: V :: RC).drop 5).take 32 = RC) := fun V => List.take_of_length_le (by simp [hRL])
  have HRL := Lib.hid hRL
  have HT := Lib.hid (fun V => mfTake b v z k V RC hRL)
  have HL := Lib.hid (fun V => mfLen b v z k V RC hRL)
  have H1L : Hid (∀ g c, (Value.int .i64 b :: .int .i64 v :: .int .i64 z :: .int .i64 k :: .slice g 0 c :: RC).all (·.oneCell') = true) := fun g c => by simp only [List.all_cons, HR1.out]; rfl
  have HLK : Hid (∀ V, (Value.int .i64 b :: .int .i64 v :: .int .i64 z :: .int .i64 k :: V :: RC).length = mfZ.length) := fun V => by rw [HL.out]; rfl
  clear eRC hRL hsz
  go_enter Try.func77, Try.ntmps77
  go_wp2_with (first
    | ((with_reducible refine wpL_peel rfl ?_ ?_); focus (go_simp; done))
    | ((with_reducible refine wpL_isLoad rfl ?_); first | (refine wpL_loadAtS hst rfl (ty := 104) rfl 0 rfl rfl (by kernel_rfl) 37 (by kernel_rfl) _ (HT.out _) (HL.out _) ?_) | (refine wpL_loadAtS hst rfl (ty := 104) rfl 1 rfl rfl (by kernel_rfl) 37 (by kernel_rfl) _ (HT.out _) (HL.out _) ?_) | (refine wpL_loadAtS hst rfl (ty := 104) rfl 2 rfl rfl (by kernel_rfl) 37 (by kernel_rfl) _ (HT.out _) (HL.out _) ?_))
    | (go_at_call 60; refine (FM.out _ hst.only).mono ?_; rintro e1 w1 ⟨g, cp3, rfl, ho1⟩; replace hst := hst.keep ho1; clear ho1)
    | ((with_reducible refine wpL_isAlloc rfl ?_); refine wpL_allocS hst rfl 107 rfl (.agg mfZ.toArray) mfZ (by kernel_rfl) rfl _ rfl ?_; clear hst; intro w1 U hU hst)
    | ((with_reducible refine wpL_isStore rfl ?_); refine wpL_storeS hst rfl (ty := 107) rfl 0 rfl rfl rfl (by kernel_rfl) (by kernel_rfl) (HLK.out _) (H1L.out _ _) ?_; clear hst; intro w1 hst; simp only [List.set] at hst)
    | ((with_reducible refine wpL_isLoad rfl ?_); first | (refine wpL_loadAtS hst rfl (ty := 101) rfl 0 rfl rfl (by kernel_rfl) 32 (by kernel_rfl) _ (HR0.out _) HRL.out ?_) | (refine wpL_loadAtS hst rfl (ty := 101) rfl 1 rfl rfl (by kernel_rfl) 32 (by kernel_rfl) _ (HR0.out _) HRL.out ?_))
    | ((with_reducible refine wpL_peel rfl ?_ ?_); focus (go_simp; done)) | ((with_reducible refine wpL_isLoad rfl ?_); first | (refine wpL_load1S hst rfl rfl 0 rfl rfl rfl (by kernel_rfl) ?_) | (refine wpL_load1S hst rfl rfl 1 rfl rfl rfl (by kernel_rfl) ?_) | (refine wpL_load1S hst rfl rfl 2 rfl rfl rfl (by kernel_rfl) ?_) | (refine wpL_load1S hst rfl rfl 3 rfl rfl rfl (by kernel_rfl) ?_))
    | ((with_reducible refine wpL_isBin rfl ?_); refine wpL_neqB rfl 101 _ _ _ rfl 5 32 Try.underlying101 Try.underlying5 (by kernel_rfl) (by kernel_rfl) r r (by rw [← ERC.out]; rfl) (by rw [← ERC.out]; rfl) HR.out HR.out true (by simp) ?_))
  go_loopw [6] (fun i wr => i = .int .i64 0 ∧ St w [] wr [⟨U, Value.int .i64 b :: .int .i64 v :: .int .i64 z :: .int .i64 k :: .slice g 0 cp3 :: RC, 107, true⟩, ⟨w.heap.size + 1, Value.int .i64 b :: .int .i64 v :: .int .i64 z :: .int .i64 k :: .slice ad2 0 cp2 :: RC, 107, true⟩, ⟨w.heap.size, Value.int .i64 b :: .int .i64 v :: .int .i64 z :: .int .i64 k :: .slice ad 0 cp :: RC, 104, true⟩]) (fun _ _ => 0)
  case atStart => exact ⟨rfl, hst⟩
  case round =>
    obtain ⟨rfl, hst⟩ := hrel
    go_wp2_with (first | ((with_reducible refine wpL_peel rfl ?_ ?_); focus (go_simp; done)) | ((with_reducible refine wpL_isLoad rfl ?_); first | (refine wpL_load1S hst rfl rfl 0 rfl rfl rfl (by kernel_rfl) ?_) | (refine wpL_load1S hst rfl rfl 1 rfl rfl rfl (by kernel_rfl) ?_) | (refine wpL_load1S hst rfl rfl 2 rfl rfl rfl (by kernel_rfl) ?_) | (refine wpL_load1S hst rfl rfl 3 rfl rfl rfl (by kernel_rfl) ?_)))
    go_ret
    exact ⟨rfl, hst.only⟩

theorem manAlike_same (b v z k : Int) (ad ad2 : Option Addr) (n cp cp2 : Nat) (ds : List (List UInt8)) (r : List UInt8) (w : World) (hr : r.length = 32) (hw : Wide ds) (hn : ds.length = n) (hn1 : n ≤ 1000) (hD : ds ≠ [] → Digs w (.slice ad n cp) ds) (hD2 : ds ≠ [] → Digs w (.slice ad2 n cp2) ds) :
    Calls Try.prog 77 #[.agg (Value.int .i64 b :: .int .i64 v :: .int .i64 z :: .int .i64 k :: .slice ad n cp :: Lib.byteCells r).toArray, .agg (Value.int .i64 b :: .int .i64 v :: .int .i64 z :: .int .i64 k :: .slice ad2 n cp2 :: Lib.byteCells r).toArray] w fun e w' => e = .returned (.bool true) ∧ Only [] w w' := by
  by_cases hne : ds = []
  · subst hne
    subst hn
    exact manAlike_none b v z k ad ad2 cp cp2 r w hr
  · exact manAlike_some b v z k ad ad2 n cp cp2 ds r w hr hw hn hn1 hne (hD hne) (hD2 hne)

end Go.Proofs.Ytmogkiacakkmbaa

namespace Go.Proofs.Ytmogkiacakkmbaa
open Go.RowKit

theorem arrInfo32 : (Try.prog.info? 101).map (·.size) = some 32 := by kernel_rfl
theorem built_arr0 : Try.prog.built 101 [] = some zeros32.toArray := by kernel_rfl
/-- The first j bytes laid. -/
def rowJ (l : List UInt8) (j : Nat) : List Value := Lib.byteCells (l.take j) ++ List.replicate (32 - j) (.int .u8 0)
theorem rowJ_0 (l : List UInt8) : rowJ l 0 = zeros32 := rfl
theorem rowJ_length (l : List UInt8) (hl : l.length = 32) (j : Nat) (h : j ≤ 32) : (rowJ l j).length = 32 := by
  simp [rowJ, Lib.byteCells, List.length_take, hl]
  omega
theorem rowJ_set (l : List UInt8) (hl : l.length = 32) (j : Nat) (h : j < 32) : (rowJ l j).set j (.int .u8 ((l.getD j 0).toNat : Int)) = rowJ l (j + 1) := by
  have hlen : (Lib.byteCells (l.take j)).length = j := by simp [Lib.byteCells, List.length_take, hl]; omega
  unfold rowJ
  rw [List.set_append_right _ _ (by omega), hlen, Nat.sub_self]
  obtain ⟨m, hm⟩ : ∃ m, 32 - j = m + 1 := ⟨31 - j, by omega⟩
  rw [hm, List.replicate_succ, List.set_cons_zero, show 32 - (j + 1) = m by omega, List.take_add_one, List.getElem?_eq_getElem (by omega), List.getD_eq_getElem?_getD, List.getElem?_eq_getElem (by omega)]
  show Lib.byteCells (l.take j) ++ (Value.int .u8 ((l[j]'(by omega)).toNat : Int) :: List.replicate m _) = Lib.byteCells (l.take j ++ [l[j]'(by omega)]) ++ _
  have e : Lib.byteCells (l.take j ++ [l[j]'(by omega)]) = Lib.byteCells (l.take j) ++ [Value.int .u8 ((l[j]'(by omega)).toNat : Int)] := by unfold Lib.byteCells; rw [List.map_append]; rfl
  rw [e, List.append_assoc]
  rfl
theorem rowJ_32 (l : List UInt8) (hl : l.length = 32) : rowJ l 32 = Lib.byteCells l := by
  unfold rowJ
  rw [List.take_of_length_le (by omega)]
  simp

end Go.Proofs.Ytmogkiacakkmbaa
