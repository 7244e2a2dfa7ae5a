/- The law ShaTree, walked. -/
import Derived.Test.YtlciphmjkbihkaaRefF
import Derived.Test.YtlciphmjkbihkaaRefJ
import Derived.Test.YtlciphmjkbihkaaOrd
namespace Go.Proofs.Ytlciphmjkbihkaa
open Go.RowKit

set_option maxRecDepth 100000 in
set_option maxHeartbeats 2000000 in
theorem treeLaw_none (a : Option Addr) (c : Nat) (w : World) : Calls Try.prog 7 #[.slice a 0 c] w fun e w' => e = .returned (.bool true) ∧ Only [] w w' := by
  obtain ⟨d, ed⟩ : ∃ d, d = Sha.sum [] := ⟨_, rfl⟩
  have DL : Hid (d.length = 32) := by rw [ed]; exact Sha.sum_length _
  have T1 : Hid (∀ w, Calls Try.prog 38 #[.slice a 0 c] w fun e w' => e = .returned (.agg (Lib.byteCells d).toArray) ∧ Only [] w w') := fun w => by rw [ed]; exact tree_none a c w
  have T2 : Hid (∀ (b : Nat) w, Calls Try.prog 39 #[.slice (some ⟨b, 0, none⟩) 0 0] w fun e w' => e = .returned (.agg (Lib.byteCells d).toArray) ∧ Only [] w w') := fun b w => by rw [ed]; exact refTree_none _ 0 w
  clear ed
  go_enter Try.func7, Try.ntmps7
  go_wp2_with (first
    | (go_at_call 32; refine (awake_any _).mono ?_; rintro e w1 ⟨rfl, ho1⟩)
    | (refine wpL_slice_none rfl _ rfl Try.underlying63 dig32Info ?_; intro w2 ho2 hs2 hown2))
  go_loopw [3, 4] (fun l i wr => l = .slice (some ⟨w1.heap.size, 0, none⟩) 0 0 ∧ i = .int .i64 0 ∧ wr = w2) (fun _ _ _ => 0)
  case atStart => exact ⟨rfl, rfl, rfl⟩
  case round =>
    obtain ⟨rfl, rfl, rfl⟩ := hrel
    go_wp2_with (first
      | (go_at_call 38; refine (T1.out _).mono ?_; rintro e w3 ⟨rfl, ho3⟩)
      | (go_at_call 39; refine (T2.out _ _).mono ?_; rintro e w4 ⟨rfl, ho4⟩)
      | (refine wpL_eql_bytes rfl 57 _ (.tmp 42) (.tmp 44) rfl 5 32 Try.underlying57 Try.underlying5 (by kernel_rfl) (by kernel_rfl) d d rfl rfl DL.out DL.out true (by simp) ?_))
    go_ret
    exact ⟨rfl, ((ho1.trans ho2).trans ho3).trans ho4⟩

set_option maxRecDepth 100000 in
set_option maxHeartbeats 4000000 in
theorem treeLaw_many (bk o cap : Nat) (ds : List (List UInt8)) (w : World) (hne : ds ≠ []) (hmax : ds.length ≤ maxLen) (hw : Wide ds) (h : Digs w (.slice (some ⟨bk, o, none⟩) ds.length cap) ds) :
    Calls Try.prog 7 #[.slice (some ⟨bk, o, none⟩) ds.length cap] w fun e w' => e = .returned (.bool true) ∧ Only [] w w' := by
  have HD := Lib.hid h
  have HNE := Lib.hid hne
  have HW := Lib.hid hw
  unfold maxLen at hmax
  have hpos : 0 < ds.length := List.length_pos_iff.2 hne
  clear h hne hw
  by_cases hbig : 20 < ds.length
  · have g1 : (20 : Int) < ds.length := by omega
    go_enter Try.func7, Try.ntmps7
    go_wp2_with (go_at_call 32; refine (awake_any _).mono ?_; rintro e w1 ⟨rfl, ho1⟩)
    go_ret
    exact ⟨rfl, ho1⟩
  · have g1 : ¬ (20 : Int) < ds.length := by omega
    go_enter Try.func7, Try.ntmps7
    go_wp2_with (first
      | (go_at_call 32; refine (awake_any _).mono ?_; rintro e w1 ⟨rfl, ho1⟩)
      | (refine wpL_slice_none rfl _ rfl Try.underlying63 dig32Info ?_; intro w2 ho2 hs2 hown2))
    have HD1 := HD.out.keep ho1
    obtain ⟨bk', o', cap', hv, hc1, hbk, hcells⟩ := HD1
    injection hv with e1 e2 e3
    injection e1 with e1
    injection e1 with e1 e4
    subst e1 e4
    have HC : Hid (∀ w', Only [] w1 w' → ∀ j u, (digCells ds)[j]? = some u → w'.cell? ⟨bk, o + j, none⟩ = some u) := fun w' ho j u hu => by
      rw [ho.cellAt _ _ hbk (by simp)]
      exact hcells j u hu
    have HD1 := Lib.hid (HD.out.keep ho1)
    have hcc : ds.length ≤ cap := by rw [e3]; exact hc1
    clear hcells e2 e3 hs2 hc1
    go_loopw [3, 4] (fun l i wj => ∃ (k : Nat), k ≤ ds.length ∧ i = .int .i64 k ∧ wj.ownsRow w1.heap.size 56 32 l k (digCells (ds.take k)) ∧ Only [] w1 wj) (fun _ i _ => ds.length - (intOf i).toNat)
    case atStart => exact ⟨0, by omega, rfl, hown2, ho2⟩
    case round =>
      obtain ⟨k, hk, rfl, hown, hor⟩ := hrel
      by_cases hlt : k < ds.length
      · have i1 : (k : Int) < ds.length := by omega
        obtain ⟨dk, edk⟩ : ∃ d, d = ds.getD k [] := ⟨_, rfl⟩
        obtain ⟨d0, ed0⟩ : ∃ d, d = ds.getD 0 [] := ⟨_, rfl⟩
        have EDK := Lib.hid edk
        have ED0 := Lib.hid ed0
        have WDK : Hid (dk.length = 32) := by
          refine HW.out dk ?_
          rw [edk, List.getD_eq_getElem?_getD, List.getElem?_eq_getElem hlt]
          exact List.getElem_mem _
        have WD0 : Hid (d0.length = 32) := by
          refine HW.out d0 ?_
          rw [ed0, List.getD_eq_getElem?_getD, List.getElem?_eq_getElem hpos]
          exact List.getElem_mem _
        have KK : Hid (∀ j u, (Lib.byteCells dk)[j]? = some u → wr.cell? ⟨bk, o + k * 32 + j, none⟩ = some u) := by rw [edk]; exact digCells_at HW.out hlt (HC.out _ hor)
        have htk : digCells (ds.take (k + 1)) = digCells (ds.take k) ++ Lib.byteCells dk := by
          rw [List.take_succ_eq_append_getElem hlt, digCells_append, edk, List.getD_eq_getElem?_getD, List.getElem?_eq_getElem hlt]
          simp [digCells]
        have HTK := Lib.hid htk
        clear htk edk ed0
        go_wp2_with (first
          | (refine wpL_load_at rfl _ _ rfl bk (o + k * 32) rfl (Lib.byteCells dk) _ KK.out Try.underlying57 rfl digInfo (by rw [byteCells_length, WDK.out]) ?_)
          | (refine wpL_slice_lit rfl 63 1 _ rfl Try.underlying63 dig32Info3 (by decide) (by decide) [.agg (Lib.byteCells dk).toArray] ?hv rfl (by simp [byteCells_length, WDK.out, Value.cells]) ?_))
        intro w4 ho4 hs4 hb4
        have hb4' : Blk w4 wr.heap.size (Lib.byteCells dk) 56 := by simpa [Value.cells] using hb4
        refine wpL_append rfl (.tmp 17) (.tmp 22) 63 rfl w1.heap.size 56 Try.underlying63 dig32Info3 rfl (by decide) u3 k (digCells (ds.take k)) rfl (ownsRow_only hown ho4 (by simp)) ⟨wr.heap.size, 0, none⟩ 1 1 (Lib.byteCells dk) rfl (by rw [byteCells_length, WDK.out]) ?hn ?h1 ?h63 ?hby ?hba ?_
        case hn => exact fun j u hu => by rw [addr_add, Nat.zero_add]; exact hb4'.cell hu
        case h1 => exact byteCells_ones _
        case h63 => unfold maxLen; omega
        case hby => omega
        case hba => exact Nat.le_trans hor.size ho4.size
        intro v' w5 hown5 hg5 hv5 hiff5
        rw [← HTK.out] at hown5
        have ho5 : Only [] w1 w5 := (hor.trans ho4).step (Only.of_grown hg5) fun i hi => .inr (by
          simp only [Option.mem_toList] at hi
          exact (World.ownsRow.lt hown i hi).1)
        obtain ⟨g, cp, rfl, hcp⟩ : ∃ g cp, v' = .slice (some ⟨g, 0, none⟩) (k + 1) cp ∧ k + 1 ≤ cp := by
          rcases hown5.2 with ⟨_, hz⟩ | ⟨g, cp, cur, rfl, _, _, hcp, _⟩
          · omega
          · exact ⟨g, cp, rfl, hcp⟩
        have hcell5 := hown5.cells (g := g) rfl
        obtain ⟨pd, hpd⟩ : ∃ pd, pd = Sha.pair d0 dk := ⟨_, rfl⟩
        have PL : Hid (pd.length = 32) := by subst hpd; exact Sha.sum_length _
        have P1 : Hid (∀ w, Calls Try.prog 36 #[.agg (Lib.byteCells d0).toArray, .agg (Lib.byteCells dk).toArray] w fun e w' => e = .returned (.agg (Lib.byteCells pd).toArray) ∧ Only [] w w') := fun w => by subst hpd; exact pair_any d0 dk w WD0.out WDK.out
        have P2 : Hid (∀ w, Calls Try.prog 37 #[.agg (Lib.byteCells d0).toArray, .agg (Lib.byteCells dk).toArray] w fun e w' => e = .returned (.agg (Lib.byteCells pd).toArray) ∧ Only [] w w') := fun w => by subst hpd; exact refPair_any d0 dk w WD0.out WDK.out
        have A0 : Hid (∀ j u, (Lib.byteCells d0)[j]? = some u → w5.drew.cell? ⟨bk, o + j, none⟩ = some u) := by
          have := digCells_at HW.out hpos (HC.out _ ho5.drew)
          rw [← ED0.out] at this
          refine Lib.hid ?_
          simpa using this
        have AK : Hid (∀ j u, (Lib.byteCells dk)[j]? = some u → w5.drew.cell? ⟨bk, o + k * 32 + j, none⟩ = some u) := by rw [EDK.out]; exact digCells_at HW.out hlt (HC.out _ ho5.drew)
        have htw : Wide (ds.take (k + 1)) := HW.out.take _
        have hcell6 : ∀ j u, (digCells (ds.take (k + 1)))[j]? = some u → w5.drew.cell? ⟨g, 0 + j, none⟩ = some u := fun j u hu => by
          have := hcell5 j u hu
          rw [addr_add] at this
          exact this
        have htl : (ds.take (k + 1)).length = k + 1 := by rw [List.length_take]; omega
        have B0 : Hid (∀ j u, (Lib.byteCells d0)[j]? = some u → w5.drew.cell? ⟨g, 0 + j, none⟩ = some u) := by
          have := digCells_at htw (i := 0) (by omega) hcell6
          rw [show (ds.take (k + 1)).getD 0 [] = d0 by rw [ED0.out, List.getD_eq_getElem?_getD, List.getD_eq_getElem?_getD, List.getElem?_take_of_lt (by omega)]] at this
          refine Lib.hid ?_
          simpa using this
        have BK : Hid (∀ j u, (Lib.byteCells dk)[j]? = some u → w5.drew.cell? ⟨g, k * 32 + j, none⟩ = some u) := by
          have := digCells_at htw (i := k) (by omega) hcell6
          rw [show (ds.take (k + 1)).getD k [] = dk by rw [EDK.out, List.getD_eq_getElem?_getD, List.getD_eq_getElem?_getD, List.getElem?_take_of_lt (by omega)]] at this
          refine Lib.hid ?_
          simpa using this
        have hW5 : Only [] w5 w5.drew := (Only.refl [] w5).drew
        clear hcell5 hcell6 hpd htw htl hb4 hb4' KK hg5 hv5 hiff5 ho4 hs4
        go_wp2_with fail
        refine wp_region_ord [7, 15] [0, 1, 2, 3, 4, 5, 6, 8, 9, 10, 11, 12, 13, 14, 7, 15, 16] (by kernel_rfl) (by kernel_rfl) ?_
        generalize w5.drew = W at *
        refine Ord.cut 2 1 rfl rfl rfl rfl (by kernel_rfl) (by kernel_rfl) ?_
        simp only [List.take_succ_cons, List.take_zero, List.drop_succ_cons, List.drop_zero, List.filterMap_cons, List.filterMap_nil, List.getElem?_cons_succ, List.getElem?_cons_zero]
        go_wp2_with fail
        refine TextQ.mk ⟨fun h => by simp at h, ?_⟩ rfl
        refine Ord.cut 1 2 rfl rfl rfl rfl (by kernel_rfl) (by kernel_rfl) ?_
        simp only [List.take_succ_cons, List.take_zero, List.drop_succ_cons, List.drop_zero, List.filterMap_cons, List.filterMap_nil, List.getElem?_cons_succ, List.getElem?_cons_zero]
        refine wpL_load_at rfl _ _ rfl bk (o) rfl (Lib.byteCells d0) _ A0.out Try.underlying57 rfl digInfo (by rw [byteCells_length, WD0.out]) ?_
        refine TextQ.mk ⟨fun h => by simp at h, ?_⟩ rfl
        refine Ord.cut 3 5 rfl rfl rfl rfl (by kernel_rfl) (by kernel_rfl) ?_
        simp only [List.take_succ_cons, List.take_zero, List.drop_succ_cons, List.drop_zero, List.filterMap_cons, List.filterMap_nil, List.getElem?_cons_succ, List.getElem?_cons_zero]
        go_wp2_with fail
        refine TextQ.mk ⟨fun h => by simp at h, ?_⟩ rfl
        refine Ord.cut 1 6 rfl rfl rfl rfl (by kernel_rfl) (by kernel_rfl) ?_
        simp only [List.take_succ_cons, List.take_zero, List.drop_succ_cons, List.drop_zero, List.filterMap_cons, List.filterMap_nil, List.getElem?_cons_succ, List.getElem?_cons_zero]
        refine wpL_load_at rfl _ _ rfl bk (o + k * 32) rfl (Lib.byteCells dk) _ AK.out Try.underlying57 rfl digInfo (by rw [byteCells_length, WDK.out]) ?_
        refine TextQ.mk ⟨fun h => by simp at h, ?_⟩ rfl
        refine Ord.cut 2 9 rfl rfl rfl rfl (by kernel_rfl) (by kernel_rfl) ?_
        simp only [List.take_succ_cons, List.take_zero, List.drop_succ_cons, List.drop_zero, List.filterMap_cons, List.filterMap_nil, List.getElem?_cons_succ, List.getElem?_cons_zero]
        go_wp2_with fail
        refine TextQ.mk ⟨fun h => by simp at h, ?_⟩ rfl
        refine Ord.cut 1 10 rfl rfl rfl rfl (by kernel_rfl) (by kernel_rfl) ?_
        simp only [List.take_succ_cons, List.take_zero, List.drop_succ_cons, List.drop_zero, List.filterMap_cons, List.filterMap_nil, List.getElem?_cons_succ, List.getElem?_cons_zero]
        refine wpL_load_at rfl _ _ rfl g (0) rfl (Lib.byteCells d0) _ B0.out Try.underlying56 rfl dig32Info (by rw [byteCells_length, WD0.out]) ?_
        refine TextQ.mk ⟨fun h => by simp at h, ?_⟩ rfl
        refine Ord.cut 3 13 rfl rfl rfl rfl (by kernel_rfl) (by kernel_rfl) ?_
        simp only [List.take_succ_cons, List.take_zero, List.drop_succ_cons, List.drop_zero, List.filterMap_cons, List.filterMap_nil, List.getElem?_cons_succ, List.getElem?_cons_zero]
        go_wp2_with fail
        refine TextQ.mk ⟨fun h => by simp at h, ?_⟩ rfl
        refine Ord.cut 1 14 rfl rfl rfl rfl (by kernel_rfl) (by kernel_rfl) ?_
        simp only [List.take_succ_cons, List.take_zero, List.drop_succ_cons, List.drop_zero, List.filterMap_cons, List.filterMap_nil, List.getElem?_cons_succ, List.getElem?_cons_zero]
        refine wpL_load_at rfl _ _ rfl g (k * 32) rfl (Lib.byteCells dk) _ BK.out Try.underlying56 rfl dig32Info (by rw [byteCells_length, WDK.out]) ?_
        refine TextQ.mk ⟨fun h => by simp at h, ?_⟩ rfl
        refine Ord.cut 1 7 rfl rfl rfl rfl (by kernel_rfl) (by kernel_rfl) ?_
        simp only [List.take_succ_cons, List.take_zero, List.drop_succ_cons, List.drop_zero, List.filterMap_cons, List.filterMap_nil, List.getElem?_cons_succ, List.getElem?_cons_zero]
        go_wp2_with (go_at_call 36; refine (P1.out _).mono ?_; rintro e w6 ⟨rfl, ho6⟩)
        refine TextQ.mk ⟨fun _ => ho6, ?_⟩ rfl
        refine Ord.cut 1 15 rfl rfl rfl rfl (by kernel_rfl) (by kernel_rfl) ?_
        simp only [List.take_succ_cons, List.take_zero, List.drop_succ_cons, List.drop_zero, List.filterMap_cons, List.filterMap_nil, List.getElem?_cons_succ, List.getElem?_cons_zero]
        go_wp2_with (go_at_call 37; refine (P2.out _).mono ?_; rintro e w7 ⟨rfl, ho7⟩)
        refine TextQ.mk ⟨fun _ => ho7, ?_⟩ rfl
        refine Ord.cut 1 16 rfl rfl rfl rfl (by kernel_rfl) (by kernel_rfl) ?_
        simp only [List.take_succ_cons, List.take_zero, List.drop_succ_cons, List.drop_zero, List.filterMap_cons, List.filterMap_nil, List.getElem?_cons_succ, List.getElem?_cons_zero]
        refine wpL_neq_bytes rfl 57 _ (.tmp 31) (.tmp 39) rfl 5 32 Try.underlying57 Try.underlying5 (by kernel_rfl) (by kernel_rfl) pd pd rfl rfl PL.out PL.out true (by simp) ?_
        refine TextQ.mk ⟨fun h => by simp at h, ?_⟩ ?hfine
        case hfine => repeat' (first | exact rfl | exact fine_bytes rfl rfl rfl | refine fine_cons ?_ ?_)
        refine Ord.done ?_
        go_wp2_with fail
        go_roundw
        case rel => exact ⟨k + 1, by omega, by go_num, ownsRow_only hown5 ((hW5.trans ho6).trans ho7) (by simp), ((ho5.trans hW5).trans ho6).trans ho7⟩
        case measure => simp [intOf]; omega
      · have i1 : ¬ (k : Int) < ds.length := by omega
        obtain rfl : k = ds.length := by omega
        rw [List.take_length] at hown
        obtain ⟨d, ed⟩ : ∃ d, d = Sha.tree ds := ⟨_, rfl⟩
        have DL : Hid (d.length = 32) := by rw [ed]; exact tree_wide _ ds (Nat.le_refl _) HW.out
        have hdl : Digs wr u3 ds := Digs.of_owned hown HNE.out
        have T1 : Hid (Calls Try.prog 38 #[.slice (some ⟨bk, o, none⟩) ds.length cap] wr fun e w' => e = .returned (.agg (Lib.byteCells d).toArray) ∧ Only [] wr w') := by
          rw [ed]
          exact tree_any _ ds wr HW.out (by omega) (.inr ⟨HNE.out, HD1.out.keep hor⟩)
        have T2 : Hid (∀ w', Only [] wr w' → Calls Try.prog 39 #[u3] w' fun e w'' => e = .returned (.agg (Lib.byteCells d).toArray) ∧ Only [] w' w'') := fun w' ho => by
          rw [ed]
          exact refTree_many _ ds w' HW.out HNE.out (by omega) (hdl.keep ho)
        clear hown ed hdl
        go_wp2_with (first
          | (go_at_call 38; refine T1.out.mono ?_; rintro e w6 ⟨rfl, ho6⟩)
          | (go_at_call 39; refine (T2.out _ ho6).mono ?_; rintro e w7 ⟨rfl, ho7⟩)
          | (refine wpL_eql_bytes rfl 57 _ (.tmp 42) (.tmp 44) rfl 5 32 Try.underlying57 Try.underlying5 (by kernel_rfl) (by kernel_rfl) d d rfl rfl DL.out DL.out true (by simp) ?_))
        go_ret
        exact ⟨rfl, ((ho1.trans hor).trans ho6).trans ho7⟩

end Go.Proofs.Ytlciphmjkbihkaa
