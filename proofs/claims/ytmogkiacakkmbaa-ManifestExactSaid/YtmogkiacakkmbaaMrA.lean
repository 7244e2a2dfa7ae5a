/- Manifests in the reference: their bytes; bytes that tell none. -/
import Derived.Test.YtmogkiacakkmbaaManX
import Derived.Test.YtmogkiacakkmbaaRefF
import Derived.Test.YtmogkiacakkmbaaEyeC
import Derived.Test.YtmogkiacakkmbaaOrd2
namespace Go.Proofs.Ytmogkiacakkmbaa
open Go.RowKit

section
variable {P : Program} {w : World} {ops : Array Oper} {rest : List Oper} {o : Oper} {a : Act} {Q : Exit → Act → World → Prop}
theorem wpL_isConv {s d : TypeId} {x : Operand} (_h : o.op = .convert s d x) (h : wpList P ops Q (o :: rest) a w) : wpList P ops Q (o :: rest) a w := h
end
/-- The numbers' bytes, the first j. -/
def numsJ (xs : List Int) (j : Nat) : List UInt8 := ((xs.take j).map num4).flatten
theorem numsJ_next (xs : List Int) (j : Nat) (h : j < xs.length) : numsJ xs (j + 1) = numsJ xs j ++ num4 (xs.getD j 0) := by
  unfold numsJ
  rw [List.take_add_one, List.getElem?_eq_getElem h, List.map_append, List.flatten_append, List.getD_eq_getElem?_getD, List.getElem?_eq_getElem h]
  simp
theorem numsJ_length (xs : List Int) (j : Nat) (h : j ≤ xs.length) : (numsJ xs j).length = 4 * j := by
  unfold numsJ
  rw [nums_length, List.length_take, Nat.min_eq_left h]
/-- .. and the sums', the first j. -/
def flatJ (ds : List (List UInt8)) (j : Nat) : List UInt8 := (ds.take j).flatten
theorem flatJ_next (ds : List (List UInt8)) (j : Nat) (h : j < ds.length) : flatJ ds (j + 1) = flatJ ds j ++ ds.getD j [] := by
  unfold flatJ
  rw [List.take_add_one, List.getElem?_eq_getElem h, List.flatten_append, List.getD_eq_getElem?_getD, List.getElem?_eq_getElem h]
  simp
theorem flatJ_length (ds : List (List UInt8)) (hw : Wide ds) (j : Nat) (h : j ≤ ds.length) : (flatJ ds j).length = 32 * j := by
  unfold flatJ
  rw [wide_flat _ (hw.take j), List.length_take, Nat.min_eq_left h]
theorem str_app (a b : List UInt8) : (⟨a.toArray⟩ : ByteArray) ++ ⟨b.toArray⟩ = ⟨(a ++ b).toArray⟩ := bl_ext (by rw [bl_join, bl_mk, bl_mk, bl_mk])
theorem str_size (a : List UInt8) : (⟨a.toArray⟩ : ByteArray).size = a.length := by rw [← bl_length, bl_mk]

set_option maxRecDepth 100000 in
set_option maxHeartbeats 16000000 in
theorem rmanBytes_yes (b v z k : Int) (bk o n cp : Nat) (ds : List (List UInt8)) (r : List UInt8) (w : World) (hr : r.length = 32) (hw : Wide ds) (hn : ds.length = n) (hn1 : n ≤ 1000) (hne : ds ≠ []) (hh : HeadOk b v z k) (hD : Digs w (.slice (some ⟨bk, o, none⟩) n cp) ds) :
    Calls Try.prog 74 #[.agg (Value.int .i64 b :: .int .i64 v :: .int .i64 z :: .int .i64 k :: .slice (some ⟨bk, o, none⟩) n cp :: Lib.byteCells r).toArray] w fun e w' => e = .returned (.string ⟨(manB b v z k ds r).toArray⟩) ∧ Only [] w w' := by
  have hRL := digLen r hr
  have HRQ : Hid (∀ q, q < r.length → (Lib.byteCells r)[q]? = some (.int .u8 ((r.getD q 0).toNat : Int))) := fun q hq => by simp [Lib.byteCells, List.getD_eq_getElem?_getD, List.getElem?_eq_getElem hq]
  obtain ⟨RC, eRC⟩ : ∃ RC, RC = Lib.byteCells r := ⟨_, rfl⟩
  rw [← eRC] at hRL HRQ ⊢
  have HRL := Lib.hid hRL
  have HR := Lib.hid hr
  have HT := Lib.hid (fun V => mfTake b v z k V RC hRL)
  have HL := Lib.hid (fun V => mfLen b v z k V RC hRL)
  clear eRC hRL
  have hst := (St.start w []).box (Value.int .i64 b :: .int .i64 v :: .int .i64 z :: .int .i64 k :: .slice (some ⟨bk, o, none⟩) n cp :: RC) 107
  have RN : Hid (∀ m w, told m = true → Calls Try.prog 94 #[.int .i64 m] w fun e w' => e = .returned (.tuple #[.string ⟨(num4 m).toArray⟩, .bool true]) ∧ Only [] w w') := fun m w hm => by
    have h2 : 0 ≤ m ∧ m < 4294967296 := by simpa [told] using hm
    have := refNum_any m.toNat w (by omega)
    rw [show ((m.toNat : Nat) : Int) = m by omega] at this
    rw [num4_told hm]
    exact this
  obtain ⟨tr, etr⟩ : ∃ tr, tr = Sha.tree ds := ⟨_, rfl⟩
  have htr : tr.length = 32 := by rw [etr]; exact tree_wide _ ds (Nat.le_refl _) hw
  have TR : Hid (∀ w', Only [] w w' → Calls Try.prog 71 #[.slice (some ⟨bk, o, none⟩) n cp] w' fun e w'' => e = .returned (.agg (Lib.byteCells tr).toArray) ∧ Only [] w' w'') := fun w' ho => by rw [etr]; exact refTree_many _ ds w' hw hne (by omega) (hD.keep ho)
  have HTR := Lib.hid htr
  have HTL : Hid ((Lib.byteCells tr).length = zeros32.length) := by show _ = _; rw [digLen tr htr]; rfl
  have HT1 := Lib.hid (digOne tr)
  have HTQ : Hid (∀ q, q < tr.length → (Lib.byteCells tr)[q]? = some (.int .u8 ((tr.getD q 0).toNat : Int))) := fun q hq => by simp [Lib.byteCells, List.getD_eq_getElem?_getD, List.getElem?_eq_getElem hq]
  have ETR := Lib.hid etr
  clear etr htr
  obtain ⟨TC, eTC⟩ : ∃ TC, TC = Lib.byteCells tr := ⟨_, rfl⟩
  rw [← eTC] at TR HTL HT1 HTQ
  clear eTC
  go_enter Try.func74, Try.ntmps74
  go_wp2_with (first
    | ((with_reducible refine wpL_isAlloc rfl ?_); refine wpL_allocS hst rfl 184 rfl (.agg #[.int .i64 0, .int .i64 0, .int .i64 0, .int .i64 0]) [.int .i64 0, .int .i64 0, .int .i64 0, .int .i64 0] (by kernel_rfl) rfl _ rfl ?_; clear hst; intro w1 A hA hst)
    | ((with_reducible refine wpL_peel rfl ?_ ?_); focus (go_simp; done)) | ((with_reducible refine wpL_isLoad rfl ?_); first | (refine wpL_load1S hst rfl rfl 0 rfl rfl rfl (by kernel_rfl) ?_) | (refine wpL_load1S hst rfl rfl 1 rfl rfl rfl (by kernel_rfl) ?_) | (refine wpL_load1S hst rfl rfl 2 rfl rfl rfl (by kernel_rfl) ?_) | (refine wpL_load1S hst rfl rfl 3 rfl rfl rfl (by kernel_rfl) ?_))
    | ((with_reducible refine wpL_isStore rfl ?_); refine wpL_storeS hst rfl (ty := 184) rfl 0 rfl rfl (D := [.int .i64 b, .int .i64 v, .int .i64 z, .int .i64 k]) rfl (by kernel_rfl) (by kernel_rfl) rfl rfl ?_; clear hst; intro w1 hst; simp only [List.set] at hst))
  have HTold : Hid (∀ j, j < 4 → told ([b, v, z, k].getD j 0) = true) := fun j hj => by
    unfold HeadOk at hh
    match j, hj with
    | 0, _ => simp [told]; omega
    | 1, _ => simp [told]; omega
    | 2, _ => simp [told]; omega
    | 3, _ => simp [told]; omega
  have HCell : Hid (∀ j, j < 4 → ([.int .i64 b, .int .i64 v, .int .i64 z, .int .i64 k] : List Value)[j]? = some (.int .i64 ([b, v, z, k].getD j 0))) := fun j hj => by
    match j, hj with
    | 0, _ => rfl
    | 1, _ => rfl
    | 2, _ => rfl
    | 3, _ => rfl
  have HNX := Lib.hid (fun j (hj : j < 4) => numsJ_next [b, v, z, k] j hj)
  have HNL := Lib.hid (fun j (hj : j ≤ 4) => numsJ_length [b, v, z, k] j hj)
  have HN4 : Hid (numsJ [b, v, z, k] 4 = ([b, v, z, k].map num4).flatten) := rfl
  obtain ⟨NJ, eNJ⟩ : ∃ NJ, NJ = numsJ [b, v, z, k] := ⟨_, rfl⟩
  rw [← eNJ] at HNX HNL HN4
  have e00 : (⟨#[]⟩ : ByteArray) = ⟨(NJ 0).toArray⟩ := by rw [eNJ]; rfl
  have E00 := Lib.hid e00
  clear eNJ e00
  go_loopw [3, 5] (fun s i wr => ∃ (j : Nat), j ≤ 4 ∧ i = .int .i64 (j : Int) ∧ s = .string ⟨(NJ j).toArray⟩ ∧ St w [] wr [⟨A, [.int .i64 b, .int .i64 v, .int .i64 z, .int .i64 k], 184, true⟩, ⟨w.heap.size, Value.int .i64 b :: .int .i64 v :: .int .i64 z :: .int .i64 k :: .slice (some ⟨bk, o, none⟩) n cp :: RC, 107, true⟩]) (fun _ i _ => (4 - intOf i).toNat)
  case atStart => exact ⟨0, by omega, rfl, by rw [E00.out], hst⟩
  case round =>
    obtain ⟨j, hj, rfl, rfl, hst⟩ := hrel
    by_cases hlt : j < 4
    · have j1 : (j : Int) < 4 := by omega
      have j0 : (0 : Int) ≤ j := by omega
      have hc := HCell.out j hlt
      have ht := HTold.out j hlt
      have HX := Lib.hid (HNX.out j hlt)
      have HJL := Lib.hid (HNL.out j hj)
      generalize [b, v, z, k].getD j 0 = m at *
      have HCJ := Lib.hid hc
      have RM := Lib.hid (fun w => RN.out m w ht)
      have HCAT : Hid ((⟨(NJ j).toArray⟩ : ByteArray) ++ ⟨(num4 m).toArray⟩ = ⟨(NJ (j + 1)).toArray⟩) := by show _ = _; rw [str_app, HX.out]
      have HCL : Hid ((⟨(NJ j).toArray⟩ : ByteArray).size + (⟨(num4 m).toArray⟩ : ByteArray).size ≤ 9223372036854775807) := by show _ ≤ _; rw [str_size, str_size, HJL.out, num4_length]; omega
      clear hc ht RN HCell HTold
      go_wp2_with (first
        | ((with_reducible refine wpL_isLoad rfl ?_); refine wpL_load1S hst rfl rfl 0 rfl rfl HCJ.out (by kernel_rfl) ?_)
        | (go_at_call 94; (with_reducible refine (RM.out _).mono ?_); rintro e1 w1 ⟨rfl, ho1⟩; replace hst := hst.keep ho1; clear ho1)
        | ((with_reducible refine wpL_isBin rfl ?_); refine wpL_catS rfl rfl _ _ _ rfl rfl HCAT.out HCL.out ?_))
      go_roundw
      case rel => exact ⟨j + 1, by omega, by go_num, rfl, hst⟩
      case measure => simp [intOf]; omega
    · obtain rfl : j = 4 := by omega
      have j1 : ¬ ((4 : Nat) : Int) < 4 := by omega
      go_wp2_with fail
      obtain ⟨_, _, _, eV, hcc, hbk, hcell⟩ := hD
      injection eV with ea en ec
      injection ea with ea
      injection ea with ea1 ea2
      subst ea1
      subst ea2
      subst ec
      have HC2 : Hid (∀ j, j < n → ∀ w', Only [] w w' → ∀ q u, (Lib.byteCells (ds.getD j []))[q]? = some u → w'.cell? ⟨bk, o + j * 32 + q, none⟩ = some u) := fun j hj w' ho q u hu => by
        rw [ho.cellAt _ _ hbk (by simp)]
        exact digCells_atM hw (by omega) hcell q u hu
      have HW : Hid (∀ j, j < n → (ds.getD j []).length = 32) := fun j hj => getD_wide ds hw j (by omega)
      rw [HN4.out] at *
      have HFX : Hid (∀ j, j < n → flatJ ds (j + 1) = flatJ ds j ++ ds.getD j []) := fun j hj => flatJ_next ds j (by omega)
      have HFL : Hid (∀ j, j ≤ n → (flatJ ds j).length = 32 * j) := fun j hj => flatJ_length ds hw j (by omega)
      obtain ⟨FJ, eFJ⟩ : ∃ FJ, FJ = flatJ ds := ⟨_, rfl⟩
      have HF0 : Hid (FJ n = ds.flatten) := by
        show _ = _
        rw [eFJ]
        unfold flatJ
        rw [List.take_of_length_le (by omega)]
      rw [← eFJ] at HFX HFL
      obtain ⟨nm, enm⟩ : ∃ nm, nm = ([b, v, z, k].map num4).flatten := ⟨_, rfl⟩
      have HNM : Hid (nm.length = 16) := by show _ = _; rw [enm, nums_length]; rfl
      rw [← enm]
      have e01 : (⟨nm.toArray⟩ : ByteArray) = ⟨(nm ++ FJ 0).toArray⟩ := by rw [eFJ]; show _ = (⟨(nm ++ []).toArray⟩ : ByteArray); rw [List.append_nil]
      have ENM := Lib.hid enm
      have E01 := Lib.hid e01
      clear hcell hcc en e01 E00 eFJ enm HN4 HNX HNL HTold HCell RN
      go_loopw [3, 8] (fun s i wr => ∃ (j : Nat), j ≤ n ∧ i = .int .i64 (j : Int) ∧ s = .string ⟨(nm ++ FJ j).toArray⟩ ∧ St w [] wr [⟨A, [.int .i64 b, .int .i64 v, .int .i64 z, .int .i64 k], 184, true⟩, ⟨w.heap.size, Value.int .i64 b :: .int .i64 v :: .int .i64 z :: .int .i64 k :: .slice (some ⟨bk, o, none⟩) n cp :: RC, 107, true⟩]) (fun _ i _ => (n - intOf i).toNat)
      case atStart => exact ⟨0, by omega, rfl, by rw [E01.out], hst⟩
      case round =>
        obtain ⟨j, hj, rfl, rfl, hst⟩ := hrel
        by_cases hlt : j < n
        · have j1 : (j : Int) < n := by omega
          have j0 : (0 : Int) ≤ j := by omega
          have n2 : (n : Int) ≤ 1000 := by omega
          have D2 := Lib.hid (HC2.out j hlt)
          have hd := HW.out j hlt
          have HX := HFX.out j hlt
          have HLJ := HFL.out j (by omega)
          generalize ds.getD j [] = d at *
          have HDL := Lib.hid hd
          have HCAT : Hid ((⟨(nm ++ FJ j).toArray⟩ : ByteArray) ++ ⟨d.toArray⟩ = ⟨(nm ++ FJ (j + 1)).toArray⟩) := by show _ = _; rw [str_app, HX, List.append_assoc]
          have HCL : Hid ((⟨(nm ++ FJ j).toArray⟩ : ByteArray).size + (⟨d.toArray⟩ : ByteArray).size ≤ 9223372036854775807) := by show _ ≤ _; rw [str_size, str_size, List.length_append, HNM.out, HLJ, hd]; omega
          have HCB : Hid (∀ w', Only [] w w' → ∀ q, q < d.length → w'.cell? ((⟨bk, o + j * 32, none⟩ : Addr).add q) = some (.int .u8 ((d.getD q 0).toNat : Int))) := fun w' ho q hq => by
            rw [addr_add]
            refine D2.out w' ho q _ ?_
            simp [Lib.byteCells, List.getD_eq_getElem?_getD, List.getElem?_eq_getElem hq]
          clear hd HX HLJ HC2 HW HFX HFL D2
          go_wp2_with (first
            | ((with_reducible refine wpL_peel rfl ?_ ?_); focus (go_simp; done)) | ((with_reducible refine wpL_isLoad rfl ?_); first | (refine wpL_load1S hst rfl rfl 0 rfl rfl rfl (by kernel_rfl) ?_) | (refine wpL_load1S hst rfl rfl 1 rfl rfl rfl (by kernel_rfl) ?_) | (refine wpL_load1S hst rfl rfl 2 rfl rfl rfl (by kernel_rfl) ?_) | (refine wpL_load1S hst rfl rfl 3 rfl rfl rfl (by kernel_rfl) ?_))
            | ((with_reducible refine wpL_isConv rfl ?_); refine wpL_str rfl 56 9 5 _ rfl ⟨bk, o + j * 32, none⟩ d 32 32 rfl HDL.out Try.underlying56 Try.underlying5 Try.underlying9 (HCB.out _ hst.only) ?_)
            | ((with_reducible refine wpL_isBin rfl ?_); refine wpL_catS rfl rfl _ _ _ rfl rfl HCAT.out HCL.out ?_))
          go_roundw
          case rel => exact ⟨j + 1, by omega, by go_num, rfl, hst⟩
          case measure => simp [intOf]; omega
        · obtain rfl : j = n := by omega
          have j1 : ¬ (j : Int) < j := by omega
          go_wp2_with (first
            | ((with_reducible refine wpL_isAlloc rfl ?_); refine wpL_allocS hst rfl 101 rfl (.agg zeros32.toArray) zeros32 (by kernel_rfl) rfl _ rfl ?_; clear hst; intro w1 X hX hst)
            | ((with_reducible refine wpL_peel rfl ?_ ?_); focus (go_simp; done)) | ((with_reducible refine wpL_isLoad rfl ?_); first | (refine wpL_load1S hst rfl rfl 0 rfl rfl rfl (by kernel_rfl) ?_) | (refine wpL_load1S hst rfl rfl 1 rfl rfl rfl (by kernel_rfl) ?_) | (refine wpL_load1S hst rfl rfl 2 rfl rfl rfl (by kernel_rfl) ?_) | (refine wpL_load1S hst rfl rfl 3 rfl rfl rfl (by kernel_rfl) ?_))
            | ((with_reducible refine wpL_isStore rfl ?_); refine wpL_storeS hst rfl (ty := 101) rfl 0 rfl rfl (D := TC) rfl (by kernel_rfl) (by kernel_rfl) HTL.out HT1.out ?_; clear hst; intro w1 hst; simp only [List.set] at hst)
            | (go_at_call 71; (with_reducible refine (TR.out _ hst.only).mono ?_); rintro e1 w1 ⟨rfl, ho1⟩; replace hst := hst.keep ho1; clear ho1))
          have HEND : Hid (nm ++ (FJ j ++ (r ++ tr)) = manB b v z k ds r) := by
            show _ = _
            unfold manB
            rw [ENM.out, HF0.out, ETR.out]
            simp
          have HC1 : Hid ((⟨(nm ++ FJ j).toArray⟩ : ByteArray) ++ ⟨r.toArray⟩ = ⟨(nm ++ (FJ j ++ r)).toArray⟩) := by show _ = _; rw [str_app, List.append_assoc]
          have HC2 : Hid ((⟨(nm ++ (FJ j ++ r)).toArray⟩ : ByteArray) ++ ⟨tr.toArray⟩ = ⟨(manB b v z k ds r).toArray⟩) := by show _ = _; rw [str_app, List.append_assoc, List.append_assoc, HEND.out]
          have hlj := HFL.out j (Nat.le_refl _)
          have HC3 : Hid ((⟨(nm ++ FJ j).toArray⟩ : ByteArray).size + (⟨r.toArray⟩ : ByteArray).size ≤ 9223372036854775807) := by show _ ≤ _; rw [str_size, str_size, List.length_append, HNM.out, hlj, HR.out]; omega
          have HC4 : Hid ((⟨(nm ++ (FJ j ++ r)).toArray⟩ : ByteArray).size + (⟨tr.toArray⟩ : ByteArray).size ≤ 9223372036854775807) := by show _ ≤ _; rw [str_size, str_size, List.length_append, List.length_append, HNM.out, hlj, HR.out, HTR.out]; omega
          clear hlj HFL HFX HW
          replace hst := hst.drew
          refine wp_region_ord2 [] [0, 1, 2, 5] [3, 4] 6 [7, 8] (by kernel_rfl) (by kernel_rfl) (by kernel_rfl) ?_
          generalize World.drew _ = W at *
          refine Ord.cut 3 2 rfl rfl rfl rfl (by kernel_rfl) (by kernel_rfl) ?_; simp only [List.take_succ_cons, List.take_zero, List.drop_succ_cons, List.drop_zero, List.filterMap_cons, List.filterMap_nil, List.getElem?_cons_succ, List.getElem?_cons_zero]; go_wp2_with fail; refine TextQ.mk ⟨fun h => by simp at h, ?_⟩ rfl
          refine Ord.cut 1 5 rfl rfl rfl rfl (by kernel_rfl) (by kernel_rfl) ?_; simp only [List.take_succ_cons, List.take_zero, List.drop_succ_cons, List.drop_zero, List.filterMap_cons, List.filterMap_nil, List.getElem?_cons_succ, List.getElem?_cons_zero]; go_wp2_with fail; refine TextQ.mk ⟨fun h => by simp at h, ?_⟩ rfl
          refine Ord.done ?_
          refine And.intro ?_ ?_
          · show Ord _ _ _ _ [6, 3, 4, 7, 8] _ _
            refine Ord.cut 1 6 rfl rfl rfl rfl (by kernel_rfl) (by kernel_rfl) ?_; simp only [List.take_succ_cons, List.take_zero, List.drop_succ_cons, List.drop_zero, List.filterMap_cons, List.filterMap_nil, List.getElem?_cons_succ, List.getElem?_cons_zero]
            refine wpL_str rfl 56 9 5 _ rfl ⟨X, 0, none⟩ tr 32 32 rfl HTR.out Try.underlying56 Try.underlying5 Try.underlying9 (fun q hq => by rw [addr_add, Nat.zero_add]; exact (hst.blk 0 rfl).cell (HTQ.out q hq)) ?_
            refine TextQ.mk ⟨fun h => by simp at h, ?_⟩ rfl
            refine Ord.cut 1 3 rfl rfl rfl rfl (by kernel_rfl) (by kernel_rfl) ?_; simp only [List.take_succ_cons, List.take_zero, List.drop_succ_cons, List.drop_zero, List.filterMap_cons, List.filterMap_nil, List.getElem?_cons_succ, List.getElem?_cons_zero]
            refine wpL_str rfl 56 9 5 _ rfl ⟨w.heap.size, 5, none⟩ r 32 32 rfl HR.out Try.underlying56 Try.underlying5 Try.underlying9 (fun q hq => by rw [addr_add]; exact (hst.blk 2 rfl).cell (by rw [show 5 + q = q + 1 + 1 + 1 + 1 + 1 by omega]; exact HRQ.out q hq)) ?_
            refine TextQ.mk ⟨fun h => by simp at h, ?_⟩ rfl
            refine Ord.cut 1 4 rfl rfl rfl rfl (by kernel_rfl) (by kernel_rfl) ?_; simp only [List.take_succ_cons, List.take_zero, List.drop_succ_cons, List.drop_zero, List.filterMap_cons, List.filterMap_nil, List.getElem?_cons_succ, List.getElem?_cons_zero]
            refine wpL_catS rfl rfl _ _ _ rfl rfl HC1.out HC3.out ?_
            refine TextQ.mk ⟨fun h => by simp at h, ?_⟩ rfl
            refine Ord.cut 1 7 rfl rfl rfl rfl (by kernel_rfl) (by kernel_rfl) ?_; simp only [List.take_succ_cons, List.take_zero, List.drop_succ_cons, List.drop_zero, List.filterMap_cons, List.filterMap_nil, List.getElem?_cons_succ, List.getElem?_cons_zero]
            refine wpL_catS rfl rfl _ _ _ rfl rfl HC2.out HC4.out ?_
            refine TextQ.mk ⟨fun h => by simp at h, ?_⟩ rfl
            refine Ord.cut 1 8 rfl rfl rfl rfl (by kernel_rfl) (by kernel_rfl) ?_; simp only [List.take_succ_cons, List.take_zero, List.drop_succ_cons, List.drop_zero, List.filterMap_cons, List.filterMap_nil, List.getElem?_cons_succ, List.getElem?_cons_zero]; go_wp2_with fail; refine TextQ.mk ⟨fun h => by simp at h, ?_⟩ rfl
            refine Ord.done ?_
            go_wp2_with fail
            go_ret
            exact ⟨rfl, hst.only⟩
          · show Ord _ _ _ _ [3] _ _
            refine Ord.cut 1 3 rfl rfl rfl rfl (by kernel_rfl) (by kernel_rfl) ?_; simp only [List.take_succ_cons, List.take_zero, List.drop_succ_cons, List.drop_zero, List.filterMap_cons, List.filterMap_nil, List.getElem?_cons_succ, List.getElem?_cons_zero]
            refine wpL_str rfl 56 9 5 _ rfl ⟨w.heap.size, 5, none⟩ r 32 32 rfl HR.out Try.underlying56 Try.underlying5 Try.underlying9 (fun q hq => by rw [addr_add]; exact (hst.blk 2 rfl).cell (by rw [show 5 + q = q + 1 + 1 + 1 + 1 + 1 by omega]; exact HRQ.out q hq)) ?_
            refine TextQ.mk ⟨fun h => by simp at h, ?_⟩ rfl
            refine Ord.done ?_
            refine And.intro ?_ ?_
            · show Ord _ _ _ _ [6, 4, 7, 8] _ _
              refine Ord.cut 1 6 rfl rfl rfl rfl (by kernel_rfl) (by kernel_rfl) ?_; simp only [List.take_succ_cons, List.take_zero, List.drop_succ_cons, List.drop_zero, List.filterMap_cons, List.filterMap_nil, List.getElem?_cons_succ, List.getElem?_cons_zero]
              refine wpL_str rfl 56 9 5 _ rfl ⟨X, 0, none⟩ tr 32 32 rfl HTR.out Try.underlying56 Try.underlying5 Try.underlying9 (fun q hq => by rw [addr_add, Nat.zero_add]; exact (hst.blk 0 rfl).cell (HTQ.out q hq)) ?_
              refine TextQ.mk ⟨fun h => by simp at h, ?_⟩ rfl
              refine Ord.cut 1 4 rfl rfl rfl rfl (by kernel_rfl) (by kernel_rfl) ?_; simp only [List.take_succ_cons, List.take_zero, List.drop_succ_cons, List.drop_zero, List.filterMap_cons, List.filterMap_nil, List.getElem?_cons_succ, List.getElem?_cons_zero]
              refine wpL_catS rfl rfl _ _ _ rfl rfl HC1.out HC3.out ?_
              refine TextQ.mk ⟨fun h => by simp at h, ?_⟩ rfl
              refine Ord.cut 1 7 rfl rfl rfl rfl (by kernel_rfl) (by kernel_rfl) ?_; simp only [List.take_succ_cons, List.take_zero, List.drop_succ_cons, List.drop_zero, List.filterMap_cons, List.filterMap_nil, List.getElem?_cons_succ, List.getElem?_cons_zero]
              refine wpL_catS rfl rfl _ _ _ rfl rfl HC2.out HC4.out ?_
              refine TextQ.mk ⟨fun h => by simp at h, ?_⟩ rfl
              refine Ord.cut 1 8 rfl rfl rfl rfl (by kernel_rfl) (by kernel_rfl) ?_; simp only [List.take_succ_cons, List.take_zero, List.drop_succ_cons, List.drop_zero, List.filterMap_cons, List.filterMap_nil, List.getElem?_cons_succ, List.getElem?_cons_zero]; go_wp2_with fail; refine TextQ.mk ⟨fun h => by simp at h, ?_⟩ rfl
              refine Ord.done ?_
              go_wp2_with fail
              go_ret
              exact ⟨rfl, hst.only⟩
            · show Ord _ _ _ _ [4] _ _
              refine Ord.cut 1 4 rfl rfl rfl rfl (by kernel_rfl) (by kernel_rfl) ?_; simp only [List.take_succ_cons, List.take_zero, List.drop_succ_cons, List.drop_zero, List.filterMap_cons, List.filterMap_nil, List.getElem?_cons_succ, List.getElem?_cons_zero]
              refine wpL_catS rfl rfl _ _ _ rfl rfl HC1.out HC3.out ?_
              refine TextQ.mk ⟨fun h => by simp at h, ?_⟩ rfl
              refine Ord.done ?_
              show Ord _ _ _ _ [6, 7, 8] _ _
              refine Ord.cut 1 6 rfl rfl rfl rfl (by kernel_rfl) (by kernel_rfl) ?_; simp only [List.take_succ_cons, List.take_zero, List.drop_succ_cons, List.drop_zero, List.filterMap_cons, List.filterMap_nil, List.getElem?_cons_succ, List.getElem?_cons_zero]
              refine wpL_str rfl 56 9 5 _ rfl ⟨X, 0, none⟩ tr 32 32 rfl HTR.out Try.underlying56 Try.underlying5 Try.underlying9 (fun q hq => by rw [addr_add, Nat.zero_add]; exact (hst.blk 0 rfl).cell (HTQ.out q hq)) ?_
              refine TextQ.mk ⟨fun h => by simp at h, ?_⟩ rfl
              refine Ord.cut 1 7 rfl rfl rfl rfl (by kernel_rfl) (by kernel_rfl) ?_; simp only [List.take_succ_cons, List.take_zero, List.drop_succ_cons, List.drop_zero, List.filterMap_cons, List.filterMap_nil, List.getElem?_cons_succ, List.getElem?_cons_zero]
              refine wpL_catS rfl rfl _ _ _ rfl rfl HC2.out HC4.out ?_
              refine TextQ.mk ⟨fun h => by simp at h, ?_⟩ rfl
              refine Ord.cut 1 8 rfl rfl rfl rfl (by kernel_rfl) (by kernel_rfl) ?_; simp only [List.take_succ_cons, List.take_zero, List.drop_succ_cons, List.drop_zero, List.filterMap_cons, List.filterMap_nil, List.getElem?_cons_succ, List.getElem?_cons_zero]; go_wp2_with fail; refine TextQ.mk ⟨fun h => by simp at h, ?_⟩ rfl
              refine Ord.done ?_
              go_wp2_with fail
              go_ret
              exact ⟨rfl, hst.only⟩

end Go.Proofs.Ytmogkiacakkmbaa

namespace Go.Proofs.Ytmogkiacakkmbaa
open Go.RowKit

section
variable {P : Program} {w : World} {ops : Array Oper} {rest : List Oper} {o : Oper} {a : Act} {Q : Exit → Act → World → Prop}
variable {w0 : World} {S : List Nat} {L : List Ent}
theorem wpL_isBox {t : TypeId} {x : Operand} (_h : o.op = .box t x) (h : wpList P ops Q (o :: rest) a w) : wpList P ops Q (o :: rest) a w := h
/-- A new variable with what it holds. -/
theorem wpL_boxE (hst : St w0 S w L) (hg : o.guard = none) (t : TypeId) {x : Operand} (ho : o.op = .box t x) {cs : List Value} (hx : a.eval x = .agg cs.toArray)
    (h : ∀ w1 b, w.heap.size ≤ b → St w0 S w1 (⟨b, cs, t, true⟩ :: L) → wpList P ops Q rest (a.put o.dst (.pointer (some ⟨b, 0, none⟩))) w1) : wpList P ops Q (o :: rest) a w := by
  refine wpL_run hg (v := .pointer (some ⟨w.heap.size, 0, none⟩)) (w1 := w.alloc (.cells cs.toArray t)) ?_ (h _ _ (Nat.le_refl _) (hst.box cs t))
  unfold execOp
  simp [ho, hx, Instr.box, newVar, newRow, Value.cells]
/-- A row made of four parts. -/
theorem wpL_build4 (hg : o.guard = none) (t : TypeId) {i1 i2 i3 i4 : Nat} {x1 x2 x3 x4 : Operand} (ho : o.op = .build t #[(i1, x1), (i2, x2), (i3, x3), (i4, x4)]) {v1 v2 v3 v4 : Value} (h1 : a.eval x1 = v1) (h2 : a.eval x2 = v2) (h3 : a.eval x3 = v3) (h4 : a.eval x4 = v4) (C : List Value)
    (hf : P.built t [(i1, v1), (i2, v2), (i3, v3), (i4, v4)] = some C.toArray) (h : wpList P ops Q rest (a.put o.dst (.agg C.toArray)) w) : wpList P ops Q (o :: rest) a w :=
  wpL_build hg t _ ho C (by simpa [h1, h2, h3, h4] using hf) h
end
theorem rbuilt_mf0 : Try.prog.built 107 [] = some mfZ.toArray := by kernel_rfl
theorem rbuilt_mf4 (b v z k : Int) : Try.prog.built 107 [(0, .int .i64 b), (1, .int .i64 v), (2, .int .i64 z), (3, .int .i64 k)] = some (Value.int .i64 b :: .int .i64 v :: .int .i64 z :: .int .i64 k :: .slice none 0 0 :: zeros32).toArray := by kernel_rfl

end Go.Proofs.Ytmogkiacakkmbaa
