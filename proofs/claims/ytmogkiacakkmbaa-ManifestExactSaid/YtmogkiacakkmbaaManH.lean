/- Manifests: as bytes. -/
import Derived.Test.YtmogkiacakkmbaaManG
import Derived.Test.YtmogkiacakkmbaaPenR
namespace Go.Proofs.Ytmogkiacakkmbaa
open Go.RowKit

/-- A manifest's bytes. -/
def manB (b v z k : Int) (ds : List (List UInt8)) (r : List UInt8) : List UInt8 := (([b, v, z, k].map num4).flatten ++ ds.flatten) ++ [r, Sha.tree ds].flatten
theorem penZ : (Try.prog.info? 149).map (·.zero) = some (some (.agg #[.pointer none, .slice none 0 0, .bool false])) := by kernel_rfl

set_option maxRecDepth 100000 in
set_option maxHeartbeats 8000000 in
theorem manBytes_yes (b v z k : Int) (bk o n c : Nat) (ds : List (List UInt8)) (r : List UInt8) (w : World) (hr : r.length = 32) (hw : Wide ds) (hn : ds.length = n) (hcnt : 0 < cnt b v z k n) (hcp : n ≤ c) (hlt : bk < w.heap.size)
    (hc : ∀ j u, (digCells ds)[j]? = some u → w.cell? ⟨bk, o + j, none⟩ = some u) :
    Calls Try.prog 73 #[.agg (Value.int .i64 b :: .int .i64 v :: .int .i64 z :: .int .i64 k :: .slice (some ⟨bk, o, none⟩) n c :: Lib.byteCells r).toArray] w fun e w' => e = .returned (.tuple #[.string ⟨(manB b v z k ds r).toArray⟩, .int .i64 0]) ∧ Only [] w w' := by
  have hR : (Lib.byteCells r).length = 32 := digLen r hr
  have hst := (St.start w []).box (.int .i64 b :: .int .i64 v :: .int .i64 z :: .int .i64 k :: .slice (some ⟨bk, o, none⟩) n c :: Lib.byteCells r) 104
  have HT := Lib.hid (mfTake b v z k (.slice (some ⟨bk, o, none⟩) n c) _ hR)
  have HL := Lib.hid (mfLen b v z k (.slice (some ⟨bk, o, none⟩) n c) _ hR)
  have GD : Hid (∀ w, Calls Try.prog 62 #[.agg (Value.int .i64 b :: .int .i64 v :: .int .i64 z :: .int .i64 k :: .slice (some ⟨bk, o, none⟩) n c :: Lib.byteCells r).toArray] w fun e w' => e = .returned (.bool true) ∧ Only [] w w') := fun w => by have := manGood_any b v z k (some ⟨bk, o, none⟩) n c _ hR w; rwa [decide_eq_true hcnt] at this
  have hnn := cnt_pos hcnt
  have hb64 := cnt_bounds' b v z k n
  have hn64 : n ≤ 64 := by omega
  have hne : ds ≠ [] := by intro h; rw [h] at hn; simp at hn; omega
  have hdl := tree_wide _ ds (Nat.le_refl _) hw
  have RT : Hid (∀ w', Only [] w w' → Calls Try.prog 70 #[.agg (Value.int .i64 b :: .int .i64 v :: .int .i64 z :: .int .i64 k :: .slice (some ⟨bk, o, none⟩) n c :: Lib.byteCells r).toArray] w' fun e w'' => e = .returned (.agg (Lib.byteCells (Sha.tree ds)).toArray) ∧ Only [] w' w'') := fun w' ho => manRoot_any b v z k _ n c _ ds w' hw (by omega) hne (Digs.keep ⟨bk, o, c, by rw [hn], by omega, hlt, hc⟩ ho)
  have PD : Hid (∀ p bad v' l w', Bld w' p [.bool bad] 149 v' l → Only [] w w' → w.heap.size ≤ p → (∀ q, v'.ownBlock = some q → w.heap.size ≤ q) → l.length ≤ 1000000 → Calls Try.prog 128 #[.pointer (some ⟨p, 0, none⟩), .slice (some ⟨bk, o, none⟩) n c] w' fun e w'' => e = .returned (.tuple #[]) ∧ ∃ v'', Bld w'' p [.bool bad] 149 v'' (l ++ ds.flatten) ∧ Wrote w' w'' p v' v'') := fun p bad v' l w' hB ho hp hq hl => by
    have hD := Digs.keep (v := .slice (some ⟨bk, o, none⟩) n c) (ds := ds) ⟨bk, o, c, by rw [hn], by omega, hlt, hc⟩ ho
    obtain ⟨bk', o', c', e, _, h2, h3⟩ := hD
    injection e with e1 e2 e3
    injection e1 with e1
    injection e1 with ea eb
    subst ea
    subst eb
    have := penDigest_any p bad v' l bk o c ds w' hB hw (by omega) hl (by omega) (fun h => by have := hq _ h; omega) h2 h3 (by omega)
    rwa [hn] at this
  obtain ⟨rt, ert⟩ : ∃ rt, rt = Sha.tree ds := ⟨_, rfl⟩
  rw [← ert] at hdl RT
  have HFL : Hid (ds.flatten.length ≤ 3000) := by
    show _ ≤ _
    have : ∀ l : List (List UInt8), Wide l → l.flatten.length = 32 * l.length := by
      intro l hl
      induction l with
      | nil => rfl
      | cons x l ih =>
        rw [List.flatten_cons, List.length_append, ih (fun d hd => hl d (List.mem_cons_of_mem _ hd)), hl x List.mem_cons_self, List.length_cons]
        omega
    rw [this ds hw]
    omega
  have HD5 : Hid (((Value.int .i64 b :: .int .i64 v :: .int .i64 z :: .int .i64 k :: .slice (some ⟨bk, o, none⟩) n c :: Lib.byteCells r).drop 5).take 32 = Lib.byteCells r) := List.take_of_length_le (by simp [hR])
  have HRL := Lib.hid hR
  have HRR := Lib.hid hr
  have HRT := Lib.hid hdl
  have HRTL := Lib.hid (digLen rt hdl)
  have ERT := Lib.hid ert
  clear hr hw hn hcnt hcp hlt hc hR hnn hb64 hne hdl ert
  go_enter Try.func73, Try.ntmps73
  go_wp2_with (first
    | ((with_reducible refine wpL_isLoad rfl ?_); first | (refine wpL_loadAtS hst rfl (ty := 104) rfl 0 rfl rfl (by kernel_rfl) 37 (by kernel_rfl) _ HT.out HL.out ?_) | (refine wpL_loadAtS hst rfl (ty := 104) rfl 1 rfl rfl (by kernel_rfl) 37 (by kernel_rfl) _ HT.out HL.out ?_) | (refine wpL_loadAtS hst rfl (ty := 104) rfl 2 rfl rfl (by kernel_rfl) 37 (by kernel_rfl) _ HT.out HL.out ?_))
    | ((with_reducible refine wpL_peel rfl ?_ ?_); focus (go_simp; done)) | ((with_reducible refine wpL_isLoad rfl ?_); first | (refine wpL_load1S hst rfl rfl 0 rfl rfl rfl (by kernel_rfl) ?_) | (refine wpL_load1S hst rfl rfl 1 rfl rfl rfl (by kernel_rfl) ?_) | (refine wpL_load1S hst rfl rfl 2 rfl rfl rfl (by kernel_rfl) ?_) | (refine wpL_load1S hst rfl rfl 3 rfl rfl rfl (by kernel_rfl) ?_))
    | (go_at_call 62; (with_reducible refine (GD.out _).mono ?_); rintro e1 w1 ⟨rfl, ho1⟩; replace hst := hst.keep ho1; clear ho1)
    | ((with_reducible refine wpL_isAlloc rfl ?_); refine wpL_alloc rfl 4 rfl 149 rfl (.agg #[.pointer none, .slice none 0 0, .bool false]) [.pointer none, .slice none 0 0, .bool false] penZ rfl ?_))
  intro w2 ho2 hs2 hP
  have hB2 := Bld.new hP
  have hM2 := Made.start ho2 (Nat.le_refl _)
  obtain ⟨p, ep⟩ : ∃ p, p = w1.heap.size := ⟨_, rfl⟩
  rw [← ep] at hB2 hM2 ⊢
  have hp0 : w.heap.size ≤ p := by rw [ep]; exact hst.only.size
  have hst1 := hst
  replace hst := hst.keep ho2
  clear ho2 hs2 hP ep
  go_wp2_with (first
    | ((with_reducible refine wpL_peel rfl ?_ ?_); focus (go_simp; done)) | ((with_reducible refine wpL_isLoad rfl ?_); first | (refine wpL_load1S hst rfl rfl 0 rfl rfl rfl (by kernel_rfl) ?_) | (refine wpL_load1S hst rfl rfl 1 rfl rfl rfl (by kernel_rfl) ?_) | (refine wpL_load1S hst rfl rfl 2 rfl rfl rfl (by kernel_rfl) ?_) | (refine wpL_load1S hst rfl rfl 3 rfl rfl rfl (by kernel_rfl) ?_))
    | ((with_reducible refine wpL_isSlice rfl ?_); refine wpL_slice_lit rfl 63 4 _ rfl Try.underlying63 i64Info (by decide) (by decide) [.int .i64 b, .int .i64 v, .int .i64 z, .int .i64 k] rfl rfl (by simp [Value.cells]) ?_))
  intro w3 ho3 hs3 hN
  have hpw2 : p < w2.heap.size := hB2.lt
  have hB3 := hB2.keep ho3
  have hM3 := hM2.more ho3
  have NN : Hid (Calls Try.prog 90 #[.pointer (some ⟨p, 0, none⟩), .slice (some ⟨w2.heap.size, 0, none⟩) 4 4] w3 fun e w' => e = .returned (.tuple #[]) ∧ ∃ v', Bld w' p [.bool (false || [b, v, z, k].any (fun n => !told n))] 149 v' ([] ++ ([b, v, z, k].map num4).flatten) ∧ Wrote w3 w' p (.slice none 0 0) v') :=
    penNum_any p false (.slice none 0 0) [] _ [b, v, z, k] w3 hB3 (Ints.of_blk (xs := [b, v, z, k]) hN 4 (by simp)) (by
      intro a n' c' hh
      injection hh with e1
      injection e1 with e1
      subst e1
      simp [Value.ownBlock]
      omega) (by simp) (by simp)
  clear ho3 hs3 hN hB2 hB3 hM2
  go_wp2_with (go_at_call 90; refine NN.out.mono ?_)
  rintro e w4 ⟨rfl, v4, hB4, hW4⟩
  have hM4 := hM3.wrote hW4
  obtain ⟨β, eβ⟩ : ∃ β, β = (false || [b, v, z, k].any (fun n => !told n)) := ⟨_, rfl⟩
  rw [← eβ, List.nil_append] at hB4
  have hl4 : (([b, v, z, k].map num4).flatten).length = 16 := by rw [nums_length]; rfl
  obtain ⟨l4, el4⟩ : ∃ l4, l4 = ([b, v, z, k].map num4).flatten := ⟨_, rfl⟩
  rw [← el4] at hB4 hl4
  have EL4 := Lib.hid el4
  have HL4 := Lib.hid hl4
  replace hst := hst1.keep hM4.1
  have P5 := Lib.hid (PD.out p β v4 l4 w4 hB4 hst.only hp0 (fun q hq => Nat.le_trans hst1.only.size (hM4.2.2 q hq)) (by omega))
  clear NN hW4 hM3 eβ el4 hl4 hB4
  go_wp2_with (first
    | ((with_reducible refine wpL_peel rfl ?_ ?_); focus (go_simp; done)) | ((with_reducible refine wpL_isLoad rfl ?_); first | (refine wpL_load1S hst rfl rfl 0 rfl rfl rfl (by kernel_rfl) ?_) | (refine wpL_load1S hst rfl rfl 1 rfl rfl rfl (by kernel_rfl) ?_) | (refine wpL_load1S hst rfl rfl 2 rfl rfl rfl (by kernel_rfl) ?_) | (refine wpL_load1S hst rfl rfl 3 rfl rfl rfl (by kernel_rfl) ?_))
    | (go_at_call 128; refine P5.out.mono ?_))
  rintro e w5 ⟨rfl, v5, hB5, hW5⟩
  have hM5 := (hM4.wrote hW5).more (Only.refl [] w5).drew
  have hB6 := hB5.drewW
  replace hst := hst1.keep hM5.1
  clear hB5 hW5 P5 hM4
  go_wp2_with fail
  refine wp_region_ord [3, 4] [0, 1, 2, 3, 4, 5] (by kernel_rfl) (by kernel_rfl) ?_
  generalize World.drew _ = W at *
  refine Ord.cut 1 0 rfl rfl rfl rfl (by kernel_rfl) (by kernel_rfl) ?_; simp only [List.take_succ_cons, List.take_zero, List.drop_succ_cons, List.drop_zero, List.filterMap_cons, List.filterMap_nil, List.getElem?_cons_succ, List.getElem?_cons_zero]; go_wp2_with fail; refine TextQ.mk ⟨fun h => by simp at h, ?_⟩ rfl
  refine Ord.cut 1 1 rfl rfl rfl rfl (by kernel_rfl) (by kernel_rfl) ?_; simp only [List.take_succ_cons, List.take_zero, List.drop_succ_cons, List.drop_zero, List.filterMap_cons, List.filterMap_nil, List.getElem?_cons_succ, List.getElem?_cons_zero]
  refine wpL_loadAtS hst rfl (ty := 102) rfl 0 rfl rfl (by kernel_rfl) 32 (by kernel_rfl) _ HD5.out HRL.out ?_
  refine TextQ.mk ⟨fun h => by simp at h, ?_⟩ rfl
  refine Ord.cut 1 2 rfl rfl rfl rfl (by kernel_rfl) (by kernel_rfl) ?_; simp only [List.take_succ_cons, List.take_zero, List.drop_succ_cons, List.drop_zero, List.filterMap_cons, List.filterMap_nil, List.getElem?_cons_succ, List.getElem?_cons_zero]
  (first | (refine wpL_loadAtS hst rfl (ty := 104) rfl 0 rfl rfl (by kernel_rfl) 37 (by kernel_rfl) _ HT.out HL.out ?_) | (refine wpL_loadAtS hst rfl (ty := 104) rfl 1 rfl rfl (by kernel_rfl) 37 (by kernel_rfl) _ HT.out HL.out ?_) | (refine wpL_loadAtS hst rfl (ty := 104) rfl 2 rfl rfl (by kernel_rfl) 37 (by kernel_rfl) _ HT.out HL.out ?_))
  refine TextQ.mk ⟨fun h => by simp at h, ?_⟩ rfl
  refine Ord.cut 1 3 rfl rfl rfl rfl (by kernel_rfl) (by kernel_rfl) ?_; simp only [List.take_succ_cons, List.take_zero, List.drop_succ_cons, List.drop_zero, List.filterMap_cons, List.filterMap_nil, List.getElem?_cons_succ, List.getElem?_cons_zero]
  go_wp2_with (go_at_call 70; refine (RT.out _ hst.only).mono ?_; rintro e1 w6 ⟨rfl, ho6⟩)
  refine TextQ.mk ⟨fun _ => ho6, ?_⟩ rfl
  replace hst := hst.keep ho6
  have hB7 := hB6.keep ho6
  have hM7 := hM5.more ho6
  clear ho6 hB6 hM5
  refine Ord.cut 1 4 rfl rfl rfl rfl (by kernel_rfl) (by kernel_rfl) ?_; simp only [List.take_succ_cons, List.take_zero, List.drop_succ_cons, List.drop_zero, List.filterMap_cons, List.filterMap_nil, List.getElem?_cons_succ, List.getElem?_cons_zero]
  refine wpL_slice_lit rfl 100 2 _ rfl Try.underlying100 digInfo3 (by decide) (by decide) [.agg (Lib.byteCells r).toArray, .agg (Lib.byteCells rt).toArray] rfl rfl (by
    intro x hx
    simp only [List.mem_cons, List.not_mem_nil, or_false] at hx
    rcases hx with rfl | rfl
    · simpa [Value.cells] using HRL.out
    · simpa [Value.cells] using HRTL.out) ?_
  intro w7 ho7 hs7 hD7
  refine TextQ.mk ⟨fun _ => ho7, ?_⟩ rfl
  have hB8 := hB7.keep ho7
  have hM8 := hM7.more ho7
  have hp7 : p < w6.heap.size := hB7.lt
  have hq7 := hB7.bufLt
  have P8 := Lib.hid (penDigest_any p β v5 _ w6.heap.size 0 2 [r, rt] w7 hB8 (by
    intro d hd
    simp only [List.mem_cons, List.not_mem_nil, or_false] at hd
    rcases hd with rfl | rfl
    · exact HRR.out
    · exact HRT.out) (by simp) (by rw [List.length_append, HL4.out]; have := HFL.out; omega) (by omega) (fun h => by have := hq7 _ h; omega) hD7.lt (fun j u hu => hD7.cell (by rw [Nat.zero_add]; simpa [digCells, Value.cells] using hu)) (by simp))
  clear ho7 hs7 hD7 hB7 hM7 hB8
  refine Ord.cut 1 5 rfl rfl rfl rfl (by kernel_rfl) (by kernel_rfl) ?_; simp only [List.take_succ_cons, List.take_zero, List.drop_succ_cons, List.drop_zero, List.filterMap_cons, List.filterMap_nil, List.getElem?_cons_succ, List.getElem?_cons_zero]
  go_wp2_with (go_at_call 128; refine P8.out.mono ?_; rintro e1 w8 ⟨rfl, v8, hB9, hW9⟩)
  refine TextQ.mk ⟨fun h => by simp at h, ?_⟩ rfl
  refine Ord.done ?_
  have hM9 := hM8.wrote hW9
  have hBF := hB9.F
  have HRES : Hid (l4 ++ ds.flatten ++ [r, rt].flatten = manB b v z k ds r) := by show _ = _; rw [EL4.out, ERT.out]; rfl
  rw [HRES.out] at hBF
  clear hB9 hW9 P8 hM8
  go_wp2_with (go_at_call 91; refine (penBytes2_any _ _ _ _ _ hBF).mono ?_; rintro e1 w9 ⟨rfl, _, ho9⟩)
  go_ret2
  exact ⟨rfl, hst1.only.trans (hM9.told ho9).1⟩

end Go.Proofs.Ytmogkiacakkmbaa
