/- Manifests: what can't be made or written. -/
import Derived.Test.YtmogkiacakkmbaaMrC
import Derived.Test.YtmogkiacakkmbaaManRC
namespace Go.Proofs.Ytmogkiacakkmbaa
open Go.RowKit

/-- What the check says. -/
def checkM (b v z k : Int) (n : Nat) (ds : List (List UInt8)) (a : Int) (s : ByteArray) : Int :=
  if lenM b v z k n a = 0 then 3 else if (s.size : Int) ≠ lenM b v z k n a then 5 else if Sha.sum (bl s) = ds.getD a.toNat [] then 0 else 6

set_option maxRecDepth 100000 in
set_option maxHeartbeats 8000000 in
theorem rmanCheck_any (b v z k : Int) (ad : Option Addr) (n cp : Nat) (R : List Value) (ds : List (List UInt8)) (hR : R.length = 32) (a : Int) (s : ByteArray) (w : World) (hs : s.size ≤ 1000000)
    (hw : Wide ds) (hn : ds.length = n) (hn1 : n ≤ 1000) (hD : ds ≠ [] → Digs w (.slice ad n cp) ds) :
    Calls Try.prog 69 #[.agg (Value.int .i64 b :: .int .i64 v :: .int .i64 z :: .int .i64 k :: .slice ad n cp :: R).toArray, .int .i64 a, .string s] w fun e w' => e = .returned (.int .i64 (checkM b v z k n ds a s)) ∧ Only [] w w' := by
  have hst := (St.start w []).box (Value.int .i64 b :: .int .i64 v :: .int .i64 z :: .int .i64 k :: .slice ad n cp :: R) 107
  have HT := Lib.hid (mfTake b v z k (.slice ad n cp) R hR)
  have HL := Lib.hid (mfLen b v z k (.slice ad n cp) R hR)
  have LN : Hid (∀ w, Calls Try.prog 65 #[.agg (Value.int .i64 b :: .int .i64 v :: .int .i64 z :: .int .i64 k :: .slice ad n cp :: R).toArray, .int .i64 a] w fun e w' => e = .returned (.int .i64 (lenM b v z k n a)) ∧ Only [] w w') := fun w => rmanLength_any b v z k ad n cp R hR a w
  by_cases h0 : lenM b v z k n a = 0
  · have HV : Hid (checkM b v z k n ds a s = 3) := if_pos h0
    rw [HV.out]
    rw [h0] at LN
    clear h0 HV hD
    go_enter Try.func69, Try.ntmps69
    go_wp2_with (first | ((with_reducible refine wpL_isLoad rfl ?_); first | (refine wpL_loadAtS hst rfl (ty := 107) rfl 0 rfl rfl (by kernel_rfl) 37 (by kernel_rfl) _ HT.out HL.out ?_) | (refine wpL_loadAtS hst rfl (ty := 107) rfl 1 rfl rfl (by kernel_rfl) 37 (by kernel_rfl) _ HT.out HL.out ?_) | (refine wpL_loadAtS hst rfl (ty := 107) rfl 2 rfl rfl (by kernel_rfl) 37 (by kernel_rfl) _ HT.out HL.out ?_)) | ((with_reducible refine wpL_peel rfl ?_ ?_); focus (go_simp; done)) | ((with_reducible refine wpL_isLoad rfl ?_); first | (refine wpL_load1S hst rfl rfl 0 rfl rfl rfl (by kernel_rfl) ?_) | (refine wpL_load1S hst rfl rfl 1 rfl rfl rfl (by kernel_rfl) ?_) | (refine wpL_load1S hst rfl rfl 2 rfl rfl rfl (by kernel_rfl) ?_) | (refine wpL_load1S hst rfl rfl 3 rfl rfl rfl (by kernel_rfl) ?_)) | (go_at_call 65; (with_reducible refine (LN.out _).mono ?_); rintro e1 w1 ⟨rfl, ho1⟩; replace hst := hst.keep ho1; clear ho1))
    go_ret
    exact ⟨rfl, hst.only⟩
  obtain ⟨hp0, hp1, ⟨ha0, ha1, _⟩, _⟩ := lenM_pos h0
  have hac : a < cnt b v z k n := by
    unfold lenM at h0
    by_cases hh : 0 ≤ a ∧ a < cnt b v z k n
    · exact hh.2
    · rw [if_neg hh] at h0; exact absurd rfl h0
  have e0 : (lenM b v z k n a == 0) = false := beq_eq_false_iff_ne.2 h0
  by_cases h1 : (s.size : Int) ≠ lenM b v z k n a
  · have HV : Hid (checkM b v z k n ds a s = 5) := by show _ = _; unfold checkM; rw [if_neg h0, if_pos h1]
    rw [HV.out]
    have e1 : ((s.size : Int) != lenM b v z k n a) = true := by rw [bne_iff_ne]; exact h1
    generalize lenM b v z k n a = q at *
    clear h0 h1 HV hD hp0 hp1 ha0 ha1 hac
    go_enter Try.func69, Try.ntmps69
    go_wp2_with (first | ((with_reducible refine wpL_isLoad rfl ?_); first | (refine wpL_loadAtS hst rfl (ty := 107) rfl 0 rfl rfl (by kernel_rfl) 37 (by kernel_rfl) _ HT.out HL.out ?_) | (refine wpL_loadAtS hst rfl (ty := 107) rfl 1 rfl rfl (by kernel_rfl) 37 (by kernel_rfl) _ HT.out HL.out ?_) | (refine wpL_loadAtS hst rfl (ty := 107) rfl 2 rfl rfl (by kernel_rfl) 37 (by kernel_rfl) _ HT.out HL.out ?_)) | ((with_reducible refine wpL_peel rfl ?_ ?_); focus (go_simp; done)) | ((with_reducible refine wpL_isLoad rfl ?_); first | (refine wpL_load1S hst rfl rfl 0 rfl rfl rfl (by kernel_rfl) ?_) | (refine wpL_load1S hst rfl rfl 1 rfl rfl rfl (by kernel_rfl) ?_) | (refine wpL_load1S hst rfl rfl 2 rfl rfl rfl (by kernel_rfl) ?_) | (refine wpL_load1S hst rfl rfl 3 rfl rfl rfl (by kernel_rfl) ?_)) | (go_at_call 65; (with_reducible refine (LN.out _).mono ?_); rintro e1 w1 ⟨rfl, ho1⟩; replace hst := hst.keep ho1; clear ho1))
    go_ret
    exact ⟨rfl, hst.only⟩
  have h1 := Classical.not_not.1 h1
  have e1 : ((s.size : Int) != lenM b v z k n a) = false := by rw [bne_eq_false_iff_eq]; exact h1
  obtain ⟨i, rfl⟩ : ∃ i : Nat, a = (i : Int) := ⟨a.toNat, by omega⟩
  obtain ⟨_, _, hcn, _⟩ := cnt_pos (by omega : 0 < cnt b v z k n)
  have hin : i < n := by omega
  obtain ⟨d, ed⟩ : ∃ d, d = ds.getD i [] := ⟨_, rfl⟩
  obtain ⟨u, eu⟩ : ∃ u, u = Sha.sum (bl s) := ⟨_, rfl⟩
  obtain ⟨β, hβ⟩ : ∃ β, (u == d) = β := ⟨_, rfl⟩
  have HV : Hid (checkM b v z k n ds i s = if β then 0 else 6) := by
    show _ = _
    unfold checkM
    rw [if_neg h0, if_neg (by simpa using h1), Int.toNat_natCast, ← ed, ← eu, ← hβ]
    by_cases hh : u = d
    · rw [if_pos hh, hh]; simp
    · rw [if_neg hh, if_neg (by simpa using hh)]
  rw [HV.out]
  have hd : d.length = 32 := by rw [ed]; exact getD_wide ds hw i (by omega)
  have HDL := Lib.hid hd
  have HD32 : Hid ((Lib.byteCells d).length = 32) := digLen _ hd
  have HUL : Hid (u.length = 32) := by show _ = _; rw [eu]; exact Sha.sum_length _
  have HB := Lib.hid hβ
  obtain ⟨bk, o, c, eV, _, hbk, hcell⟩ := hD (by intro e; rw [e] at hn; simp at hn; omega)
  injection eV with ea en ec
  subst ea
  subst ec
  have HC : Hid (∀ w', Only [] w w' → ∀ j x, (Lib.byteCells d)[j]? = some x → w'.cell? ⟨bk, o + i * 32 + j, none⟩ = some x) := fun w' ho j x hx => by
    rw [ho.cellAt _ _ hbk (by simp)]
    rw [ed] at hx
    exact digCells_atM hw (by omega) hcell j x hx
  have OO : Hid (∀ w, Calls Try.prog 93 #[.string s] w fun e w' => e = .returned (.agg (Lib.byteCells u).toArray) ∧ Only [] w w') := fun w => by rw [eu]; exact refOf_any s w hs
  have i1 : (i : Int) < n := by omega
  have i0 : (0 : Int) ≤ i := by omega
  have n64 : (n : Int) ≤ 1000 := by omega
  generalize lenM b v z k n i = q at *
  clear h0 h1 hs hw hn hd hcell ed eu en hβ HV hp0 hp1 ha0 ha1 hac hcn
  go_enter Try.func69, Try.ntmps69
  go_wp2_with (first | ((with_reducible refine wpL_isLoad rfl ?_); first | (refine wpL_loadAtS hst rfl (ty := 107) rfl 0 rfl rfl (by kernel_rfl) 37 (by kernel_rfl) _ HT.out HL.out ?_) | (refine wpL_loadAtS hst rfl (ty := 107) rfl 1 rfl rfl (by kernel_rfl) 37 (by kernel_rfl) _ HT.out HL.out ?_) | (refine wpL_loadAtS hst rfl (ty := 107) rfl 2 rfl rfl (by kernel_rfl) 37 (by kernel_rfl) _ HT.out HL.out ?_)) | ((with_reducible refine wpL_peel rfl ?_ ?_); focus (go_simp; done)) | ((with_reducible refine wpL_isLoad rfl ?_); first | (refine wpL_load1S hst rfl rfl 0 rfl rfl rfl (by kernel_rfl) ?_) | (refine wpL_load1S hst rfl rfl 1 rfl rfl rfl (by kernel_rfl) ?_) | (refine wpL_load1S hst rfl rfl 2 rfl rfl rfl (by kernel_rfl) ?_) | (refine wpL_load1S hst rfl rfl 3 rfl rfl rfl (by kernel_rfl) ?_)) | (go_at_call 65; (with_reducible refine (LN.out _).mono ?_); rintro e1 w1 ⟨rfl, ho1⟩; replace hst := hst.keep ho1; clear ho1))
  replace hst := hst.drew
  refine wp_region_ord [1] [2, 3, 4, 5, 6, 0, 1, 7] (by kernel_rfl) (by kernel_rfl) ?_
  generalize World.drew _ = W at *
  refine Ord.cut 1 2 rfl rfl rfl rfl (by kernel_rfl) (by kernel_rfl) ?_; simp only [List.take_succ_cons, List.take_zero, List.drop_succ_cons, List.drop_zero, List.filterMap_cons, List.filterMap_nil, List.getElem?_cons_succ, List.getElem?_cons_zero]; go_wp2_with fail; refine TextQ.mk ⟨fun h => by simp at h, ?_⟩ rfl
  refine Ord.cut 1 3 rfl rfl rfl rfl (by kernel_rfl) (by kernel_rfl) ?_; simp only [List.take_succ_cons, List.take_zero, List.drop_succ_cons, List.drop_zero, List.filterMap_cons, List.filterMap_nil, List.getElem?_cons_succ, List.getElem?_cons_zero]; (try refine wpL_peel rfl rfl ?_); (first | (refine wpL_load1S hst rfl rfl 0 rfl rfl rfl (by kernel_rfl) ?_) | (refine wpL_load1S hst rfl rfl 1 rfl rfl rfl (by kernel_rfl) ?_) | (refine wpL_load1S hst rfl rfl 2 rfl rfl rfl (by kernel_rfl) ?_) | (refine wpL_load1S hst rfl rfl 3 rfl rfl rfl (by kernel_rfl) ?_)); refine TextQ.mk ⟨fun h => by simp at h, ?_⟩ rfl
  refine Ord.cut 2 5 rfl rfl rfl rfl (by kernel_rfl) (by kernel_rfl) ?_; simp only [List.take_succ_cons, List.take_zero, List.drop_succ_cons, List.drop_zero, List.filterMap_cons, List.filterMap_nil, List.getElem?_cons_succ, List.getElem?_cons_zero]; go_wp2_with fail; refine TextQ.mk ⟨fun h => by simp at h, ?_⟩ rfl
  refine Ord.cut 1 6 rfl rfl rfl rfl (by kernel_rfl) (by kernel_rfl) ?_; simp only [List.take_succ_cons, List.take_zero, List.drop_succ_cons, List.drop_zero, List.filterMap_cons, List.filterMap_nil, List.getElem?_cons_succ, List.getElem?_cons_zero]
  refine wpL_load_at rfl 101 _ rfl bk (o + i * 32) rfl (Lib.byteCells d) _ (HC.out _ hst.only) Try.underlying101 rfl arrInfo32 HD32.out ?_
  refine TextQ.mk ⟨fun h => by simp at h, ?_⟩ rfl
  refine Ord.cut 1 0 rfl rfl rfl rfl (by kernel_rfl) (by kernel_rfl) ?_; simp only [List.take_succ_cons, List.take_zero, List.drop_succ_cons, List.drop_zero, List.filterMap_cons, List.filterMap_nil, List.getElem?_cons_succ, List.getElem?_cons_zero]; go_wp2_with fail; refine TextQ.mk ⟨fun h => by simp at h, ?_⟩ rfl
  refine Ord.cut 1 1 rfl rfl rfl rfl (by kernel_rfl) (by kernel_rfl) ?_; simp only [List.take_succ_cons, List.take_zero, List.drop_succ_cons, List.drop_zero, List.filterMap_cons, List.filterMap_nil, List.getElem?_cons_succ, List.getElem?_cons_zero]
  go_wp2_with (go_at_call 93; refine (OO.out _).mono ?_; rintro e1 w3 ⟨rfl, ho3⟩)
  refine TextQ.mk ⟨fun _ => ho3, ?_⟩ rfl
  replace hst := hst.keep ho3
  clear ho3
  refine Ord.cut 1 7 rfl rfl rfl rfl (by kernel_rfl) (by kernel_rfl) ?_; simp only [List.take_succ_cons, List.take_zero, List.drop_succ_cons, List.drop_zero, List.filterMap_cons, List.filterMap_nil, List.getElem?_cons_succ, List.getElem?_cons_zero]
  refine wpL_neqB rfl 101 _ _ _ rfl 5 32 Try.underlying101 Try.underlying5 (by kernel_rfl) (by kernel_rfl) u d rfl rfl HUL.out HDL.out β HB.out ?_
  refine TextQ.mk ⟨fun h => by simp at h, ?_⟩ ?_
  case refine_2 => repeat' (first | exact rfl | exact fine_bytes rfl rfl rfl | refine fine_cons ?_ ?_)
  refine Ord.done ?_
  cases β
  · go_wp2_with fail
    go_ret
    exact ⟨rfl, hst.only⟩
  · go_wp2_with fail
    go_ret
    exact ⟨rfl, hst.only⟩

set_option maxRecDepth 100000 in
set_option maxHeartbeats 8000000 in
theorem manCheck_any (b v z k : Int) (ad : Option Addr) (n cp : Nat) (R : List Value) (ds : List (List UInt8)) (hR : R.length = 32) (a : Int) (s : ByteArray) (w : World) (hs : s.size ≤ 1000000)
    (hw : Wide ds) (hn : ds.length = n) (hn1 : n ≤ 1000) (hD : ds ≠ [] → Digs w (.slice ad n cp) ds) :
    Calls Try.prog 68 #[.agg (Value.int .i64 b :: .int .i64 v :: .int .i64 z :: .int .i64 k :: .slice ad n cp :: R).toArray, .int .i64 a, .string s] w fun e w' => e = .returned (.int .i64 (checkM b v z k n ds a s)) ∧ Only [] w w' := by
  have hst := (St.start w []).box (Value.int .i64 b :: .int .i64 v :: .int .i64 z :: .int .i64 k :: .slice ad n cp :: R) 104
  have HT := Lib.hid (mfTake b v z k (.slice ad n cp) R hR)
  have HL := Lib.hid (mfLen b v z k (.slice ad n cp) R hR)
  have LN : Hid (∀ w, Calls Try.prog 64 #[.agg (Value.int .i64 b :: .int .i64 v :: .int .i64 z :: .int .i64 k :: .slice ad n cp :: R).toArray, .int .i64 a] w fun e w' => e = .returned (.int .i64 (lenM b v z k n a)) ∧ Only [] w w') := fun w => manLength_any b v z k ad n cp R hR a w
  by_cases h0 : lenM b v z k n a = 0
  · have HV : Hid (checkM b v z k n ds a s = 3) := if_pos h0
    rw [HV.out]
    rw [h0] at LN
    clear h0 HV hD
    go_enter Try.func68, Try.ntmps68
    go_wp2_with (first | ((with_reducible refine wpL_isLoad rfl ?_); first | (refine wpL_loadAtS hst rfl (ty := 104) rfl 0 rfl rfl (by kernel_rfl) 37 (by kernel_rfl) _ HT.out HL.out ?_) | (refine wpL_loadAtS hst rfl (ty := 104) rfl 1 rfl rfl (by kernel_rfl) 37 (by kernel_rfl) _ HT.out HL.out ?_) | (refine wpL_loadAtS hst rfl (ty := 104) rfl 2 rfl rfl (by kernel_rfl) 37 (by kernel_rfl) _ HT.out HL.out ?_)) | ((with_reducible refine wpL_peel rfl ?_ ?_); focus (go_simp; done)) | ((with_reducible refine wpL_isLoad rfl ?_); first | (refine wpL_load1S hst rfl rfl 0 rfl rfl rfl (by kernel_rfl) ?_) | (refine wpL_load1S hst rfl rfl 1 rfl rfl rfl (by kernel_rfl) ?_) | (refine wpL_load1S hst rfl rfl 2 rfl rfl rfl (by kernel_rfl) ?_) | (refine wpL_load1S hst rfl rfl 3 rfl rfl rfl (by kernel_rfl) ?_)) | (go_at_call 64; (with_reducible refine (LN.out _).mono ?_); rintro e1 w1 ⟨rfl, ho1⟩; replace hst := hst.keep ho1; clear ho1))
    go_ret
    exact ⟨rfl, hst.only⟩
  obtain ⟨hp0, hp1, ⟨ha0, ha1, _⟩, _⟩ := lenM_pos h0
  have hac : a < cnt b v z k n := by
    unfold lenM at h0
    by_cases hh : 0 ≤ a ∧ a < cnt b v z k n
    · exact hh.2
    · rw [if_neg hh] at h0; exact absurd rfl h0
  have e0 : (lenM b v z k n a == 0) = false := beq_eq_false_iff_ne.2 h0
  by_cases h1 : (s.size : Int) ≠ lenM b v z k n a
  · have HV : Hid (checkM b v z k n ds a s = 5) := by show _ = _; unfold checkM; rw [if_neg h0, if_pos h1]
    rw [HV.out]
    have e1 : ((s.size : Int) != lenM b v z k n a) = true := by rw [bne_iff_ne]; exact h1
    generalize lenM b v z k n a = q at *
    clear h0 h1 HV hD hp0 hp1 ha0 ha1 hac
    go_enter Try.func68, Try.ntmps68
    go_wp2_with (first | ((with_reducible refine wpL_isLoad rfl ?_); first | (refine wpL_loadAtS hst rfl (ty := 104) rfl 0 rfl rfl (by kernel_rfl) 37 (by kernel_rfl) _ HT.out HL.out ?_) | (refine wpL_loadAtS hst rfl (ty := 104) rfl 1 rfl rfl (by kernel_rfl) 37 (by kernel_rfl) _ HT.out HL.out ?_) | (refine wpL_loadAtS hst rfl (ty := 104) rfl 2 rfl rfl (by kernel_rfl) 37 (by kernel_rfl) _ HT.out HL.out ?_)) | ((with_reducible refine wpL_peel rfl ?_ ?_); focus (go_simp; done)) | ((with_reducible refine wpL_isLoad rfl ?_); first | (refine wpL_load1S hst rfl rfl 0 rfl rfl rfl (by kernel_rfl) ?_) | (refine wpL_load1S hst rfl rfl 1 rfl rfl rfl (by kernel_rfl) ?_) | (refine wpL_load1S hst rfl rfl 2 rfl rfl rfl (by kernel_rfl) ?_) | (refine wpL_load1S hst rfl rfl 3 rfl rfl rfl (by kernel_rfl) ?_)) | (go_at_call 64; (with_reducible refine (LN.out _).mono ?_); rintro e1 w1 ⟨rfl, ho1⟩; replace hst := hst.keep ho1; clear ho1))
    go_ret
    exact ⟨rfl, hst.only⟩
  have h1 := Classical.not_not.1 h1
  have e1 : ((s.size : Int) != lenM b v z k n a) = false := by rw [bne_eq_false_iff_eq]; exact h1
  obtain ⟨i, rfl⟩ : ∃ i : Nat, a = (i : Int) := ⟨a.toNat, by omega⟩
  obtain ⟨_, _, hcn, _⟩ := cnt_pos (by omega : 0 < cnt b v z k n)
  have hin : i < n := by omega
  obtain ⟨d, ed⟩ : ∃ d, d = ds.getD i [] := ⟨_, rfl⟩
  obtain ⟨u, eu⟩ : ∃ u, u = Sha.sum (bl s) := ⟨_, rfl⟩
  obtain ⟨β, hβ⟩ : ∃ β, (u == d) = β := ⟨_, rfl⟩
  have HV : Hid (checkM b v z k n ds i s = if β then 0 else 6) := by
    show _ = _
    unfold checkM
    rw [if_neg h0, if_neg (by simpa using h1), Int.toNat_natCast, ← ed, ← eu, ← hβ]
    by_cases hh : u = d
    · rw [if_pos hh, hh]; simp
    · rw [if_neg hh, if_neg (by simpa using hh)]
  rw [HV.out]
  have hd : d.length = 32 := by rw [ed]; exact getD_wide ds hw i (by omega)
  have HDL := Lib.hid hd
  have HD32 : Hid ((Lib.byteCells d).length = 32) := digLen _ hd
  have HUL : Hid (u.length = 32) := by show _ = _; rw [eu]; exact Sha.sum_length _
  have HB := Lib.hid hβ
  obtain ⟨bk, o, c, eV, _, hbk, hcell⟩ := hD (by intro e; rw [e] at hn; simp at hn; omega)
  injection eV with ea en ec
  subst ea
  subst ec
  have HC : Hid (∀ w', Only [] w w' → ∀ j x, (Lib.byteCells d)[j]? = some x → w'.cell? ⟨bk, o + i * 32 + j, none⟩ = some x) := fun w' ho j x hx => by
    rw [ho.cellAt _ _ hbk (by simp)]
    rw [ed] at hx
    exact digCells_atM hw (by omega) hcell j x hx
  have OO : Hid (∀ b w, Blk w b [.string s] 9 → Calls Try.prog 121 #[.slice (some ⟨b, 0, none⟩) 1 1] w fun e w' => e = .returned (.agg (Lib.byteCells u).toArray) ∧ Only [] w w') := fun b w h => by rw [eu]; exact of_one b s w _ h hs
  have i1 : (i : Int) < n := by omega
  have i0 : (0 : Int) ≤ i := by omega
  have n64 : (n : Int) ≤ 1000 := by omega
  generalize lenM b v z k n i = q at *
  clear h0 h1 hs hw hn hd hcell ed eu en hβ HV hp0 hp1 ha0 ha1 hac hcn
  go_enter Try.func68, Try.ntmps68
  go_wp2_with (first | ((with_reducible refine wpL_isLoad rfl ?_); first | (refine wpL_loadAtS hst rfl (ty := 104) rfl 0 rfl rfl (by kernel_rfl) 37 (by kernel_rfl) _ HT.out HL.out ?_) | (refine wpL_loadAtS hst rfl (ty := 104) rfl 1 rfl rfl (by kernel_rfl) 37 (by kernel_rfl) _ HT.out HL.out ?_) | (refine wpL_loadAtS hst rfl (ty := 104) rfl 2 rfl rfl (by kernel_rfl) 37 (by kernel_rfl) _ HT.out HL.out ?_)) | ((with_reducible refine wpL_peel rfl ?_ ?_); focus (go_simp; done)) | ((with_reducible refine wpL_isLoad rfl ?_); first | (refine wpL_load1S hst rfl rfl 0 rfl rfl rfl (by kernel_rfl) ?_) | (refine wpL_load1S hst rfl rfl 1 rfl rfl rfl (by kernel_rfl) ?_) | (refine wpL_load1S hst rfl rfl 2 rfl rfl rfl (by kernel_rfl) ?_) | (refine wpL_load1S hst rfl rfl 3 rfl rfl rfl (by kernel_rfl) ?_)) | (go_at_call 64; (with_reducible refine (LN.out _).mono ?_); rintro e1 w1 ⟨rfl, ho1⟩; replace hst := hst.keep ho1; clear ho1))
  replace hst := hst.drew
  refine wp_region_ord [1, 2] [3, 4, 5, 6, 7, 0, 1, 2, 8, 9] (by kernel_rfl) (by kernel_rfl) ?_
  generalize World.drew _ = W at *
  refine Ord.cut 1 3 rfl rfl rfl rfl (by kernel_rfl) (by kernel_rfl) ?_; simp only [List.take_succ_cons, List.take_zero, List.drop_succ_cons, List.drop_zero, List.filterMap_cons, List.filterMap_nil, List.getElem?_cons_succ, List.getElem?_cons_zero]; go_wp2_with fail; refine TextQ.mk ⟨fun h => by simp at h, ?_⟩ rfl
  refine Ord.cut 1 4 rfl rfl rfl rfl (by kernel_rfl) (by kernel_rfl) ?_; simp only [List.take_succ_cons, List.take_zero, List.drop_succ_cons, List.drop_zero, List.filterMap_cons, List.filterMap_nil, List.getElem?_cons_succ, List.getElem?_cons_zero]; (try refine wpL_peel rfl rfl ?_); (first | (refine wpL_load1S hst rfl rfl 0 rfl rfl rfl (by kernel_rfl) ?_) | (refine wpL_load1S hst rfl rfl 1 rfl rfl rfl (by kernel_rfl) ?_) | (refine wpL_load1S hst rfl rfl 2 rfl rfl rfl (by kernel_rfl) ?_) | (refine wpL_load1S hst rfl rfl 3 rfl rfl rfl (by kernel_rfl) ?_)); refine TextQ.mk ⟨fun h => by simp at h, ?_⟩ rfl
  refine Ord.cut 2 6 rfl rfl rfl rfl (by kernel_rfl) (by kernel_rfl) ?_; simp only [List.take_succ_cons, List.take_zero, List.drop_succ_cons, List.drop_zero, List.filterMap_cons, List.filterMap_nil, List.getElem?_cons_succ, List.getElem?_cons_zero]; go_wp2_with fail; refine TextQ.mk ⟨fun h => by simp at h, ?_⟩ rfl
  refine Ord.cut 1 7 rfl rfl rfl rfl (by kernel_rfl) (by kernel_rfl) ?_; simp only [List.take_succ_cons, List.take_zero, List.drop_succ_cons, List.drop_zero, List.filterMap_cons, List.filterMap_nil, List.getElem?_cons_succ, List.getElem?_cons_zero]
  refine wpL_load_at rfl 102 _ rfl bk (o + i * 32) rfl (Lib.byteCells d) _ (HC.out _ hst.only) Try.underlying102 rfl digInfo HD32.out ?_
  refine TextQ.mk ⟨fun h => by simp at h, ?_⟩ rfl
  refine Ord.cut 1 0 rfl rfl rfl rfl (by kernel_rfl) (by kernel_rfl) ?_; simp only [List.take_succ_cons, List.take_zero, List.drop_succ_cons, List.drop_zero, List.filterMap_cons, List.filterMap_nil, List.getElem?_cons_succ, List.getElem?_cons_zero]; go_wp2_with fail; refine TextQ.mk ⟨fun h => by simp at h, ?_⟩ rfl
  refine Ord.cut 1 1 rfl rfl rfl rfl (by kernel_rfl) (by kernel_rfl) ?_; simp only [List.take_succ_cons, List.take_zero, List.drop_succ_cons, List.drop_zero, List.filterMap_cons, List.filterMap_nil, List.getElem?_cons_succ, List.getElem?_cons_zero]
  refine wpL_slice_lit rfl 40 1 _ rfl Try.underlying40 strInfo (by decide) (by decide) [.string s] rfl rfl (by simp [Value.cells]) ?_
  intro w2 ho2 hs2 hB2
  refine TextQ.mk ⟨fun _ => ho2, ?_⟩ rfl
  replace hst := hst.new ho2 hB2 (Nat.le_refl _)
  clear ho2 hs2 hB2
  refine Ord.cut 1 2 rfl rfl rfl rfl (by kernel_rfl) (by kernel_rfl) ?_; simp only [List.take_succ_cons, List.take_zero, List.drop_succ_cons, List.drop_zero, List.filterMap_cons, List.filterMap_nil, List.getElem?_cons_succ, List.getElem?_cons_zero]
  go_wp2_with (go_at_call 121; refine (OO.out _ _ (hst.blk 0 rfl)).mono ?_; rintro e1 w3 ⟨rfl, ho3⟩)
  refine TextQ.mk ⟨fun _ => ho3, ?_⟩ rfl
  replace hst := hst.keep ho3
  clear ho3
  refine Ord.cut 1 8 rfl rfl rfl rfl (by kernel_rfl) (by kernel_rfl) ?_; simp only [List.take_succ_cons, List.take_zero, List.drop_succ_cons, List.drop_zero, List.filterMap_cons, List.filterMap_nil, List.getElem?_cons_succ, List.getElem?_cons_zero]
  refine wpL_neqB rfl 102 _ _ _ rfl 5 32 Try.underlying102 Try.underlying5 (by kernel_rfl) (by kernel_rfl) u d rfl rfl HUL.out HDL.out β HB.out ?_
  refine TextQ.mk ⟨fun h => by simp at h, ?_⟩ ?_
  case refine_2 => repeat' (first | exact rfl | exact fine_bytes rfl rfl rfl | refine fine_cons ?_ ?_)
  refine Ord.cut 1 9 rfl rfl rfl rfl (by kernel_rfl) (by kernel_rfl) ?_; simp only [List.take_succ_cons, List.take_zero, List.drop_succ_cons, List.drop_zero, List.filterMap_cons, List.filterMap_nil, List.getElem?_cons_succ, List.getElem?_cons_zero]; go_wp2_with fail; refine TextQ.mk ⟨fun h => by simp at h, ?_⟩ rfl
  refine Ord.done ?_
  cases β
  · go_wp2_with fail
    go_ret
    exact ⟨rfl, hst.only⟩
  · go_wp2_with fail
    go_ret
    exact ⟨rfl, hst.only⟩

end Go.Proofs.Ytmogkiacakkmbaa

namespace Go.Proofs.Ytmogkiacakkmbaa
open Go.RowKit

set_option maxRecDepth 100000 in
set_option maxHeartbeats 8000000 in
theorem manBytes_no (b v z k : Int) (ad : Option Addr) (n cp : Nat) (R : List Value) (hR : R.length = 32) (w : World) (h : ¬ 0 < cnt b v z k n) :
    Calls Try.prog 73 #[.agg (Value.int .i64 b :: .int .i64 v :: .int .i64 z :: .int .i64 k :: .slice ad n cp :: R).toArray] w fun e w' => e = .returned (.tuple #[.string ⟨#[]⟩, .int .i64 1]) ∧ Only [] w w' := by
  have hst := (St.start w []).box (Value.int .i64 b :: .int .i64 v :: .int .i64 z :: .int .i64 k :: .slice ad n cp :: R) 104
  have HT := Lib.hid (mfTake b v z k (.slice ad n cp) R hR)
  have HL := Lib.hid (mfLen b v z k (.slice ad n cp) R hR)
  have GD0 := fun w => manGood_any b v z k ad n cp R hR w
  rw [decide_eq_false h] at GD0
  have GD := Lib.hid GD0
  clear GD0 h
  go_enter Try.func73, Try.ntmps73
  go_wp2_with (first | ((with_reducible refine wpL_isLoad rfl ?_); first | (refine wpL_loadAtS hst rfl (ty := 104) rfl 0 rfl rfl (by kernel_rfl) 37 (by kernel_rfl) _ HT.out HL.out ?_) | (refine wpL_loadAtS hst rfl (ty := 104) rfl 1 rfl rfl (by kernel_rfl) 37 (by kernel_rfl) _ HT.out HL.out ?_) | (refine wpL_loadAtS hst rfl (ty := 104) rfl 2 rfl rfl (by kernel_rfl) 37 (by kernel_rfl) _ HT.out HL.out ?_)) | ((with_reducible refine wpL_peel rfl ?_ ?_); focus (go_simp; done)) | ((with_reducible refine wpL_isLoad rfl ?_); first | (refine wpL_load1S hst rfl rfl 0 rfl rfl rfl (by kernel_rfl) ?_) | (refine wpL_load1S hst rfl rfl 1 rfl rfl rfl (by kernel_rfl) ?_) | (refine wpL_load1S hst rfl rfl 2 rfl rfl rfl (by kernel_rfl) ?_) | (refine wpL_load1S hst rfl rfl 3 rfl rfl rfl (by kernel_rfl) ?_)) | (go_at_call 62; (with_reducible refine (GD.out _).mono ?_); rintro e1 w1 ⟨rfl, ho1⟩; replace hst := hst.keep ho1; clear ho1))
  go_ret2
  exact ⟨rfl, hst.only⟩

set_option maxRecDepth 100000 in
set_option maxHeartbeats 8000000 in
theorem manMake_no (b v k : Int) (s : ByteArray) (r : List UInt8) (w : World) (hr : r.length = 32) (hh : ¬ HeadOk b v (s.size : Int) k) :
    Calls Try.prog 75 #[.int .i64 b, .int .i64 v, .int .i64 k, .string s, .agg (Lib.byteCells r).toArray] w fun e w' => e = .returned (.tuple #[.agg mfZ.toArray, .int .i64 1]) ∧ Only [] w w' := by
  have hR : (Lib.byteCells r).length = 32 := digLen r hr
  have hR1 : (Lib.byteCells r).all (·.oneCell') = true := digOne r
  obtain ⟨R, eR⟩ : ∃ R, R = Lib.byteCells r := ⟨_, rfl⟩
  rw [← eR] at hR hR1 ⊢
  have hst := (St.start w []).box R 102
  have BM := Lib.hid (built_mf b v (s.size : Int) k R hR)
  have HR0 : Hid ((R.drop 0).take 32 = R) := List.take_of_length_le (by simp [hR])
  have HR := Lib.hid hR
  have H1K : Hid ((Value.int .i64 b :: .int .i64 v :: .int .i64 (s.size : Int) :: .int .i64 k :: .slice none 0 0 :: R).all (·.oneCell') = true) := by show _ = _; simp only [List.all_cons, hR1]; rfl
  have HLK : Hid ((Value.int .i64 b :: .int .i64 v :: .int .i64 (s.size : Int) :: .int .i64 k :: .slice none 0 0 :: R).length = mfZ.length) := by show _ = _; simp [hR]; rfl
  have HZ1 : Hid (mfZ.all (·.oneCell') = true) := by show _ = _; rfl
  have CH : Hid (∀ V w, Calls Try.prog 124 #[.agg (Value.int .i64 b :: .int .i64 v :: .int .i64 (s.size : Int) :: .int .i64 k :: V :: R).toArray] w fun e w' => e = .returned (.int .i64 0) ∧ Only [] w w') := fun V w => by rw [← nch_no hh]; exact chunks_any b v (s.size : Int) k V R w
  have HT := Lib.hid (fun V => mfTake b v (s.size : Int) k V R hR)
  have HL := Lib.hid (fun V => mfLen b v (s.size : Int) k V R hR)
  clear hh eR hR1 hR
  go_enter Try.func75, Try.ntmps75
  go_wp2_with (first
    | ((with_reducible refine wpL_isAlloc rfl ?_); refine wpL_allocS hst rfl 104 rfl (.agg mfZ.toArray) mfZ (by kernel_rfl) rfl 10 rfl ?_; clear hst; intro w1 b0 hb0 hst)
    | ((with_reducible refine wpL_isAlloc rfl ?_); refine wpL_allocS hst rfl 104 rfl (.agg mfZ.toArray) mfZ (by kernel_rfl) rfl 12 rfl ?_; clear hst; intro w1 b1 hb1 hst)
    | ((with_reducible refine wpL_isLoad rfl ?_); refine wpL_loadAtS hst rfl (ty := 102) rfl 1 rfl rfl (by kernel_rfl) 32 (by kernel_rfl) _ HR0.out HR.out ?_)
    | ((with_reducible refine wpL_isLoad rfl ?_); refine wpL_loadAtS hst rfl (ty := 104) rfl 0 rfl rfl (by kernel_rfl) 37 (by kernel_rfl) _ (HT.out _) (HL.out _) ?_)
    | ((with_reducible refine wpL_isBuild rfl ?_); refine wpL_build5 rfl 104 rfl rfl rfl rfl rfl rfl _ BM.out ?_)
    | ((with_reducible refine wpL_isBuild rfl ?_); refine wpL_build0 rfl 104 rfl _ built_mf0 ?_)
    | ((with_reducible refine wpL_isStore rfl ?_); first | (refine wpL_storeS hst rfl (ty := 104) rfl 0 rfl rfl (D := Value.int .i64 b :: .int .i64 v :: .int .i64 (s.size : Int) :: .int .i64 k :: .slice none 0 0 :: R) rfl (by kernel_rfl) (by kernel_rfl) HLK.out H1K.out ?_; clear hst; intro w1 hst; simp only [List.set] at hst) | (refine wpL_storeS hst rfl (ty := 104) rfl 1 rfl rfl (D := mfZ) rfl (by kernel_rfl) (by kernel_rfl) rfl HZ1.out ?_; clear hst; intro w1 hst; simp only [List.set] at hst))
    | (go_at_call 124; (with_reducible refine (CH.out _ _).mono ?_); rintro e1 w1 ⟨rfl, ho1⟩; replace hst := hst.keep ho1; clear ho1))
  refine end_row_tmp2 (ty := 104) Try.results75 rfl (hst.blk 1 rfl) Try.underlying104 rfl mfInfo rfl rfl rfl ⟨rfl, hst.only⟩

set_option maxRecDepth 100000 in
set_option maxHeartbeats 8000000 in
theorem rmanMake_no (b v k : Int) (s : ByteArray) (r : List UInt8) (w : World) (hr : r.length = 32) (hh : ¬ HeadOk b v (s.size : Int) k) :
    Calls Try.prog 76 #[.int .i64 b, .int .i64 v, .int .i64 k, .string s, .agg (Lib.byteCells r).toArray] w fun e w' => e = .returned (.tuple #[.agg mfZ.toArray, .bool false]) ∧ Only [] w w' := by
  have hR : (Lib.byteCells r).length = 32 := digLen r hr
  have hR1 : (Lib.byteCells r).all (·.oneCell') = true := digOne r
  obtain ⟨R, eR⟩ : ∃ R, R = Lib.byteCells r := ⟨_, rfl⟩
  rw [← eR] at hR hR1 ⊢
  have hst := (St.start w []).box R 101
  have BM := Lib.hid (rbuilt_mf b v (s.size : Int) k R hR)
  have HR0 : Hid ((R.drop 0).take 32 = R) := List.take_of_length_le (by simp [hR])
  have HR := Lib.hid hR
  have H1K : Hid ((Value.int .i64 b :: .int .i64 v :: .int .i64 (s.size : Int) :: .int .i64 k :: .slice none 0 0 :: R).all (·.oneCell') = true) := by show _ = _; simp only [List.all_cons, hR1]; rfl
  have HLK : Hid ((Value.int .i64 b :: .int .i64 v :: .int .i64 (s.size : Int) :: .int .i64 k :: .slice none 0 0 :: R).length = mfZ.length) := by show _ = _; simp [hR]; rfl
  have HZ1 : Hid (mfZ.all (·.oneCell') = true) := by show _ = _; rfl
  have HD0 := fun V w => rmanHead_any b v (s.size : Int) k V R w
  rw [headB_no hh] at HD0
  have HD := Lib.hid HD0
  have HT := Lib.hid (fun V => mfTake b v (s.size : Int) k V R hR)
  have HL := Lib.hid (fun V => mfLen b v (s.size : Int) k V R hR)
  clear hh eR hR1 hR HD0
  go_enter Try.func76, Try.ntmps76
  go_wp2_with (first
    | ((with_reducible refine wpL_isAlloc rfl ?_); refine wpL_allocS hst rfl 107 rfl (.agg mfZ.toArray) mfZ (by kernel_rfl) rfl 10 rfl ?_; clear hst; intro w1 b0 hb0 hst)
    | ((with_reducible refine wpL_isAlloc rfl ?_); refine wpL_allocS hst rfl 107 rfl (.agg mfZ.toArray) mfZ (by kernel_rfl) rfl 12 rfl ?_; clear hst; intro w1 b1 hb1 hst)
    | ((with_reducible refine wpL_isLoad rfl ?_); refine wpL_loadAtS hst rfl (ty := 101) rfl 1 rfl rfl (by kernel_rfl) 32 (by kernel_rfl) _ HR0.out HR.out ?_)
    | ((with_reducible refine wpL_isLoad rfl ?_); refine wpL_loadAtS hst rfl (ty := 107) rfl 0 rfl rfl (by kernel_rfl) 37 (by kernel_rfl) _ (HT.out _) (HL.out _) ?_)
    | ((with_reducible refine wpL_isBuild rfl ?_); refine wpL_build5 rfl 107 rfl rfl rfl rfl rfl rfl _ BM.out ?_)
    | ((with_reducible refine wpL_isBuild rfl ?_); refine wpL_build0 rfl 107 rfl _ rbuilt_mf0 ?_)
    | ((with_reducible refine wpL_isStore rfl ?_); first | (refine wpL_storeS hst rfl (ty := 107) rfl 0 rfl rfl (D := Value.int .i64 b :: .int .i64 v :: .int .i64 (s.size : Int) :: .int .i64 k :: .slice none 0 0 :: R) rfl (by kernel_rfl) (by kernel_rfl) HLK.out H1K.out ?_; clear hst; intro w1 hst; simp only [List.set] at hst) | (refine wpL_storeS hst rfl (ty := 107) rfl 1 rfl rfl (D := mfZ) rfl (by kernel_rfl) (by kernel_rfl) rfl HZ1.out ?_; clear hst; intro w1 hst; simp only [List.set] at hst))
    | (go_at_call 123; (with_reducible refine (HD.out _ _).mono ?_); rintro e1 w1 ⟨rfl, ho1⟩; replace hst := hst.keep ho1; clear ho1))
  refine end_row_tmp2 (ty := 107) Try.results76 rfl (hst.blk 1 rfl) Try.underlying107 rfl rmfInfo rfl rfl rfl ⟨rfl, hst.only⟩

end Go.Proofs.Ytmogkiacakkmbaa
