/- The law SealWhole, walked. -/
import Derived.Test.YtmogkiacakkmbaaSealI
import Derived.Test.YtmogkiacakkmbaaDskF
namespace Go.Proofs.Ytmogkiacakkmbaa
open Go.RowKit

/-- Bools that are read alone. -/
def boolsQ (v : Value) (l : List Bool) (kb : List Nat) : Rsc := ⟨false, kb, fun w => Bools w v l kb, fun h ho hn => h.only ho hn, fun h => h.lt⟩
theorem Sd.apart {w0 w : World} {S : List Nat} {L : List Ent} {r s : Rsc} {R : List Rsc} (h : Sd w0 S w L (r :: s :: R)) : ∀ b ∈ s.F, b ∉ r.F := fun b hb hr =>
  (List.pairwise_cons.1 h.rapart).1 s (by simp) b hr hb
theorem Sd.apartB {w0 w : World} {S : List Nat} {L : List Ent} {R : List Rsc} {d : Nat} {m : DM} {F : List Nat} {v : Value} {l : List Bool} {kb : List Nat} (h : Sd w0 S w L (diskR d m F :: boolsQ v l kb :: R)) : ∀ b ∈ kb, b ∉ F := h.apart
theorem Bools.slice {w : World} {v : Value} {l : List Bool} {kb : List Nat} (h : Bools w v l kb) : ∃ ad cp, v = .slice ad l.length cp := by
  rcases h with ⟨rfl, _, a, c, rfl⟩ | ⟨g, o, c, rfl, _⟩
  · exact ⟨a, c, rfl⟩
  · exact ⟨_, _, rfl⟩
theorem Bools.at {w : World} {ad : Option Addr} {cp : Nat} {l : List Bool} {kb : List Nat} (h : Bools w (.slice ad l.length cp) l kb) (j : Nat) (hj : j < l.length) : ∃ g o, ad = some ⟨g, o, none⟩ ∧ w.cell? ⟨g, o + j, none⟩ = some (.bool (l.getD j false)) := by
  rcases h with ⟨rfl, _⟩ | ⟨g, o, c, e, _, _, _, h⟩
  · cases hj
  · simp only [Value.slice.injEq] at e
    exact ⟨g, o, e.1, h j hj⟩
def allB (keep : List Bool) (j : Nat) : Bool := (List.range j).all fun i => keep.getD i false
def noneB (keep : List Bool) (j : Nat) : Bool := (List.range j).all fun i => !keep.getD i false
theorem allB_succ (keep : List Bool) (j : Nat) : allB keep (j + 1) = (allB keep j && keep.getD j false) := by simp [allB, List.range_succ]
theorem noneB_succ (keep : List Bool) (j : Nat) : noneB keep (j + 1) = (noneB keep j && !keep.getD j false) := by simp [noneB, List.range_succ]
theorem allB_no {keep : List Bool} {K : Nat} (h : ¬ ∀ j, j < K → keep.getD j false = true) : allB keep K = false := by
  cases hb : allB keep K
  · rfl
  · exact absurd (fun j hj => by simpa using List.all_eq_true.1 hb j (by simpa using hj)) h
theorem noneB_no {keep : List Bool} {K : Nat} (h : ¬ ∀ j, j < K → keep.getD j false = false) : noneB keep K = false := by
  cases hb : noneB keep K
  · rfl
  · exact absurd (fun j hj => by simpa using List.all_eq_true.1 hb j (by simpa using hj)) h

set_option maxRecDepth 100000 in
set_option maxHeartbeats 16000000 in
theorem sealWhole_walk (a b : ByteArray) (m n : Int) (V : Value) (keep : List Bool) (kb : List Nat) (w : World) (hB : Bools w V keep kb) :
    Calls Try.prog 3 #[.string a, .string b, .int .i64 m, .int .i64 n, V] w fun e w' => e = .returned (.bool true) ∧ Only [] w w' := by
  have hst := Sd.withQ [] (boolsQ V keep kb) hB rfl
  have AW := Lib.hid awake06_any
  obtain ⟨ad, cp, rfl⟩ := hB.slice
  clear hB
  obtain ⟨i, hi, hi2⟩ := rem_idx m 1000 (by decide)
  obtain ⟨k, hk, hk2⟩ := rem_idx n 1000 (by decide)
  have hi : (IntKind.u64.wrap m).tmod 1000 = (i : Int) := hi
  have hk : (IntKind.u64.wrap n).tmod 1000 = (k : Int) := hk
  by_cases h1 : 200 < (a.size : Int)
  · have d1 : decide (200 < (a.size : Int)) = true := decide_eq_true h1
    go_enter Try.func3, Try.ntmps3
    go_wp2_with (first | (go_at_call 13; (with_reducible refine (AW.out _).mono ?_); rintro e1 w1 ⟨rfl, ho1⟩; replace hst := hst.keep ho1; clear ho1))
    go_ret
    exact ⟨rfl, hst.only⟩
  have d1 : decide (200 < (a.size : Int)) = false := decide_eq_false h1
  by_cases h2 : 200 < (b.size : Int)
  · have d2 : decide (200 < (b.size : Int)) = true := decide_eq_true h2
    go_enter Try.func3, Try.ntmps3
    go_wp2_with (first | (go_at_call 13; (with_reducible refine (AW.out _).mono ?_); rintro e1 w1 ⟨rfl, ho1⟩; replace hst := hst.keep ho1; clear ho1))
    go_ret
    exact ⟨rfl, hst.only⟩
  have d2 : decide (200 < (b.size : Int)) = false := decide_eq_false h2
  by_cases h3 : 20 < (keep.length : Int)
  · have d3 : decide (20 < (keep.length : Int)) = true := decide_eq_true h3
    go_enter Try.func3, Try.ntmps3
    go_wp2_with (first | (go_at_call 13; (with_reducible refine (AW.out _).mono ?_); rintro e1 w1 ⟨rfl, ho1⟩; replace hst := hst.keep ho1; clear ho1))
    go_ret
    exact ⟨rfl, hst.only⟩
  have d3 : decide (20 < (keep.length : Int)) = false := decide_eq_false h3
  by_cases h4 : 1 + (i : Int) = 1 + (k : Int)
  · have d4 : (1 + (i : Int) == 1 + (k : Int)) = true := beq_iff_eq.2 h4
    clear h4
    go_enter Try.func3, Try.ntmps3
    go_wp2_with (first | (go_at_call 13; (with_reducible refine (AW.out _).mono ?_); rintro e1 w1 ⟨rfl, ho1⟩; replace hst := hst.keep ho1; clear ho1))
    go_ret
    exact ⟨rfl, hst.only⟩
  have d4 : (1 + (i : Int) == 1 + (k : Int)) = false := beq_eq_false_iff_ne.2 h4
  have ha : a.size ≤ 200 := by omega
  have hb : b.size ≤ 200 := by omega
  have hI : isNum (1 + (i : Int)) = true := by unfold isNum; simp; omega
  have hK : isNum (1 + (k : Int)) = true := by unfold isNum; simp; omega
  have d5 : (1 + (k : Int) == 1 + (i : Int)) = false := beq_eq_false_iff_ne.2 (fun h => h4 h.symm)
  obtain ⟨o1, o2, o3, o4, dn, hS⟩ := whole_one (1 + (i : Int)) a ha hI
  obtain ⟨t1, t2, t3, dm, hW⟩ := whole_two (1 + (i : Int)) (1 + (k : Int)) a b keep ha hb hI hK
  have law := whole_law (1 + (i : Int)) (1 + (k : Int)) a b keep ha hb hI hK h4
  have GT0 := fun z d F (w : World) h1 h2 h3 => sealGet_any z d 0 12 (wholeM (1 + (i : Int)) (1 + (k : Int)) a b keep) F 2 w h1 h2 h3 (by decide) (by decide) (by rw [hW]; exact Nat.zero_le _)
  have l2 : (putR (DM.fresh 12) 0 12 2 (1 + (i : Int)) a).1.sync.len = 12 := by
    rw [hS]
    unfold DM.len
    simp only [laid_length, List.length_replicate]
  have few2 : (putR (DM.fresh 12) 0 12 2 (1 + (i : Int)) a).1.sync.loose.length ≤ 900000 := by rw [hS]; exact Nat.zero_le _
  unfold wholeM at GT0 law
  obtain ⟨M1, eM1⟩ : ∃ M1, M1 = (putR (DM.fresh 12) 0 12 2 (1 + (i : Int)) a).1 := ⟨_, rfl⟩
  have P1 : Hid (∀ z d F w, Blk w z (zcells d 0 12) 34 → DiskAt w d (DM.fresh 12) F → z ∉ F → Calls Try.prog 16 #[.pointer (some ⟨z, 0, none⟩), .int .i64 2, .int .i64 (1 + (i : Int)), .string a] w fun e w' => ∃ F', e = .returned (.int .i64 0) ∧ DiskAt w' d M1 F' ∧ Turn F F' w w') := fun z d F w h1 h2 h3 => by
    have := sealPut_any z d 0 12 (DM.fresh 12) F 2 (1 + (i : Int)) a w h1 h2 h3 (by decide) (by decide) (by decide) (by decide)
    rw [o1, ← eM1] at this
    exact this
  rw [← eM1] at o2 o3 o4 t1 t2 t3 law GT0 l2 few2
  obtain ⟨M2, eM2⟩ : ∃ M2, M2 = M1.sync := ⟨_, rfl⟩
  have SY : Hid (∀ d F w, DiskAt w d M1 F → Calls Try.prog 17 #[.pointer (some ⟨d, 0, none⟩)] w fun e w' => ∃ F', e = .returned (.int .i64 0) ∧ DiskAt w' d M2 F' ∧ Turn F F' w w') := fun d F w h => by
    have := dskSync_any d M1 F w h (by omega) (by omega)
    rw [o2, ← eM2] at this
    exact this
  rw [← eM2] at t1 t2 t3 law GT0 l2 few2
  obtain ⟨M3, eM3⟩ : ∃ M3, M3 = (putR M2 0 12 2 (1 + (k : Int)) b).1 := ⟨_, rfl⟩
  have P2 : Hid (∀ z d F w, Blk w z (zcells d 0 12) 34 → DiskAt w d M2 F → z ∉ F → Calls Try.prog 16 #[.pointer (some ⟨z, 0, none⟩), .int .i64 2, .int .i64 (1 + (k : Int)), .string b] w fun e w' => ∃ F', e = .returned (.int .i64 0) ∧ DiskAt w' d M3 F' ∧ Turn F F' w w') := fun z d F w h1 h2 h3 => by
    have := sealPut_any z d 0 12 M2 F 2 (1 + (k : Int)) b w h1 h2 h3 (by decide) (by decide) (by omega) few2
    rw [t1, ← eM3] at this
    exact this
  rw [← eM3] at t2 t3 law GT0
  obtain ⟨M4, eM4⟩ : ∃ M4, M4 = M3.cut keep := ⟨_, rfl⟩
  have l4 : M4.len = 12 := by
    rw [eM4]
    unfold DM.cut
    split
    · exact t3
    · show (laid _ _).length = 12
      rw [laid_length]
      exact t3
  have CU : Hid (∀ d F w, DiskAt w d M3 F → Bools w (.slice ad keep.length cp) keep kb → (∀ b ∈ kb, b ∉ F) → Calls Try.prog 19 #[.pointer (some ⟨d, 0, none⟩), .slice ad keep.length cp] w fun e w' => ∃ F', e = .returned (.tuple #[]) ∧ DiskAt w' d M4 F' ∧ Turn F F' w w') := fun d F w h h2 h3 => by
    rw [eM4]
    exact dskCut_any d M3 F _ keep kb w h (by omega) h2 h3 (by omega)
  rw [← eM4] at law GT0
  obtain ⟨M5, eM5⟩ : ∃ M5, M5 = M4.come := ⟨_, rfl⟩
  have CM : Hid (∀ d F w, DiskAt w d M4 F → Calls Try.prog 20 #[.pointer (some ⟨d, 0, none⟩)] w fun e w' => ∃ F', e = .returned (.tuple #[]) ∧ DiskAt w' d M5 F' ∧ Turn F F' w w') := fun d F w h => by
    refine (dskCome_any d M4 F w h (by omega)).mono ?_
    rintro e w' ⟨h1, h2, h3⟩
    exact ⟨F, h1, by rw [eM5]; exact h2, h3⟩
  rw [← eM5] at law GT0
  obtain ⟨R, eR⟩ : ∃ R, R = getR M5 0 12 2 := ⟨_, rfl⟩
  rw [← eR] at law GT0
  obtain ⟨K, eK⟩ : ∃ K, K = secsOf b.size := ⟨_, rfl⟩
  have SZ : Hid (∀ w, Calls Try.prog 18 #[.string b] w fun e w' => e = .returned (.int .i64 (K : Int)) ∧ w = w') := fun w => by rw [eK]; exact sealSize_any b w (by omega)
  have DN : Hid (∀ w, Calls Try.prog 14 #[.int .i64 12] w fun e w' => ∃ d F, e = .returned (.pointer (some ⟨d, 0, none⟩)) ∧ DiskAt w' d (DM.fresh 12) F ∧ Only [] w w' ∧ (∀ b ∈ F, w.heap.size ≤ b)) := fun w => dskNew_any 12 w (by decide)
  have ZN : Hid (∀ d F w, DiskAt w d (DM.fresh 12) F → Calls Try.prog 15 #[.pointer (some ⟨d, 0, none⟩), .int .i64 0, .int .i64 12] w fun e w' => ∃ z, e = .returned (.tuple #[.pointer (some ⟨z, 0, none⟩), .int .i64 0]) ∧ w.heap.size ≤ z ∧ Blk w' z (zcells d 0 12) 34 ∧ Only [] w w') := fun d F w h => zonNew_yes d 0 12 _ F w h (by decide)
  rw [← eK] at law
  have law : (R = (b, 1 + (k : Int), 0)) ∨ (R = (a, 1 + (i : Int), 0) ∧ allB keep K = false) ∨ (R = (⟨#[]⟩, 0, 5) ∧ allB keep K = false ∧ noneB keep K = false) := by
    rcases law with h | ⟨h, h'⟩ | ⟨h, h', h''⟩
    · exact .inl h
    · exact .inr (.inl ⟨h, allB_no h'⟩)
    · exact .inr (.inr ⟨h, allB_no h', noneB_no h''⟩)
  have hKK : K ≤ 9 := by rw [eK]; unfold secsOf; omega
  have GT : Hid (∀ z d F w, Blk w z (zcells d 0 12) 34 → DiskAt w d M5 F → z ∉ F → Calls Try.prog 21 #[.pointer (some ⟨z, 0, none⟩), .int .i64 2] w fun e w' => e = .returned (.tuple #[.string R.1, .int .i64 R.2.1, .int .i64 R.2.2]) ∧ Only [] w w') := GT0
  have LW := Lib.hid law
  clear GT0 law eM1 eM2 eM3 eM4 eM5 eR eK o1 o2 o3 o4 t1 t2 t3 l2 few2 l4 hI hK hS hW
  go_enter Try.func3, Try.ntmps3
  go_wp2_with (first
    | ((with_reducible refine wpL_peel rfl ?_ ?_); focus (go_simp; done))
    | (go_at_call 13; (with_reducible refine (AW.out _).mono ?_); rintro e1 w1 ⟨rfl, ho1⟩; replace hst := hst.keep ho1; clear ho1)
    | (go_at_call 14; (with_reducible refine (DN.out _).mono ?_); rintro e1 w1 ⟨d, F, rfl, hd1, ho1, hg1⟩; replace hst := hst.add ho1 (r := diskR d _ F) hd1 hg1; clear hd1 ho1 hg1)
    | (go_at_call 15; (with_reducible refine (ZN.out _ _ _ (hst.rs 0 rfl)).mono ?_); rintro e1 w1 ⟨z, rfl, hg1, hz1, ho1⟩; replace hst := hst.new ho1 hz1 hg1; clear hg1 hz1 ho1)
    | ((with_reducible refine wpL_peel rfl ?_ ?_); focus (go_simp; done)) | ((with_reducible refine wpL_isLoad rfl ?_); first | (refine wpL_load1S hst.st rfl rfl 0 rfl rfl rfl (by kernel_rfl) ?_) | (refine wpL_load1S hst.st rfl rfl 1 rfl rfl rfl (by kernel_rfl) ?_) | (refine wpL_load1S hst.st rfl rfl 2 rfl rfl rfl (by kernel_rfl) ?_) | (refine wpL_load1S hst.st rfl rfl 3 rfl rfl rfl (by kernel_rfl) ?_))
    | (go_at_call 16; (with_reducible first | refine (P1.out _ _ _ _ (hst.blk 0 rfl) (hst.rs 0 rfl) (hst.away 0 0 rfl rfl)).mono ?_ | refine (P2.out _ _ _ _ (hst.blk 0 rfl) (hst.rs 0 rfl) (hst.away 0 0 rfl rfl)).mono ?_); rintro e1 w1 ⟨F1, rfl, hd1, ht1⟩; replace hst := hst.act 0 rfl (diskR _ _ F1) rfl ht1 hd1; simp only [List.set] at hst; clear hd1 ht1)
    | (go_at_call 17; (with_reducible refine (SY.out _ _ _ (hst.rs 0 rfl)).mono ?_); rintro e1 w1 ⟨F1, rfl, hd1, ht1⟩; replace hst := hst.act 0 rfl (diskR _ _ F1) rfl ht1 hd1; simp only [List.set] at hst; clear hd1 ht1))
  go_loopw [16, 17, 18] (fun al no x wr => ∃ (j : Nat), j ≤ K ∧ al = .bool (allB keep j) ∧ no = .bool (noneB keep j) ∧ x = .int .i64 (j : Int) ∧ Sd w [] wr [⟨z, zcells d 0 12, 34, true⟩] [diskR d M3 F1, boolsQ (.slice ad keep.length cp) keep kb])
    (fun _ _ x _ => (K - intOf x).toNat)
  case atStart => exact ⟨0, by omega, rfl, rfl, rfl, hst⟩
  case round =>
    obtain ⟨j, hj, rfl, rfl, rfl, hst⟩ := hrel
    by_cases hlt : j < K
    · have j1 : (j : Int) < K := by omega
      have HJ : Hid (j + 1 ≤ K) := hlt
      have NA := Lib.hid (allB_succ keep j)
      have NN := Lib.hid (noneB_succ keep j)
      generalize allB keep j = β at *
      generalize noneB keep j = ν at *
      by_cases hk : j < keep.length
      · obtain ⟨g, o, rfl, hc⟩ := (show Bools wr (.slice ad keep.length cp) keep kb from hst.rs 1 rfl).at j hk
        have HC := Lib.hid hc
        have jk : (j : Int) < keep.length := by omega
        generalize keep.getD j false = κ at *
        clear hc
        cases β <;> cases ν
        all_goals
          go_wp2_with (first
            | ((with_reducible refine wpL_peel rfl ?_ ?_); focus (go_simp; done))
            | (go_at_call 18; (with_reducible refine (SZ.out _).mono ?_); rintro e1 w1 ⟨rfl, rfl⟩)
            | ((with_reducible refine wpL_isLoad rfl ?_); refine wpL_load1C rfl rfl rfl HC.out (by kernel_rfl) ?_))
          go_roundw
          case rel => exact ⟨j + 1, HJ.out, by rw [NA.out]; first | rfl | (simp; done) | (simp; intro; omega), by rw [NN.out]; first | rfl | (simp; done) | (simp; intro; omega), by go_num, hst⟩
          case measure => simp [intOf]; omega
      · have hκ : keep.getD j false = false := by simp [List.getD_eq_getElem?_getD, List.getElem?_eq_none (Nat.le_of_not_lt hk)]
        rw [hκ] at NA NN
        have jk : ¬ (j : Int) < keep.length := by omega
        have jk2 : (keep.length : Int) ≤ j := by omega
        clear hκ
        cases β <;> cases ν
        all_goals
          go_wp2_with (first
            | ((with_reducible refine wpL_peel rfl ?_ ?_); focus (go_simp; done))
            | (go_at_call 18; (with_reducible refine (SZ.out _).mono ?_); rintro e1 w1 ⟨rfl, rfl⟩))
          go_roundw
          case rel => exact ⟨j + 1, HJ.out, by rw [NA.out]; first | rfl | (simp; done) | (simp; intro; omega), by rw [NN.out]; first | rfl | (simp; done) | (simp; intro; omega), by go_num, hst⟩
          case measure => simp [intOf]; omega
    · obtain rfl : j = K := by omega
      have j1 : ¬ (j : Int) < j := by omega
      have LW2 := LW.out
      generalize allB keep j = β at *
      generalize noneB keep j = ν at *
      clear LW
      clear law
      rcases LW2 with rfl | ⟨rfl, rfl⟩ | ⟨rfl, rfl, rfl⟩
      all_goals
        go_wp2_with (first
          | ((with_reducible refine wpL_peel rfl ?_ ?_); focus (go_simp; done))
          | ((with_reducible refine wpL_peel rfl ?_ ?_); focus (go_simp; done)) | ((with_reducible refine wpL_isLoad rfl ?_); first | (refine wpL_load1S hst.st rfl rfl 0 rfl rfl rfl (by kernel_rfl) ?_) | (refine wpL_load1S hst.st rfl rfl 1 rfl rfl rfl (by kernel_rfl) ?_) | (refine wpL_load1S hst.st rfl rfl 2 rfl rfl rfl (by kernel_rfl) ?_) | (refine wpL_load1S hst.st rfl rfl 3 rfl rfl rfl (by kernel_rfl) ?_))
          | (go_at_call 18; (with_reducible refine (SZ.out _).mono ?_); rintro e1 w1 ⟨rfl, rfl⟩)
          | (go_at_call 19; (with_reducible refine (CU.out _ _ _ (hst.rs 0 rfl) (hst.rs 1 rfl) hst.apartB).mono ?_); rintro e1 w1 ⟨F1, rfl, hd1, ht1⟩; replace hst := hst.act 0 rfl (diskR _ _ F1) rfl ht1 hd1; simp only [List.set] at hst; clear hd1 ht1)
          | (go_at_call 20; (with_reducible refine (CM.out _ _ _ (hst.rs 0 rfl)).mono ?_); rintro e1 w1 ⟨F1, rfl, hd1, ht1⟩; replace hst := hst.act 0 rfl (diskR _ _ F1) rfl ht1 hd1; simp only [List.set] at hst; clear hd1 ht1)
          | (go_at_call 21; (with_reducible refine (GT.out _ _ _ _ (hst.blk 0 rfl) (hst.rs 0 rfl) (hst.away 0 0 rfl rfl)).mono ?_); rintro e1 w1 ⟨rfl, ho1⟩; replace hst := hst.keep ho1; clear ho1)
          | ((with_reducible refine wpL_isBin rfl ?_); refine wpL_eql_same rfl 9 _ _ _ rfl _ rfl rfl ?_))
        go_ret
        exact ⟨rfl, hst.only⟩
end Go.Proofs.Ytmogkiacakkmbaa
