/- The law SlotApart, walked. -/
import Derived.Test.YtmogkiacakkmbaaSlotJ
import Derived.Test.YtmogkiacakkmbaaSlotI
import Derived.Test.YtmogkiacakkmbaaSealJ
namespace Go.Proofs.Ytmogkiacakkmbaa
open Go.RowKit

theorem wpL_eqlStrT {P : Program} {w : World} {ops : Array Oper} {rest : List Oper} {o : Oper} {a : Act} {Q : Exit → Act → World → Prop} (hgd : o.guard = none) {t r : TypeId} {x y : Operand} (ho : o.op = .binOp .eql t x y r) (s u : ByteArray) (hx : a.eval x = .string s) (hy : a.eval y = .string u) (β : Bool) (hβ : decide (s = u) = β)
    (h : wpList P ops Q rest (a.put o.dst (.bool β)) w) : wpList P ops Q (o :: rest) a w := by
  refine wpL_run hgd (v := .bool β) ?_ h
  subst hβ
  have e : (s.toList == u.toList) = decide (s = u) := by
    by_cases hs : s = u
    · rw [str_eqq hs, decide_eq_true hs]
    · rw [str_neq hs, decide_eq_false hs]
  unfold execOp
  simp only [ho, Sem.run_bind, hx, hy]
  simp [eqGuard, binOp, Op.stringOp]
  exact e

/-- A text was found, or is still to come. -/
def FndA (l : List ByteArray) (k : Nat) (t : ByteArray) (b : Bool) (j : Nat) : Prop := b = true ∨ ∃ q, j ≤ q ∧ q < l.length ∧ tgt q = k ∧ t = txtA l q
theorem strs_slice {w : World} {V : Value} {l : List ByteArray} (h : Strs w V l) : ∃ ad cp, V = .slice ad l.length cp := by
  rcases h with ⟨⟨a, c, rfl⟩, rfl⟩ | ⟨bk, o, c, rfl, _⟩
  · exact ⟨a, c, rfl⟩
  · exact ⟨_, _, rfl⟩
theorem strs_at {w : World} {ad : Option Addr} {cp : Nat} {l : List ByteArray} (h : Strs w (.slice ad l.length cp) l) (j : Nat) (hj : j < l.length) : ∃ bk o, ad = some ⟨bk, o, none⟩ ∧ ∀ wr, Only [] w wr → wr.cell? ⟨bk, o + j, none⟩ = some (.string (txtA l j)) := by
  rcases h with ⟨_, e⟩ | ⟨bk, o, c, hv, h1, h2, h3⟩
  · rw [e] at hj; simp at hj
  · injection hv with e1 e2 e3
    exact ⟨bk, o, e1, fun wr ho => cellQ (h1 j _ (by unfold txtA; rw [List.getD_eq_getElem?_getD, List.getElem?_eq_getElem hj]; rfl)) ho⟩

set_option maxRecDepth 100000 in
set_option maxHeartbeats 32000000 in
theorem slotApart_walk (V : Value) (l : List ByteArray) (sync : Int) (K : Value) (keep : List Bool) (kb : List Nat) (w : World) (hV : Strs w V l) (hB : Bools w K keep kb) :
    Calls Try.prog 9 #[V, .int .i64 sync, K] w fun e w' => e = .returned (.bool true) ∧ Only [] w w' := by
  have hst := Sd.withQ [] (boolsQ K keep kb) hB rfl
  have AW := Lib.hid awake09_any
  obtain ⟨ak, ck, rfl⟩ := hB.slice
  obtain ⟨ad, cp, rfl⟩ := strs_slice hV
  by_cases h1 : 12 < (l.length : Int)
  · have d1 : decide (12 < (l.length : Int)) = true := decide_eq_true h1
    clear hV hB h1
    go_enter Try.func9, Try.ntmps9
    go_wp2_with (first | (go_at_call 43; (with_reducible refine (AW.out _).mono ?_); rintro e1 w1 ⟨rfl, ho1⟩; replace hst := hst.keep ho1; clear ho1))
    go_ret
    exact ⟨rfl, hst.only⟩
  have d1 : decide (12 < (l.length : Int)) = false := decide_eq_false h1
  by_cases h2 : 100 < (keep.length : Int)
  · have d2 : decide (100 < (keep.length : Int)) = true := decide_eq_true h2
    clear hV hB h2
    go_enter Try.func9, Try.ntmps9
    go_wp2_with (first | (go_at_call 43; (with_reducible refine (AW.out _).mono ?_); rintro e1 w1 ⟨rfl, ho1⟩; replace hst := hst.keep ho1; clear ho1))
    go_ret
    exact ⟨rfl, hst.only⟩
  have d2 : decide (100 < (keep.length : Int)) = false := decide_eq_false h2
  have hl12 : l.length ≤ 12 := by omega
  obtain ⟨n, hn, hn2⟩ := rem_idx sync (l.length + 1) (by omega)
  have hn : (IntKind.u64.wrap sync).tmod ((l.length : Int) + 1) = (n : Int) := hn
  have hwl : IntKind.u64.wrap ((l.length : Int) + 1) = (l.length : Int) + 1 := by unfold IntKind.wrap; simp [IntKind.signed, IntKind.bits]; omega
  have n0 : ((l.length : Int) + 1 == 0) = false := beq_eq_false_iff_ne.2 (by omega)
  have hnl : n ≤ l.length := by omega
  have hn12 : (n : Int) ≤ 12 := by omega
  have HV := Lib.hid hV
  have DN : Hid (∀ w, Calls Try.prog 14 #[.int .i64 16] w fun e w' => ∃ d F, e = .returned (.pointer (some ⟨d, 0, none⟩)) ∧ DiskAt w' d (DM.fresh 16) F ∧ Only [] w w' ∧ (∀ b ∈ F, w.heap.size ≤ b)) := fun w => dskNew_any 16 w (by decide)
  have OP : Hid (∀ d F w, DiskAt w d (DM.fresh 16) F → Calls Try.prog 44 #[.pointer (some ⟨d, 0, none⟩), .int .i64 40] w fun e w' => ∃ z a, e = .returned (.tuple #[.pointer (some ⟨a, 0, none⟩), .int .i64 0]) ∧ w.heap.size ≤ z ∧ w.heap.size ≤ a ∧ a ≠ z ∧ Blk w' z (zcells d 0 16) 34 ∧ Blk w' a (slcells z 40) 80 ∧ Only [] w w') := fun d F w h => opened_yes d 40 (DM.fresh 16) F w h (by decide) (by decide) (by decide) (by decide)
  have CH : Hid (∀ a z d w, Blk w a (slcells z 40) 80 → Blk w z (zcells d 0 16) 34 → a ≠ z → Calls Try.prog 45 #[.pointer (some ⟨a, 0, none⟩)] w fun e w' => e = .returned (.int .i64 5) ∧ Only [] w w') := fun a z d w h1 h2 h3 => slotChunks_any a z d 0 16 40 w h1 h2 h3 (by decide) (by decide) (by decide)
  have c5 : chunksN 16 40 = 5 := by decide
  have s3 : ((secsOf 40 : Nat) : Int) = 3 := by decide
  have PTG : Hid (∀ a z d m F w (p : Nat) (g : Int) (x : ByteArray), Blk w a (slcells z 40) 80 → Blk w z (zcells d 0 16) 34 → DiskAt w d m F → a ≠ z → a ∉ F → z ∉ F → m.loose.length ≤ 100 → p < 5 → x.size ≤ 40 → m.len = 16 → (putR m 0 16 ((p : Int) * 3) g x).2 = 0 → Calls Try.prog 46 #[.pointer (some ⟨a, 0, none⟩), .int .i64 (p : Int), .int .i64 g, .string x] w fun e w' => ∃ F', e = .returned (.int .i64 0) ∧ DiskAt w' d (putR m 0 16 ((p : Int) * 3) g x).1 F' ∧ Turn F F' w w') := fun a z d m F w p g x h1 h2 h3 h4 h5 h6 h7 h8 h9 h10 h11 => by
    have := slotPut_yes a z d 0 16 40 m F w h1 h2 h3 h4 h5 h6 (by decide) (by decide) (by decide) (by decide) (by omega) p (by omega) g x h9 (by omega)
    rw [s3, h11] at this
    exact this
  have GTG : Hid (∀ a z d m F w (p : Nat), Blk w a (slcells z 40) 80 → Blk w z (zcells d 0 16) 34 → DiskAt w d m F → a ≠ z → a ∉ F → z ∉ F → m.loose.length ≤ 100 → p < 5 → Calls Try.prog 51 #[.pointer (some ⟨a, 0, none⟩), .int .i64 (p : Int)] w fun e w' => e = .returned (.tuple #[.string (slotG 40 (getR m 0 16 ((p : Int) * 3))).1, .int .i64 (slotG 40 (getR m 0 16 ((p : Int) * 3))).2.1, .int .i64 (slotG 40 (getR m 0 16 ((p : Int) * 3))).2.2]) ∧ Only [] w w') := fun a z d m F w p h1 h2 h3 h4 h5 h6 h7 h8 => by
    have := slotGet_yes a z d 0 16 40 m F w h1 h2 h3 h4 h5 h6 (by decide) (by decide) (by decide) (by decide) (by omega) p (by omega)
    rw [s3] at this
    exact this
  have hA0 : Hid (ApS l n 0 (DM.fresh 16) (List.replicate 5 ⟨#[]⟩) (List.replicate 5 false)) := ApS.start l n
  obtain ⟨D0, eD0⟩ : ∃ D0, D0 = DM.fresh 16 := ⟨_, rfl⟩
  rw [← eD0] at DN OP hA0
  have HNL := Lib.hid hnl
  clear hV hB h1 h2 c5 s3 eD0 hnl
  go_enter Try.func9, Try.ntmps9
  go_wp2_with (first
    | ((with_reducible refine wpL_peel rfl ?_ ?_); focus (go_simp; done)) | (go_at_call 43; (with_reducible refine (AW.out _).mono ?_); rintro e1 w1 ⟨rfl, ho1⟩; replace hst := hst.keep ho1; clear ho1) | (go_at_call 14; (with_reducible refine (DN.out _).mono ?_); rintro e1 w1 ⟨d, F, rfl, hd1, ho1, hg1⟩; replace hst := hst.add ho1 (r := diskR d _ F) hd1 hg1; clear hd1 ho1 hg1) | (go_at_call 44; (with_reducible refine (OP.out _ _ _ (hst.rs 0 rfl)).mono ?_); rintro e1 w1 ⟨z, a, rfl, hgz, hga, hne, hz1, ha1, ho1⟩; replace hst := hst.new2 ho1 hz1 ha1 hgz hga hne; clear hgz hga hne hz1 ha1 ho1) | ((with_reducible refine wpL_isAlloc rfl ?_); refine wpL_allocD hst rfl 77 rfl (.agg #[.string ⟨#[]⟩, .string ⟨#[]⟩, .string ⟨#[]⟩, .string ⟨#[]⟩, .string ⟨#[]⟩]) [.string ⟨#[]⟩, .string ⟨#[]⟩, .string ⟨#[]⟩, .string ⟨#[]⟩, .string ⟨#[]⟩] (by kernel_rfl) rfl _ rfl ?_; clear hst; intro w1 bs hbs hst) | ((with_reducible refine wpL_isAlloc rfl ?_); refine wpL_allocD hst rfl 78 rfl (.agg #[.bool false, .bool false, .bool false, .bool false, .bool false]) [.bool false, .bool false, .bool false, .bool false, .bool false] (by kernel_rfl) rfl _ rfl ?_; clear hst; intro w1 bb hbb hst)
    | ((with_reducible refine wpL_isStore rfl ?_); first | (refine wpL_storeD hst rfl (ty := 77) rfl 0 rfl rfl rfl (by kernel_rfl) (by kernel_rfl) rfl rfl ?_; clear hst; intro w1 hst; simp only [List.set] at hst) | (refine wpL_storeD hst rfl (ty := 78) rfl 0 rfl rfl rfl (by kernel_rfl) (by kernel_rfl) rfl rfl ?_; clear hst; intro w1 hst; simp only [List.set] at hst) | (refine wpL_store1D hst rfl rfl 0 rfl rfl rfl rfl (by kernel_rfl) rfl ?_; clear hst; intro w1 hst; simp only [List.set] at hst))
    | (go_at_call 45; (with_reducible refine (CH.out _ _ _ _ (hst.blk 0 rfl) (hst.blk 1 rfl) (hst.st.neq 0 1 rfl rfl (by decide))).mono ?_); rintro e1 w1 ⟨rfl, ho1⟩; replace hst := hst.keep ho1; clear ho1))
  go_loopw [13] (fun i wr => ∃ (j : Nat) (m : DM) (F1 : List Nat) (SA : List ByteArray) (LA : List Bool), j ≤ l.length ∧ i = .int .i64 (j : Int) ∧ Hid (ApS l n j m SA LA) ∧ Sd w [] wr [⟨bb, LA.map Value.bool, 78, true⟩, ⟨bs, SA.map Value.string, 77, true⟩, ⟨a, slcells z 40, 80, true⟩, ⟨z, zcells d 0 16, 34, true⟩] [diskR d m F1, boolsQ (.slice ak keep.length ck) keep kb]) (fun i _ => (l.length - intOf i).toNat)
  case atStart => exact ⟨0, D0, F, _, _, by omega, rfl, hA0, hst⟩
  case round =>
    clear hst hA0 DN OP
    obtain ⟨j, m, F1, SA, LA, hj, rfl, HI, hst⟩ := hrel
    have hj12 : (j : Int) ≤ 12 := by omega
    by_cases hlt : j < l.length
    · have j1 : (j : Int) < l.length := by omega
      have HJ : Hid (j + 1 ≤ l.length) := hlt
      obtain ⟨bk, o, rfl, hcl⟩ := strs_at HV.out j hlt
      have HC := Lib.hid hcl
      clear hcl
      have HX : Hid (txtA l j = txtA l j) := rfl
      by_cases x1 : 40 < ((txtA l j).size : Int)
      · have e1 : decide (40 < ((txtA l j).size : Int)) = true := decide_eq_true x1
        generalize txtA l j = x at *
        clear x1 HI
        go_wp2_with (first | ((with_reducible refine wpL_peel rfl ?_ ?_); focus (go_simp; done)) | ((with_reducible refine wpL_isLoad rfl ?_); refine wpL_load1C rfl rfl rfl (HC.out _ hst.only) (by kernel_rfl) ?_))
        go_ret
        exact ⟨rfl, hst.only⟩
      have e1 : decide (40 < ((txtA l j).size : Int)) = false := decide_eq_false x1
      by_cases x2 : ((txtA l j).size : Int) = 0
      · have e2 : (((txtA l j).size : Int) == 0) = true := by rw [x2]; rfl
        generalize txtA l j = x at *
        clear x1 x2 HI
        go_wp2_with (first | ((with_reducible refine wpL_peel rfl ?_ ?_); focus (go_simp; done)) | ((with_reducible refine wpL_isLoad rfl ?_); refine wpL_load1C rfl rfl rfl (HC.out _ hst.only) (by kernel_rfl) ?_))
        go_ret
        exact ⟨rfl, hst.only⟩
      have e2 : (((txtA l j).size : Int) == 0) = false := beq_eq_false_iff_ne.2 x2
      have f1 : 1 ≤ (txtA l j).size := by omega
      have f2 : (txtA l j).size ≤ 40 := by omega
      have ht : (j : Int) * 7 % 5 = (tgt j : Int) := by unfold tgt; omega
      have htl := tgt_lt j
      have hti : (tgt j : Int) < 5 := by omega
      have HL1 : Hid (Nat.ble (tgt j + 1) ((SA.map Value.string)).length = true) := by show Nat.ble _ _ = true; rw [List.length_map, HI.out.sl]; exact Nat.ble_eq_true_of_le (by omega)
      have HL2 : Hid (Nat.ble (tgt j + 1) ((LA.map Value.bool)).length = true) := by show Nat.ble _ _ = true; rw [List.length_map, HI.out.ll]; exact Nat.ble_eq_true_of_le (by omega)
      have hfew := HI.out.few (by omega)
      have hlen := HI.out.len
      rcases Nat.lt_or_ge j n with hjn | hjn
      · as_aux_lemma =>
        obtain ⟨a1, a2⟩ := HI.out.early hjn (by omega) f1 f2
        have c1 : ((j : Int) == (n : Int)) = false := beq_eq_false_iff_ne.2 (by omega)
        have c2 : (j : Int) < (n : Int) := by omega
        have PT : Hid (∀ F w, Blk w a (slcells z 40) 80 → Blk w z (zcells d 0 16) 34 → DiskAt w d m F → a ≠ z → a ∉ F → z ∉ F → Calls Try.prog 46 #[.pointer (some ⟨a, 0, none⟩), .int .i64 (tgt j : Int), .int .i64 ((j : Int) + 1), .string (txtA l j)] w fun e w' => ∃ F', e = .returned (.int .i64 0) ∧ DiskAt w' d (putR m 0 16 ((tgt j : Int) * 3) ((j : Int) + 1) (txtA l j)).1 F' ∧ Turn F F' w w') := fun F w h1 h2 h3 h4 h5 h6 => PTG.out a z d m F w (tgt j) ((j : Int) + 1) (txtA l j) h1 h2 h3 h4 h5 h6 hfew htl f2 hlen a1
        generalize (putR m 0 16 ((tgt j : Int) * 3) ((j : Int) + 1) (txtA l j)).1 = m2 at *
        have NI := Lib.hid a2
        generalize txtA l j = x at *
        generalize tgt j = p at *
        clear x1 x2 f1 f2 HI a1 a2 hfew hlen hjn htl HX
        go_wp2_with (first | ((with_reducible refine wpL_peel rfl ?_ ?_); focus (go_simp; done)) | ((with_reducible refine wpL_isLoad rfl ?_); refine wpL_load1C rfl rfl rfl (HC.out _ hst.only) (by kernel_rfl) ?_) | (go_at_call 46; (with_reducible refine (PT.out _ _ (hst.blk 2 rfl) (hst.blk 3 rfl) (hst.rs 0 rfl) (hst.st.neq 2 3 rfl rfl (by decide)) (hst.away 2 0 rfl rfl) (hst.away 3 0 rfl rfl)).mono ?_); rintro e1 w1 ⟨F1, rfl, hd1, ht1⟩; replace hst := hst.act 0 rfl (diskR _ _ F1) rfl ht1 hd1; simp only [List.set] at hst; clear hd1 ht1) | ((with_reducible refine wpL_isStore rfl ?_); refine wpL_store1D hst rfl rfl 1 rfl rfl HL1.out rfl rfl rfl ?_; clear hst; intro w1 hst; simp only [List.set] at hst))
        go_roundw
        case rel => exact ⟨j + 1, m2, _, _, _, HJ.out, by go_num, NI, by rw [List.map_set]; exact hst⟩
        case measure => simp [intOf]; omega
      · rcases Nat.eq_or_lt_of_le hjn with hjn2 | hjn2
        · as_aux_lemma =>
          obtain ⟨b1, b2⟩ := (show ApS l n n m SA LA from by have := HI.out; rw [← hjn2] at this; exact this).sync
          obtain ⟨ms, ems⟩ : ∃ ms, ms = m.sync := ⟨_, rfl⟩
          rw [← ems] at b2
          have SY : Hid (∀ F w, DiskAt w d m F → Calls Try.prog 17 #[.pointer (some ⟨d, 0, none⟩)] w fun e w' => ∃ F', e = .returned (.int .i64 0) ∧ DiskAt w' d ms F' ∧ Turn F F' w w') := fun F w h => by
            have := dskSync_any d m F w h (by omega) (by omega)
            rw [b1, ← ems] at this
            exact this
          have hlen2 := b2.len
          have hfew2 : ms.loose.length ≤ 100 := by rw [b2.lo, Nat.sub_self]; exact Nat.zero_le _
          obtain ⟨a1, a2⟩ := HI.out.later hjn (m' := ms) (by rw [← hjn2]; exact b2) (by omega) f1 f2
          have c1 : ((j : Int) == (n : Int)) = true := beq_iff_eq.2 (by omega)
          have c2 : ¬ (j : Int) < (n : Int) := by omega
          have PT : Hid (∀ F w, Blk w a (slcells z 40) 80 → Blk w z (zcells d 0 16) 34 → DiskAt w d ms F → a ≠ z → a ∉ F → z ∉ F → Calls Try.prog 46 #[.pointer (some ⟨a, 0, none⟩), .int .i64 (tgt j : Int), .int .i64 ((j : Int) + 1), .string (txtA l j)] w fun e w' => ∃ F', e = .returned (.int .i64 0) ∧ DiskAt w' d (putR ms 0 16 ((tgt j : Int) * 3) ((j : Int) + 1) (txtA l j)).1 F' ∧ Turn F F' w w') := fun F w h1 h2 h3 h4 h5 h6 => PTG.out a z d ms F w (tgt j) ((j : Int) + 1) (txtA l j) h1 h2 h3 h4 h5 h6 hfew2 htl f2 hlen2 a1
          generalize (putR ms 0 16 ((tgt j : Int) * 3) ((j : Int) + 1) (txtA l j)).1 = m2 at *
          have NI := Lib.hid a2
          generalize txtA l j = x at *
          generalize tgt j = p at *
          clear x1 x2 f1 f2 HI a1 a2 hfew hlen hjn htl HX b1 b2 hlen2 hfew2 ems hjn2
          go_wp2_with (first | ((with_reducible refine wpL_peel rfl ?_ ?_); focus (go_simp; done)) | ((with_reducible refine wpL_isLoad rfl ?_); refine wpL_load1C rfl rfl rfl (HC.out _ hst.only) (by kernel_rfl) ?_) | (go_at_call 17; (with_reducible refine (SY.out _ _ (hst.rs 0 rfl)).mono ?_); rintro e1 w1 ⟨F1, rfl, hd1, ht1⟩; replace hst := hst.act 0 rfl (diskR _ _ F1) rfl ht1 hd1; simp only [List.set] at hst; clear hd1 ht1) | (go_at_call 46; (with_reducible refine (PT.out _ _ (hst.blk 2 rfl) (hst.blk 3 rfl) (hst.rs 0 rfl) (hst.st.neq 2 3 rfl rfl (by decide)) (hst.away 2 0 rfl rfl) (hst.away 3 0 rfl rfl)).mono ?_); rintro e1 w1 ⟨F1, rfl, hd1, ht1⟩; replace hst := hst.act 0 rfl (diskR _ _ F1) rfl ht1 hd1; simp only [List.set] at hst; clear hd1 ht1) | ((with_reducible refine wpL_isStore rfl ?_); refine wpL_store1D hst rfl rfl 0 rfl rfl HL2.out rfl rfl rfl ?_; clear hst; intro w1 hst; simp only [List.set] at hst) | ((with_reducible refine wpL_peel rfl ?_ ?_); focus (go_simp; done)) | ((with_reducible refine wpL_isLoad rfl ?_); first | (refine wpL_load1S hst.st rfl rfl 0 rfl rfl rfl (by kernel_rfl) ?_) | (refine wpL_load1S hst.st rfl rfl 1 rfl rfl rfl (by kernel_rfl) ?_) | (refine wpL_load1S hst.st rfl rfl 2 rfl rfl rfl (by kernel_rfl) ?_) | (refine wpL_load1S hst.st rfl rfl 3 rfl rfl rfl (by kernel_rfl) ?_)))
          go_roundw
          case rel => exact ⟨j + 1, m2, _, _, _, HJ.out, by go_num, NI, by rw [List.map_set]; exact hst⟩
          case measure => simp [intOf]; omega
        · as_aux_lemma =>
          obtain ⟨a1, a2⟩ := HI.out.later hjn (HI.out.post hjn2) (by omega) f1 f2
          have c1 : ((j : Int) == (n : Int)) = false := beq_eq_false_iff_ne.2 (by omega)
          have c2 : ¬ (j : Int) < (n : Int) := by omega
          have PT : Hid (∀ F w, Blk w a (slcells z 40) 80 → Blk w z (zcells d 0 16) 34 → DiskAt w d m F → a ≠ z → a ∉ F → z ∉ F → Calls Try.prog 46 #[.pointer (some ⟨a, 0, none⟩), .int .i64 (tgt j : Int), .int .i64 ((j : Int) + 1), .string (txtA l j)] w fun e w' => ∃ F', e = .returned (.int .i64 0) ∧ DiskAt w' d (putR m 0 16 ((tgt j : Int) * 3) ((j : Int) + 1) (txtA l j)).1 F' ∧ Turn F F' w w') := fun F w h1 h2 h3 h4 h5 h6 => PTG.out a z d m F w (tgt j) ((j : Int) + 1) (txtA l j) h1 h2 h3 h4 h5 h6 hfew htl f2 hlen a1
          generalize (putR m 0 16 ((tgt j : Int) * 3) ((j : Int) + 1) (txtA l j)).1 = m2 at *
          have NI := Lib.hid a2
          generalize txtA l j = x at *
          generalize tgt j = p at *
          clear x1 x2 f1 f2 HI a1 a2 hfew hlen hjn htl HX hjn2
          go_wp2_with (first | ((with_reducible refine wpL_peel rfl ?_ ?_); focus (go_simp; done)) | ((with_reducible refine wpL_isLoad rfl ?_); refine wpL_load1C rfl rfl rfl (HC.out _ hst.only) (by kernel_rfl) ?_) | (go_at_call 46; (with_reducible refine (PT.out _ _ (hst.blk 2 rfl) (hst.blk 3 rfl) (hst.rs 0 rfl) (hst.st.neq 2 3 rfl rfl (by decide)) (hst.away 2 0 rfl rfl) (hst.away 3 0 rfl rfl)).mono ?_); rintro e1 w1 ⟨F1, rfl, hd1, ht1⟩; replace hst := hst.act 0 rfl (diskR _ _ F1) rfl ht1 hd1; simp only [List.set] at hst; clear hd1 ht1) | ((with_reducible refine wpL_isStore rfl ?_); refine wpL_store1D hst rfl rfl 0 rfl rfl HL2.out rfl rfl rfl ?_; clear hst; intro w1 hst; simp only [List.set] at hst))
          go_roundw
          case rel => exact ⟨j + 1, m2, _, _, _, HJ.out, by go_num, NI, by rw [List.map_set]; exact hst⟩
          case measure => simp [intOf]; omega
    · obtain rfl : j = l.length := by omega
      have j1 : ¬ (l.length : Int) < (l.length : Int) := by omega
      have CUG : Hid (∀ m F w, m.loose.length ≤ 100 → m.len = 16 → DiskAt w d m F → Bools w (.slice ak keep.length ck) keep kb → (∀ b ∈ kb, b ∉ F) → Calls Try.prog 19 #[.pointer (some ⟨d, 0, none⟩), .slice ak keep.length ck] w fun e w' => ∃ F', e = .returned (.tuple #[]) ∧ DiskAt w' d (m.cut keep) F' ∧ Turn F F' w w') := fun m F w h0 h1 h2 h3 h4 => dskCut_any d m F _ keep kb w h2 (by omega) h3 h4 (by omega)
      have CMG : Hid (∀ m F w, m.len = 16 → DiskAt w d m F → Calls Try.prog 20 #[.pointer (some ⟨d, 0, none⟩)] w fun e w' => ∃ F', e = .returned (.tuple #[]) ∧ DiskAt w' d m.come F' ∧ Turn F F' w w') := fun m F w h0 h => by
        refine (dskCome_any d m F w h (by omega)).mono ?_
        rintro e w' ⟨h1, h2, h3⟩
        exact ⟨F, h1, h2, h3⟩
      have hfew := HI.out.few (by omega)
      have hlen := HI.out.len
      have HSL := Lib.hid HI.out.sl
      have HLL := Lib.hid HI.out.ll
      obtain ⟨ms, hms, hsy⟩ : ∃ ms, AptD ms (laid zero16 (aptL l 0 n)) (aptL l n (l.length - n)) ∧ ((n = l.length ∧ m.syncE = 0 ∧ ms = m.sync) ∨ (n < l.length ∧ ms = m)) := by
        rcases Nat.eq_or_lt_of_le HNL.out with e | e
        · obtain ⟨b1, b2⟩ := (show ApS l n n m SA LA from by have := HI.out; rw [← e] at this; exact this).sync
          exact ⟨m.sync, by rw [← e]; exact b2, .inl ⟨e, b1, rfl⟩⟩
        · exact ⟨m, HI.out.post e, .inr ⟨e, rfl⟩⟩
      have hlen2 := hms.len
      have hfew2 : ms.loose.length ≤ 100 := by
        rw [hms.lo]
        have := aptL_length (lo := n) HI.out.fit (l.length - n) (by have := HNL.out; omega)
        omega
      have LAW : Hid (∀ k : Nat, k < 5 → ∃ t g f, slotG 40 (getR (ms.cut keep).come 0 16 ((k : Int) * 3)) = (t, g, f) ∧
          (LA.getD k false = true → f ≠ 0 ∨ t = SA.getD k ⟨#[]⟩ ∨ ∃ j, n ≤ j ∧ j < l.length ∧ tgt j = k ∧ t = txtA l j) ∧
          (LA.getD k false = false → (SA.getD k ⟨#[]⟩ = ⟨#[]⟩ ∧ f ≠ 0) ∨ (SA.getD k ⟨#[]⟩ ≠ ⟨#[]⟩ ∧ f = 0 ∧ t = SA.getD k ⟨#[]⟩))) := fun k hk => HI.out.law HNL.out (by omega) hms keep k hk
      have hlc : (ms.cut keep).len = 16 := by unfold DM.len; rw [show (ms.cut keep).safe = laid ms.safe (keptL keep ms.loose) from by unfold DM.cut; rw [hms.aw]; rfl, laid_length, hms.sa]; exact hms.le
      have CU : Hid (∀ F w, DiskAt w d ms F → Bools w (.slice ak keep.length ck) keep kb → (∀ b ∈ kb, b ∉ F) → Calls Try.prog 19 #[.pointer (some ⟨d, 0, none⟩), .slice ak keep.length ck] w fun e w' => ∃ F', e = .returned (.tuple #[]) ∧ DiskAt w' d (ms.cut keep) F' ∧ Turn F F' w w') := fun F w h1 h2 h3 => CUG.out ms F w hfew2 hlen2 h1 h2 h3
      have CM : Hid (∀ F w, DiskAt w d (ms.cut keep) F → Calls Try.prog 20 #[.pointer (some ⟨d, 0, none⟩)] w fun e w' => ∃ F', e = .returned (.tuple #[]) ∧ DiskAt w' d (ms.cut keep).come F' ∧ Turn F F' w w') := fun F w h => CMG.out (ms.cut keep) F w hlc h
      have hlo5 : (ms.cut keep).come.loose.length ≤ 100 := by rw [(hms.cut keep).lo]; exact Nat.zero_le _
      have GTL : Hid (∀ (k : Nat) F w, k < 5 → Blk w a (slcells z 40) 80 → Blk w z (zcells d 0 16) 34 → DiskAt w d (ms.cut keep).come F → a ≠ z → a ∉ F → z ∉ F → Calls Try.prog 51 #[.pointer (some ⟨a, 0, none⟩), .int .i64 (k : Int)] w fun e w' => e = .returned (.tuple #[.string (slotG 40 (getR (ms.cut keep).come 0 16 ((k : Int) * 3))).1, .int .i64 (slotG 40 (getR (ms.cut keep).come 0 16 ((k : Int) * 3))).2.1, .int .i64 (slotG 40 (getR (ms.cut keep).come 0 16 ((k : Int) * 3))).2.2]) ∧ Only [] w w') := fun k F w h0 h1 h2 h3 h4 h5 h6 => GTG.out a z d _ F w k h1 h2 h3 h4 h5 h6 hlo5 h0
      have SYG : Hid (∀ F w, m.syncE = 0 → ms = m.sync → DiskAt w d m F → Calls Try.prog 17 #[.pointer (some ⟨d, 0, none⟩)] w fun e w' => ∃ F', e = .returned (.int .i64 0) ∧ DiskAt w' d ms F' ∧ Turn F F' w w') := fun F w b1 ems h => by
        have := dskSync_any d m F w h (by omega) (by omega)
        rw [b1, ← ems] at this
        exact this
      generalize (ms.cut keep).come = M at *
      generalize ms.cut keep = mc at *
      clear hlc hlo5 hms hlen2 hfew2 CUG CMG GTG PTG CH HI hfew hlen hlt hj hj12 hn hwl n0
      rcases hsy with ⟨e1, e2, e3⟩ | ⟨e1, e3⟩
      all_goals first | (have c1 : ((n : Int) == (l.length : Int)) = true := beq_iff_eq.2 (by omega)) | (have c1 : ((n : Int) == (l.length : Int)) = false := beq_eq_false_iff_ne.2 (by omega))
      case' inl => have SY : Hid (∀ F w, DiskAt w d m F → Calls Try.prog 17 #[.pointer (some ⟨d, 0, none⟩)] w fun e w' => ∃ F', e = .returned (.int .i64 0) ∧ DiskAt w' d ms F' ∧ Turn F F' w w') := fun F w h => SYG.out F w e2 e3 h
      case' inr =>
        subst e3
        have SY := Lib.hid True.intro
      all_goals
        as_aux_lemma =>
        clear SYG e1
        try clear e2 e3
        go_wp2_with (first | ((with_reducible refine wpL_peel rfl ?_ ?_); focus (go_simp; done)) | (go_at_call 17; (with_reducible refine (SY.out _ _ (hst.rs 0 rfl)).mono ?_); rintro e1 w1 ⟨F1, rfl, hd1, ht1⟩; replace hst := hst.act 0 rfl (diskR _ _ F1) rfl ht1 hd1; simp only [List.set] at hst; clear hd1 ht1) | (go_at_call 19; (with_reducible refine (CU.out _ _ (hst.rs 0 rfl) (hst.rs 1 rfl) hst.apartB).mono ?_); rintro e1 w1 ⟨F1, rfl, hd1, ht1⟩; replace hst := hst.act 0 rfl (diskR _ _ F1) rfl ht1 hd1; simp only [List.set] at hst; clear hd1 ht1) | (go_at_call 20; (with_reducible refine (CM.out _ _ (hst.rs 0 rfl)).mono ?_); rintro e1 w1 ⟨F1, rfl, hd1, ht1⟩; replace hst := hst.act 0 rfl (diskR _ _ F1) rfl ht1 hd1; simp only [List.set] at hst; clear hd1 ht1) | ((with_reducible refine wpL_peel rfl ?_ ?_); focus (go_simp; done)) | ((with_reducible refine wpL_isLoad rfl ?_); first | (refine wpL_load1S hst.st rfl rfl 0 rfl rfl rfl (by kernel_rfl) ?_) | (refine wpL_load1S hst.st rfl rfl 1 rfl rfl rfl (by kernel_rfl) ?_) | (refine wpL_load1S hst.st rfl rfl 2 rfl rfl rfl (by kernel_rfl) ?_) | (refine wpL_load1S hst.st rfl rfl 3 rfl rfl rfl (by kernel_rfl) ?_)))
        go_loopw [15] (fun i wr => ∃ (k : Nat), k ≤ 5 ∧ i = .int .i64 (k : Int) ∧ Sd w [] wr [⟨bb, LA.map Value.bool, 78, true⟩, ⟨bs, SA.map Value.string, 77, true⟩, ⟨a, slcells z 40, 80, true⟩, ⟨z, zcells d 0 16, 34, true⟩] [diskR d M F1, boolsQ (.slice ak keep.length ck) keep kb]) (fun i _ => (5 - intOf i).toNat)
        case atStart => exact ⟨0, by omega, rfl, hst⟩
        case round =>
          clear hst CU CM SY
          obtain ⟨k, hk, rfl, hst⟩ := hrel
          by_cases hk5 : k < 5
          · have k1 : (k : Int) < 5 := by omega
            have HK : Hid (k + 1 ≤ 5) := hk5
            obtain ⟨t, g, f, hG, law1, law2⟩ := LAW.out k hk5
            have GT : Hid (∀ F w, Blk w a (slcells z 40) 80 → Blk w z (zcells d 0 16) 34 → DiskAt w d M F → a ≠ z → a ∉ F → z ∉ F → Calls Try.prog 51 #[.pointer (some ⟨a, 0, none⟩), .int .i64 (k : Int)] w fun e w' => e = .returned (.tuple #[.string t, .int .i64 g, .int .i64 f]) ∧ Only [] w w') := fun F w h1 h2 h3 h4 h5 h6 => by
              have := GTL.out k F w hk5 h1 h2 h3 h4 h5 h6
              rw [hG] at this
              exact this
            have SC : Hid (∀ wr, Blk wr bs (SA.map Value.string) 77 → wr.cell? ⟨bs, k, none⟩ = some (.string (SA.getD k ⟨#[]⟩))) := fun wr h => h.cell (by
              rw [List.getElem?_map, List.getD_eq_getElem?_getD, List.getElem?_eq_getElem (by have := HSL.out; omega)]; rfl)
            have LC : Hid (∀ wr, Blk wr bb (LA.map Value.bool) 78 → wr.cell? ⟨bb, k, none⟩ = some (.bool (LA.getD k false))) := fun wr h => h.cell (by
              rw [List.getElem?_map, List.getD_eq_getElem?_getD, List.getElem?_eq_getElem (by have := HLL.out; omega)]; rfl)
            generalize SA.getD k ⟨#[]⟩ = sv at *
            cases hLA : LA.getD k false
            · rw [hLA] at LC
              have law := law2 hLA
              clear law1 law2 hLA hG
              rcases law with ⟨rfl, hf⟩ | ⟨hs, rfl, rfl⟩
              · as_aux_lemma =>
                have hf0 : (f == 0) = false := beq_eq_false_iff_ne.2 hf
                clear hf
                go_wp2_with (first | ((with_reducible refine wpL_peel rfl ?_ ?_); focus (go_simp; done)) | (go_at_call 51; (with_reducible refine (GT.out _ _ (hst.blk 2 rfl) (hst.blk 3 rfl) (hst.rs 0 rfl) (hst.st.neq 2 3 rfl rfl (by decide)) (hst.away 2 0 rfl rfl) (hst.away 3 0 rfl rfl)).mono ?_); rintro e1 w1 ⟨rfl, ho1⟩; replace hst := hst.keep ho1; clear ho1) | ((with_reducible refine wpL_isLoad rfl ?_); refine wpL_load1C rfl rfl rfl (SC.out _ (hst.blk 1 rfl)) (by kernel_rfl) ?_) | ((with_reducible refine wpL_isLoad rfl ?_); refine wpL_load1C rfl rfl rfl (LC.out _ (hst.blk 0 rfl)) (by kernel_rfl) ?_) | ((with_reducible refine wpL_isBin rfl ?_); first | (refine wpL_eql_same rfl 9 _ _ _ rfl _ rfl rfl ?_) | (refine wpL_neqStrT rfl rfl ⟨#[]⟩ ⟨#[]⟩ rfl rfl true (decide_eq_true rfl) ?_)))
                go_roundw
                case rel => exact ⟨k + 1, HK.out, by go_num, hst⟩
                case measure => simp [intOf]; omega
              · as_aux_lemma =>
                have EE : Hid (decide (t = (⟨#[]⟩ : ByteArray)) = false) := decide_eq_false hs
                have ES : Hid (decide (t = t) = true) := decide_eq_true rfl
                clear hs
                go_wp2_with (first | ((with_reducible refine wpL_peel rfl ?_ ?_); focus (go_simp; done)) | (go_at_call 51; (with_reducible refine (GT.out _ _ (hst.blk 2 rfl) (hst.blk 3 rfl) (hst.rs 0 rfl) (hst.st.neq 2 3 rfl rfl (by decide)) (hst.away 2 0 rfl rfl) (hst.away 3 0 rfl rfl)).mono ?_); rintro e1 w1 ⟨rfl, ho1⟩; replace hst := hst.keep ho1; clear ho1) | ((with_reducible refine wpL_isLoad rfl ?_); refine wpL_load1C rfl rfl rfl (SC.out _ (hst.blk 1 rfl)) (by kernel_rfl) ?_) | ((with_reducible refine wpL_isLoad rfl ?_); refine wpL_load1C rfl rfl rfl (LC.out _ (hst.blk 0 rfl)) (by kernel_rfl) ?_) | ((with_reducible refine wpL_isBin rfl ?_); first | (refine wpL_eqlStrT rfl rfl t ⟨#[]⟩ rfl rfl false EE.out ?_) | (refine wpL_neqStrT rfl rfl t ⟨#[]⟩ rfl rfl false EE.out ?_) | (refine wpL_neqStrT rfl rfl t t rfl rfl true ES.out ?_)))
                go_roundw
                case rel => exact ⟨k + 1, HK.out, by go_num, hst⟩
                case measure => simp [intOf]; omega
            · rw [hLA] at LC
              have law := law1 hLA
              clear law1 law2 hLA hG
              have key : (f ≠ 0 ∧ True) ∨ (f = 0 ∧ t = sv) ∨ (f = 0 ∧ t ≠ sv ∧ ∃ j, n ≤ j ∧ j < l.length ∧ tgt j = k ∧ t = txtA l j) := by
                by_cases hf : f = 0
                · by_cases hts : t = sv
                  · exact .inr (.inl ⟨hf, hts⟩)
                  · refine .inr (.inr ⟨hf, hts, ?_⟩)
                    rcases law with h | h | h
                    · exact absurd hf h
                    · exact absurd h hts
                    · exact h
                · exact .inl ⟨hf, trivial⟩
              clear law
              rcases key with ⟨hf, _⟩ | ⟨rfl, hd⟩ | ⟨rfl, hd, he⟩
              case' inl =>
                have hf0 : (f == 0) = false := beq_eq_false_iff_ne.2 hf
                have HD := Lib.hid True.intro
                have HB0 : Hid (FndA l k t true n) := .inl rfl
                have hf : ¬ f = 0 := hf
              case' inr.inl =>
                have HD : Hid (decide (t = sv) = true) := decide_eq_true hd
                have HB0 : Hid (FndA l k t true n) := .inl rfl
                clear hd
              case' inr.inr =>
                have HD : Hid (decide (t = sv) = false) := decide_eq_false hd
                have HB0 : Hid (FndA l k t false n) := .inr he
                clear hd he
              all_goals
                as_aux_lemma =>
                go_wp2_with (first | ((with_reducible refine wpL_peel rfl ?_ ?_); focus (go_simp; done)) | (go_at_call 51; (with_reducible refine (GT.out _ _ (hst.blk 2 rfl) (hst.blk 3 rfl) (hst.rs 0 rfl) (hst.st.neq 2 3 rfl rfl (by decide)) (hst.away 2 0 rfl rfl) (hst.away 3 0 rfl rfl)).mono ?_); rintro e1 w1 ⟨rfl, ho1⟩; replace hst := hst.keep ho1; clear ho1) | ((with_reducible refine wpL_isLoad rfl ?_); refine wpL_load1C rfl rfl rfl (SC.out _ (hst.blk 1 rfl)) (by kernel_rfl) ?_) | ((with_reducible refine wpL_isLoad rfl ?_); refine wpL_load1C rfl rfl rfl (LC.out _ (hst.blk 0 rfl)) (by kernel_rfl) ?_) | ((with_reducible refine wpL_isBin rfl ?_); (refine wpL_eqlStrT rfl rfl t sv rfl rfl _ HD.out ?_)))
                go_loopw [19, 20] (fun fd i wr => ∃ (b : Bool) (j : Nat), j ≤ l.length ∧ fd = .bool b ∧ i = .int .i64 (j : Int) ∧ Hid (FndA l k t b j) ∧ Sd w [] wr [⟨bb, LA.map Value.bool, 78, true⟩, ⟨bs, SA.map Value.string, 77, true⟩, ⟨a, slcells z 40, 80, true⟩, ⟨z, zcells d 0 16, 34, true⟩] [diskR d M F1, boolsQ (.slice ak keep.length ck) keep kb]) (fun _ i _ => (l.length - intOf i).toNat)
                case atStart => exact ⟨_, n, HNL.out, rfl, rfl, HB0, hst⟩
                case round =>
                  clear hst HB0 HD GT SC LC
                  obtain ⟨b, j, hj, rfl, rfl, HB, hst⟩ := hrel
                  by_cases hlt : j < l.length
                  · have j1 : (j : Int) < l.length := by omega
                    have j12 : (j : Int) ≤ 12 := by omega
                    have HJ : Hid (j + 1 ≤ l.length) := hlt
                    cases b
                    · obtain ⟨bk, o, rfl, hcl⟩ := strs_at HV.out j hlt
                      have HC := Lib.hid hcl
                      clear hcl
                      have HQ := HB.out
                      clear HB
                      have HQ : ∃ q, j ≤ q ∧ q < l.length ∧ tgt q = k ∧ t = txtA l q := by
                        rcases HQ with h | h
                        · cases h
                        · exact h
                      have ht : (j : Int) * 7 % 5 = (tgt j : Int) := by unfold tgt; omega
                      by_cases c2 : tgt j = k
                      · have c3 : ((tgt j : Int) == (k : Int)) = true := beq_iff_eq.2 (by omega)
                        by_cases c4 : t = txtA l j
                        · as_aux_lemma =>
                          have HD : Hid (decide (t = txtA l j) = true) := decide_eq_true c4
                          have NB : Hid (FndA l k t true (j + 1)) := .inl rfl
                          clear HQ c2 c4
                          generalize tgt j = p at *
                          generalize txtA l j = x at *
                          go_wp2_with (first | ((with_reducible refine wpL_peel rfl ?_ ?_); focus (go_simp; done)) | ((with_reducible refine wpL_isLoad rfl ?_); refine wpL_load1C rfl rfl rfl (HC.out _ hst.only) (by kernel_rfl) ?_) | ((with_reducible refine wpL_isBin rfl ?_); (refine wpL_eqlStrT rfl rfl t x rfl rfl _ HD.out ?_)))
                          go_roundw
                          case rel => exact ⟨true, j + 1, HJ.out, rfl, by go_num, NB, hst⟩
                          case measure => simp [intOf]; omega
                        · as_aux_lemma =>
                          have HD : Hid (decide (t = txtA l j) = false) := decide_eq_false c4
                          have NB : Hid (FndA l k t false (j + 1)) := .inr (by
                            obtain ⟨q, q1, q2, q3, q4⟩ := HQ
                            have : q ≠ j := fun e => c4 (by rw [← e]; exact q4)
                            exact ⟨q, by omega, q2, q3, q4⟩)
                          clear HQ c2 c4
                          generalize tgt j = p at *
                          generalize txtA l j = x at *
                          go_wp2_with (first | ((with_reducible refine wpL_peel rfl ?_ ?_); focus (go_simp; done)) | ((with_reducible refine wpL_isLoad rfl ?_); refine wpL_load1C rfl rfl rfl (HC.out _ hst.only) (by kernel_rfl) ?_) | ((with_reducible refine wpL_isBin rfl ?_); (refine wpL_eqlStrT rfl rfl t x rfl rfl _ HD.out ?_)))
                          go_roundw
                          case rel => exact ⟨false, j + 1, HJ.out, rfl, by go_num, NB, hst⟩
                          case measure => simp [intOf]; omega
                      · as_aux_lemma =>
                        have c3 : ((tgt j : Int) == (k : Int)) = false := beq_eq_false_iff_ne.2 (by omega)
                        have NB : Hid (FndA l k t false (j + 1)) := .inr (by
                          obtain ⟨q, q1, q2, q3, q4⟩ := HQ
                          have : q ≠ j := fun e => c2 (by rw [← e]; exact q3)
                          exact ⟨q, by omega, q2, q3, q4⟩)
                        clear HQ c2
                        generalize tgt j = p at *
                        generalize txtA l j = x at *
                        go_wp2_with (first | ((with_reducible refine wpL_peel rfl ?_ ?_); focus (go_simp; done)) | ((with_reducible refine wpL_isLoad rfl ?_); refine wpL_load1C rfl rfl rfl (HC.out _ hst.only) (by kernel_rfl) ?_))
                        go_roundw
                        case rel => exact ⟨false, j + 1, HJ.out, rfl, by go_num, NB, hst⟩
                        case measure => simp [intOf]; omega
                    · as_aux_lemma =>
                      have NB : Hid (FndA l k t true (j + 1)) := .inl rfl
                      clear HB
                      go_wp2_with (first | ((with_reducible refine wpL_peel rfl ?_ ?_); focus (go_simp; done)))
                      go_roundw
                      case rel => exact ⟨true, j + 1, HJ.out, rfl, by go_num, NB, hst⟩
                      case measure => simp [intOf]; omega
                  · as_aux_lemma =>
                    have j1 : ¬ (j : Int) < l.length := by omega
                    obtain rfl : b = true := by
                      rcases HB.out with h | ⟨q, q1, q2, _⟩
                      · exact h
                      · omega
                    clear HB
                    go_wp2_with (first | ((with_reducible refine wpL_peel rfl ?_ ?_); focus (go_simp; done)))
                    go_roundw
                    case rel => exact ⟨k + 1, HK.out, by go_num, hst⟩
                    case measure => simp [intOf]; omega
          · as_aux_lemma =>
            obtain rfl : k = 5 := by omega
            have k1 : ¬ ((5 : Nat) : Int) < 5 := by omega
            go_wp2_with (first | ((with_reducible refine wpL_peel rfl ?_ ?_); focus (go_simp; done)))
            go_ret
            exact ⟨rfl, hst.only⟩
end Go.Proofs.Ytmogkiacakkmbaa
