/- The law SlotAll, walked. -/
import Derived.Test.YtmogkiacakkmbaaSlotH
namespace Go.Proofs.Ytmogkiacakkmbaa
open Go.RowKit

theorem cellQ {w w' : World} {b k : Nat} {u : Value} (h : w.cell? ⟨b, k, none⟩ = some u) (ho : Only [] w w') : w'.cell? ⟨b, k, none⟩ = some u := by
  have hlt : b < w.heap.size := by
    rcases Nat.lt_or_ge b w.heap.size with hl | hl
    · exact hl
    · simp [World.cell?, Array.getElem?_eq_none hl] at h
  rw [ho.cellAt _ _ hlt (by simp)]
  exact h

theorem farM_int (n p : Nat) : farM n (.int .i64 (p : Int)) ≤ n - p := by
  unfold farM
  simp only
  omega

set_option maxRecDepth 100000 in
set_option maxHeartbeats 32000000 in
theorem slotAll_walk (s : ByteArray) (size : Int) (V : Value) (order : List Int) (other : Int) (w : World) (hV : Ints w V order) :
    Calls Try.prog 8 #[.string s, .int .i64 size, V, .int .i64 other] w fun e w' => e = .returned (.bool true) ∧ Only [] w w' := by
  have hst := Sd.start w []
  have AW := Lib.hid awake09_any
  obtain ⟨i, hi, hi2⟩ := rem_idx size 40 (by decide)
  have hi : (IntKind.u64.wrap size).tmod 40 = (i : Int) := hi
  obtain ⟨k, hk⟩ : ∃ k : Nat, 1 + (i : Int) = (k : Int) := ⟨1 + i, by omega⟩
  have hk1 : 1 ≤ k := by omega
  have hk40 : k ≤ 40 := by omega
  by_cases h3 : 200 < (s.size : Int)
  · have d3 : decide (200 < (s.size : Int)) = true := decide_eq_true h3
    clear hV
    go_enter Try.func8, Try.ntmps8
    go_wp2_with (first | (go_at_call 43; (with_reducible refine (AW.out _).mono ?_); rintro e1 w1 ⟨rfl, ho1⟩; replace hst := hst.keep ho1; clear ho1))
    go_ret
    exact ⟨rfl, hst.only⟩
  have d3 : decide (200 < (s.size : Int)) = false := decide_eq_false h3
  by_cases h4 : (s.size : Int) = 0
  · have d4 : ((s.size : Int) == 0) = true := by rw [h4]; rfl
    clear h4 hV
    go_enter Try.func8, Try.ntmps8
    go_wp2_with (first | (go_at_call 43; (with_reducible refine (AW.out _).mono ?_); rintro e1 w1 ⟨rfl, ho1⟩; replace hst := hst.keep ho1; clear ho1))
    go_ret
    exact ⟨rfl, hst.only⟩
  have d4 : ((s.size : Int) == 0) = false := beq_eq_false_iff_ne.2 h4
  by_cases h5 : 20 < ((s.size : Int) + (k : Int) - 1) / (k : Int)
  · have d5 : decide (20 < ((s.size : Int) + (k : Int) - 1) / (k : Int)) = true := decide_eq_true h5
    clear h5 hV
    go_enter Try.func8, Try.ntmps8
    go_wp2_with (first | (go_at_call 43; (with_reducible refine (AW.out _).mono ?_); rintro e1 w1 ⟨rfl, ho1⟩; replace hst := hst.keep ho1; clear ho1))
    go_ret
    exact ⟨rfl, hst.only⟩
  have d5 : decide (20 < ((s.size : Int) + (k : Int) - 1) / (k : Int)) = false := decide_eq_false h5
  obtain ⟨n, en⟩ : ∃ n : Nat, n = (s.size + k - 1) / k := ⟨_, rfl⟩
  have hn : ((s.size : Int) + (k : Int) - 1) / (k : Int) = (n : Int) := by
    rw [en, Int.natCast_ediv]
    congr 1
    omega
  have hnk1 : n * k ≤ s.size + k - 1 := by rw [en]; exact Nat.div_mul_le_self _ _
  have hnk2 : s.size ≤ n * k := by
    have := Nat.lt_div_mul_add (a := s.size + k - 1) (b := k) hk1
    rw [← en] at this
    omega
  rw [hn] at h5 d5
  have hn20 : n ≤ 20 := by omega
  have hn1 : 1 ≤ n := by
    rcases Nat.eq_zero_or_pos n with e | e
    · rw [e] at hnk2; omega
    · exact e
  have hqk : ∀ q, q < n → q * k < s.size := fun q hq => by
    have : (q + 1) * k ≤ n * k := Nat.mul_le_mul_right k hq
    rw [Nat.add_mul] at this
    omega
  have h3k := secsOf_three hk40
  have h2k := secsOf_two k
  have hch : n ≤ chunksN (n * 3) k := by
    unfold chunksN
    have : n ≤ n * 3 / secsOf k := by
      rw [Nat.le_div_iff_mul_le (by omega)]
      exact Nat.mul_le_mul_left n h3k
    omega
  have hst0 := HoldC.start k n s hn20 hk40
  have lenF : (DM.fresh (n * 3)).len = n * 3 := hst0.len
  have HV := Lib.hid hV
  obtain ⟨ad, cp, rfl⟩ : ∃ ad cp, V = .slice ad order.length cp := by
    rcases hV with ⟨⟨a, c, rfl⟩, rfl⟩ | ⟨bk, o, c, rfl, _⟩
    · exact ⟨a, c, rfl⟩
    · exact ⟨_, _, rfl⟩
  have n3 : ((n * 3 : Nat) : Int) = (n : Int) * 3 := by omega
  have DN : Hid (∀ w, Calls Try.prog 14 #[.int .i64 ((n : Int) * 3)] w fun e w' => ∃ d F, e = .returned (.pointer (some ⟨d, 0, none⟩)) ∧ DiskAt w' d (DM.fresh (n * 3)) F ∧ Only [] w w' ∧ (∀ b ∈ F, w.heap.size ≤ b)) := fun w => by
    have := dskNew_any (n * 3) w (by omega)
    rw [n3] at this
    exact this
  have OP : Hid (∀ d F w, DiskAt w d (DM.fresh (n * 3)) F → Calls Try.prog 44 #[.pointer (some ⟨d, 0, none⟩), .int .i64 (k : Int)] w fun e w' => ∃ z a, e = .returned (.tuple #[.pointer (some ⟨a, 0, none⟩), .int .i64 0]) ∧ w.heap.size ≤ z ∧ w.heap.size ≤ a ∧ a ≠ z ∧ Blk w' z (zcells d 0 (n * 3)) 34 ∧ Blk w' a (slcells z k) 80 ∧ Only [] w w') := fun d F w h => by
    have := opened_yes d k (DM.fresh (n * 3)) F w h hk1 (by omega) (by rw [lenF]; omega) (by rw [lenF]; omega)
    rw [lenF] at this
    exact this
  have PTG : Hid (∀ a z d m F w (p : Nat) (g : Int) (x : ByteArray), Blk w a (slcells z k) 80 → Blk w z (zcells d 0 (n * 3)) 34 → DiskAt w d m F → a ≠ z → a ∉ F → z ∉ F → m.loose.length ≤ 700000 → p < n → x.size ≤ k → m.len = n * 3 → (putR m 0 (n * 3) ((p : Int) * (secsOf k : Int)) g x).2 = 0 → Calls Try.prog 46 #[.pointer (some ⟨a, 0, none⟩), .int .i64 (p : Int), .int .i64 g, .string x] w fun e w' => ∃ F', e = .returned (.int .i64 0) ∧ DiskAt w' d (putR m 0 (n * 3) ((p : Int) * (secsOf k : Int)) g x).1 F' ∧ Turn F F' w w') := fun a z d m F w p g x h1 h2 h3 h4 h5 h6 h7 h8 h9 h10 h11 => by
    have := slotPut_yes a z d 0 (n * 3) k m F w h1 h2 h3 h4 h5 h6 (by omega) (by omega) hk1 (by omega) h7 p (by omega) g x h9 (by omega)
    rw [h11] at this
    exact this
  have ALG : Hid (∀ a z d m F w, Blk w a (slcells z k) 80 → Blk w z (zcells d 0 (n * 3)) 34 → DiskAt w d m F → a ≠ z → a ∉ F → z ∉ F → m.loose.length ≤ 700000 → m.away = false → Calls Try.prog 49 #[.pointer (some ⟨a, 0, none⟩), .int .i64 9, .int .i64 (n : Int)] w fun e w' => (∀ l, gotJ m 0 (n * 3) k 9 n = some l → e = .returned (.tuple #[.string ⟨l.toArray⟩, .int .i64 0])) ∧ (gotJ m 0 (n * 3) k 9 n = none → e = .returned (.tuple #[.string ⟨#[]⟩, .int .i64 5])) ∧ Only [] w w') := fun a z d m F w h1 h2 h3 h4 h5 h6 h7 h8 =>
    slotAll_any a z d 0 (n * 3) k m F w h1 h2 h3 h4 h5 h6 (by omega) (by omega) hk1 (by omega) h7 h8 n hn1 hch 9
  have SCG : Hid (∀ a z d m F w l, Blk w a (slcells z k) 80 → Blk w z (zcells d 0 (n * 3)) 34 → DiskAt w d m F → a ≠ z → a ∉ F → z ∉ F → m.loose.length ≤ 700000 → m.away = false → scanJ m 0 (n * 3) k 9 n n = l → Calls Try.prog 47 #[.pointer (some ⟨a, 0, none⟩), .int .i64 9, .int .i64 (n : Int)] w fun e w' => ∃ b F', e = .returned (.tuple #[.pointer (some ⟨b, 0, none⟩), .int .i64 0]) ∧ SetAt w' b l F' ∧ (∀ k ∈ F', w.heap.size ≤ k) ∧ Only [] w w') := fun a z d m F w l h1 h2 h3 h4 h5 h6 h7 h8 h9 => by
    have := slotScan_any a z d 0 (n * 3) k m F w h1 h2 h3 h4 h5 h6 (by omega) (by omega) hk1 (by omega) h7 h8 n hn1 hch 9
    rw [h9] at this
    exact this
  have CH : Hid (∀ a z d w, Blk w a (slcells z k) 80 → Blk w z (zcells d 0 (n * 3)) 34 → a ≠ z → Calls Try.prog 45 #[.pointer (some ⟨a, 0, none⟩)] w fun e w' => e = .returned (.int .i64 (chunksN (n * 3) k : Int)) ∧ Only [] w w') := fun a z d w h1 h2 h3 => slotChunks_any a z d 0 (n * 3) k w h1 h2 h3 (by omega) hk1 (by omega)
  have HO0 : Hid (∃ l, HoldC (DM.fresh (n * 3)) (n * 3) k n s l ∧ (DM.fresh (n * 3)).loose.length ≤ 40 * 0) := ⟨_, hst0, Nat.le_refl _⟩
  have hchi : ¬ (chunksN (n * 3) k : Int) < (n : Int) := by omega
  have dcn : decide (chunksN (n * 3) k < n) = false := decide_eq_false (by omega)
  have hwn : IntKind.u64.wrap (n : Int) = (n : Int) := by unfold IntKind.wrap; simp [IntKind.signed, IntKind.bits]; omega
  have n0 : ((n : Int) == 0) = false := beq_eq_false_iff_ne.2 (by omega)
  have HQK := Lib.hid hqk
  have HNK := Lib.hid hnk2
  have HS2 : Hid (s.size ≤ 200) := by simp at d3; show _ ≤ _; omega
  clear hV en hnk1 hnk2 hqk h3k h2k hch hst0 lenF n3 h4
  generalize chunksN (n * 3) k = c at *
  generalize hD0 : DM.fresh (n * 3) = D0 at *
  go_enter Try.func8, Try.ntmps8
  go_wp2_with (first
    | ((with_reducible refine wpL_peel rfl ?_ ?_); focus (go_simp; done)) | (go_at_call 43; (with_reducible refine (AW.out _).mono ?_); rintro e1 w1 ⟨rfl, ho1⟩; replace hst := hst.keep ho1; clear ho1) | (go_at_call 14; (with_reducible refine (DN.out _).mono ?_); rintro e1 w1 ⟨d, F, rfl, hd1, ho1, hg1⟩; replace hst := hst.add ho1 (r := diskR d _ F) hd1 hg1; clear hd1 ho1 hg1) | (go_at_call 44; (with_reducible refine (OP.out _ _ _ (hst.rs 0 rfl)).mono ?_); rintro e1 w1 ⟨z, a, rfl, hgz, hga, hne, hz1, ha1, ho1⟩; replace hst := hst.new2 ho1 hz1 ha1 hgz hga hne; clear hgz hga hne hz1 ha1 ho1)
    | (go_at_call 45; (with_reducible refine (CH.out _ _ _ _ (hst.blk 0 rfl) (hst.blk 1 rfl) (hst.st.neq 0 1 rfl rfl (by decide))).mono ?_); rintro e1 w1 ⟨rfl, ho1⟩; replace hst := hst.keep ho1; clear ho1))
  go_loopw [14] (fun i wr => ∃ (j : Nat) (m : DM) (F1 : List Nat), j ≤ order.length ∧ j ≤ 30 ∧ i = .int .i64 (j : Int) ∧ Hid (∃ l, HoldC m (n * 3) k n s l ∧ m.loose.length ≤ 40 * j) ∧ Sd w [] wr [⟨a, slcells z k, 80, true⟩, ⟨z, zcells d 0 (n * 3), 34, true⟩] [diskR d m F1]) (fun i _ => (30 - intOf i).toNat)
  case atStart => exact ⟨0, D0, F, by omega, by omega, rfl, HO0, hst⟩
  case round =>
    clear hst HO0
    obtain ⟨j, m, F1, hj, hj30, rfl, HI, hst⟩ := hrel
    by_cases hcont : j < order.length ∧ j < 30
    · obtain ⟨hlt, hlt3⟩ := hcont
      have j1 : (j : Int) < order.length := by omega
      have j3 : (j : Int) < 30 := by omega
      have HJ : Hid (j + 1 ≤ order.length ∧ j + 1 ≤ 30) := ⟨hlt, hlt3⟩
      obtain ⟨bk, o, rfl, hcl⟩ : ∃ bk o, ad = some ⟨bk, o, none⟩ ∧ ∀ wr, Only [] w wr → wr.cell? ⟨bk, o + j, none⟩ = some (.int .i64 (order.getD j 0)) := by
        rcases HV.out with ⟨_, e⟩ | ⟨bk, o, c, hv, h1, h2, h3⟩
        · rw [e] at hlt; simp at hlt
        · injection hv with e1 e2 e3
          exact ⟨bk, o, e1, fun wr ho => cellQ (h1 j _ (by rw [List.getD_eq_getElem?_getD, List.getElem?_eq_getElem hlt]; rfl)) ho⟩
      have HC := Lib.hid hcl
      clear hcl
      generalize order.getD j 0 = x at *
      obtain ⟨q, hq, hq2⟩ := rem_idx x n (by omega)
      have hq : (IntKind.u64.wrap x).tmod (n : Int) = (q : Int) := hq
      obtain ⟨l, hl, hlo⟩ := HI.out
      obtain ⟨a1, a2, a3⟩ := hl.put hk40 q hq2
      have hlm := hl.len
      have HQ := HQK.out q hq2
      have PT : Hid (∀ F w, Blk w a (slcells z k) 80 → Blk w z (zcells d 0 (n * 3)) 34 → DiskAt w d m F → a ≠ z → a ∉ F → z ∉ F → Calls Try.prog 46 #[.pointer (some ⟨a, 0, none⟩), .int .i64 (q : Int), .int .i64 9, .string (cutAt s k q)] w fun e w' => ∃ F', e = .returned (.int .i64 0) ∧ DiskAt w' d (putR m 0 (n * 3) ((q : Int) * (secsOf k : Int)) 9 (cutAt s k q)).1 F' ∧ Turn F F' w w') := fun F w h1 h2 h3 h4 h5 h6 => PTG.out a z d m F w q 9 (cutAt s k q) h1 h2 h3 h4 h5 h6 (by omega) hq2 (cutAt_size _ _ _) hlm a1
      generalize (putR m 0 (n * 3) ((q : Int) * (secsOf k : Int)) 9 (cutAt s k q)).1 = m2 at *
      have NI : Hid (∃ l, HoldC m2 (n * 3) k n s l ∧ m2.loose.length ≤ 40 * (j + 1)) := ⟨_, a2, by omega⟩
      obtain ⟨X, eX⟩ : ∃ X, X = q * k := ⟨_, rfl⟩
      have hX : (q : Int) * (k : Int) = (X : Int) := by rw [eX, Int.natCast_mul]
      obtain ⟨Y, eY⟩ : ∃ Y, Y = min (X + k) s.size := ⟨_, rfl⟩
      have hY : min ((X : Int) + (k : Int)) (s.size : Int) = (Y : Int) := by omega
      have hct : cutAt s k q = s.extract X Y := by unfold cutAt; rw [← eX, ← eY]
      rw [hct] at PT
      have hXY : X ≤ Y ∧ Y ≤ s.size := by omega
      obtain ⟨hxy1, hxy2⟩ := hXY
      have hx200 : (X : Int) ≤ 200 := by omega
      clear HI hl hlo a1 a2 a3 hlm HQ eX eY hct
      go_wp2_with (first | ((with_reducible refine wpL_peel rfl ?_ ?_); focus (go_simp; done)) | ((with_reducible refine wpL_isLoad rfl ?_); refine wpL_load1C rfl rfl rfl (HC.out _ hst.only) (by kernel_rfl) ?_) | (go_at_call 46; (with_reducible refine (PT.out _ _ (hst.blk 0 rfl) (hst.blk 1 rfl) (hst.rs 0 rfl) (hst.st.neq 0 1 rfl rfl (by decide)) (hst.away 0 0 rfl rfl) (hst.away 1 0 rfl rfl)).mono ?_); rintro e1 w1 ⟨F1, rfl, hd1, ht1⟩; replace hst := hst.act 0 rfl (diskR _ _ F1) rfl ht1 hd1; simp only [List.set] at hst; clear hd1 ht1))
      go_roundw
      case rel => exact ⟨j + 1, m2, _, HJ.out.1, HJ.out.2, by go_num, NI, hst⟩
      case measure => simp [intOf]; omega
    · obtain ⟨l, hl, hlo⟩ := HI.out
      have hfew : m.loose.length ≤ 1200 := by omega
      have haw := hl.aw
      have hsc := hl.scan
      have SC : Hid (∀ F w, Blk w a (slcells z k) 80 → Blk w z (zcells d 0 (n * 3)) 34 → DiskAt w d m F → a ≠ z → a ∉ F → z ∉ F → Calls Try.prog 47 #[.pointer (some ⟨a, 0, none⟩), .int .i64 9, .int .i64 (n : Int)] w fun e w' => ∃ b F', e = .returned (.tuple #[.pointer (some ⟨b, 0, none⟩), .int .i64 0]) ∧ SetAt w' b l F' ∧ (∀ k ∈ F', w.heap.size ≤ k) ∧ Only [] w w') := fun F w h1 h2 h3 h4 h5 h6 => SCG.out a z d m F w l h1 h2 h3 h4 h5 h6 (by omega) haw hsc
      have HL0 := Lib.hid (Lacks.of hl hfew)
      have hcase : (¬ (j : Int) < order.length ∧ True) ∨ ((j : Int) < order.length ∧ ¬ (j : Int) < 30) := by
        rcases Nat.lt_or_ge j order.length with c1 | c1
        · exact .inr ⟨by omega, by omega⟩
        · exact .inl ⟨by omega, trivial⟩
      clear hl hlo HI hfew haw hsc hcont
      rcases hcase with ⟨j1, j3⟩ | ⟨j1, j3⟩
      all_goals
        go_wp2_with (first
          | ((with_reducible refine wpL_peel rfl ?_ ?_); focus (go_simp; done))
          | (go_at_call 47; (with_reducible refine (SC.out _ _ (hst.blk 0 rfl) (hst.blk 1 rfl) (hst.rs 0 rfl) (hst.st.neq 0 1 rfl rfl (by decide)) (hst.away 0 0 rfl rfl) (hst.away 1 0 rfl rfl)).mono ?_); rintro e1 w1 ⟨b, Fb, rfl, hb1, hg1, ho1⟩; replace hst := hst.add ho1 (r := setR b _ Fb) hb1 hg1; clear hb1 hg1 ho1))
        go_loopw [18] (fun v wr => ∃ (l : List Bool) (m : DM) (F1 : List Nat), Hid (Lacks m (n * 3) k n s l v) ∧ Sd w [] wr [⟨a, slcells z k, 80, true⟩, ⟨z, zcells d 0 (n * 3), 34, true⟩] [setR b l Fb, diskR d m F1]) (fun v _ => farM n v)
        case atStart => exact ⟨l, m, F1, HL0, hst⟩
        case round =>
          clear hst HL0 SC
          obtain ⟨l, m, F1, HL, hst⟩ := hrel
          have hfew := HL.out.few hn20
          have hll := HL.out.hold.ll
          have haw := HL.out.hold.aw
          have hlm := HL.out.hold.len
          have FI : Hid (∀ w, SetAt w b l Fb → Calls Try.prog 48 #[.pointer (some ⟨b, 0, none⟩)] w fun e w' => e = .returned (.int .i64 (firstN l)) ∧ Only [] w w') := fun w h => setFirst_any b l Fb w h (by omega)
          rcases firstN_cases l with ⟨e1, e2⟩ | ⟨p, hp, e1, e2, e3⟩
          · rw [e1] at FI
            have hg := HL.out.hold.all (fun q hq => e2 q (by omega)) HNK.out
            have AL : Hid (∀ F w, Blk w a (slcells z k) 80 → Blk w z (zcells d 0 (n * 3)) 34 → DiskAt w d m F → a ≠ z → a ∉ F → z ∉ F → Calls Try.prog 49 #[.pointer (some ⟨a, 0, none⟩), .int .i64 9, .int .i64 (n : Int)] w fun e w' => e = .returned (.tuple #[.string s, .int .i64 0]) ∧ Only [] w w') := fun F w h1 h2 h3 h4 h5 h6 => (ALG.out a z d m F w h1 h2 h3 h4 h5 h6 (by omega) haw).mono (fun e w' h => ⟨by
              have := h.1 _ hg
              rw [bl_of] at this
              exact this, h.2.2⟩)
            obtain ⟨q, hq, hq2⟩ := rem_idx other n (by omega)
            have hq : (IntKind.u64.wrap other).tmod (n : Int) = (q : Int) := hq
            obtain ⟨b1, b2, b3, b4⟩ := HL.out.hold.other q hq2
            have PT : Hid (∀ F w, Blk w a (slcells z k) 80 → Blk w z (zcells d 0 (n * 3)) 34 → DiskAt w d m F → a ≠ z → a ∉ F → z ∉ F → Calls Try.prog 46 #[.pointer (some ⟨a, 0, none⟩), .int .i64 (q : Int), .int .i64 8, .string ⟨#[120]⟩] w fun e w' => ∃ F', e = .returned (.int .i64 0) ∧ DiskAt w' d (putR m 0 (n * 3) ((q : Int) * (secsOf k : Int)) 8 ⟨#[120]⟩).1 F' ∧ Turn F F' w w') := fun F w h1 h2 h3 h4 h5 h6 => PTG.out a z d m F w q 8 ⟨#[120]⟩ h1 h2 h3 h4 h5 h6 (by omega) hq2 hk1 hlm b1
            generalize (putR m 0 (n * 3) ((q : Int) * (secsOf k : Int)) 8 ⟨#[120]⟩).1 = m2 at *
            have AL2 : Hid (∀ F w, Blk w a (slcells z k) 80 → Blk w z (zcells d 0 (n * 3)) 34 → DiskAt w d m2 F → a ≠ z → a ∉ F → z ∉ F → Calls Try.prog 49 #[.pointer (some ⟨a, 0, none⟩), .int .i64 9, .int .i64 (n : Int)] w fun e w' => e = .returned (.tuple #[.string ⟨#[]⟩, .int .i64 5]) ∧ Only [] w w') := fun F w h1 h2 h3 h4 h5 h6 => (ALG.out a z d m2 F w h1 h2 h3 h4 h5 h6 (by omega) b3).mono (fun e w' h => ⟨h.2.1 b2, h.2.2⟩)
            have SS : Hid (decide (s = s) = true) := decide_eq_true rfl
            clear HL hfew hll haw hlm e1 e2 hg b1 b2 b3 b4
            go_wp2_with (first
              | ((with_reducible refine wpL_peel rfl ?_ ?_); focus (go_simp; done)) | (go_at_call 48; (with_reducible refine (FI.out _ (hst.rs 0 rfl)).mono ?_); rintro e1 w1 ⟨rfl, ho1⟩; replace hst := hst.keep ho1; clear ho1)
              | (go_at_call 49; (with_reducible refine (AL.out _ _ (hst.blk 0 rfl) (hst.blk 1 rfl) (hst.rs 1 rfl) (hst.st.neq 0 1 rfl rfl (by decide)) (hst.away 0 1 rfl rfl) (hst.away 1 1 rfl rfl)).mono ?_); rintro e1 w1 ⟨rfl, ho1⟩; replace hst := hst.keep ho1; clear ho1) | (go_at_call 46; (with_reducible refine (PT.out _ _ (hst.blk 0 rfl) (hst.blk 1 rfl) (hst.rs 1 rfl) (hst.st.neq 0 1 rfl rfl (by decide)) (hst.away 0 1 rfl rfl) (hst.away 1 1 rfl rfl)).mono ?_); rintro e1 w1 ⟨F1, rfl, hd1, ht1⟩; replace hst := hst.act 1 rfl (diskR _ _ F1) rfl ht1 hd1; simp only [List.set] at hst; clear hd1 ht1)
              | (go_at_call 49; (with_reducible refine (AL2.out _ _ (hst.blk 0 rfl) (hst.blk 1 rfl) (hst.rs 1 rfl) (hst.st.neq 0 1 rfl rfl (by decide)) (hst.away 0 1 rfl rfl) (hst.away 1 1 rfl rfl)).mono ?_); rintro e1 w1 ⟨rfl, ho1⟩; replace hst := hst.keep ho1; clear ho1)
              | ((with_reducible refine wpL_isBin rfl ?_); (refine wpL_neqStrT rfl rfl s s rfl rfl true SS.out ?_)))
            go_ret
            exact ⟨rfl, hst.only⟩
          · rw [e1] at FI
            have hpn : p < n := by omega
            have hg := HL.out.hold.bad p hpn e2
            have AL : Hid (∀ F w, Blk w a (slcells z k) 80 → Blk w z (zcells d 0 (n * 3)) 34 → DiskAt w d m F → a ≠ z → a ∉ F → z ∉ F → Calls Try.prog 49 #[.pointer (some ⟨a, 0, none⟩), .int .i64 9, .int .i64 (n : Int)] w fun e w' => e = .returned (.tuple #[.string ⟨#[]⟩, .int .i64 5]) ∧ Only [] w w') := fun F w h1 h2 h3 h4 h5 h6 => (ALG.out a z d m F w h1 h2 h3 h4 h5 h6 (by omega) haw).mono (fun e w' h => ⟨h.2.1 hg, h.2.2⟩)
            obtain ⟨a1, _, _⟩ := HL.out.hold.put hk40 p hpn
            obtain ⟨c1, c2⟩ := HL.out.next hk40 p hpn e2 e3
            have PT : Hid (∀ F w, Blk w a (slcells z k) 80 → Blk w z (zcells d 0 (n * 3)) 34 → DiskAt w d m F → a ≠ z → a ∉ F → z ∉ F → Calls Try.prog 46 #[.pointer (some ⟨a, 0, none⟩), .int .i64 (p : Int), .int .i64 9, .string (cutAt s k p)] w fun e w' => ∃ F', e = .returned (.int .i64 0) ∧ DiskAt w' d (putR m 0 (n * 3) ((p : Int) * (secsOf k : Int)) 9 (cutAt s k p)).1 F' ∧ Turn F F' w w') := fun F w h1 h2 h3 h4 h5 h6 => PTG.out a z d m F w p 9 (cutAt s k p) h1 h2 h3 h4 h5 h6 (by omega) hpn (cutAt_size _ _ _) hlm a1
            have AD : Hid (∀ g w, SetAt w b l Fb → Blk w g [.int .i64 (p : Int)] 3 → g ∉ Fb → Calls Try.prog 50 #[.pointer (some ⟨b, 0, none⟩), .slice (some ⟨g, 0, none⟩) 1 1] w fun e w' => e = .returned (.int .i64 0) ∧ SetAt w' b (l.set p true) Fb ∧ Turn Fb Fb w w') := fun g w h3 h4 h5 => setAdd_yes b l Fb g p w h3 h4 h5 hp (by omega)
            generalize (putR m 0 (n * 3) ((p : Int) * (secsOf k : Int)) 9 (cutAt s k p)).1 = m2 at *
            have NL := Lib.hid c1
            have NM := Lib.hid (Nat.lt_of_le_of_lt (farM_int n p) c2)
            have HQ := HQK.out p hpn
            obtain ⟨X, eX⟩ : ∃ X, X = p * k := ⟨_, rfl⟩
            have hX : (p : Int) * (k : Int) = (X : Int) := by rw [eX, Int.natCast_mul]
            obtain ⟨Y, eY⟩ : ∃ Y, Y = min (X + k) s.size := ⟨_, rfl⟩
            have hY : min ((X : Int) + (k : Int)) (s.size : Int) = (Y : Int) := by omega
            have hct : cutAt s k p = s.extract X Y := by unfold cutAt; rw [← eX, ← eY]
            rw [hct] at PT
            have hXY : X ≤ Y ∧ Y ≤ s.size := by omega
            obtain ⟨hxy1, hxy2⟩ := hXY
            have hx200 : (X : Int) ≤ 200 := by omega
            clear HL hfew hll haw hlm e1 e2 e3 hg a1 c1 c2 HQ eX eY hct hp
            go_wp2_with (first
              | ((with_reducible refine wpL_peel rfl ?_ ?_); focus (go_simp; done)) | (go_at_call 48; (with_reducible refine (FI.out _ (hst.rs 0 rfl)).mono ?_); rintro e1 w1 ⟨rfl, ho1⟩; replace hst := hst.keep ho1; clear ho1)
              | (go_at_call 49; (with_reducible refine (AL.out _ _ (hst.blk 0 rfl) (hst.blk 1 rfl) (hst.rs 1 rfl) (hst.st.neq 0 1 rfl rfl (by decide)) (hst.away 0 1 rfl rfl) (hst.away 1 1 rfl rfl)).mono ?_); rintro e1 w1 ⟨rfl, ho1⟩; replace hst := hst.keep ho1; clear ho1) | (go_at_call 46; (with_reducible refine (PT.out _ _ (hst.blk 0 rfl) (hst.blk 1 rfl) (hst.rs 1 rfl) (hst.st.neq 0 1 rfl rfl (by decide)) (hst.away 0 1 rfl rfl) (hst.away 1 1 rfl rfl)).mono ?_); rintro e1 w1 ⟨F1, rfl, hd1, ht1⟩; replace hst := hst.act 1 rfl (diskR _ _ F1) rfl ht1 hd1; simp only [List.set] at hst; clear hd1 ht1)
              | ((with_reducible refine wpL_isSliceT rfl ?_); refine wpL_sliceD hst rfl 63 1 _ rfl Try.underlying63 intInfoT (by decide) (by decide) [.int .i64 (p : Int)] rfl rfl (by simp [Value.cells]) ?_; clear hst; intro w3 g3 hg3 hst)
              | (go_at_call 50; (with_reducible refine (AD.out _ _ (hst.rs 0 rfl) (hst.blk 0 rfl) (hst.away 0 0 rfl rfl)).mono ?_); rintro e1 w2 ⟨rfl, hd2, ht2⟩; replace hst := hst.act 0 rfl (setR b (l.set p true) Fb) rfl ht2 hd2; simp only [List.set] at hst; clear ht2 hd2))
            go_roundw
            case rel => exact ⟨l.set p true, m2, _, NL, hst.dropN 1⟩
            case measure => exact NM.out
end Go.Proofs.Ytmogkiacakkmbaa
