/- Seals: a text, got. -/
import Derived.Test.YtmogkiacakkmbaaSealE
namespace Go.Proofs.Ytmogkiacakkmbaa
open Go.RowKit

section
variable {P : Program} {w : World} {ops : Array Oper} {rest : List Oper} {o : Oper} {a : Act} {Q : Exit → Act → World → Prop}
/-- Two texts, compared the other way. -/
theorem wpL_neqStrT (hgd : o.guard = none) {t r : TypeId} {x y : Operand} (ho : o.op = .binOp .neq t x y r) (s u : ByteArray) (hx : a.eval x = .string s) (hy : a.eval y = .string u) (β : Bool) (hβ : decide (s = u) = β)
    (h : wpList P ops Q rest (a.put o.dst (.bool !β)) w) : wpList P ops Q (o :: rest) a w := by
  refine wpL_run hgd (v := .bool !β) ?_ h
  subst hβ
  have e : (s.toList == u.toList) = decide (s = u) := by
    by_cases hs : s = u
    · rw [str_eqq hs, decide_eq_true hs]
    · rw [str_neq hs, decide_eq_false hs]
  unfold execOp
  simp only [ho, Sem.run_bind, hx, hy]
  simp [eqGuard, binOp, Op.stringOp]
  exact e
end
theorem rowJ_full (m : DM) (hok : m.Ok) (f n : Nat) (a : Int) : ∀ j, (rowJ m f n a j).2.2 = 0 → (rowJ m f n a j).1.length = 28 * j
  | 0, _ => by simp [rowJ]
  | j + 1, h => by
    unfold rowJ at h ⊢
    split at h
    · rename_i h1; exact absurd h h1
    · rename_i h1
      rw [if_neg h1]
      have := rowJ_full m hok f n a j (by simpa using h1)
      split at h
      · cases h
      · rename_i h2
        rw [if_neg h2]
        split at h
        · rename_i h3; exact absurd h h3
        · rename_i h3
          rw [if_neg h3]
          split at h
          · cases h
          · rename_i h4
            rw [if_neg h4]
            have hz := zread_size hok f n (a + (j : Int)) (by simpa using h3)
            simp only [List.length_append, this, bl_length]
            have h5 : ((zread m f n (a + (j : Int))).extract 0 28).size = 28 := by
              rw [← bl_length, bl_extract]
              simp [bl_length, hz]
            omega
theorem eyeNum_range (most : Int) (hm : 0 ≤ most) (s : ByteArray) (bad : Bool) : 0 ≤ (eyeNum most s bad).1 ∧ (eyeNum most s bad).1 ≤ most := by
  unfold eyeNum
  split
  · exact ⟨Int.le_refl 0, hm⟩
  · split
    · exact ⟨Int.le_refl 0, hm⟩
    · simp only
      omega

/-- What the size says, as it is read. -/
def lenOf (l : List UInt8) : Int := (eyeNum 1024 ((⟨l.toArray⟩ : ByteArray).extract 32 56) false).1
def lenBad (l : List UInt8) : Bool := (eyeNum 1024 ((⟨l.toArray⟩ : ByteArray).extract 32 56) false).2.2
def txtOf (l : List UInt8) (k : Nat) : ByteArray := (⟨l.toArray⟩ : ByteArray).extract 36 (36 + k)
/-- The text from a place on, its number, an error. -/
def getR (m : DM) (f n : Nat) (a : Int) : ByteArray × Int × Int :=
  if zreadE m f n a ≠ 0 then (⟨#[]⟩, 0, zreadE m f n a)
  else if (rowJ m f n a 2).2.2 ≠ 0 then (⟨#[]⟩, 0, (rowJ m f n a 2).2.2)
  else if lenBad (rowJ m f n a 2).1 = true then (⟨#[]⟩, 0, 5)
  else if (rowJ m f n a (secsOf (lenOf (rowJ m f n a 2).1).toNat)).2.2 ≠ 0 then (⟨#[]⟩, 0, (rowJ m f n a (secsOf (lenOf (rowJ m f n a 2).1).toNat)).2.2)
  else if sealB (txtOf (rowJ m f n a (secsOf (lenOf (rowJ m f n a 2).1).toNat)).1 (lenOf (rowJ m f n a 2).1).toNat) ≠ (rowJ m f n a (secsOf (lenOf (rowJ m f n a 2).1).toNat)).1 then (⟨#[]⟩, 0, 6)
  else (txtOf (rowJ m f n a (secsOf (lenOf (rowJ m f n a 2).1).toNat)).1 (lenOf (rowJ m f n a 2).1).toNat, (rowJ m f n a (secsOf (lenOf (rowJ m f n a 2).1).toNat)).2.1, 0)

set_option maxRecDepth 100000 in
set_option maxHeartbeats 16000000 in
theorem sealGet_any (z d f n : Nat) (m : DM) (F : List Nat) (a : Int) (w : World) (hz : Blk w z (zcells d f n) 34) (hd : DiskAt w d m F) (hzF : z ∉ F) (hf : f ≤ 4096) (hn : n ≤ 4096) (few : m.loose.length ≤ 1000000) :
    Calls Try.prog 21 #[.pointer (some ⟨z, 0, none⟩), .int .i64 a] w fun e w' => e = .returned (.tuple #[.string (getR m f n a).1, .int .i64 (getR m f n a).2.1, .int .i64 (getR m f n a).2.2]) ∧ Only [] w w' := by
  have hst := (Sd.withQ [] (diskQ d m F) hd rfl).read hz (by simp) (fun r hr => by simp only [List.mem_singleton] at hr; subst hr; exact hzF)
  have hok := hd.1
  obtain ⟨e0, ee0⟩ : ∃ e0, e0 = zreadE m f n a := ⟨_, rfl⟩
  have RD : Hid (∀ w, Blk w z (zcells d f n) 34 → DiskAt w d m F → Calls Try.prog 83 #[.pointer (some ⟨z, 0, none⟩), .int .i64 a] w fun e w' => e = .returned (.tuple #[.string (zread m f n a), .int .i64 e0]) ∧ Only [] w w') := fun w h1 h2 => by rw [ee0]; exact zonRead_any z d f n m F _ w h1 h2 hzF hf hn few
  by_cases c0 : e0 = 0
  · subst c0
    have hin : zIn n a = true := by
      cases hi : zIn n a
      · unfold zreadE at ee0; rw [hi] at ee0; cases ee0
      · rfl
    obtain ⟨a0, a1⟩ := zIn_iff.1 hin
    obtain ⟨r2, er2⟩ : ∃ r2, r2 = rowJ m f n a 2 := ⟨_, rfl⟩
    have R2 : Hid (∀ w, Blk w z (zcells d f n) 34 → DiskAt w d m F → Calls Try.prog 84 #[.pointer (some ⟨z, 0, none⟩), .int .i64 a, .int .i64 2] w fun e w' => e = .returned (.tuple #[.string ⟨r2.1.toArray⟩, .int .i64 r2.2.1, .int .i64 r2.2.2]) ∧ Only [] w w') := fun w h1 h2 => by rw [er2]; exact sealRow_any z d f n m F a 2 w h1 h2 hzF hf hn a0 (by omega) (by decide) few
    have g0 : ¬ (0 : Int) ≠ 0 := fun h => h rfl
    by_cases c2 : r2.2.2 = 0
    · have h56 : r2.1.length = 56 := by rw [er2]; rw [er2] at c2; exact rowJ_full m hok f n a 2 c2
      have hT2 : (⟨r2.1.toArray⟩ : ByteArray).size = 56 := by rw [← bl_length, bl_mk]; exact h56
      obtain ⟨T2, eT2⟩ : ∃ T2 : ByteArray, T2 = ⟨r2.1.toArray⟩ := ⟨_, rfl⟩
      obtain ⟨v, ev⟩ : ∃ v, v = lenOf r2.1 := ⟨_, rfl⟩
      obtain ⟨bd, ebd⟩ : ∃ bd, bd = lenBad r2.1 := ⟨_, rfl⟩
      have hv := eyeNum_range 1024 (by decide) (T2.extract 32 56) false
      have hv' : 0 ≤ v ∧ v ≤ 1024 := by rw [ev]; unfold lenOf; rw [← eT2]; exact hv
      obtain ⟨k, rfl⟩ : ∃ k : Nat, v = (k : Int) := ⟨v.toNat, by omega⟩
      have hk : k ≤ 1024 := by omega
      rw [← eT2] at R2 hT2
      have EN : Hid (∀ b w, Blk w b [.string (T2.extract 32 56), .bool false] 190 → Calls Try.prog 86 #[.pointer (some ⟨b, 0, none⟩), .int .i64 1024] w fun e w' => ∃ c1, e = .returned (.int .i64 (k : Int)) ∧ Blk w' b [.string c1, .bool bd] 190 ∧ Only [b] w w') := fun b w h => by
        refine (penEyeNum_any b _ false 1024 w h).mono ?_
        rintro e w' ⟨rfl, h1, h2⟩
        refine ⟨(eyeNum 1024 (T2.extract 32 56) false).2.1, ?_, ?_, h2⟩
        · rw [ev]
          unfold lenOf
          rw [← eT2]
        · rw [ebd]
          unfold lenBad
          rw [← eT2]
          exact h1
      have ER : Hid (∀ b c1 w, Blk w b [.string c1, .bool bd] 190 → Calls Try.prog 87 #[.pointer (some ⟨b, 0, none⟩)] w fun e w' => e = .returned (.int .i64 (if bd then 5 else 0)) ∧ w = w') := fun b c1 w h => penErr_any b c1 bd w h
      clear hv hv'
      cases bd
      · obtain ⟨K, eK⟩ : ∃ K, K = secsOf k := ⟨_, rfl⟩
        have hKl : K ≤ 100 := by have := secsOf_le k; omega
        have hKg : 36 + k ≤ 28 * K := by have := secsOf_ge k; omega
        obtain ⟨r, er⟩ : ∃ r, r = rowJ m f n a K := ⟨_, rfl⟩
        have SC : Hid (∀ w, Calls Try.prog 82 #[.int .i64 (k : Int)] w fun e w' => e = .returned (.int .i64 (K : Int)) ∧ w = w') := fun w => by rw [eK]; exact sectors_any k w (by omega)
        have RK : Hid (∀ w, Blk w z (zcells d f n) 34 → DiskAt w d m F → Calls Try.prog 84 #[.pointer (some ⟨z, 0, none⟩), .int .i64 a, .int .i64 (K : Int)] w fun e w' => e = .returned (.tuple #[.string ⟨r.1.toArray⟩, .int .i64 r.2.1, .int .i64 r.2.2]) ∧ Only [] w w') := fun w h1 h2 => by rw [er]; exact sealRow_any z d f n m F a K w h1 h2 hzF hf hn a0 (by omega) hKl few
        have eG : getR m f n a = if r.2.2 ≠ 0 then (⟨#[]⟩, 0, r.2.2) else if sealB (txtOf r.1 k) ≠ r.1 then (⟨#[]⟩, 0, 6) else (txtOf r.1 k, r.2.1, 0) := by
          unfold getR
          rw [← ee0, if_neg g0, ← er2, if_neg (by rw [c2]; simp), ← ebd, if_neg (by simp), ← ev, Int.toNat_natCast, ← eK, ← er]
        obtain ⟨T, eT⟩ : ∃ T : ByteArray, T = ⟨r.1.toArray⟩ := ⟨_, rfl⟩
        have etx : txtOf r.1 k = T.extract 36 (36 + k) := by rw [eT]; rfl
        rw [etx] at eG
        rw [← eT] at RK
        obtain ⟨rq, erq⟩ : ∃ rq, rq = r.2.2 := ⟨_, rfl⟩
        obtain ⟨rm, erm⟩ : ∃ rm, rm = r.2.1 := ⟨_, rfl⟩
        obtain ⟨rn, ern⟩ : ∃ rn, rn = r2.2.1 := ⟨_, rfl⟩
        rw [c2, ← ern] at R2
        rw [← erq, ← erm] at RK eG
        rw [eG]
        by_cases c5 : rq = 0
        · subst c5
          have hTl : r.1.length = 28 * K := by rw [er]; rw [er] at erq; exact rowJ_full m hok f n a K erq.symm
          have hT : T.size = 28 * K := by rw [eT, ← bl_length, bl_mk]; exact hTl
          have hU : (T.extract 36 (36 + k)).size = k := by
            rw [← bl_length, bl_extract]
            simp only [List.length_drop, List.length_take, bl_length]
            omega
          have BY : Hid (∀ w, Calls Try.prog 88 #[.string (T.extract 36 (36 + k))] w fun e w' => e = .returned (.string ⟨(sealB (T.extract 36 (36 + k))).toArray⟩) ∧ Only [] w w') := fun w => sealBytes_any _ w (by omega)
          have hTi : (T.size : Int) = 28 * (K : Int) := by omega
          rw [if_neg g0]
          by_cases c6 : sealB (T.extract 36 (36 + k)) = r.1
          · rw [if_neg (by simp [c6])]
            have hB : decide ((⟨(sealB (T.extract 36 (36 + k))).toArray⟩ : ByteArray) = T) = true := by rw [c6, ← eT]; exact decide_eq_true rfl
            have HB := Lib.hid hB
            clear hB eG etx eT hU er eK erq erm ee0 er2 c2 ebd ev hd hz hzF h56 hok eT2 ern c6 hTl
            go_enter Try.func21, Try.ntmps21
            go_wp2_with (first
              | (go_at_call 83; (with_reducible refine (RD.out _ (hst.blk 0 rfl) (hst.rs 0 rfl)).mono ?_); rintro e1 w1 ⟨rfl, ho1⟩; replace hst := hst.keep ho1; clear ho1)
              | (go_at_call 84; (with_reducible first | refine (R2.out _ (hst.blk 0 rfl) (hst.rs 0 rfl)).mono ?_ | refine (RK.out _ (hst.blk 1 rfl) (hst.rs 0 rfl)).mono ?_); rintro e1 w1 ⟨rfl, ho1⟩; replace hst := hst.keep ho1; clear ho1)
              | (go_at_call 85; refine (penOf_any _ _).mono ?_; rintro e1 w1 ⟨rfl, hB1, ho1⟩; replace hst := hst.new ho1 hB1 (Nat.le_refl _); clear ho1 hB1)
              | (go_at_call 86; (with_reducible refine (EN.out _ _ (hst.blk 0 rfl)).mono ?_); rintro e1 w2 ⟨C, rfl, hE2, ho2⟩; replace hst := hst.chg 0 rfl ho2 hE2; simp only [List.set] at hst; clear ho2 hE2)
              | (go_at_call 87; (with_reducible refine (ER.out _ _ _ (hst.blk 0 rfl)).mono ?_); rintro e1 w1 ⟨rfl, rfl⟩)
              | (go_at_call 82; (with_reducible refine (SC.out _).mono ?_); rintro e1 w1 ⟨rfl, rfl⟩)
              | (go_at_call 88; (with_reducible refine (BY.out _).mono ?_); rintro e1 w1 ⟨rfl, ho1⟩; replace hst := hst.keep ho1; clear ho1)
              | ((with_reducible refine wpL_isBin rfl ?_); refine wpL_neqStrT rfl rfl _ T rfl rfl true HB.out ?_))
            go_ret3
            exact ⟨rfl, hst.only⟩
          · rw [if_pos c6]
            have hB : decide ((⟨(sealB (T.extract 36 (36 + k))).toArray⟩ : ByteArray) = T) = false := by
              refine decide_eq_false fun h => c6 ?_
              have := congrArg bl (h.trans eT)
              simpa [bl_mk] using this
            have HB := Lib.hid hB
            clear hB eG etx eT hU er eK erq erm ee0 er2 c2 ebd ev hd hz hzF h56 hok eT2 ern c6 hTl
            go_enter Try.func21, Try.ntmps21
            go_wp2_with (first
              | (go_at_call 83; (with_reducible refine (RD.out _ (hst.blk 0 rfl) (hst.rs 0 rfl)).mono ?_); rintro e1 w1 ⟨rfl, ho1⟩; replace hst := hst.keep ho1; clear ho1)
              | (go_at_call 84; (with_reducible first | refine (R2.out _ (hst.blk 0 rfl) (hst.rs 0 rfl)).mono ?_ | refine (RK.out _ (hst.blk 1 rfl) (hst.rs 0 rfl)).mono ?_); rintro e1 w1 ⟨rfl, ho1⟩; replace hst := hst.keep ho1; clear ho1)
              | (go_at_call 85; refine (penOf_any _ _).mono ?_; rintro e1 w1 ⟨rfl, hB1, ho1⟩; replace hst := hst.new ho1 hB1 (Nat.le_refl _); clear ho1 hB1)
              | (go_at_call 86; (with_reducible refine (EN.out _ _ (hst.blk 0 rfl)).mono ?_); rintro e1 w2 ⟨C, rfl, hE2, ho2⟩; replace hst := hst.chg 0 rfl ho2 hE2; simp only [List.set] at hst; clear ho2 hE2)
              | (go_at_call 87; (with_reducible refine (ER.out _ _ _ (hst.blk 0 rfl)).mono ?_); rintro e1 w1 ⟨rfl, rfl⟩)
              | (go_at_call 82; (with_reducible refine (SC.out _).mono ?_); rintro e1 w1 ⟨rfl, rfl⟩)
              | (go_at_call 88; (with_reducible refine (BY.out _).mono ?_); rintro e1 w1 ⟨rfl, ho1⟩; replace hst := hst.keep ho1; clear ho1)
              | ((with_reducible refine wpL_isBin rfl ?_); refine wpL_neqStrT rfl rfl _ T rfl rfl false HB.out ?_))
            go_ret3
            exact ⟨rfl, hst.only⟩
        · rw [if_pos c5]
          have d3 : (rq != 0) = true := by simpa using c5
          clear eG etx eT er eK erq erm ee0 er2 c2 ebd ev hd hz hzF h56 hok eT2 ern c5
          go_enter Try.func21, Try.ntmps21
          go_wp2_with (first
            | (go_at_call 83; (with_reducible refine (RD.out _ (hst.blk 0 rfl) (hst.rs 0 rfl)).mono ?_); rintro e1 w1 ⟨rfl, ho1⟩; replace hst := hst.keep ho1; clear ho1)
            | (go_at_call 84; (with_reducible first | refine (R2.out _ (hst.blk 0 rfl) (hst.rs 0 rfl)).mono ?_ | refine (RK.out _ (hst.blk 1 rfl) (hst.rs 0 rfl)).mono ?_); rintro e1 w1 ⟨rfl, ho1⟩; replace hst := hst.keep ho1; clear ho1)
            | (go_at_call 85; refine (penOf_any _ _).mono ?_; rintro e1 w1 ⟨rfl, hB1, ho1⟩; replace hst := hst.new ho1 hB1 (Nat.le_refl _); clear ho1 hB1)
            | (go_at_call 86; (with_reducible refine (EN.out _ _ (hst.blk 0 rfl)).mono ?_); rintro e1 w2 ⟨C, rfl, hE2, ho2⟩; replace hst := hst.chg 0 rfl ho2 hE2; simp only [List.set] at hst; clear ho2 hE2)
            | (go_at_call 87; (with_reducible refine (ER.out _ _ _ (hst.blk 0 rfl)).mono ?_); rintro e1 w1 ⟨rfl, rfl⟩)
            | (go_at_call 82; (with_reducible refine (SC.out _).mono ?_); rintro e1 w1 ⟨rfl, rfl⟩))
          go_ret3
          exact ⟨rfl, hst.only⟩
      · have eG : getR m f n a = (⟨#[]⟩, 0, 5) := by
          unfold getR
          rw [← ee0, if_neg g0, ← er2, if_neg (by rw [c2]; simp), ← ebd, if_pos rfl]
        rw [eG]
        rw [c2] at R2
        obtain ⟨rn, ern⟩ : ∃ rn, rn = r2.2.1 := ⟨_, rfl⟩
        rw [← ern] at R2
        clear eG ee0 er2 c2 ebd ev hd hz hzF h56 hok eT2 ern
        go_enter Try.func21, Try.ntmps21
        go_wp2_with (first
          | (go_at_call 83; (with_reducible refine (RD.out _ (hst.blk 0 rfl) (hst.rs 0 rfl)).mono ?_); rintro e1 w1 ⟨rfl, ho1⟩; replace hst := hst.keep ho1; clear ho1)
          | (go_at_call 84; (with_reducible refine (R2.out _ (hst.blk 0 rfl) (hst.rs 0 rfl)).mono ?_); rintro e1 w1 ⟨rfl, ho1⟩; replace hst := hst.keep ho1; clear ho1)
          | (go_at_call 85; refine (penOf_any _ _).mono ?_; rintro e1 w1 ⟨rfl, hB1, ho1⟩; replace hst := hst.new ho1 hB1 (Nat.le_refl _); clear ho1 hB1)
          | (go_at_call 86; (with_reducible refine (EN.out _ _ (hst.blk 0 rfl)).mono ?_); rintro e1 w2 ⟨C, rfl, hE2, ho2⟩; replace hst := hst.chg 0 rfl ho2 hE2; simp only [List.set] at hst; clear ho2 hE2)
          | (go_at_call 87; (with_reducible refine (ER.out _ _ _ (hst.blk 0 rfl)).mono ?_); rintro e1 w1 ⟨rfl, rfl⟩))
        go_ret3
        exact ⟨rfl, hst.only⟩
    · have eG : getR m f n a = (⟨#[]⟩, 0, r2.2.2) := by unfold getR; rw [← ee0, if_neg g0, ← er2, if_pos c2]
      rw [eG]
      obtain ⟨re, ere⟩ : ∃ re, re = r2.2.2 := ⟨_, rfl⟩
      rw [← ere] at R2 c2 ⊢
      have c3 : (re != 0) = true := by simpa using c2
      obtain ⟨rn, ern⟩ : ∃ rn, rn = r2.2.1 := ⟨_, rfl⟩
      rw [← ern] at R2
      clear eG ee0 er2 c2 ere hd hz hzF hok ern
      go_enter Try.func21, Try.ntmps21
      go_wp2_with (first
        | (go_at_call 83; (with_reducible refine (RD.out _ (hst.blk 0 rfl) (hst.rs 0 rfl)).mono ?_); rintro e1 w1 ⟨rfl, ho1⟩; replace hst := hst.keep ho1; clear ho1)
        | (go_at_call 84; (with_reducible refine (R2.out _ (hst.blk 0 rfl) (hst.rs 0 rfl)).mono ?_); rintro e1 w1 ⟨rfl, ho1⟩; replace hst := hst.keep ho1; clear ho1))
      go_ret3
      exact ⟨rfl, hst.only⟩
  · have eG : getR m f n a = (⟨#[]⟩, 0, e0) := by unfold getR; rw [← ee0, if_pos c0]
    rw [eG]
    have c3 : (e0 != 0) = true := by simpa using c0
    clear eG ee0 hd hz hzF c0 hok
    go_enter Try.func21, Try.ntmps21
    go_wp2_with (first
      | (go_at_call 83; (with_reducible refine (RD.out _ (hst.blk 0 rfl) (hst.rs 0 rfl)).mono ?_); rintro e1 w1 ⟨rfl, ho1⟩; replace hst := hst.keep ho1; clear ho1))
    go_ret3
    exact ⟨rfl, hst.only⟩
end Go.Proofs.Ytmogkiacakkmbaa
