/- Seals: the bodies of sectors, walked. -/
import Derived.Test.YtmogkiacakkmbaaSealC
namespace Go.Proofs.Ytmogkiacakkmbaa
open Go.RowKit

/-- A builder as a thing. -/
def BldT (w : World) (b : Nat) (l : List UInt8) (F : List Nat) : Prop := ∃ v, Bld w b [] 147 v l ∧ F = b :: v.ownBlock.toList
def bldR (b : Nat) (l : List UInt8) (F : List Nat) : Rsc := ⟨true, F, fun w => BldT w b l F,
  fun {S w w'} h ho hn => by
    obtain ⟨v, h, rfl⟩ := h
    exact ⟨v, h.only ho (hn b (by simp)) (fun k hk => hn k (by simp [hk])), rfl⟩,
  fun {w} h => by
    obtain ⟨v, h, rfl⟩ := h
    intro k hk
    simp only [List.mem_cons, Option.mem_toList] at hk
    rcases hk with rfl | hk
    · exact h.lt
    · exact h.bufLt k hk⟩
theorem bldWriteT (b : Nat) (l : List UInt8) (F : List Nat) (s : ByteArray) (w : World) (h : BldT w b l F) (hl : l.length + s.size ≤ 140737488355328) :
    Calls Try.prog 111 #[.pointer (some ⟨b, 0, none⟩), .string s] w fun e w' => ∃ F', e = .returned (.tuple #[.int .i64 (s.size : Int), .nilIface]) ∧ BldT w' b (l ++ bl s) F' ∧ Turn F F' w w' := by
  obtain ⟨v, hb, rfl⟩ := h
  refine (writeString_any b [] 147 v l s w hb lies_own hl).mono ?_
  rintro e w' ⟨rfl, v', hb', hw⟩
  exact ⟨_, rfl, ⟨v', hb', rfl⟩, hw.turn⟩
theorem bldStringT (b : Nat) (l : List UInt8) (F : List Nat) (w : World) (h : BldT w b l F) :
    Calls Try.prog 112 #[.pointer (some ⟨b, 0, none⟩)] w fun e w' => e = .returned (.string ⟨l.toArray⟩) ∧ Only F w w' := by
  obtain ⟨v, hb, rfl⟩ := h
  refine (string_any b [] 147 v l w hb.F).mono ?_
  rintro e w' ⟨rfl, _, ho⟩
  exact ⟨rfl, ho.mono (fun k hk _ => by simp [hk])⟩
theorem wpL_allocBld {P : Program} {w : World} {ops : Array Oper} {rest : List Oper} {o : Oper} {a : Act} {Q : Exit → Act → World → Prop} {w0 : World} {S : List Nat} {L : List Ent} {R : List Rsc} (hst : Sd w0 S w L R) (hg : o.guard = none) (ho : o.op = .alloc 147) (hz : (P.info? 147).map (·.zero) = some (some (.agg #[.pointer none, .slice none 0 0]))) (d : Tmp) (hd : o.dst = some d)
    (h : ∀ w1 b, w.heap.size ≤ b → Sd w0 S w1 L (bldR b [] [b] :: R) → wpList P ops Q rest (a.put o.dst (.pointer (some ⟨b, 0, none⟩))) w1) : wpList P ops Q (o :: rest) a w :=
  wpL_alloc hg d hd 147 ho _ [.pointer none, .slice none 0 0] hz rfl fun w1 ho1 _ hb1 => h w1 _ (Nat.le_refl _) (hst.add ho1 (r := bldR w.heap.size [] [w.heap.size]) ⟨_, Bld.new hb1, rfl⟩ (by intro b hb; simp only [bldR, List.mem_singleton] at hb; omega))

/-- A sector's number, as it is read. -/
def secNum (s : ByteArray) : Int := (eyeNum 2147483647 (s.extract 28 s.size) false).1
/-- So many sectors from a place on: their bodies, their number, an error. -/
def rowJ (m : DM) (f n : Nat) (a : Int) : Nat → List UInt8 × Int × Int
  | 0 => ([], 0, 0)
  | j + 1 =>
    if (rowJ m f n a j).2.2 ≠ 0 then rowJ m f n a j
    else if zreadE m f n (a + (j : Int)) = 3 then ([], 0, 5)
    else if zreadE m f n (a + (j : Int)) ≠ 0 then ([], 0, zreadE m f n (a + (j : Int)))
    else if isNum (secNum (zread m f n (a + (j : Int)))) = false ∨ (j ≠ 0 ∧ secNum (zread m f n (a + (j : Int))) ≠ (rowJ m f n a j).2.1) then ([], 0, 5)
    else ((rowJ m f n a j).1 ++ bl ((zread m f n (a + (j : Int))).extract 0 28), secNum (zread m f n (a + (j : Int))), 0)
theorem rowJ_stuck (m : DM) (f n : Nat) (a : Int) (j K : Nat) (h : (rowJ m f n a j).2.2 ≠ 0) (hk : j ≤ K) : rowJ m f n a K = rowJ m f n a j := by
  obtain ⟨k, rfl⟩ : ∃ k, K = j + k := ⟨K - j, by omega⟩
  clear hk
  induction k with
  | zero => rfl
  | succ k ih =>
    rw [← Nat.add_assoc, rowJ, if_pos (by rw [ih]; exact h), ih]
theorem zread_size {m : DM} (h : m.Ok) (f n : Nat) (a : Int) (h0 : zreadE m f n a = 0) : (zread m f n a).size = 32 := by
  unfold zreadE at h0
  unfold zread
  split at h0
  · rename_i hi
    rw [if_pos hi]
    unfold DM.read
    rw [if_pos h0]
    have hc : ¬ ((f : Int) + a < 0 ∨ (m.len : Int) ≤ (f : Int) + a) := fun h' => by unfold DM.check at h0; rw [if_pos h'] at h0; cases h0
    have hl : ((f : Int) + a).toNat < m.now.length := by rw [DM.now_length]; omega
    rw [List.getD_eq_getElem?_getD, List.getElem?_eq_getElem hl]
    exact DM.now_wide h _ (List.getElem_mem hl)
  · cases h0
theorem rowJ_len (m : DM) (hok : m.Ok) (f n : Nat) (a : Int) : ∀ j, (rowJ m f n a j).1.length ≤ 28 * j
  | 0 => by simp [rowJ]
  | j + 1 => by
    have := rowJ_len m hok f n a j
    unfold rowJ
    split
    · omega
    · split
      · simp
      · split
        · simp
        · rename_i h0
          split
          · simp
          · have := zread_size hok f n (a + (j : Int)) (by simpa using h0)
            simp only [List.length_append, bl_length]
            have h2 : ((zread m f n (a + (j : Int))).extract 0 28).size ≤ 28 := by
              rw [← bl_length, bl_extract]
              simp [bl_length]
              omega
            omega
end Go.Proofs.Ytmogkiacakkmbaa

namespace Go.Proofs.Ytmogkiacakkmbaa
open Go.RowKit

set_option maxRecDepth 100000 in
set_option maxHeartbeats 16000000 in
theorem sealRow_any (z d f n : Nat) (m : DM) (F : List Nat) (a : Int) (K : Nat) (w : World) (hz : Blk w z (zcells d f n) 34) (hd : DiskAt w d m F) (hzF : z ∉ F) (hf : f ≤ 4096) (hn : n ≤ 4096) (ha : 0 ≤ a) (ha2 : a ≤ 5000) (hK : K ≤ 100) (few : m.loose.length ≤ 1000000) :
    Calls Try.prog 84 #[.pointer (some ⟨z, 0, none⟩), .int .i64 a, .int .i64 (K : Int)] w fun e w' => e = .returned (.tuple #[.string ⟨(rowJ m f n a K).1.toArray⟩, .int .i64 (rowJ m f n a K).2.1, .int .i64 (rowJ m f n a K).2.2]) ∧ Only [] w w' := by
  have hst := (Sd.withQ [] (diskQ d m F) hd rfl).read hz (by simp) (fun r hr => by simp only [List.mem_singleton] at hr; subst hr; exact hzF)
  have hok := hd.1
  have RZ : Hid (∀ (j : Nat) w, j < K → Blk w z (zcells d f n) 34 → DiskAt w d m F → Calls Try.prog 83 #[.pointer (some ⟨z, 0, none⟩), .int .i64 (a + (j : Int))] w fun e w' => e = .returned (.tuple #[.string (zread m f n (a + (j : Int))), .int .i64 (zreadE m f n (a + (j : Int)))]) ∧ Only [] w w') := fun j w hj h1 h2 => zonRead_any z d f n m F _ w h1 h2 hzF hf hn few
  have RL := Lib.hid (rowJ_len m hok f n a)
  have ZS := Lib.hid (zread_size hok f n)
  have ST := Lib.hid (rowJ_stuck m f n a)
  have hK' : (K : Int) ≤ 100 := by omega
  clear hd hz hzF hok
  go_enter Try.func84, Try.ntmps84
  go_wp2_with (first
    | ((with_reducible refine wpL_isAlloc rfl ?_); refine wpL_allocBld hst rfl rfl (by kernel_rfl) 9 rfl ?_; clear hst; intro w1 b hb hst))
  go_loopw [10, 16] (fun v i wr => ∃ (j : Nat) (Fb : List Nat), j ≤ K ∧ v = .int .i64 (rowJ m f n a j).2.1 ∧ i = .int .i64 (j : Int) ∧ (rowJ m f n a j).2.2 = 0 ∧ Sd w [] wr [⟨z, zcells d f n, 34, false⟩] [bldR b (rowJ m f n a j).1 Fb, diskQ d m F])
    (fun _ i _ => (K - intOf i).toNat)
  case atStart => exact ⟨0, [b], by omega, rfl, rfl, rfl, hst⟩
  case round =>
    obtain ⟨j, Fb, hj, rfl, rfl, hz0, hst⟩ := hrel
    by_cases hlt : j < K
    · have j1 : (j : Int) < K := by omega
      obtain ⟨eR, eeR⟩ : ∃ eR, eR = zreadE m f n (a + (j : Int)) := ⟨_, rfl⟩
      obtain ⟨sR, esR⟩ : ∃ sR, sR = zread m f n (a + (j : Int)) := ⟨_, rfl⟩
      obtain ⟨l, el⟩ : ∃ l, l = (rowJ m f n a j).1 := ⟨_, rfl⟩
      obtain ⟨nu, enu⟩ : ∃ nu, nu = (rowJ m f n a j).2.1 := ⟨_, rfl⟩
      have hll : l.length ≤ 28 * j := by rw [el]; exact RL.out j
      have RD : Hid (∀ w, Blk w z (zcells d f n) 34 → DiskAt w d m F → Calls Try.prog 83 #[.pointer (some ⟨z, 0, none⟩), .int .i64 (a + (j : Int))] w fun e w' => e = .returned (.tuple #[.string sR, .int .i64 eR]) ∧ Only [] w w') := fun w h1 h2 => by rw [eeR, esR]; exact RZ.out j w hlt h1 h2
      have NX : rowJ m f n a (j + 1) = if eR = 3 then ([], 0, 5) else if eR ≠ 0 then ([], 0, eR) else if isNum (secNum sR) = false ∨ (j ≠ 0 ∧ secNum sR ≠ nu) then ([], 0, 5) else (l ++ bl (sR.extract 0 28), secNum sR, 0) := by
        rw [rowJ, if_neg (by rw [hz0]; simp), eeR, esR, el, enu]
      have SZ : eR = 0 → sR.size = 32 := fun h => by rw [esR]; exact ZS.out _ (by rw [← eeR]; exact h)
      have HJ : Hid (j + 1 ≤ K) := hlt
      rw [← el] at hst
      rw [← enu]
      clear eeR esR el enu hz0 RZ
      by_cases c3 : eR = 3
      · subst c3
        have NX2 := Lib.hid (NX.trans (if_pos rfl))
        have SK := Lib.hid (ST.out (j + 1) K (by rw [NX2.out]; simp) HJ.out)
        clear NX SZ
        go_wp2_with (first | (go_at_call 83; (with_reducible refine (RD.out _ (hst.blk 0 rfl) (hst.rs 1 rfl)).mono ?_); rintro e1 w1 ⟨rfl, ho1⟩; replace hst := hst.keep ho1; clear ho1))
        go_ret3
        rw [SK.out, NX2.out]
        exact ⟨rfl, hst.only⟩
      · by_cases c0 : eR = 0
        · subst c0
          have NX2 := NX.trans ((if_neg (by decide)).trans (if_neg (by simp)))
          have hsz := SZ rfl
          obtain ⟨iv, eiv⟩ : ∃ iv, iv = secNum sR := ⟨_, rfl⟩
          have EN : Hid (∀ b w, Blk w b [.string (sR.extract 28 32), .bool false] 190 → Calls Try.prog 86 #[.pointer (some ⟨b, 0, none⟩), .int .i64 2147483647] w fun e w' => ∃ C, e = .returned (.int .i64 iv) ∧ Blk w' b C 190 ∧ Only [b] w w') := fun b w h => by
            refine (penEyeNum_any b _ false 2147483647 w h).mono ?_
            rintro e w' ⟨rfl, h1, h2⟩
            exact ⟨_, by rw [eiv]; unfold secNum; rw [hsz], h1, h2⟩
          rw [← eiv] at NX2
          have IN : Hid (∀ w, Calls Try.prog 89 #[.int .i64 iv] w fun e w' => e = .returned (.bool (isNum iv)) ∧ w = w') := fun w => isNumber_any iv w
          clear NX SZ eiv c3
          cases hi : isNum iv
          · rw [hi] at IN NX2
            have NX3 := Lib.hid (NX2.trans (if_pos (.inl rfl)))
            have SK := Lib.hid (ST.out (j + 1) K (by rw [NX3.out]; simp) HJ.out)
            clear NX2
            by_cases cj : j = 0
            · have cj2 : ((j : Int) == 0) = true := by simp; omega
              clear cj
              go_wp2_with (first | ((with_reducible refine wpL_peel rfl ?_ ?_); focus (go_simp; done)) | (go_at_call 83; (with_reducible refine (RD.out _ (hst.blk 0 rfl) (hst.rs 1 rfl)).mono ?_); rintro e1 w1 ⟨rfl, ho1⟩; replace hst := hst.keep ho1; clear ho1) | (go_at_call 85; refine (penOf_any _ _).mono ?_; rintro e1 w1 ⟨rfl, hB1, ho1⟩; replace hst := hst.new ho1 hB1 (Nat.le_refl _); clear ho1 hB1) | (go_at_call 86; (with_reducible refine (EN.out _ _ (hst.blk 0 rfl)).mono ?_); rintro e1 w2 ⟨C, rfl, hE2, ho2⟩; replace hst := hst.chg 0 rfl ho2 hE2; simp only [List.set] at hst; clear ho2 hE2) | (go_at_call 89; (with_reducible refine (IN.out _).mono ?_); rintro e1 w1 ⟨rfl, rfl⟩))
              go_ret3
              rw [SK.out, NX3.out]
              exact ⟨rfl, hst.only⟩
            · have cj2 : ((j : Int) == 0) = false := by simp; omega
              go_wp2_with (first | ((with_reducible refine wpL_peel rfl ?_ ?_); focus (go_simp; done)) | (go_at_call 83; (with_reducible refine (RD.out _ (hst.blk 0 rfl) (hst.rs 1 rfl)).mono ?_); rintro e1 w1 ⟨rfl, ho1⟩; replace hst := hst.keep ho1; clear ho1) | (go_at_call 85; refine (penOf_any _ _).mono ?_; rintro e1 w1 ⟨rfl, hB1, ho1⟩; replace hst := hst.new ho1 hB1 (Nat.le_refl _); clear ho1 hB1) | (go_at_call 86; (with_reducible refine (EN.out _ _ (hst.blk 0 rfl)).mono ?_); rintro e1 w2 ⟨C, rfl, hE2, ho2⟩; replace hst := hst.chg 0 rfl ho2 hE2; simp only [List.set] at hst; clear ho2 hE2) | (go_at_call 89; (with_reducible refine (IN.out _).mono ?_); rintro e1 w1 ⟨rfl, rfl⟩))
              go_ret3
              rw [SK.out, NX3.out]
              exact ⟨rfl, hst.only⟩
          · rw [hi] at IN NX2
            by_cases cj : j = 0
            · have cj2 : ((j : Int) == 0) = true := by simp; omega
              have NX3 := Lib.hid (NX2.trans (if_neg (by simp [cj])))
              clear cj NX2
              have hbw : Hid (l.length + (sR.extract 0 28).size ≤ 140737488355328) := by
                have h1 : (sR.extract 0 28).size ≤ 28 := by rw [← bl_length, bl_extract]; simp; omega
                show _ ≤ _
                omega
              have BW : Hid (∀ w, BldT w b l Fb → Calls Try.prog 111 #[.pointer (some ⟨b, 0, none⟩), .string (sR.extract 0 28)] w fun e w' => ∃ F', e = .returned (.tuple #[.int .i64 ((sR.extract 0 28).size : Int), .nilIface]) ∧ BldT w' b (l ++ bl (sR.extract 0 28)) F' ∧ Turn Fb F' w w') := fun w h => bldWriteT b l Fb _ w h hbw.out
              go_wp2_with (first | ((with_reducible refine wpL_peel rfl ?_ ?_); focus (go_simp; done)) | (go_at_call 83; (with_reducible refine (RD.out _ (hst.blk 0 rfl) (hst.rs 1 rfl)).mono ?_); rintro e1 w1 ⟨rfl, ho1⟩; replace hst := hst.keep ho1; clear ho1) | (go_at_call 85; refine (penOf_any _ _).mono ?_; rintro e1 w1 ⟨rfl, hB1, ho1⟩; replace hst := hst.new ho1 hB1 (Nat.le_refl _); clear ho1 hB1) | (go_at_call 86; (with_reducible refine (EN.out _ _ (hst.blk 0 rfl)).mono ?_); rintro e1 w2 ⟨C, rfl, hE2, ho2⟩; replace hst := hst.chg 0 rfl ho2 hE2; simp only [List.set] at hst; clear ho2 hE2) | (go_at_call 89; (with_reducible refine (IN.out _).mono ?_); rintro e1 w1 ⟨rfl, rfl⟩) | (go_at_call 111; (with_reducible refine (BW.out _ (hst.rs 0 rfl)).mono ?_); rintro e1 w2 ⟨F2, rfl, hd2, ht2⟩; replace hst := hst.act 0 rfl (bldR b (l ++ bl (sR.extract 0 28)) F2) rfl ht2 hd2; simp only [List.set] at hst; clear ht2 hd2))
              go_roundw
              case rel => exact ⟨j + 1, F2, HJ.out, by rw [NX3.out], by go_num, by rw [NX3.out], by rw [NX3.out]; exact hst.dropN 1⟩
              case measure => simp [intOf]; omega
            · have cj2 : ((j : Int) == 0) = false := by simp; omega
              by_cases cn : iv = nu
              · have NX3 := Lib.hid (NX2.trans (if_neg (by simp [cn])))
                have cn2 : (iv != nu) = false := by simpa using cn
                clear cj NX2 cn
                have hbw : Hid (l.length + (sR.extract 0 28).size ≤ 140737488355328) := by
                  have h1 : (sR.extract 0 28).size ≤ 28 := by rw [← bl_length, bl_extract]; simp; omega
                  show _ ≤ _
                  omega
                have BW : Hid (∀ w, BldT w b l Fb → Calls Try.prog 111 #[.pointer (some ⟨b, 0, none⟩), .string (sR.extract 0 28)] w fun e w' => ∃ F', e = .returned (.tuple #[.int .i64 ((sR.extract 0 28).size : Int), .nilIface]) ∧ BldT w' b (l ++ bl (sR.extract 0 28)) F' ∧ Turn Fb F' w w') := fun w h => bldWriteT b l Fb _ w h hbw.out
                go_wp2_with (first | ((with_reducible refine wpL_peel rfl ?_ ?_); focus (go_simp; done)) | (go_at_call 83; (with_reducible refine (RD.out _ (hst.blk 0 rfl) (hst.rs 1 rfl)).mono ?_); rintro e1 w1 ⟨rfl, ho1⟩; replace hst := hst.keep ho1; clear ho1) | (go_at_call 85; refine (penOf_any _ _).mono ?_; rintro e1 w1 ⟨rfl, hB1, ho1⟩; replace hst := hst.new ho1 hB1 (Nat.le_refl _); clear ho1 hB1) | (go_at_call 86; (with_reducible refine (EN.out _ _ (hst.blk 0 rfl)).mono ?_); rintro e1 w2 ⟨C, rfl, hE2, ho2⟩; replace hst := hst.chg 0 rfl ho2 hE2; simp only [List.set] at hst; clear ho2 hE2) | (go_at_call 89; (with_reducible refine (IN.out _).mono ?_); rintro e1 w1 ⟨rfl, rfl⟩) | (go_at_call 111; (with_reducible refine (BW.out _ (hst.rs 0 rfl)).mono ?_); rintro e1 w2 ⟨F2, rfl, hd2, ht2⟩; replace hst := hst.act 0 rfl (bldR b (l ++ bl (sR.extract 0 28)) F2) rfl ht2 hd2; simp only [List.set] at hst; clear ht2 hd2))
                go_roundw
                case rel => exact ⟨j + 1, F2, HJ.out, by rw [NX3.out]; first | rfl | (have := cn2; simp at this; rw [this]), by go_num, by rw [NX3.out], by rw [NX3.out]; exact hst.dropN 1⟩
                case measure => simp [intOf]; omega
              · have NX3 := Lib.hid (NX2.trans (if_pos (.inr ⟨cj, cn⟩)))
                have SK := Lib.hid (ST.out (j + 1) K (by rw [NX3.out]; simp) HJ.out)
                have cn2 : (iv != nu) = true := by simpa using cn
                clear cj NX2 cn
                go_wp2_with (first | ((with_reducible refine wpL_peel rfl ?_ ?_); focus (go_simp; done)) | (go_at_call 83; (with_reducible refine (RD.out _ (hst.blk 0 rfl) (hst.rs 1 rfl)).mono ?_); rintro e1 w1 ⟨rfl, ho1⟩; replace hst := hst.keep ho1; clear ho1) | (go_at_call 85; refine (penOf_any _ _).mono ?_; rintro e1 w1 ⟨rfl, hB1, ho1⟩; replace hst := hst.new ho1 hB1 (Nat.le_refl _); clear ho1 hB1) | (go_at_call 86; (with_reducible refine (EN.out _ _ (hst.blk 0 rfl)).mono ?_); rintro e1 w2 ⟨C, rfl, hE2, ho2⟩; replace hst := hst.chg 0 rfl ho2 hE2; simp only [List.set] at hst; clear ho2 hE2) | (go_at_call 89; (with_reducible refine (IN.out _).mono ?_); rintro e1 w1 ⟨rfl, rfl⟩))
                go_ret3
                rw [SK.out, NX3.out]
                exact ⟨rfl, hst.only⟩
        · have NX2 := Lib.hid (NX.trans ((if_neg c3).trans (if_pos c0)))
          have SK := Lib.hid (ST.out (j + 1) K (by rw [NX2.out]; exact c0) HJ.out)
          have d3 : (eR == 3) = false := by simpa using c3
          have d0 : (eR != 0) = true := by simpa using c0
          clear NX SZ
          go_wp2_with (first | (go_at_call 83; (with_reducible refine (RD.out _ (hst.blk 0 rfl) (hst.rs 1 rfl)).mono ?_); rintro e1 w1 ⟨rfl, ho1⟩; replace hst := hst.keep ho1; clear ho1))
          go_ret3
          rw [SK.out, NX2.out]
          exact ⟨rfl, hst.only⟩
    · obtain rfl : j = K := by omega
      have j1 : ¬ (j : Int) < j := by omega
      have BS : Hid (∀ w, BldT w b (rowJ m f n a j).1 Fb → Calls Try.prog 112 #[.pointer (some ⟨b, 0, none⟩)] w fun e w' => e = .returned (.string ⟨(rowJ m f n a j).1.toArray⟩) ∧ Only Fb w w') := fun w h => bldStringT b _ Fb w h
      have HZ := Lib.hid hz0
      clear hz0
      go_wp2_with (first
        | (go_at_call 112; (with_reducible refine (BS.out _ (hst.rs 0 rfl)).mono ?_); rintro e1 w2 ⟨rfl, ho2⟩))
      go_ret3
      rw [HZ.out]
      refine ⟨rfl, hst.only.step ho2 (fun k hk => ?_)⟩
      exact (hst.turn 0 rfl rfl).2 k hk
end Go.Proofs.Ytmogkiacakkmbaa
