/- The reference of layer 7. -/
import Derived.Test.YtmogkiacakkmbaaTwinX
namespace Go.Proofs.Ytmogkiacakkmbaa
open Go.RowKit

set_option maxRecDepth 100000 in
set_option maxHeartbeats 8000000 in
theorem refLast_any (m : DM) (h : Rest m) (H : Nat) (hl : m.len = 2 * H) (hH : 2 ≤ H) (hH2 : H ≤ 12) (w : World) :
    Calls Try.prog 34 #[.string (joinB m.safe)] w fun e w' => e = .returned (.tuple #[.string (lastJ m H 2).1, .int .i64 (lastJ m H 2).2.1, .int .i64 (lastJ m H 2).2.2]) ∧ Only [] w w' := by
  have hst := Sd.start w []
  obtain ⟨X, eX⟩ : ∃ X, X = joinB m.safe := ⟨_, rfl⟩
  have hsl : m.len = m.safe.length := rfl
  have hX : X.size = 64 * H := by rw [eX, joinB_size _ h.ok.full]; omega
  have hX' : (X.size : Int) = 64 * (H : Int) := by omega
  have hHi : (H : Int) ≤ 12 := by omega
  have hHj : 2 ≤ (H : Int) := by omega
  have RG : Hid (∀ (j : Nat) w, j < 2 → Calls Try.prog 28 #[.string (X.extract (j * (64 * H / 2)) X.size)] w fun e w' => e = .returned (.tuple #[.string (getR m 0 (2 * H) ((j * H : Nat) : Int)).1, .int .i64 (getR m 0 (2 * H) ((j * H : Nat) : Int)).2.1, .int .i64 (getR m 0 (2 * H) ((j * H : Nat) : Int)).2.2]) ∧ Only [] w w') := fun j w hj => by
    have hjH : j * H < 2 * H := Nat.mul_lt_mul_of_pos_right hj (by omega)
    have e := getR_image m h.ok h.aw h.lo (j * H) (by omega)
    rw [hl] at e
    have e2 : j * (64 * H / 2) = 32 * (j * H) := by rw [show 64 * H / 2 = 32 * H by omega, Nat.mul_left_comm]
    rw [← e, ← eX, e2]
    exact refGet_any _ w (by rw [← bl_length, bl_extract]; simp [bl_length]; omega)
  have GT := Lib.hid (fun a => getR_text m 0 (2 * H) a)
  rw [← eX]
  clear hX eX hl hsl h
  go_enter Try.func34, Try.ntmps34
  go_wp2_with fail
  go_loopw [6, 7, 8, 9] (fun a b c i wr => ∃ (j : Nat), j ≤ 2 ∧ a = .string (lastJ m H j).1 ∧ b = .int .i64 (lastJ m H j).2.1 ∧ c = .int .i64 (lastJ m H j).2.2 ∧ i = .int .i64 (j : Int) ∧ Sd w [] wr [] [])
    (fun _ _ _ i _ => (2 - intOf i).toNat)
  case atStart => exact ⟨0, by omega, rfl, rfl, rfl, rfl, hst⟩
  case round =>
    obtain ⟨j, hj, rfl, rfl, rfl, rfl, hst⟩ := hrel
    by_cases hlt : j < 2
    · have j1 : (j : Int) < 2 := by omega
      have hh : 64 * (H : Int) / 2 = 32 * (H : Int) := by omega
      have hP0 : 0 ≤ (j : Int) * (64 * (H : Int) / 2) := Int.mul_nonneg (by omega) (by omega)
      have hP1 : (j : Int) * (64 * (H : Int) / 2) ≤ 32 * (H : Int) := by
        have : (j : Int) * (64 * (H : Int) / 2) ≤ 1 * (64 * (H : Int) / 2) := Int.mul_le_mul_of_nonneg_right (by omega) (by omega)
        omega
      clear hh
      have HJ : Hid (j + 1 ≤ 2) := hlt
      have GJ := Lib.hid (fun w => RG.out j w hlt)
      have PJ : lastJ m H (j + 1) = lastStep H (lastJ m H j) (j : Int) (getR m 0 (2 * H) ((j * H : Nat) : Int)) := rfl
      have GS := GT.out ((j * H : Nat) : Int)
      rcases hG : getR m 0 (2 * H) ((j * H : Nat) : Int) with ⟨tx, k, er⟩
      rcases hS : lastJ m H j with ⟨ts, g, sd⟩
      rw [hG] at GJ PJ GS
      rw [hS] at PJ
      simp only at GJ PJ GS ⊢
      obtain ⟨K, eK⟩ : ∃ K, K = secsOf tx.size := ⟨_, rfl⟩
      have hKb : (K : Int) ≤ 40 := by rw [eK]; unfold secsOf; omega
      have SZ : Hid (∀ w, Calls Try.prog 25 #[.string tx] w fun e w' => e = .returned (.int .i64 (K : Int)) ∧ w = w') := fun w => by rw [eK]; exact refSizeT tx w (by omega)
      have fin : ∀ wr, lastJ m H (j + 1) = (ts, g, sd) → Sd w [] wr [] [] → ∃ (k : Nat), k ≤ 2 ∧ Value.string ts = .string (lastJ m H k).1 ∧ Value.int .i64 g = .int .i64 (lastJ m H k).2.1 ∧ Value.int .i64 sd = .int .i64 (lastJ m H k).2.2 ∧ Value.int .i64 ((j : Int) + 1) = .int .i64 (k : Int) ∧ Sd w [] wr [] [] := fun wr e h => ⟨j + 1, hlt, by rw [e], by rw [e], by rw [e], by go_num, h⟩
      have FIN := Lib.hid fin
      clear fin hG hS GS
      by_cases c0 : er = 0
      · subst c0
        by_cases cK : K ≤ H
        · have cK1 : 32 * (K : Int) ≤ 64 * (H : Int) / 2 := by omega
          by_cases cg : g < k
          · have E := Lib.hid (PJ.trans (if_pos ⟨rfl, by rw [← eK]; exact cK, cg⟩))
            clear PJ eK
            go_wp2_with (first | ((with_reducible refine wpL_peel rfl ?_ ?_); focus (go_simp; done)) | (go_at_call 28; (with_reducible refine (GJ.out _).mono ?_); rintro e1 w1 ⟨rfl, ho1⟩; replace hst := hst.keep ho1; clear ho1) | (go_at_call 25; (with_reducible refine (SZ.out _).mono ?_); rintro e1 w1 ⟨rfl, rfl⟩))
            go_roundw
            case rel => exact ⟨j + 1, HJ.out, by rw [E.out], by rw [E.out], by rw [E.out], by go_num, hst⟩
            case measure => simp [intOf]; omega
          · have E := Lib.hid (PJ.trans (if_neg (fun h => cg h.2.2)))
            clear PJ eK
            go_wp2_with (first | ((with_reducible refine wpL_peel rfl ?_ ?_); focus (go_simp; done)) | (go_at_call 28; (with_reducible refine (GJ.out _).mono ?_); rintro e1 w1 ⟨rfl, ho1⟩; replace hst := hst.keep ho1; clear ho1) | (go_at_call 25; (with_reducible refine (SZ.out _).mono ?_); rintro e1 w1 ⟨rfl, rfl⟩))
            go_roundw
            case rel => exact FIN.out _ E.out hst
            case measure => simp [intOf]; omega
        · have cK1 : ¬ 32 * (K : Int) ≤ 64 * (H : Int) / 2 := by omega
          have E := Lib.hid (PJ.trans (if_neg (fun h => cK (by rw [eK]; exact h.2.1))))
          clear PJ eK
          go_wp2_with (first | ((with_reducible refine wpL_peel rfl ?_ ?_); focus (go_simp; done)) | (go_at_call 28; (with_reducible refine (GJ.out _).mono ?_); rintro e1 w1 ⟨rfl, ho1⟩; replace hst := hst.keep ho1; clear ho1) | (go_at_call 25; (with_reducible refine (SZ.out _).mono ?_); rintro e1 w1 ⟨rfl, rfl⟩))
          go_roundw
          case rel => exact FIN.out _ E.out hst
          case measure => simp [intOf]; omega
      · have E := Lib.hid (PJ.trans (if_neg (fun h => c0 h.1)))
        have d0 : (er == 0) = false := by simpa using c0
        clear PJ c0 eK
        go_wp2_with (first | ((with_reducible refine wpL_peel rfl ?_ ?_); focus (go_simp; done)) | (go_at_call 28; (with_reducible refine (GJ.out _).mono ?_); rintro e1 w1 ⟨rfl, ho1⟩; replace hst := hst.keep ho1; clear ho1) | (go_at_call 25; (with_reducible refine (SZ.out _).mono ?_); rintro e1 w1 ⟨rfl, rfl⟩))
        go_roundw
        case rel => exact FIN.out _ E.out hst
        case measure => simp [intOf]; omega
    · obtain rfl : j = 2 := by omega
      have j1 : ¬ ((2 : Nat) : Int) < 2 := by omega
      go_wp2_with fail
      go_ret3
      exact ⟨rfl, hst.only⟩

section
variable (m : DM) (h : Rest m) (H : Nat) (hl : m.len = 2 * H) (hH : 2 ≤ H) (hH2 : H ≤ 12) (x s : ByteArray) (g sd : Int) (hL : lastJ m H 2 = (s, g, sd)) (hg0 : 0 ≤ g) (hg : g ≤ 2147483647) (w : World)
include h hl hH hH2 hL hg0 hg

set_option maxRecDepth 100000 in
set_option maxHeartbeats 8000000 in
theorem refSave_no (hn : canLay (g + 1) x = false ∨ H < secsOf x.size) :
    Calls Try.prog 39 #[.string (joinB m.safe), .string x] w fun e w' => e = .returned (.tuple #[.string (joinB m.safe), .bool false]) ∧ Only [] w w' := by
  have hst := Sd.start w []
  have LS : Hid (∀ w, Calls Try.prog 34 #[.string (joinB m.safe)] w fun e w' => e = .returned (.tuple #[.string s, .int .i64 g, .int .i64 sd]) ∧ Only [] w w') := fun w => by
    have := refLast_any m h H hl hH hH2 w
    rw [hL] at this
    exact this
  have hsl : m.len = m.safe.length := rfl
  have hX : (joinB m.safe).size = 64 * H := by rw [joinB_size _ h.ok.full]; omega
  generalize joinB m.safe = X at *
  have hX' : (X.size : Int) = 64 * (H : Int) := by omega
  have hHi : (H : Int) ≤ 12 := by omega
  have hHj : 2 ≤ (H : Int) := by omega
  cases hc : canLay (g + 1) x
  · have BY : Hid (∀ w, Calls Try.prog 23 #[.int .i64 (g + 1), .string x] w fun e w' => e = .returned (.tuple #[.string ⟨#[]⟩, .bool false]) ∧ Only [] w w') := fun w => refBytes_no (g + 1) x w hc
    clear hc hn hL hX hsl hl h
    go_enter Try.func39, Try.ntmps39
    go_wp2_with (first | ((with_reducible refine wpL_peel rfl ?_ ?_); focus (go_simp; done)) | (go_at_call 34; (with_reducible refine (LS.out _).mono ?_); rintro e1 w1 ⟨rfl, ho1⟩; replace hst := hst.keep ho1; clear ho1) | (go_at_call 23; (with_reducible refine (BY.out _).mono ?_); rintro e1 w1 ⟨rfl, ho1⟩; replace hst := hst.keep ho1; clear ho1))
    go_ret2
    exact ⟨rfl, hst.only⟩
  · obtain ⟨T, eT⟩ : ∃ T, T = catS (g + 1) x (secsOf x.size) := ⟨_, rfl⟩
    have hTs : T.size = 32 * secsOf x.size := by rw [eT]; exact catS_size (g + 1) x _ (Nat.le_refl _)
    have hn2 : H < secsOf x.size := by rcases hn with hn | hn; (rw [hn] at hc; cases hc); exact hn
    have hbig : 64 * (H : Int) / 2 < (T.size : Int) := by omega
    have BY : Hid (∀ w, Calls Try.prog 23 #[.int .i64 (g + 1), .string x] w fun e w' => e = .returned (.tuple #[.string T, .bool true]) ∧ Only [] w w') := fun w => by rw [eT]; exact refBytes_yes (g + 1) x w hc
    clear hc hn hL hX hsl hl h eT hTs hn2
    go_enter Try.func39, Try.ntmps39
    go_wp2_with (first | ((with_reducible refine wpL_peel rfl ?_ ?_); focus (go_simp; done)) | (go_at_call 34; (with_reducible refine (LS.out _).mono ?_); rintro e1 w1 ⟨rfl, ho1⟩; replace hst := hst.keep ho1; clear ho1) | (go_at_call 23; (with_reducible refine (BY.out _).mono ?_); rintro e1 w1 ⟨rfl, ho1⟩; replace hst := hst.keep ho1; clear ho1))
    go_ret2
    exact ⟨rfl, hst.only⟩

set_option maxRecDepth 100000 in
set_option maxHeartbeats 8000000 in
theorem refSave_yes0 (hc : canLay (g + 1) x = true) (hK : secsOf x.size ≤ H) (hsd : sd = 0) :
    Calls Try.prog 39 #[.string (joinB m.safe), .string x] w fun e w' => e = .returned (.tuple #[.string ((joinB m.safe).extract 0 (32 * H) ++ catS (g + 1) x (secsOf x.size) ++ zeroS (32 * (H - secsOf x.size)) ++ (joinB m.safe).extract (32 * (H + H)) (joinB m.safe).size), .bool true]) ∧ Only [] w w' := by
  have hst := Sd.start w []
  have LS : Hid (∀ w, Calls Try.prog 34 #[.string (joinB m.safe)] w fun e w' => e = .returned (.tuple #[.string s, .int .i64 g, .int .i64 0]) ∧ Only [] w w') := fun w => by
    have := refLast_any m h H hl hH hH2 w
    rw [hL, hsd] at this
    exact this
  have hsl : m.len = m.safe.length := rfl
  have hX : (joinB m.safe).size = 64 * H := by rw [joinB_size _ h.ok.full]; omega
  generalize joinB m.safe = X at *
  have hX' : (X.size : Int) = 64 * (H : Int) := by omega
  have hHi : (H : Int) ≤ 12 := by omega
  have hHj : 2 ≤ (H : Int) := by omega
  obtain ⟨K, eK⟩ : ∃ K, K = secsOf x.size := ⟨_, rfl⟩
  obtain ⟨T, eT⟩ : ∃ T, T = catS (g + 1) x K := ⟨_, rfl⟩
  have hTs : T.size = 32 * K := by rw [eT, eK]; exact catS_size (g + 1) x _ (Nat.le_refl _)
  have hTi : (T.size : Int) = 32 * (K : Int) := by omega
  have hKi : (K : Int) ≤ H := by omega
  have BY : Hid (∀ w, Calls Try.prog 23 #[.int .i64 (g + 1), .string x] w fun e w' => e = .returned (.tuple #[.string T, .bool true]) ∧ Only [] w w') := fun w => by rw [eT, eK]; exact refBytes_yes (g + 1) x w hc
  obtain ⟨N, eN⟩ : ∃ N, N = 32 * (H - K) := ⟨_, rfl⟩
  have HN : Hid (64 * (H : Int) / 2 - 32 * (K : Int) = (N : Int)) := by show _ = _; rw [eN]; omega
  have hN5 : Hid (N ≤ 1024) := by show _ ≤ _; omega
  obtain ⟨Zl, eZ⟩ : ∃ Zl, Zl = List.replicate N (0 : UInt8) := ⟨_, rfl⟩
  have HZL : Hid (Zl.length = N) := by rw [eZ]; exact List.length_replicate
  have HZ0 : Hid (∀ q, q < N → (Zl.getD q 0).toNat = 0) := fun q hq => by rw [eZ, List.getD_eq_getElem?_getD, List.getElem?_replicate, if_pos hq]; rfl
  have hXb : ∀ a b, (X.extract a b).size ≤ 1000 := fun a b => by rw [← bl_length, bl_extract]; simp only [List.length_drop, List.length_take, bl_length]; omega
  have hZs : (⟨Zl.toArray⟩ : ByteArray).size = N := by rw [← bl_length, bl_mk]; exact HZL.out
  have hsz : ∀ (a b : ByteArray), (a ++ b).size = a.size + b.size := fun a b => by rw [← bl_length, bl_plus, List.length_append, bl_length, bl_length]
  obtain ⟨A1, eA1⟩ : ∃ A1, A1 = X.extract 0 (64 * H / 2) ++ T := ⟨_, rfl⟩
  obtain ⟨A2, eA2⟩ : ∃ A2, A2 = A1 ++ (⟨Zl.toArray⟩ : ByteArray) := ⟨_, rfl⟩
  have B1 : Hid ((X.extract 0 (64 * H / 2)).size + T.size ≤ 9223372036854775807) := by have := hXb 0 (64 * H / 2); show _ ≤ _; omega
  have B2 : Hid (A1.size + (⟨Zl.toArray⟩ : ByteArray).size ≤ 9223372036854775807) := by have := hXb 0 (64 * H / 2); show _ ≤ _; rw [eA1, hsz, hZs]; have := hN5.out; omega
  have B3 : Hid (∀ k, A2.size + (X.extract k X.size).size ≤ 9223372036854775807) := fun k => by have := hXb 0 (64 * H / 2); have := hXb k X.size; rw [eA2, eA1, hsz, hsz, hZs]; have := hN5.out; omega
  have HA1 := Lib.hid eA1.symm
  have HA2 := Lib.hid eA2.symm
  clear eA1 eA2
  clear hXb hZs hsz
  have EK := Lib.hid eK
  have ET := Lib.hid eT
  have EN := Lib.hid eN
  have EZ := Lib.hid eZ
  clear hc hL hX hsl hl h eT hTs eN eK hK eZ
  go_enter Try.func39, Try.ntmps39
  go_wp2_with (first
    | ((with_reducible refine wpL_peel rfl ?_ ?_); focus (go_simp; done)) | (go_at_call 34; (with_reducible refine (LS.out _).mono ?_); rintro e1 w1 ⟨rfl, ho1⟩; replace hst := hst.keep ho1; clear ho1) | (go_at_call 23; (with_reducible refine (BY.out _).mono ?_); rintro e1 w1 ⟨rfl, ho1⟩; replace hst := hst.keep ho1; clear ho1)
    | ((with_reducible refine wpL_isMakeD rfl ?_); refine wpL_makeD hst rfl 56 _ rfl Try.underlying56 (.int .u8 0) (.int .u8 0) 1 1 rfl (by decide) byteInfo N (congrArg (Value.int .i64) HN.out) hN5.out (by decide) (by decide) ?_; clear hst; intro w3 gz hg3 hst)
    | ((with_reducible refine wpL_isConvT rfl ?_); refine wpL_str rfl 56 9 5 _ rfl ⟨gz, 0, none⟩ Zl N N rfl HZL.out Try.underlying56 Try.underlying5 Try.underlying9 (fun q hq => by
        have hq' : q < N := (by rw [HZL.out] at hq; exact hq)
        rw [addr_addD, Nat.zero_add]
        refine ((hst.blk 0 rfl).cell ?_)
        show (List.replicate (N * 1) (Value.int .u8 0))[q]? = _
        rw [Nat.mul_one, List.getElem?_replicate, if_pos hq', HZ0.out q hq']
        rfl) ?_))
  replace hst := hst.drew
  refine wp_region_text (by kernel_rfl) (by kernel_rfl) ?_
  generalize World.drew _ = W at *
  go_wp2_with (first
    | ((with_reducible refine wpL_isBin rfl ?_); first
        | (refine wpL_catS rfl rfl _ _ A1 rfl rfl (by with_reducible exact HA1.out) B1.out ?_)
        | (refine wpL_catS rfl rfl A1 _ A2 rfl rfl (by with_reducible exact HA2.out) B2.out ?_)
        | (refine wpL_catS rfl rfl A2 _ _ rfl rfl rfl (B3.out _) ?_)))
  refine TextQ.mk ?_ rfl
  go_wp2_with fail
  go_ret2
  refine ⟨?_, hst.only⟩
  show Ending.returned (.tuple #[.string (A2 ++ X.extract (64 * H / 2 + 64 * H / 2) X.size), .bool true]) = _
  rw [← HA2.out, ← HA1.out, ET.out, EZ.out, EN.out, EK.out, show 64 * H / 2 = 32 * H by omega, show 32 * H + 32 * H = 32 * (H + H) by omega]
  rfl

set_option maxRecDepth 100000 in
set_option maxHeartbeats 8000000 in
theorem refSave_yes1 (hc : canLay (g + 1) x = true) (hK : secsOf x.size ≤ H) (hsd : sd = 1) :
    Calls Try.prog 39 #[.string (joinB m.safe), .string x] w fun e w' => e = .returned (.tuple #[.string ((joinB m.safe).extract 0 (32 * 0) ++ catS (g + 1) x (secsOf x.size) ++ zeroS (32 * (H - secsOf x.size)) ++ (joinB m.safe).extract (32 * (0 + H)) (joinB m.safe).size), .bool true]) ∧ Only [] w w' := by
  have hst := Sd.start w []
  have LS : Hid (∀ w, Calls Try.prog 34 #[.string (joinB m.safe)] w fun e w' => e = .returned (.tuple #[.string s, .int .i64 g, .int .i64 1]) ∧ Only [] w w') := fun w => by
    have := refLast_any m h H hl hH hH2 w
    rw [hL, hsd] at this
    exact this
  have hsl : m.len = m.safe.length := rfl
  have hX : (joinB m.safe).size = 64 * H := by rw [joinB_size _ h.ok.full]; omega
  generalize joinB m.safe = X at *
  have hX' : (X.size : Int) = 64 * (H : Int) := by omega
  have hHi : (H : Int) ≤ 12 := by omega
  have hHj : 2 ≤ (H : Int) := by omega
  obtain ⟨K, eK⟩ : ∃ K, K = secsOf x.size := ⟨_, rfl⟩
  obtain ⟨T, eT⟩ : ∃ T, T = catS (g + 1) x K := ⟨_, rfl⟩
  have hTs : T.size = 32 * K := by rw [eT, eK]; exact catS_size (g + 1) x _ (Nat.le_refl _)
  have hTi : (T.size : Int) = 32 * (K : Int) := by omega
  have hKi : (K : Int) ≤ H := by omega
  have BY : Hid (∀ w, Calls Try.prog 23 #[.int .i64 (g + 1), .string x] w fun e w' => e = .returned (.tuple #[.string T, .bool true]) ∧ Only [] w w') := fun w => by rw [eT, eK]; exact refBytes_yes (g + 1) x w hc
  obtain ⟨N, eN⟩ : ∃ N, N = 32 * (H - K) := ⟨_, rfl⟩
  have HN : Hid (64 * (H : Int) / 2 - 32 * (K : Int) = (N : Int)) := by show _ = _; rw [eN]; omega
  have hN5 : Hid (N ≤ 1024) := by show _ ≤ _; omega
  obtain ⟨Zl, eZ⟩ : ∃ Zl, Zl = List.replicate N (0 : UInt8) := ⟨_, rfl⟩
  have HZL : Hid (Zl.length = N) := by rw [eZ]; exact List.length_replicate
  have HZ0 : Hid (∀ q, q < N → (Zl.getD q 0).toNat = 0) := fun q hq => by rw [eZ, List.getD_eq_getElem?_getD, List.getElem?_replicate, if_pos hq]; rfl
  have hXb : ∀ a b, (X.extract a b).size ≤ 1000 := fun a b => by rw [← bl_length, bl_extract]; simp only [List.length_drop, List.length_take, bl_length]; omega
  have hZs : (⟨Zl.toArray⟩ : ByteArray).size = N := by rw [← bl_length, bl_mk]; exact HZL.out
  have hsz : ∀ (a b : ByteArray), (a ++ b).size = a.size + b.size := fun a b => by rw [← bl_length, bl_plus, List.length_append, bl_length, bl_length]
  obtain ⟨A2, eA2⟩ : ∃ A2, A2 = T ++ (⟨Zl.toArray⟩ : ByteArray) := ⟨_, rfl⟩
  have B1 : Hid ((ByteArray.empty).size + T.size ≤ 9223372036854775807) := by show 0 + T.size ≤ _; omega
  have B2 : Hid (T.size + (⟨Zl.toArray⟩ : ByteArray).size ≤ 9223372036854775807) := by show _ ≤ _; rw [hZs]; have := hN5.out; omega
  have B3 : Hid (∀ k, A2.size + (X.extract k X.size).size ≤ 9223372036854775807) := fun k => by have := hXb k X.size; rw [eA2, hsz, hZs]; have := hN5.out; omega
  have HA1 : Hid (ByteArray.empty ++ T = T) := ByteArray.empty_append
  have HA2 := Lib.hid eA2.symm
  clear eA2
  clear hXb hZs hsz
  have EK := Lib.hid eK
  have ET := Lib.hid eT
  have EN := Lib.hid eN
  have EZ := Lib.hid eZ
  clear hc hL hX hsl hl h eT hTs eN eK hK eZ
  go_enter Try.func39, Try.ntmps39
  go_wp2_with (first
    | ((with_reducible refine wpL_peel rfl ?_ ?_); focus (go_simp; done)) | (go_at_call 34; (with_reducible refine (LS.out _).mono ?_); rintro e1 w1 ⟨rfl, ho1⟩; replace hst := hst.keep ho1; clear ho1) | (go_at_call 23; (with_reducible refine (BY.out _).mono ?_); rintro e1 w1 ⟨rfl, ho1⟩; replace hst := hst.keep ho1; clear ho1)
    | ((with_reducible refine wpL_isMakeD rfl ?_); refine wpL_makeD hst rfl 56 _ rfl Try.underlying56 (.int .u8 0) (.int .u8 0) 1 1 rfl (by decide) byteInfo N (congrArg (Value.int .i64) HN.out) hN5.out (by decide) (by decide) ?_; clear hst; intro w3 gz hg3 hst)
    | ((with_reducible refine wpL_isConvT rfl ?_); refine wpL_str rfl 56 9 5 _ rfl ⟨gz, 0, none⟩ Zl N N rfl HZL.out Try.underlying56 Try.underlying5 Try.underlying9 (fun q hq => by
        have hq' : q < N := (by rw [HZL.out] at hq; exact hq)
        rw [addr_addD, Nat.zero_add]
        refine ((hst.blk 0 rfl).cell ?_)
        show (List.replicate (N * 1) (Value.int .u8 0))[q]? = _
        rw [Nat.mul_one, List.getElem?_replicate, if_pos hq', HZ0.out q hq']
        rfl) ?_))
  replace hst := hst.drew
  refine wp_region_text (by kernel_rfl) (by kernel_rfl) ?_
  generalize World.drew _ = W at *
  go_wp2_with (first
    | ((with_reducible refine wpL_isBin rfl ?_); first
        | (refine wpL_catS rfl rfl ByteArray.empty T T rfl rfl HA1.out B1.out ?_)
        | (refine wpL_catS rfl rfl T _ A2 rfl rfl (by with_reducible exact HA2.out) B2.out ?_)
        | (refine wpL_catS rfl rfl A2 _ _ rfl rfl rfl (B3.out _) ?_)))
  refine TextQ.mk ?_ rfl
  go_wp2_with fail
  go_ret2
  refine ⟨?_, hst.only⟩
  show Ending.returned (.tuple #[.string (A2 ++ X.extract (64 * H / 2) X.size), .bool true]) = _
  have e0 : X.extract 0 (32 * 0) = ByteArray.empty := by simp
  rw [e0, ByteArray.empty_append, ← HA2.out, ET.out, EZ.out, EN.out, EK.out, show 64 * H / 2 = 32 * H by omega, show 32 * (0 + H) = 32 * H by omega]
  rfl
end
end Go.Proofs.Ytmogkiacakkmbaa
