/- The reference of layer 6: Get. -/
import Derived.Test.YtmogkiacakkmbaaSealI
import Derived.Test.YtmogkiacakkmbaaRefC
import Derived.Test.YtmogkiacakkmbaaEyeC
import Derived.Test.YtmogkiacakkmbaaEyeB
namespace Go.Proofs.Ytmogkiacakkmbaa
open Go.RowKit

theorem bl_plus (s t : ByteArray) : bl (s ++ t) = bl s ++ bl t := by simp [bl, ByteArray.data_append]
theorem refTextT (s : ByteArray) (w : World) (hs : s.size ≤ 1000000) : Calls Try.prog 92 #[.string s] w fun e w' => e = .returned (.string ⟨(num4 (s.size : Int) ++ bl s).toArray⟩) ∧ Only [] w w' := by
  have hst := Sd.start w []
  obtain ⟨N4, e4⟩ : ∃ N4, N4 = num4 (s.size : Int) := ⟨_, rfl⟩
  have h4 : N4.length = 4 := by rw [e4]; rfl
  have NM : Hid (∀ w, Calls Try.prog 94 #[.int .i64 (s.size : Int)] w fun e w' => e = .returned (.tuple #[.string ⟨N4.toArray⟩, .bool true]) ∧ Only [] w w') := fun w => by
    have := refNum_any s.size w (by omega)
    rw [e4, num4_told (by simp [told]; omega), Int.toNat_natCast]
    exact this
  have HF : Hid ((⟨N4.toArray⟩ : ByteArray) ++ s = ⟨(N4 ++ bl s).toArray⟩) := by
    apply bl_ext
    simp [bl, ByteArray.data_append]
  have hsz : (⟨N4.toArray⟩ : ByteArray).size = 4 := by rw [← bl_length, bl_mk]; exact h4
  have HZ := Lib.hid hsz
  rw [← e4]
  clear e4 h4 hsz
  go_enter Try.func92, Try.ntmps92
  go_wp2_with (first
    | (go_at_call 94; (with_reducible refine (NM.out _).mono ?_); rintro e1 w1 ⟨rfl, ho1⟩; replace hst := hst.keep ho1; clear ho1)
    | ((with_reducible refine wpL_isBin rfl ?_); refine wpL_catS rfl rfl _ _ _ rfl rfl HF.out (by have := HZ.out; omega) ?_))
  go_ret
  exact ⟨rfl, hst.only⟩
theorem refSizeT (s : ByteArray) (w : World) (hs : s.size ≤ 1000000) : Calls Try.prog 25 #[.string s] w fun e w' => e = .returned (.int .i64 (secsOf s.size : Int)) ∧ w = w' := by
  have e1 : ((s.size : Int) + 36 + 27) / 28 = (secsOf s.size : Int) := by unfold secsOf; omega
  have e2 : ((s.size : Int) + 36 + 27).tdiv 28 = (secsOf s.size : Int) := by rw [Int.tdiv_eq_ediv_of_nonneg (by omega)]; exact e1
  go_enter Try.func25, Try.ntmps25
  go_wp2_with fail
  go_ret
  exact ⟨rfl, rfl⟩
/-- What is summed, behind so many bytes of filling. -/
def padT (s : ByteArray) (j : Nat) : ByteArray := ⟨(num4 (s.size : Int) ++ bl s ++ List.replicate j 0).toArray⟩
theorem padT_size (s : ByteArray) (j : Nat) : (padT s j).size = 4 + s.size + j := by
  rw [← bl_length]
  unfold padT
  rw [bl_mk]
  simp [num4_length, bl_length]
  omega
theorem padT_succ (s : ByteArray) (j : Nat) : padT s j ++ ⟨#[0]⟩ = padT s (j + 1) := by
  refine bl_ext ?_
  unfold padT
  rw [bl_plus, bl_mk, bl_mk, List.replicate_succ', ← List.append_assoc]
  rfl
def fillN (s : ByteArray) : Nat := secsOf s.size * 28 - 36 - s.size
theorem padT_end (s : ByteArray) (j : Nat) (h : j ≤ fillN s) : ((4 + s.size + j + 32) % 28 = 0 ↔ j = fillN s) := by
  unfold fillN secsOf at *
  omega
theorem padT_body (s : ByteArray) : padT s (fillN s) = ⟨(bodyB s).toArray⟩ := rfl
/-- A text's sectors, one behind the other. -/
def catS (n : Int) (s : ByteArray) (j : Nat) : ByteArray := ⟨(cat (layS n s j)).toArray⟩
theorem catS_succ (n : Int) (s : ByteArray) (j : Nat) : (catS n s j ++ (⟨(sealB s).toArray⟩ : ByteArray).extract (28 * j) (28 * j + 28)) ++ ⟨(num4 n).toArray⟩ = catS n s (j + 1) := by
  refine bl_ext ?_
  unfold catS
  rw [bl_plus, bl_plus, bl_mk, bl_extract, bl_mk, bl_mk, layS_succ, List.append_assoc]
  unfold cat
  rw [bl_mk, List.map_append, List.flatten_append]
  congr 1
  simp only [List.map_cons, List.map_nil, List.flatten_cons, List.flatten_nil, List.append_nil]
  unfold laySec
  rw [bl_mk, List.drop_take, show 28 * j + 28 - 28 * j = 28 by omega]
theorem catS_size (n : Int) (s : ByteArray) (j : Nat) (h : j ≤ secsOf s.size) : (catS n s j).size = 32 * j := by
  rw [← bl_length]
  unfold catS
  rw [bl_mk, cat_length _ (fun t ht => ?_), layS_length]
  simp only [layS, List.mem_map, List.mem_range] at ht
  obtain ⟨i, hi, rfl⟩ := ht
  exact laySec_size n s i (by omega)

set_option maxRecDepth 100000 in
theorem refBytes_no (n : Int) (s : ByteArray) (w : World) (h : canLay n s = false) : Calls Try.prog 23 #[.int .i64 n, .string s] w fun e w' => e = .returned (.tuple #[.string ⟨#[]⟩, .bool false]) ∧ Only [] w w' := by
  have hst := Sd.start w []
  have h' : n < 1 ∨ (1 ≤ n ∧ 2147483647 < n) ∨ (1 ≤ n ∧ n ≤ 2147483647 ∧ 1024 < (s.size : Int)) := by
    unfold canLay isNum at h
    simp at h
    omega
  clear h
  rcases h' with h | ⟨h1, h⟩ | ⟨h1, h2, h⟩
  all_goals
    go_enter Try.func23, Try.ntmps23
    go_wp2_with fail
    go_ret2
    exact ⟨rfl, hst.only⟩
set_option maxRecDepth 100000 in
set_option maxHeartbeats 8000000 in
theorem refBytes_yes (n : Int) (s : ByteArray) (w : World) (h : canLay n s = true) : Calls Try.prog 23 #[.int .i64 n, .string s] w fun e w' => e = .returned (.tuple #[.string (catS n s (secsOf s.size)), .bool true]) ∧ Only [] w w' := by
  have hst := Sd.start w []
  obtain ⟨hN, hs⟩ := canLay_iff.1 h
  have hn : 1 ≤ n ∧ n ≤ 2147483647 := by unfold isNum at hN; simpa using hN
  obtain ⟨n1, n2⟩ := hn
  have hs' : (s.size : Int) ≤ 1024 := by omega
  have hle := secsOf_le s.size
  have hge := secsOf_ge s.size
  obtain ⟨K, eK⟩ : ∃ K, K = secsOf s.size := ⟨_, rfl⟩
  obtain ⟨M, eM⟩ : ∃ M, M = fillN s := ⟨_, rfl⟩
  have hM : M ≤ 27 := by rw [eM]; unfold fillN; omega
  have hK : K ≤ 40 := by omega
  have TX : Hid (∀ w, Calls Try.prog 92 #[.string s] w fun e w' => e = .returned (.string (padT s 0)) ∧ Only [] w w') := fun w => by
    have := refTextT s w (by omega)
    unfold padT
    rw [List.replicate_zero, List.append_nil]
    exact this
  obtain ⟨D, eD⟩ : ∃ D, D = Sha.sum (bodyB s) := ⟨_, rfl⟩
  have hD : D.length = 32 := by rw [eD]; exact Sha.sum_length _
  have OF : Hid (∀ w, Calls Try.prog 93 #[.string (padT s M)] w fun e w' => e = .returned (.agg (Lib.byteCells D).toArray) ∧ Only [] w w') := fun w => by
    have := refOf_any (padT s M) w (by rw [padT_size]; omega)
    rw [eD]
    rw [eM, padT_body, bl_mk] at this
    rw [eM, padT_body]
    exact this
  obtain ⟨T, eT⟩ : ∃ T : ByteArray, T = ⟨(sealB s).toArray⟩ := ⟨_, rfl⟩
  have HF : Hid ((⟨D.toArray⟩ : ByteArray) ++ padT s M = T) := by
    rw [eD, eM, eT, padT_body]
    refine bl_ext ?_
    rw [bl_plus, bl_mk, bl_mk, bl_mk]
    rfl
  have hT : T.size = K * 28 := by rw [eT, ← bl_length, bl_mk, sealB_length, eK]
  have NM : Hid (∀ w, Calls Try.prog 94 #[.int .i64 n] w fun e w' => e = .returned (.tuple #[.string ⟨(num4 n).toArray⟩, .bool true]) ∧ Only [] w w') := fun w => by
    have := refNum_any n.toNat w (by omega)
    rw [num4_told (isNum_told hN)]
    rw [show ((n.toNat : Nat) : Int) = n by omega] at this
    exact this
  have CS : Hid (∀ j, j < K → (catS n s j ++ T.extract (28 * j) (28 * j + 28)) ++ ⟨(num4 n).toArray⟩ = catS n s (j + 1)) := fun j _ => by rw [eT]; exact catS_succ n s j
  have CZ : Hid (∀ j, j ≤ K → (catS n s j).size = 32 * j) := fun j hj => catS_size n s j (by omega)
  have PZ : Hid (∀ j, (padT s j).size = 4 + s.size + j) := padT_size s
  have PS : Hid (∀ j, padT s j ++ ⟨#[0]⟩ = padT s (j + 1)) := padT_succ s
  have PE : Hid (∀ j, j ≤ M → (((4 + s.size + j + 32) % 28 = 0) ↔ j = M)) := fun j hj => by rw [eM]; exact padT_end s j (by omega)
  have HD := Lib.hid hD
  have HD1 := Lib.hid (digOne D)
  have HDL := Lib.hid (digLen D hD)
  have HT := Lib.hid hT
  have N4 : Hid ((⟨(num4 n).toArray⟩ : ByteArray).size = 4) := by show ByteArray.size _ = 4; rw [← bl_length, bl_mk]; rfl
  rw [← eK]
  clear eT eD eM eK hD hT hN h hle hge hs
  go_enter Try.func23, Try.ntmps23
  go_wp2_with (first
    | (go_at_call 92; (with_reducible refine (TX.out _).mono ?_); rintro e1 w1 ⟨rfl, ho1⟩; replace hst := hst.keep ho1; clear ho1))
  go_loopw [6] (fun v wr => ∃ (j : Nat), j ≤ M ∧ v = .string (padT s j) ∧ Sd w [] wr [] [])
    (fun v _ => match v with | .string t => 4 + s.size + M - t.size | _ => 0)
  case atStart => exact ⟨0, by omega, rfl, hst⟩
  case round =>
    obtain ⟨j, hj, rfl, hst⟩ := hrel
    have hz := PZ.out j
    have hp := PE.out j hj
    have hzz : ((padT s j).size : Int) ≤ 2000 := by omega
    by_cases hlt : j < M
    · have d2 : ((((padT s j).size : Int) + 32) % 28 != 0) = true := by
        rw [hz]
        refine bne_iff_ne.2 fun h => ?_
        have := hp.1 (by omega)
        omega
      have HS := Lib.hid (PS.out j)
      have HZ : Hid ((padT s j).size ≤ 2000) := by show _ ≤ _; omega
      have HJ : Hid (j + 1 ≤ M) := hlt
      have HZ2 : Hid ((padT s j).size = 4 + s.size + j ∧ (padT s (j + 1)).size = 4 + s.size + (j + 1)) := ⟨hz, PZ.out (j + 1)⟩
      clear hp hz
      generalize padT s j = U at *
      go_wp2_with (first
        | ((with_reducible refine wpL_isBin rfl ?_); refine wpL_catS rfl rfl _ _ _ rfl rfl HS.out (by have := HZ.out; have : (⟨#[0]⟩ : ByteArray).size = 1 := rfl; omega) ?_))
      go_roundw
      case rel => exact ⟨j + 1, HJ.out, rfl, hst⟩
      case measure => have := HZ2.out; simp; omega
    · obtain rfl : j = M := by omega
      have d2 : ((((padT s j).size : Int) + 32) % 28 != 0) = false := by
        rw [hz]
        have := hp.2 rfl
        simp only [bne_eq_false_iff_eq]
        omega
      have HCT : Hid ((⟨D.toArray⟩ : ByteArray).size + (padT s j).size ≤ 9223372036854775807) := by
        have : (⟨D.toArray⟩ : ByteArray).size = 32 := by rw [← bl_length, bl_mk]; exact HD.out
        show _ ≤ _
        omega
      clear hp hz
      generalize padT s j = U at *
      go_wp2_with (first
        | (go_at_call 93; (with_reducible refine (OF.out _).mono ?_); rintro e1 w1 ⟨rfl, ho1⟩; replace hst := hst.keep ho1; clear ho1)
        | ((with_reducible refine wpL_isAlloc rfl ?_); refine wpL_allocD hst rfl 101 rfl (.agg zeros32.toArray) zeros32 (by kernel_rfl) rfl 7 rfl ?_; clear hst; intro w1 X hX hst)
        | ((with_reducible refine wpL_isStore rfl ?_); refine wpL_storeD hst rfl (ty := 101) rfl 0 rfl rfl (D := Lib.byteCells D) rfl (by kernel_rfl) (by kernel_rfl) HDL.out HD1.out ?_; clear hst; intro w1 hst; simp only [List.set] at hst)
        | (refine wpL_str rfl 56 9 5 _ rfl ⟨X, 0, none⟩ D 32 32 rfl HD.out Try.underlying56 Try.underlying5 Try.underlying9 (fun q hq => by rw [addr_addD, Nat.zero_add]; exact (hst.blk 0 rfl).cell (by simp only [Lib.byteCells, List.getElem?_map]; rw [List.getElem?_eq_getElem hq, List.getD_eq_getElem?_getD, List.getElem?_eq_getElem hq]; rfl)) ?_)
        | ((with_reducible refine wpL_isBin rfl ?_); refine wpL_catS rfl rfl _ _ _ rfl rfl HF.out HCT.out ?_)
        | (go_at_call 94; (with_reducible refine (NM.out _).mono ?_); rintro e1 w1 ⟨rfl, ho1⟩; replace hst := hst.keep ho1; clear ho1))
      clear HCT hzz d2
      have hT : T.size = K * 28 := HT.out
      go_loopw [10, 11] (fun v i wr => ∃ (j : Nat), j ≤ K ∧ v = .string (catS n s j) ∧ i = .int .i64 (28 * (j : Int)) ∧ Sd w [] wr [⟨X, Lib.byteCells D, 101, true⟩] [])
        (fun _ i _ => 28 * K - (intOf i).toNat)
      case atStart => exact ⟨0, by omega, rfl, rfl, hst⟩
      case round =>
        obtain ⟨j2, hj2, rfl, rfl, hst⟩ := hrel
        by_cases hl2 : j2 < K
        · have j1 : 28 * (j2 : Int) < (K * 28 : Nat) := by omega
          have HS := Lib.hid (CS.out j2 hl2)
          have HZ := Lib.hid (CZ.out j2 hj2)
          have HJ : Hid (j2 + 1 ≤ K) := hl2
          have HX : Hid ((T.extract (28 * j2) (28 * j2 + 28)).size ≤ 100) := by
            show _ ≤ _
            rw [← bl_length, bl_extract]
            simp only [List.length_drop, List.length_take]
            omega
          have HB1 : Hid ((catS n s j2).size + (T.extract (28 * j2) (28 * j2 + 28)).size ≤ 9223372036854775807) := by
            have h1 := HZ.out
            have h2 := HX.out
            show _ ≤ _
            omega
          have HB2 : Hid ((catS n s j2 ++ T.extract (28 * j2) (28 * j2 + 28)).size + (⟨(num4 n).toArray⟩ : ByteArray).size ≤ 9223372036854775807) := by
            have h1 := HZ.out
            have h2 := HX.out
            have h3 := N4.out
            have h4 : (catS n s j2 ++ T.extract (28 * j2) (28 * j2 + 28)).size = (catS n s j2).size + (T.extract (28 * j2) (28 * j2 + 28)).size := by
              rw [← bl_length, bl_plus, List.length_append, bl_length, bl_length]
            show _ ≤ _
            omega
          have hlt2 : 28 * (j2 : Int) < (T.size : Int) := by omega
          have hlt3 : 28 * (j2 : Int) + 28 ≤ (T.size : Int) := by omega
          go_wp2_with (first
            | ((with_reducible refine wpL_isBin rfl ?_); first | (refine wpL_catS rfl rfl _ _ _ rfl rfl HS.out HB2.out ?_) | (refine wpL_catS rfl rfl _ _ _ rfl rfl rfl HB1.out ?_)))
          go_roundw
          case rel => exact ⟨j2 + 1, HJ.out, rfl, by go_num, hst⟩
          case measure => simp [intOf]; omega
        · obtain rfl : j2 = K := by omega
          have j1 : ¬ 28 * (j2 : Int) < (T.size : Int) := by omega
          go_wp2_with fail
          go_ret2
          exact ⟨rfl, hst.only⟩
end Go.Proofs.Ytmogkiacakkmbaa

namespace Go.Proofs.Ytmogkiacakkmbaa
open Go.RowKit

section
variable {P : Program} {w : World} {ops : Array Oper} {rest : List Oper} {o : Oper} {a : Act} {Q : Exit → Act → World → Prop}
theorem wpL_build1 (hg : o.guard = none) (t : TypeId) {i1 : Nat} {x1 : Operand} (ho : o.op = .build t #[(i1, x1)]) {v1 : Value} (h1 : a.eval x1 = v1) (C : List Value)
    (hf : P.built t [(i1, v1)] = some C.toArray) (h : wpList P ops Q rest (a.put o.dst (.agg C.toArray)) w) : wpList P ops Q (o :: rest) a w :=
  wpL_build hg t _ ho C (by simpa [h1] using hf) h
end
theorem eyeBuilt (s : ByteArray) : Try.prog.built 155 [(0, .string s)] = some ([Value.string s, .bool false]).toArray := by kernel_rfl
/-- The bodies of so many sectors. -/
def bodyG (all : ByteArray) (j : Nat) : ByteArray := ⟨((List.range j).flatMap fun i => bl (all.extract (32 * i) (32 * i + 28))).toArray⟩
theorem bodyG_succ (all : ByteArray) (j : Nat) : bodyG all j ++ all.extract (32 * j) (32 * j + 28) = bodyG all (j + 1) := by
  refine bl_ext ?_
  unfold bodyG
  rw [bl_plus, bl_mk, bl_mk, List.range_succ, List.flatMap_append]
  congr 1
  simp only [List.flatMap_cons, List.flatMap_nil, List.append_nil]
  rfl
theorem ext_len (s : ByteArray) (a b : Nat) (h : b ≤ s.size) (hab : a ≤ b) : (s.extract a b).size = b - a := by
  rw [← bl_length, bl_extract]
  simp only [List.length_drop, List.length_take, bl_length]
  omega
theorem bodyG_size (all : ByteArray) : ∀ j, 32 * j ≤ all.size → (bodyG all j).size = 28 * j
  | 0, _ => rfl
  | j + 1, h => by
    have := bodyG_size all j (by omega)
    rw [← bodyG_succ, ← bl_length, bl_plus, List.length_append, bl_length, bl_length, this, ext_len _ _ _ (by omega) (by omega)]
    omega
/-- The document's answer of all bytes from a place on. -/
def refG (all : ByteArray) : ByteArray × Int × Int :=
  if all.size < 64 then (⟨#[]⟩, 0, 5)
  else if (eyeNum 2147483647 (all.extract 28 32) false).2.2 = true ∨ (eyeNum 2147483647 (all.extract 28 32) false).1 < 1 then (⟨#[]⟩, 0, 5)
  else if (eyeNum 1024 (all.extract 36 40) false).2.2 = true ∨ all.size < 32 * secsOf (eyeNum 1024 (all.extract 36 40) false).1.toNat then (⟨#[]⟩, 0, 5)
  else if ∀ i, i < secsOf (eyeNum 1024 (all.extract 36 40) false).1.toNat → all.extract (32 * i + 28) (32 * i + 32) = all.extract 28 32 then
    if catS (eyeNum 2147483647 (all.extract 28 32) false).1 ((bodyG all (secsOf (eyeNum 1024 (all.extract 36 40) false).1.toNat)).extract 36 (36 + (eyeNum 1024 (all.extract 36 40) false).1.toNat)) (secsOf (eyeNum 1024 (all.extract 36 40) false).1.toNat) = all.extract 0 (32 * secsOf (eyeNum 1024 (all.extract 36 40) false).1.toNat) then
      ((bodyG all (secsOf (eyeNum 1024 (all.extract 36 40) false).1.toNat)).extract 36 (36 + (eyeNum 1024 (all.extract 36 40) false).1.toNat), (eyeNum 2147483647 (all.extract 28 32) false).1, 0)
    else (⟨#[]⟩, 0, 6)
  else (⟨#[]⟩, 0, 5)

set_option maxRecDepth 100000 in
set_option maxHeartbeats 8000000 in
theorem refGet_any (all : ByteArray) (w : World) (hs : all.size ≤ 1000000) : Calls Try.prog 28 #[.string all] w fun e w' => e = .returned (.tuple #[.string (refG all).1, .int .i64 (refG all).2.1, .int .i64 (refG all).2.2]) ∧ Only [] w w' := by
  have hst := Sd.start w []
  unfold refG
  by_cases h1 : all.size < 64
  · rw [if_pos h1]
    have h1' : (all.size : Int) < 64 := by omega
    go_enter Try.func28, Try.ntmps28
    go_wp2_with fail
    go_ret3
    exact ⟨rfl, hst.only⟩
  rw [if_neg h1]
  have h1' : ¬ (all.size : Int) < 64 := by omega
  have r1 := eyeNum_range 2147483647 (by decide) (all.extract 28 32) false
  have r2 := eyeNum_range 1024 (by decide) (all.extract 36 40) false
  have E1 : Hid (∀ (b : Nat) (w : World), Blk w b [.string (all.extract 28 32), .bool false] 155 → Calls Try.prog 95 #[.pointer (some ⟨b, 0, none⟩), .int .i64 2147483647] w fun e w' => ∃ C, e = .returned (.int .i64 (eyeNum 2147483647 (all.extract 28 32) false).1) ∧ Blk w' b [C, .bool (eyeNum 2147483647 (all.extract 28 32) false).2.2] 155 ∧ Only [b] w w') := fun b w h => by
    refine (refEyeNum_any b _ false 2147483647 w h).mono ?_
    rintro e w' ⟨h1, h2, h3⟩
    exact ⟨_, h1, h2, h3⟩
  have E2 : Hid (∀ (b : Nat) (w : World), Blk w b [.string (all.extract 36 40), .bool false] 155 → Calls Try.prog 95 #[.pointer (some ⟨b, 0, none⟩), .int .i64 1024] w fun e w' => ∃ C, e = .returned (.int .i64 (eyeNum 1024 (all.extract 36 40) false).1) ∧ Blk w' b [C, .bool (eyeNum 1024 (all.extract 36 40) false).2.2] 155 ∧ Only [b] w w') := fun b w h => by
    refine (refEyeNum_any b _ false 1024 w h).mono ?_
    rintro e w' ⟨h1, h2, h3⟩
    exact ⟨_, h1, h2, h3⟩
  generalize (eyeNum 2147483647 (all.extract 28 32) false).1 = n at *
  generalize (eyeNum 2147483647 (all.extract 28 32) false).2.2 = bd at *
  obtain ⟨k, ek⟩ : ∃ k : Nat, (eyeNum 1024 (all.extract 36 40) false).1 = (k : Int) := ⟨(eyeNum 1024 (all.extract 36 40) false).1.toNat, by omega⟩
  rw [ek] at E2 r2 ⊢
  clear ek
  generalize (eyeNum 1024 (all.extract 36 40) false).2.2 = be at *
  rw [Int.toNat_natCast]
  obtain ⟨n0, n1⟩ := r1
  have k1 : (k : Int) ≤ 1024 := r2.2
  clear r2
  have a64 : (64 : Int) ≤ all.size := by omega
  by_cases h2 : bd = true ∨ n < 1
  · rw [if_pos h2]
    have h2' : bd = true ∨ (bd = false ∧ n < 1) := by cases bd <;> simp_all
    clear h2
    rcases h2' with rfl | ⟨rfl, h2⟩
    all_goals
      go_enter Try.func28, Try.ntmps28
      go_wp2_with (first | ((with_reducible refine wpL_peel rfl ?_ ?_); focus (go_simp; done)) | ((with_reducible refine wpL_isBuildD rfl ?_); refine wpL_build1 rfl 155 rfl rfl _ (eyeBuilt _) ?_) | ((with_reducible refine wpL_isBoxD rfl ?_); refine wpL_boxD hst rfl 155 rfl rfl ?_; clear hst; intro w1 E hE hst) | (go_at_call 95; (with_reducible first | refine (E1.out _ _ (hst.blk 0 rfl)).mono ?_ | refine (E2.out _ _ (hst.blk 0 rfl)).mono ?_); rintro e1 w2 ⟨C, rfl, hE2, ho2⟩; replace hst := hst.chg 0 rfl ho2 hE2; simp only [List.set] at hst; clear ho2 hE2) | ((with_reducible refine wpL_peel rfl ?_ ?_); focus (go_simp; done)) | ((with_reducible refine wpL_isLoad rfl ?_); first | (refine wpL_load1S hst.st rfl rfl 0 rfl rfl rfl (by kernel_rfl) ?_) | (refine wpL_load1S hst.st rfl rfl 1 rfl rfl rfl (by kernel_rfl) ?_) | (refine wpL_load1S hst.st rfl rfl 2 rfl rfl rfl (by kernel_rfl) ?_) | (refine wpL_load1S hst.st rfl rfl 3 rfl rfl rfl (by kernel_rfl) ?_)))
      go_ret3
      exact ⟨rfl, hst.only⟩
  rw [if_neg h2]
  obtain ⟨rfl, h3⟩ : bd = false ∧ 1 ≤ n := by cases bd <;> simp_all <;> omega
  clear h2
  obtain ⟨K, eK⟩ : ∃ K, K = secsOf k := ⟨_, rfl⟩
  have q1 : ((k : Int) + 36 + 27) / 28 = (K : Int) := by rw [eK]; unfold secsOf; omega
  have hK : K ≤ 40 := by rw [eK]; unfold secsOf; omega
  have hK2 : 36 + k ≤ 28 * K := by rw [eK]; have := secsOf_ge k; omega
  rw [← eK]
  by_cases h4 : be = true ∨ all.size < 32 * K
  · rw [if_pos h4]
    have h4' : be = true ∨ (be = false ∧ (all.size : Int) < 32 * (K : Int)) := by cases be <;> simp_all <;> omega
    clear h4 eK
    rcases h4' with rfl | ⟨rfl, h4⟩
    all_goals
      go_enter Try.func28, Try.ntmps28
      go_wp2_with (first | ((with_reducible refine wpL_peel rfl ?_ ?_); focus (go_simp; done)) | ((with_reducible refine wpL_isBuildD rfl ?_); refine wpL_build1 rfl 155 rfl rfl _ (eyeBuilt _) ?_) | ((with_reducible refine wpL_isBoxD rfl ?_); refine wpL_boxD hst rfl 155 rfl rfl ?_; clear hst; intro w1 E hE hst) | (go_at_call 95; (with_reducible first | refine (E1.out _ _ (hst.blk 0 rfl)).mono ?_ | refine (E2.out _ _ (hst.blk 0 rfl)).mono ?_); rintro e1 w2 ⟨C, rfl, hE2, ho2⟩; replace hst := hst.chg 0 rfl ho2 hE2; simp only [List.set] at hst; clear ho2 hE2) | ((with_reducible refine wpL_peel rfl ?_ ?_); focus (go_simp; done)) | ((with_reducible refine wpL_isLoad rfl ?_); first | (refine wpL_load1S hst.st rfl rfl 0 rfl rfl rfl (by kernel_rfl) ?_) | (refine wpL_load1S hst.st rfl rfl 1 rfl rfl rfl (by kernel_rfl) ?_) | (refine wpL_load1S hst.st rfl rfl 2 rfl rfl rfl (by kernel_rfl) ?_) | (refine wpL_load1S hst.st rfl rfl 3 rfl rfl rfl (by kernel_rfl) ?_)))
      go_ret3
      exact ⟨rfl, hst.only⟩
  rw [if_neg h4]
  obtain ⟨rfl, h5⟩ : be = false ∧ 32 * (K : Int) ≤ all.size := by cases be <;> simp_all <;> omega
  suffices key : ∀ Z : ByteArray × Int × Int, ((∀ i, i < K → all.extract (32 * i + 28) (32 * i + 32) = all.extract 28 32) → catS n ((bodyG all K).extract 36 (36 + k)) K = all.extract 0 (32 * K) → Z = ((bodyG all K).extract 36 (36 + k), n, 0)) →
      ((∀ i, i < K → all.extract (32 * i + 28) (32 * i + 32) = all.extract 28 32) → catS n ((bodyG all K).extract 36 (36 + k)) K ≠ all.extract 0 (32 * K) → Z = (⟨#[]⟩, 0, 6)) →
      ((¬ ∀ i, i < K → all.extract (32 * i + 28) (32 * i + 32) = all.extract 28 32) → Z = (⟨#[]⟩, 0, 5)) →
      Calls Try.prog 28 #[.string all] w fun e w' => e = .returned (.tuple #[.string Z.1, .int .i64 Z.2.1, .int .i64 Z.2.2]) ∧ Only [] w w' by
    exact key _ (fun h1 h2 => by rw [if_pos h1, if_pos h2]) (fun h1 h2 => by rw [if_pos h1, if_neg h2]) (fun h1 => by rw [if_neg h1])
  intro Z z1 z2 z3
  have Z1 := Lib.hid z1
  have Z2 := Lib.hid z2
  have Z3 := Lib.hid z3
  clear z1 z2 z3
  have hks : ((bodyG all K).extract 36 (36 + k)).size = k := by
    rw [ext_len _ _ _ (by rw [bodyG_size all K (by omega)]; omega) (by omega)]
    omega
  have BY : Hid (∀ w, Calls Try.prog 23 #[.int .i64 n, .string ((bodyG all K).extract 36 (36 + k))] w fun e w' => e = .returned (.tuple #[.string (catS n ((bodyG all K).extract 36 (36 + k)) K), .bool true]) ∧ Only [] w w') := fun w => by
    have := refBytes_yes n ((bodyG all K).extract 36 (36 + k)) w (canLay_iff.2 ⟨by unfold isNum; simp; omega, by omega⟩)
    rw [hks, ← eK] at this
    exact this
  have BZ := Lib.hid (fun j (h : 32 * j ≤ all.size) => bodyG_size all j h)
  have BS := Lib.hid (bodyG_succ all)
  clear hks eK h4
  go_enter Try.func28, Try.ntmps28
  go_wp2_with (first | ((with_reducible refine wpL_peel rfl ?_ ?_); focus (go_simp; done)) | ((with_reducible refine wpL_isBuildD rfl ?_); refine wpL_build1 rfl 155 rfl rfl _ (eyeBuilt _) ?_) | ((with_reducible refine wpL_isBoxD rfl ?_); refine wpL_boxD hst rfl 155 rfl rfl ?_; clear hst; intro w1 E hE hst) | (go_at_call 95; (with_reducible first | refine (E1.out _ _ (hst.blk 0 rfl)).mono ?_ | refine (E2.out _ _ (hst.blk 0 rfl)).mono ?_); rintro e1 w2 ⟨C, rfl, hE2, ho2⟩; replace hst := hst.chg 0 rfl ho2 hE2; simp only [List.set] at hst; clear ho2 hE2) | ((with_reducible refine wpL_peel rfl ?_ ?_); focus (go_simp; done)) | ((with_reducible refine wpL_isLoad rfl ?_); first | (refine wpL_load1S hst.st rfl rfl 0 rfl rfl rfl (by kernel_rfl) ?_) | (refine wpL_load1S hst.st rfl rfl 1 rfl rfl rfl (by kernel_rfl) ?_) | (refine wpL_load1S hst.st rfl rfl 2 rfl rfl rfl (by kernel_rfl) ?_) | (refine wpL_load1S hst.st rfl rfl 3 rfl rfl rfl (by kernel_rfl) ?_)))
  go_loopw [10, 11] (fun v i wr => ∃ (j : Nat), j ≤ K ∧ v = .string (bodyG all j) ∧ i = .int .i64 (j : Int) ∧ (∀ i, i < j → all.extract (32 * i + 28) (32 * i + 32) = all.extract 28 32) ∧ Sd w [] wr [] [])
    (fun _ i _ => (K - intOf i).toNat)
  case atStart => exact ⟨0, by omega, rfl, rfl, fun i hi => absurd hi (Nat.not_lt_zero i), hst.dropN 2⟩
  case round =>
    obtain ⟨j, hj, rfl, rfl, hall, hst⟩ := hrel
    by_cases hlt : j < K
    · have j1 : (j : Int) < K := by omega
      have j2 : 32 * (j : Int) + 32 ≤ all.size := by omega
      have HJ : Hid (j + 1 ≤ K) := hlt
      by_cases he : all.extract (32 * j + 28) (32 * j + 32) = all.extract 28 32
      · have HB : Hid (decide (all.extract (32 * j + 28) (32 * j + 32) = all.extract 28 32) = true) := decide_eq_true he
        have HS := Lib.hid (BS.out j)
        have HC : Hid ((bodyG all j).size + (all.extract (32 * j) (32 * j + 28)).size ≤ 9223372036854775807) := by
          have h1 := BZ.out j (by omega)
          have h2 := ext_len all (32 * j) (32 * j + 28) (by omega) (by omega)
          show _ ≤ _
          omega
        have HA := Lib.hid hall
        have HE := Lib.hid he
        clear hall he
        go_wp2_with fail
        replace hst := hst.drew
        refine wp_region_ord [] [0, 1, 2, 3, 4, 5, 6, 7, 8, 9, 10] (by kernel_rfl) (by kernel_rfl) ?_
        generalize World.drew _ = W at *
        refine Ord.cut 10 9 rfl rfl rfl rfl (by kernel_rfl) (by kernel_rfl) ?_; simp only [List.take_succ_cons, List.take_zero, List.drop_succ_cons, List.drop_zero, List.filterMap_cons, List.filterMap_nil, List.getElem?_cons_succ, List.getElem?_cons_zero]; go_wp2_with fail; refine TextQ.mk ⟨fun h => by simp at h, ?_⟩ rfl
        refine Ord.cut 1 10 rfl rfl rfl rfl (by kernel_rfl) (by kernel_rfl) ?_; simp only [List.take_succ_cons, List.take_zero, List.drop_succ_cons, List.drop_zero, List.filterMap_cons, List.filterMap_nil, List.getElem?_cons_succ, List.getElem?_cons_zero]
        refine wpL_neqStrT rfl rfl _ _ rfl rfl true HB.out ?_
        refine TextQ.mk ⟨fun h => by simp at h, ?_⟩ rfl
        refine Ord.done ?_
        go_wp2_with (first
          | ((with_reducible refine wpL_isBin rfl ?_); refine wpL_catS rfl rfl _ _ _ rfl rfl HS.out HC.out ?_))
        go_roundw
        case rel => exact ⟨j + 1, HJ.out, rfl, by go_num, fun i hi => (by by_cases hij : i = j; (rw [hij]; exact HE.out); exact HA.out i (by omega)), hst⟩
        case measure => simp [intOf]; omega
      · have HB : Hid (decide (all.extract (32 * j + 28) (32 * j + 32) = all.extract 28 32) = false) := decide_eq_false he
        have HN : Hid (¬ ∀ i, i < K → all.extract (32 * i + 28) (32 * i + 32) = all.extract 28 32) := fun h => he (h j hlt)
        clear hall he
        go_wp2_with fail
        replace hst := hst.drew
        refine wp_region_ord [] [0, 1, 2, 3, 4, 5, 6, 7, 8, 9, 10] (by kernel_rfl) (by kernel_rfl) ?_
        generalize World.drew _ = W at *
        refine Ord.cut 10 9 rfl rfl rfl rfl (by kernel_rfl) (by kernel_rfl) ?_; simp only [List.take_succ_cons, List.take_zero, List.drop_succ_cons, List.drop_zero, List.filterMap_cons, List.filterMap_nil, List.getElem?_cons_succ, List.getElem?_cons_zero]; go_wp2_with fail; refine TextQ.mk ⟨fun h => by simp at h, ?_⟩ rfl
        refine Ord.cut 1 10 rfl rfl rfl rfl (by kernel_rfl) (by kernel_rfl) ?_; simp only [List.take_succ_cons, List.take_zero, List.drop_succ_cons, List.drop_zero, List.filterMap_cons, List.filterMap_nil, List.getElem?_cons_succ, List.getElem?_cons_zero]
        refine wpL_neqStrT rfl rfl _ _ rfl rfl false HB.out ?_
        refine TextQ.mk ⟨fun h => by simp at h, ?_⟩ rfl
        refine Ord.done ?_
        go_wp2_with fail
        go_ret3
        rw [Z3.out HN.out]
        exact ⟨rfl, hst.only⟩
    · obtain rfl : j = K := by omega
      have j1 : ¬ (j : Int) < j := by omega
      have HA := Lib.hid hall
      clear hall
      have hbz := BZ.out j (by omega)
      by_cases hc : catS n ((bodyG all j).extract 36 (36 + k)) j = all.extract 0 (32 * j)
      · have HB : Hid (decide (catS n ((bodyG all j).extract 36 (36 + k)) j = all.extract 0 (32 * j)) = true) := decide_eq_true hc
        have HC := Lib.hid hc
        clear hc
        go_wp2_with (first
          | (go_at_call 23; (with_reducible refine (BY.out _).mono ?_); rintro e1 w1 ⟨rfl, ho1⟩; replace hst := hst.keep ho1; clear ho1)
          | ((with_reducible refine wpL_isBin rfl ?_); first | (refine wpL_neqStrT rfl rfl _ _ rfl rfl true HB.out ?_)))
        go_ret3
        rw [Z1.out HA.out HC.out]
        exact ⟨rfl, hst.only⟩
      · have HB : Hid (decide (catS n ((bodyG all j).extract 36 (36 + k)) j = all.extract 0 (32 * j)) = false) := decide_eq_false hc
        have HC := Lib.hid hc
        clear hc
        go_wp2_with (first
          | (go_at_call 23; (with_reducible refine (BY.out _).mono ?_); rintro e1 w1 ⟨rfl, ho1⟩; replace hst := hst.keep ho1; clear ho1)
          | ((with_reducible refine wpL_isBin rfl ?_); first | (refine wpL_neqStrT rfl rfl _ _ rfl rfl false HB.out ?_)))
        go_ret3
        rw [Z2.out HA.out HC.out]
        exact ⟨rfl, hst.only⟩
end Go.Proofs.Ytmogkiacakkmbaa
