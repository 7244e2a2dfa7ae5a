/- Walks: the text with its end; the sum. -/
import Derived.Test.YtmogkiacakkmbaaShaB
import Derived.Test.YtmogkiacakkmbaaBuild
import Derived.Test.YtmogkiacakkmbaaShelf
namespace Go.Proofs.Ytmogkiacakkmbaa
open Go.RowKit

set_option maxRecDepth 100000 in
set_option maxHeartbeats 1000000 in
theorem padded_any (s : ByteArray) (w : World) (hs : s.size ≤ 140737488350000) :
    Calls Try.prog 151 #[.string s] w fun e w' => e = .returned (.string ⟨(Sha.padded (bl s)).toArray⟩) ∧ Only [] w w' := by
  have hbl := Lib.hid (bl_length s)
  go_enter Try.func151, Try.ntmps151
  go_wp2_with (go_at_call 111; refine (writeString_any w.heap.size [] 147 (.slice none 0 0) [] s _ (Bld.new (Blk.newA _ _ _)) lies_own (by simp; omega)).mono ?_)
  rintro e w1 ⟨rfl, v1, hb1, hw1⟩
  have hm1 := (Made.start ((Only.refl _ w).alloc (.cells #[.pointer none, .slice none 0 0] 147)) (Nat.le_refl _)).wrote hw1
  go_wp2_with (go_at_call 138; refine (writeByte_any w.heap.size [] 147 _ _ _ _ hb1 lies_own (by omega) (by omega) (by have := hbl.out; simp; omega)).mono ?_)
  rintro e w2 ⟨rfl, v2, hb2, hw2⟩
  have hm2 := hm1.wrote hw2
  clear hw1 hw2 hb1 hm1
  have HB2 := Lib.hid hb2
  clear hb2
  go_wp2_with fail
  go_loopg [] (Sha.zeros (bl s).length) (fun g wr => ∃ v l, g ≤ Sha.zeros (bl s).length ∧ Hid (l = bl s ++ [128] ++ List.replicate (Sha.zeros (bl s).length - g) 0) ∧ Bld wr w.heap.size [] 147 v l ∧ Made w wr w.heap.size v)
  case atStart => exact ⟨v2, _, Nat.le_refl _, by show _ = _; simp, HB2.out, hm2⟩
  case round =>
    obtain ⟨v, l, hg, hl, hbr, hmr⟩ := hrel
    have hz := Sha.zeros_lt (bl s).length
    have hlen : l.length = (bl s).length + 1 + (Sha.zeros (bl s).length - gk) := by rw [hl.out]; simp; omega
    have hmod : ((bl s).length + 1 + Sha.zeros (bl s).length + 8) % 64 = 0 := by unfold Sha.zeros; omega
    have hbs := hbl.out
    by_cases h0 : gk = 0
    · have hT : ((l.length : Int) + 8) % 64 = 0 := by omega
      have hB : l.length ≤ 140737488355000 := by omega
      have H0 := Lib.hid h0
      have HL := Lib.hid hlen
      clear h0 hlen hmod hbs hz hg
      go_wp2_with (go_at_call 132; refine (len_any _ _ _ _ _ _ hbr.F).mono ?_; rintro e w' ⟨rfl, rfl⟩)
      clear hT
      go_loopw [5] (fun i wj => ∃ (j : Nat) (v' : Value), j ≤ 8 ∧ i = .int .i64 (7 - (j : Int)) ∧ Bld wj w.heap.size [] 147 v' (l ++ (Sha.len8 (bl s).length).take j) ∧ Made w wj w.heap.size v') (fun i _ => (intOf i + 1).toNat)
      case atStart => exact ⟨0, v, by omega, rfl, by simpa using hbr, hmr⟩
      case round =>
        obtain ⟨j, v', hj, rfl, hbj, hmj⟩ := hrel
        by_cases hltj : j < 8
        · have ht : ((Sha.len8 (bl s).length).take j).length ≤ 8 := by simp [Sha.len8]; omega
          have hcount : (8 * (7 - (j : Int))).toNat = 8 * (7 - j) := by omega
          go_wp2_with (go_at_call 138; refine (writeByte_any w.heap.size [] 147 _ _ _ _ hbj lies_own (by omega) (by omega) (by rw [List.length_append]; omega)).mono ?_; rintro e w3 ⟨rfl, v3, hb3, hw3⟩)
          go_roundw
          case rel =>
            refine ⟨j + 1, v3, by omega, by go_num, ?_, hmj.wrote hw3⟩
            rw [Sha.len8_take _ _ hltj, ← List.append_assoc]
            have e1 : (UInt8.ofNat ((s.size : Int) * 8 / 2 ^ (8 * (7 - j)) % 256).toNat) = UInt8.ofNat ((bl s).length * 8 / 2 ^ (8 * (7 - j)) % 256) := by
              rw [hbl.out]
              congr 1
            rw [e1] at hb3
            exact hb3
          case measure => simp [intOf]; omega
        · have HJ : Hid (j = 8) := by show j = 8; omega
          go_wp2_with (go_at_call 112; refine (string_any _ _ _ _ _ _ hbj.F).mono ?_; rintro e w' ⟨rfl, _, ho4⟩)
          go_ret
          refine ⟨?_, (hmj.told ho4).1⟩
          rw [HJ.out, Sha.len8_all, hl.out, H0.out]
          rfl
    · have hT : (((l.length : Int) + 8) % 64 != 0) = true := by rw [bne_iff_ne]; omega
      have hB : l.length ≤ 140737488355000 := by omega
      have h0' : 0 < gk := by omega
      have HL := Lib.hid hlen
      have HM := Lib.hid hmod
      have HBS := Lib.hid hbs
      clear h0 hlen hmod hbs hz
      go_wp2_with (first
        | (go_at_call 132; refine (len_any _ _ _ _ _ _ hbr.F).mono ?_; rintro e w' ⟨rfl, rfl⟩)
        | (go_at_call 138; refine (writeByte_any w.heap.size [] 147 _ _ _ _ hbr lies_own (by omega) (by omega) (by omega)).mono ?_; rintro e w3 ⟨rfl, v3, hb3, hw3⟩))
      go_roundg (gk - 1)
      case measure => omega
      case rel =>
        refine ⟨v3, _, by omega, ?_, hb3, hmr.wrote hw3⟩
        show _ = _
        rw [hl.out, show Sha.zeros (bl s).length - (gk - 1) = (Sha.zeros (bl s).length - gk) + 1 by omega, List.replicate_succ']
        simp

theorem Strs.made (w : World) (xs : List ByteArray) (ty : TypeId) : Strs (w.alloc (.cells (xs.map Value.string).toArray ty)) (.slice (some ⟨w.heap.size, 0, none⟩) xs.length xs.length) xs := by
  refine .inr ⟨w.heap.size, 0, _, rfl, fun j x hx => ?_, by simp, Nat.le_refl _⟩
  have h := (Blk.new w (xs.map Value.string) ty).cell (i := j) (v := .string x) (by simp [hx])
  simpa using h

theorem join_cat (xs : List ByteArray) : Lib.join (xs.map (·.data.toList)) [] = cat xs := by
  unfold Lib.join cat
  have : (xs.map fun x => x.data.toList) = xs.map bl := rfl
  rw [this]
  induction xs.map bl with
  | nil => rfl
  | cons x l ih => cases l with
    | nil => simp [List.intercalate]
    | cons y r => simp only [List.flatten_cons] at ih ⊢; rw [← ih]; simp [List.intercalate, List.intersperse]

theorem join_any (v : Value) (xs : List ByteArray) (w : World) (h : Strs w v xs) (hn : xs.length ≤ 140737488355328) (hl : (cat xs).length ≤ 140737488355328) :
    Calls Try.prog 96 #[v, .string ⟨#[]⟩] w fun e w' => e = .returned (.string ⟨(cat xs).toArray⟩) ∧ Only [] w w' := by
  rcases h with ⟨⟨a, c, rfl⟩, rfl⟩ | ⟨bk, o, c, rfl, h1, h2, h3⟩
  · exact (Try.strings_Join_none a c ⟨#[]⟩ w).mono fun e w' ⟨he, hw⟩ => ⟨he, hw ▸ Only.refl _ _⟩
  · have hj := join_cat xs
    refine (Try.strings_Join bk o c xs ⟨#[]⟩ w h1 h2 hn h3 ?_).mono fun e w' ⟨he, hw⟩ => ⟨?_, Only.of_below hw⟩
    · show (Lib.join _ []).length ≤ _
      rw [hj]
      exact hl
    · rw [he]
      show Ending.returned (.string ⟨(Lib.join _ []).toArray⟩) = _
      rw [hj]

theorem sum_cells (b : List UInt8) : u8s (Sha.of b) = Lib.byteCells (Sha.sum b) := by
  unfold u8s Lib.byteCells Sha.sum
  rw [List.map_map]
  refine List.map_congr_left fun n hn => ?_
  have := Sha.of_lt b n hn
  simp
  omega

def zeros32 : List Value := List.replicate 32 (.int .u8 0)
def zeros8 : List Value := List.replicate 8 (.int .u32 0)
theorem zeros32_eq (h : List Nat) : zeros32 = u8s (Sha.outTo h 0) := rfl

set_option maxRecDepth 100000 in
set_option maxHeartbeats 1000000 in
theorem of_any (v : Value) (xs : List ByteArray) (w : World) (h : Strs w v xs) (hn : xs.length ≤ 140737488355328) (hl : (cat xs).length ≤ 140737488350000) :
    Calls Try.prog 121 #[v] w fun e w' => e = .returned (.agg (Lib.byteCells (Sha.sum (cat xs))).toArray) ∧ Only [] w w' := by
  rw [← sum_cells]
  obtain ⟨H0, eH0⟩ : ∃ H0, H0 = Sha.H0 := ⟨_, rfl⟩
  have HS : Hid (∀ w, Calls Try.prog 150 #[] w fun e w' => e = .returned (.agg (u32s H0).toArray) ∧ Only [] w w') := fun w => by rw [eH0]; exact start_any w
  obtain ⟨T, eT⟩ : ∃ T : ByteArray, T = ⟨(Sha.padded (cat xs)).toArray⟩ := ⟨_, rfl⟩
  have HP : Hid (∀ w, Calls Try.prog 151 #[.string ⟨(cat xs).toArray⟩] w fun e w' => e = .returned (.string T) ∧ Only [] w w') := fun w => by
    have := padded_any ⟨(cat xs).toArray⟩ w (by rw [← bl_length]; exact hl)
    rw [eT]
    exact this
  have l0 : (u32s H0).length = 8 := by rw [u32s_length, eH0]; rfl
  have EH := Lib.hid eH0
  have ET := Lib.hid eT
  have L0 := Lib.hid l0
  clear eH0 eT l0
  go_enter Try.func121, Try.ntmps121
  go_wp2_with (first
    | (refine wpL_alloc rfl 2 rfl _ rfl (.agg zeros32.toArray) zeros32 (by kernel_rfl) rfl ?_; intro w1 ho1 hs1 hb1)
    | (go_at_call 150; refine (HS.out _).mono ?_; rintro e w2 ⟨rfl, ho2⟩)
    | (refine wpL_alloc rfl 3 rfl _ rfl (.agg zeros8.toArray) zeros8 (by kernel_rfl) rfl ?_; intro w3 ho3 hs3 hb3)
    | (refine wpL_store rfl _ _ _ rfl w2.heap.size (u32s H0).toArray rfl rfl _ _ hb3 (by kernel_rfl : (Try.prog.info? 206).map (·.size) = some 8) (by simpa using L0.out) rfl (u32s_one _) ?_; intro w4 ho4 hs4 hb4)
    | (go_at_call 96; refine (join_any v xs _ (h.keep (((ho1.trans ho2).trans ho3).step ho4 (by have := ho1.size; have := ho2.size; simp; omega))) hn (by omega)).mono ?_; rintro e w5 ⟨rfl, ho5⟩)
    | (go_at_call 151; refine (HP.out _).mono ?_; rintro e w6 ⟨rfl, ho6⟩))
  have hall : Only [] w w6 := (((((ho1.trans ho2).trans ho3).step ho4 (by have := ho1.size; have := ho2.size; simp; omega)).trans ho5).trans ho6)
  have hr1 := (((((hb1.keep ho2).keep ho3).only ho4 (by have := ho2.size; have := hb1.lt; simp; omega)).keep ho5).keep ho6)
  have hs6 := (hb4.keep ho5).keep ho6
  have hlt : w.heap.size < w2.heap.size := by have := ho2.size; have := hb1.lt; omega
  clear hb1 hb3 hb4 hs1 hs3 hs4 ho1 ho2 ho3 ho4 ho5 ho6 HS HP h
  obtain ⟨B, hB⟩ : ∃ B, B = w2.heap.size := ⟨_, rfl⟩
  rw [← hB] at hs6 hlt
  have eB := Lib.hid hB.symm
  rw [eB.out]
  clear hB
  go_loopw [4] (fun t wr => ∃ (T' : ByteArray) (H : List Nat), t = .string T' ∧ Hid (Sha.blocks H (bl T') = Sha.blocks Sha.H0 (Sha.padded (cat xs))) ∧ (bl T').length % 64 = 0 ∧ Hid (H.length = 8) ∧ Hid (∀ j, H.getD j 0 < 4294967296) ∧ Blk wr B (u32s H) 206 ∧ Only [B] w6 wr)
    (fun t _ => match t with | .string T' => T'.size | _ => 0)
  case atStart => exact ⟨T, H0, rfl, by rw [EH.out, ET.out]; rfl, by rw [ET.out]; exact Sha.padded_mod _, by rw [EH.out]; rfl, by rw [EH.out]; exact Sha.H0_lt, hs6, Only.refl _ _⟩
  case round =>
    obtain ⟨T', H, rfl, hT, hmod, hHl, hHb, hbr, hor⟩ := hrel
    have hsz := bl_length T'
    by_cases h0 : T'.size = 0
    · have hE : T' = ByteArray.empty := bl_ext (List.eq_nil_of_length_eq_zero (by omega))
      subst hE
      have hH : Hid (H = Sha.blocks Sha.H0 (Sha.padded (cat xs))) := by
        have := hT.out
        rw [Sha.blocks_end _ _ (by decide)] at this
        exact this
      have hr2 := hr1.only hor (by simp; omega)
      have hla : Only [] w wr := hall.step hor (by simp; omega)
      have hBr := hbr.lt
      clear hr1 hor hT hmod hsz h0 hall
      go_wp2_with (refine wpL_alloc rfl 5 rfl _ rfl (.agg zeros32.toArray) zeros32 (by kernel_rfl) rfl ?_; intro w7 ho7 hs7 hb7)
      have hbH := hbr.keep ho7
      have hr3 := hr2.keep ho7
      have hla7 := hla.trans ho7
      have hwr := hla.size
      clear hbr hr2 hla ho7
      obtain ⟨C, hC⟩ : ∃ C, C = wr.heap.size := ⟨_, rfl⟩
      rw [← hC] at hb7 hBr hwr
      have hC7 : C < w7.heap.size := hb7.lt
      have eC := Lib.hid hC.symm
      rw [eC.out]
      clear hC
      go_loopw [18] (fun i wj => ∃ (j : Nat), j ≤ 32 ∧ i = .int .i64 j ∧ Blk wj C (u8s (Sha.outTo H j)) 102 ∧ Only [C] w7 wj) (fun i _ => 32 - (intOf i).toNat)
      case atStart => exact ⟨0, by omega, rfl, hb7, Only.refl _ _⟩
      case round =>
        obtain ⟨j, hj, rfl, hbj, hoj⟩ := hrel
        by_cases hltj : j < 32
        · have hHl' := hHl.out
          have hcj := (hbH.only hoj (by simp; omega)).cell (u32s_get H (j / 4) (by omega))
          have hcw := hbj.cell (u8s_get _ j (by rw [Sha.outTo_length]; exact hltj))
          have hfw := hbj.free j
          clear hHl'
          obtain ⟨x, ex⟩ : ∃ x, x = H.getD (j / 4) 0 := ⟨_, rfl⟩
          have bx : x < 4294967296 := by rw [ex]; exact hHb.out _
          rw [← ex] at hcj
          have EX := Lib.hid ex
          clear ex
          have hsh : (24 - 8 * ((j : Int) % 4)).toNat = 24 - 8 * (j % 4) := by omega
          go_wp2
          go_roundw
          case rel =>
            refine ⟨j + 1, by omega, by go_num, ?_, hoj.set (by simp) _⟩
            refine hbj.set8 j _ ?_
            unfold Sha.byteAt
            rw [← EX.out]
            norm_cast
          case measure => simp [intOf]; omega
        · have HJ : Hid (j = 32) := by show j = 32; omega
          have hlen : (u8s (Sha.outTo H j)).length = 32 := by rw [u8s_length, Sha.outTo_length]
          have hrz := hr3.only hoj (by simp; omega)
          go_wp2_with (first
            | (refine wpL_load rfl _ _ rfl C rfl _ _ _ hbj Try.underlying102 rfl (by kernel_rfl : (Try.prog.info? 102).map (·.size) = some 32) hlen ?_)
            | (refine wpL_store rfl _ _ _ rfl w.heap.size (u8s (Sha.outTo H j)).toArray rfl rfl _ _ hrz (by kernel_rfl : (Try.prog.info? 102).map (·.size) = some 32) (by simpa using hlen) rfl (u8s_one _) ?_; intro w9 ho9 hs9 hb9))
          refine end_row (ty := 102) Try.results121 rfl hb9 Try.underlying102 rfl (by kernel_rfl : (Try.prog.info? _).map (·.size) = some 32) hlen rfl ⟨?_, (hla7.step hoj (by simp; omega)).step ho9 (by simp)⟩
          rw [HJ.out, Sha.outTo_all, hH.out]
          rfl
    · have hs1 : 64 ≤ T'.size := by omega
      have hc : (T'.extract 0 64).size ≤ 64 := by simp; omega
      have hc2 : 64 ≤ (T'.extract 0 64).size := by simp; omega
      have hblt := hbr.lt
      have hne := str_ne h0
      go_wp2_with (go_at_call 152; refine (add_any B 206 H _ _ hc hc2 hbr hHl.out hHb.out).mono ?_; rintro e w7 ⟨rfl, ho7, hb7⟩)
      go_roundw
      case rel =>
        have e1 : bl (T'.extract 0 64) = (bl T').take 64 := by rw [bl_extract]; rfl
        have e2 : bl (T'.extract 64 T'.size) = (bl T').drop 64 := by rw [bl_extract, List.take_of_length_le (by omega)]
        rw [e1] at hb7
        refine ⟨_, Sha.block H ((bl T').take 64), rfl, ?_, ?_, ?_, Sha.block_lt _ _, hb7, hor.trans ho7⟩
        · show _ = _
          rw [e2, Sha.blocks_step _ _ (by omega), hT.out]
        · rw [e2, List.length_drop]
          omega
        · show _ = 8
          exact Sha.block_length _ _ hHl.out
      case measure => simp; omega

end Go.Proofs.Ytmogkiacakkmbaa
