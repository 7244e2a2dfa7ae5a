/- Walks: the reference's block. -/
import Derived.Test.YtmogkiacakkmbaaRefA
import Derived.Test.YtmogkiacakkmbaaHeldL
import Derived.Test.YtmogkiacakkmbaaShaB
namespace Go.Proofs.Ytmogkiacakkmbaa
open Go.RowKit

/-- A block's words as far as they are told, in the reference's one loop. -/
def wsTo (b : List UInt8) (k : Nat) : List Nat := if k ≤ 16 then Sha.first b k else Sha.sched b (k - 16)
theorem wsTo_lo {b : List UInt8} {k : Nat} (h : k ≤ 16) : wsTo b k = Sha.first b k := if_pos h
theorem wsTo_hi {b : List UInt8} {k : Nat} (h : 16 ≤ k) : wsTo b k = Sha.sched b (k - 16) := by
  unfold wsTo
  split
  · obtain rfl : k = 16 := by omega
    rfl
  · rfl

theorem or_byte64 (p : Nat) (c : Nat) (hp : p < 16777216) (hc : c < 256) : Go.bits .or .u64 ((p : Int) * 256) (c : Int) = ((p * 256 + c : Nat) : Int) := by
  have e1 : ((p : Int) * 256) = ((p * 256 : Nat) : Int) := by omega
  rw [e1, Go.u64_or_nat _ _ (by omega) (by omega)]
  have := Nat.shiftLeft_add_eq_or_of_lt (b := c) (i := 8) hc p
  rw [Nat.shiftLeft_eq, show 2 ^ 8 = 256 from rfl] at this
  rw [this]
theorem lt64 {x : Nat} (h : x < 4294967296) : x < 18446744073709551616 := Nat.lt_trans h (by decide)
theorem xor64 (a b : Nat) (ha : a < 4294967296) (hb : b < 4294967296) : Go.bits .xor .u64 (a : Int) (b : Int) = ((a ^^^ b : Nat) : Int) := Go.u64_xor_nat _ _ (lt64 ha) (lt64 hb)
theorem and64 (a b : Nat) (ha : a < 4294967296) (hb : b < 4294967296) : Go.bits .and .u64 (a : Int) (b : Int) = ((a &&& b : Nat) : Int) := Go.u64_and_nat _ _ (lt64 ha) (lt64 hb)
theorem s0_tells64 (x : Nat) (h : x < 4294967296) : Go.bits .xor .u64 (Go.bits .xor .u64 ((Sha.rotr x 7 : Nat) : Int) ((Sha.rotr x 18 : Nat) : Int)) ((x : Int) / 8) = ((Sha.s0 x : Nat) : Int) := by
  rw [show ((x : Int) / (8 : Int)) = ((x >>> 3 : Nat) : Int) by rw [Nat.shiftRight_eq_div_pow]; simp, xor64 _ _ (Sha.rotr_lt _ _) (Sha.rotr_lt _ _), xor64 _ _ (Sha.xor_lt (Sha.rotr_lt _ _) (Sha.rotr_lt _ _)) (Sha.shr_lt _ _ h)]
  rfl
theorem s1_tells64 (x : Nat) (h : x < 4294967296) : Go.bits .xor .u64 (Go.bits .xor .u64 ((Sha.rotr x 17 : Nat) : Int) ((Sha.rotr x 19 : Nat) : Int)) ((x : Int) / 1024) = ((Sha.s1 x : Nat) : Int) := by
  rw [show ((x : Int) / (1024 : Int)) = ((x >>> 10 : Nat) : Int) by rw [Nat.shiftRight_eq_div_pow]; simp, xor64 _ _ (Sha.rotr_lt _ _) (Sha.rotr_lt _ _), xor64 _ _ (Sha.xor_lt (Sha.rotr_lt _ _) (Sha.rotr_lt _ _)) (Sha.shr_lt _ _ h)]
  rfl
theorem big0_tells64 (x : Nat) : Go.bits .xor .u64 (Go.bits .xor .u64 ((Sha.rotr x 2 : Nat) : Int) ((Sha.rotr x 13 : Nat) : Int)) ((Sha.rotr x 22 : Nat) : Int) = ((Sha.big0 x : Nat) : Int) := by
  rw [xor64 _ _ (Sha.rotr_lt _ _) (Sha.rotr_lt _ _), xor64 _ _ (Sha.xor_lt (Sha.rotr_lt _ _) (Sha.rotr_lt _ _)) (Sha.rotr_lt _ _)]
  rfl
theorem big1_tells64 (x : Nat) : Go.bits .xor .u64 (Go.bits .xor .u64 ((Sha.rotr x 6 : Nat) : Int) ((Sha.rotr x 11 : Nat) : Int)) ((Sha.rotr x 25 : Nat) : Int) = ((Sha.big1 x : Nat) : Int) := by
  rw [xor64 _ _ (Sha.rotr_lt _ _) (Sha.rotr_lt _ _), xor64 _ _ (Sha.xor_lt (Sha.rotr_lt _ _) (Sha.rotr_lt _ _)) (Sha.rotr_lt _ _)]
  rfl
theorem cut_nat (m : Nat) (hm : m < 4294967296 * 8) : Go.bits .and .u64 (m : Int) 4294967295 = ((m % 4294967296 : Nat) : Int) := cut_tells m (Nat.lt_trans hm (by decide))
theorem first_set64 (b : List UInt8) (k j : Nat) (h : k < 64) : (u64s ((Sha.first b k).set k (Sha.part b (4 * k) j)))[k]? = some (.int .u64 ((Sha.part b (4 * k) j : Nat) : Int)) := by
  have hl : ((Sha.first b k).set k (Sha.part b (4 * k) j)).length = 64 := by simp [Sha.first_length]
  rw [u64s_get _ _ (by omega), List.getD_eq_getElem?_getD, List.getElem?_set_self (by rw [Sha.first_length]; omega)]
  rfl

section
variable {P : Program} {w : World} {ops : Array Oper} {rest : List Oper} {o : Oper} {a : Act} {Q : Exit → Act → World → Prop}
/-- A word of 64 bits, turned over. -/
theorem wpL_not64 (hgd : o.guard = none) (t : TypeId) (x : Operand) (ho : o.op = .unOp .xor t x) (n m : Nat) (hx : a.eval x = .int .u64 n) (hm : Hid (Go.bits .xor .u64 IntKind.u64.max (n : Int) = (m : Int)))
    (h : wpList P ops Q rest (a.put o.dst (.int .u64 (m : Int))) w) : wpList P ops Q (o :: rest) a w := by
  refine wpL_run hgd (v := .int .u64 (m : Int)) ?_ h
  have e : (if IntKind.u64.signed = true then -1 else IntKind.u64.max) = IntKind.u64.max := rfl
  rw [← hm.out]
  unfold execOp
  simp [ho, hx, Op.unary, e]
  rfl
end
theorem not_tells64 (e : Nat) (he : e < 4294967296) : ∃ m : Nat, Go.bits .xor .u64 IntKind.u64.max (e : Int) = (m : Int) ∧ Go.bits .and .u64 (m : Int) 4294967295 = ((4294967295 ^^^ e : Nat) : Int) := by
  refine ⟨18446744073709551615 ^^^ e, Go.u64_xor_nat 18446744073709551615 e (by decide) (lt64 he), ?_⟩
  rw [cut_tells _ (Nat.xor_lt_two_pow (n := 64) (by decide) (lt64 he)), show (4294967296 : Nat) = 2 ^ 32 from rfl, Nat.xor_mod_two_pow, show (18446744073709551615 : Nat) % 2 ^ 32 = 4294967295 from rfl, Nat.mod_eq_of_lt (a := e) he]

set_option maxRecDepth 100000 in
set_option maxHeartbeats 2000000 in
theorem block_any (h : List Nat) (s : ByteArray) (w : World) (hs : s.size ≤ 64) (hs2 : 64 ≤ s.size) (hh : h.length = 8) (hb : ∀ j, h.getD j 0 < 4294967296) :
    Calls Try.prog 139 #[.agg (u64s h).toArray, .string s] w fun e w' => e = .returned (.agg (u64s (Sha.block h (bl s))).toArray) ∧ Only [] w w' := by
  obtain ⟨K, hK⟩ : ∃ K, K = Sha.K := ⟨_, rfl⟩
  have HC : Hid (∀ w, Calls Try.prog 163 #[] w fun e w' => e = .returned (.agg (u64s K).toArray) ∧ Only [] w w') := fun w => by rw [hK]; exact table_any w
  have lK : (u64s K).length = 64 := by rw [u64s_length, hK]; rfl
  have HH := Lib.hid hh
  have HB := Lib.hid hb
  have HK := Lib.hid hK
  have HLK := Lib.hid lK
  clear hb hh hK lK
  go_enter Try.func139, Try.ntmps139
  go_wp2_with (first
    | (refine wpL_alloc rfl 4 rfl _ rfl (.agg zeros8w.toArray) zeros8w (by kernel_rfl) rfl ?_; intro w1 ho1 hs1 hb1)
    | (go_at_call 163; refine (HC.out _).mono ?_; rintro e w2 ⟨rfl, ho2⟩)
    | (refine wpL_alloc rfl 5 rfl _ rfl (.agg zeros64w.toArray) zeros64w (by kernel_rfl) rfl ?_; intro w3 ho3 hs3 hb3)
    | (refine wpL_store rfl _ _ _ rfl w2.heap.size (u64s K).toArray rfl rfl _ _ hb3 (by kernel_rfl : (Try.prog.info? 221).map (·.size) = some 64) (by simpa using HLK.out) rfl (u64s_one _) ?_; intro w4 ho4 hs4 hb4)
    | (refine wpL_build rfl _ _ rfl zeros64w (by kernel_rfl) ?_)
    | (refine wpL_alloc rfl 6 rfl _ rfl (.agg zeros64w.toArray) zeros64w (by kernel_rfl) rfl ?_; intro w5 ho5 hs5 hb5)
    | (refine wpL_store rfl _ _ _ rfl w4.heap.size zeros64w.toArray rfl rfl _ _ hb5 (by kernel_rfl : (Try.prog.info? 221).map (·.size) = some 64) rfl rfl (u64s_one (List.replicate 64 0)) ?_; intro w6 ho6 hs6 hb6))
  have z1 : w1.heap.size = w.heap.size + 2 := by rw [hs1.out]; simp
  have z2 := ho2.size
  have z3 := hs3.out
  have z4 := hs4.out
  have z5 := hs5.out
  have z6 := hs6.out
  have al : (w.alloc (Obj.cells (u64s h).toArray 196)).heap.size = w.heap.size + 1 := by simp
  have hall : Only [] w w6 := ((((((Only.refl [] w).alloc _).trans ho1).trans ho2).trans ho3).step ho4 (by simp; omega)).trans ho5 |>.step ho6 (by simp; omega)
  rw [al] at hb1
  have A2 : Blk w6 w.heap.size (u64s h) 196 := (((((Blk.new w (u64s h) 196).keep ho1).keep ho2).keep ho3).only ho4 (by simp; omega)).keep ho5 |>.only ho6 (by simp; omega)
  have A4 : Blk w6 (w.heap.size + 1) zeros8w 196 := (((hb1.keep ho2).keep ho3).only ho4 (by simp; omega)).keep ho5 |>.only ho6 (by simp; omega)
  have A5 : Blk w6 w2.heap.size (u64s K) 221 := (hb4.keep ho5).only ho6 (by simp; omega)
  have A6 : Blk w6 w4.heap.size (u64s (wsTo (bl s) 0)) 221 := hb6
  have n1 : w.heap.size + 1 < w2.heap.size := by omega
  have n2 : w2.heap.size < w4.heap.size := by omega
  clear hb1 hb3 hb4 hb5 hb6 ho1 ho2 ho3 ho4 ho5 ho6 hs1 hs3 hs4 hs5 hs6 z1 z2 z3 z4 z5 z6 al HC
  generalize w2.heap.size = B5 at *
  generalize w4.heap.size = B6 at *
  clear w1 w3 w5
  go_loopw [7] (fun i wr => ∃ (k : Nat), k ≤ 64 ∧ i = .int .i64 k ∧ Blk wr B6 (u64s (wsTo (bl s) k)) 221 ∧ Only [B6] w6 wr) (fun i _ => 64 - (intOf i).toNat)
  case atStart => exact ⟨0, by omega, rfl, A6, Only.refl _ _⟩
  case round =>
    obtain ⟨k, hk, rfl, hbk, hok⟩ := hrel
    by_cases hlt : k < 64
    · by_cases hlo : k < 16
      · rw [wsTo_lo (by omega)] at hbk
        have i64 : (k : Int) < 64 := by omega
        have i16 : (k : Int) < 16 := by omega
        go_wp2_with fail
        go_loopw [8] (fun i wj => ∃ (j : Nat), j ≤ 4 ∧ i = .int .i64 j ∧ Blk wj B6 (u64s ((Sha.first (bl s) k).set k (Sha.part (bl s) (4 * k) j))) 221 ∧ Only [B6] w6 wj) (fun i _ => 4 - (intOf i).toNat)
        case atStart => exact ⟨0, by omega, rfl, by rw [first_start _ _ (by omega)]; exact hbk, hok⟩
        case round =>
          obtain ⟨j, hj, rfl, hbj, hoj⟩ := hrel
          by_cases hltj : j < 4
          · have hix : 4 * k + j < s.size := by omega
            have hcw := hbj.cell (first_set64 (bl s) k j (by omega))
            have hfw := hbj.free k
            have hp := Sha.part_lt (bl s) (4 * k) j
            have hp3 : Sha.part (bl s) (4 * k) j < 16777216 := Nat.lt_of_lt_of_le hp (Nat.pow_le_pow_right (by decide) (show j ≤ 3 by omega))
            clear hp
            obtain ⟨pt, ept⟩ : ∃ p, p = Sha.part (bl s) (4 * k) j := ⟨_, rfl⟩
            rw [← ept] at hcw hp3
            have HP := Lib.hid ept
            clear ept
            go_wp2_with fail
            refine wp_region_text (by kernel_rfl) (by kernel_rfl) ?_
            go_wp2_with (refine wpL_index_string rfl _ _ _ rfl s rfl rfl Try.underlying9 (by omega) (by omega) ?_; intro c hc hc256)
            refine TextQ.mk ?_ rfl
            go_wp2_with fail
            go_roundw
            case rel =>
              refine ⟨j + 1, by omega, by go_num, ?_, hoj.drew.set (by simp) _⟩
              have h9 := (hbj.set k (.int .u64 (Go.bits .or .u64 ((pt : Int) * 256) c))).drew
              rw [or_byte64 _ _ hp3 hc256, u64s_set, List.set_set] at h9
              rw [or_byte64 _ _ hp3 hc256]
              have e : (4 * (k : Int) + (j : Int)).toNat = 4 * k + j := by omega
              have hc' := hc.out
              rw [e] at hc'
              simp only [Sha.part]
              rw [← HP.out, ← hc']
              exact h9
            case measure => simp [intOf]; omega
          · obtain rfl : j = 4 := by omega
            go_wp2_with fail
            go_roundw
            case rel =>
              refine ⟨k + 1, by omega, by go_num, ?_, hoj⟩
              rw [wsTo_lo (by omega)]
              exact hbj
            case measure => simp [intOf]; omega
      · rw [wsTo_hi (by omega)] at hbk
        have i64 : (k : Int) < 64 := by omega
        have i16 : ¬ (k : Int) < 16 := by omega
        have hl := Sha.sched_length (bl s) (k - 16)
        have hlt := Lib.hid (Sha.sched_lt (bl s) (k - 16))
        have hc15 := hbk.cell (u64s_get _ (k - 15) (by omega))
        have hc2 := hbk.cell (u64s_get _ (k - 2) (by omega))
        have hc16 := hbk.cell (u64s_get _ (k - 16) (by omega))
        have hc7 := hbk.cell (u64s_get _ (k - 7) (by omega))
        have hfk := hbk.free k
        obtain ⟨vk, hck⟩ : ∃ v, wr.cell? ⟨B6, k, none⟩ = some v := ⟨_, hbk.cell (u64s_get _ k (by omega))⟩
        obtain ⟨x15, e15⟩ : ∃ x : Nat, x = (Sha.sched (bl s) (k - 16)).getD (k - 15) 0 := ⟨_, rfl⟩
        obtain ⟨x2, e2⟩ : ∃ x : Nat, x = (Sha.sched (bl s) (k - 16)).getD (k - 2) 0 := ⟨_, rfl⟩
        obtain ⟨x16, e16⟩ : ∃ x : Nat, x = (Sha.sched (bl s) (k - 16)).getD (k - 16) 0 := ⟨_, rfl⟩
        obtain ⟨x7, e7⟩ : ∃ x : Nat, x = (Sha.sched (bl s) (k - 16)).getD (k - 7) 0 := ⟨_, rfl⟩
        have b15 : x15 < 4294967296 := e15 ▸ hlt.out _
        have b2 : x2 < 4294967296 := e2 ▸ hlt.out _
        have b16 : x16 < 4294967296 := e16 ▸ hlt.out _
        have b7 : x7 < 4294967296 := e7 ▸ hlt.out _
        rw [← e15] at hc15
        rw [← e2] at hc2
        rw [← e16] at hc16
        rw [← e7] at hc7
        have E15 := Lib.hid e15
        have E2 := Lib.hid e2
        have E16 := Lib.hid e16
        have E7 := Lib.hid e7
        clear e15 e2 e16 e7 hl
        have hs0 := s0_tells64 x15 b15
        have hs1 := s1_tells64 x2 b2
        obtain ⟨y0, ey0⟩ : ∃ y, y = Sha.s0 x15 := ⟨_, rfl⟩
        obtain ⟨y1, ey1⟩ : ∃ y, y = Sha.s1 x2 := ⟨_, rfl⟩
        have by0 : y0 < 4294967296 := ey0 ▸ Sha.s0_lt _ b15
        have by1 : y1 < 4294967296 := ey1 ▸ Sha.s1_lt _ b2
        rw [← ey0] at hs0
        rw [← ey1] at hs1
        have EY0 := Lib.hid ey0
        have EY1 := Lib.hid ey1
        clear ey0 ey1
        have hcut : Hid (Go.bits .and .u64 ((x16 : Int) + (y0 : Int) + (x7 : Int) + (y1 : Int)) 4294967295 = (((x16 + y0 + x7 + y1) % 4294967296 : Nat) : Int)) := by
          have := cut_nat (x16 + y0 + x7 + y1) (by omega)
          rwa [Int.natCast_add, Int.natCast_add, Int.natCast_add] at this
        go_wp2_with (go_at_call 164; refine (turn_any _ _ _ (by assumption) (by decide) (by decide)).mono ?_; rintro e w' ⟨rfl, rfl⟩)
        refine wp_region_text (by kernel_rfl) (by kernel_rfl) ?_
        go_wp2_with (go_at_call 165; refine (cut_any _ _ _ hcut.out).mono ?_; rintro e w' ⟨rfl, rfl⟩)
        refine TextQ.mk ?_ rfl
        go_wp2_with fail
        go_roundw
        case rel =>
          refine ⟨k + 1, by omega, by go_num, ?_, (hok.drewN 5).set (by simp) _⟩
          rw [wsTo_hi (by omega)]
          have e1 : Sha.sched (bl s) (k + 1 - 16) = (Sha.sched (bl s) (k - 16)).set k (Sha.next (Sha.sched (bl s) (k - 16)) k) := by
            rw [show k + 1 - 16 = (k - 16) + 1 by omega, Sha.sched, show 16 + (k - 16) = k by omega]
          rw [e1]
          refine (hbk.drewN 5).set64 k _ ?_
          unfold Sha.next
          rw [← E15.out, ← E2.out, ← E16.out, ← E7.out, ← EY0.out, ← EY1.out]
          omega
        case measure => simp [intOf]; omega
    · have hbk : Blk wr B6 (u64s (Sha.sched (bl s) 48)) 221 := by
        obtain rfl : k = 64 := by omega
        rw [wsTo_hi (by omega)] at hbk
        exact hbk
      obtain ⟨W, eW⟩ : ∃ W, W = Sha.sched (bl s) 48 := ⟨_, rfl⟩
      rw [← eW] at hbk
      have HW := Lib.hid eW
      have HWl : Hid (W.length = 64) := by show W.length = 64; rw [eW]; exact Sha.sched_length _ _
      clear eW
      have R2 := A2.only hok (by simp; omega)
      have R4 := A4.only hok (by simp; omega)
      have R5 := A5.only hok (by simp; omega)
      have l6 := hbk.lt
      have lH : (u64s h).length = 8 := by rw [u64s_length]; exact HH.out
      have HLH := Lib.hid lH
      clear lH A2 A4 A5 A6
      go_wp2_with (first
        | (refine wpL_load rfl _ _ rfl w.heap.size rfl _ _ _ R2 Try.underlying196 rfl (by kernel_rfl : (Try.prog.info? 196).map (·.size) = some 8) HLH.out ?_)
        | (refine wpL_alloc rfl 13 rfl _ rfl (.agg zeros8w.toArray) zeros8w (by kernel_rfl) rfl ?_; intro w7 ho7 hs7 hb7)
        | (refine wpL_store rfl _ _ _ rfl wr.heap.size (u64s h).toArray rfl rfl _ _ hb7 (by kernel_rfl : (Try.prog.info? 196).map (·.size) = some 8) (by simpa using HLH.out) rfl (u64s_one _) ?_; intro w8 ho8 hs8 hb8))
      have z7 := hs7.out
      have S2 : Blk w8 w.heap.size (u64s h) 196 := (R2.keep ho7).only ho8 (by simp; omega)
      have S4 : Blk w8 (w.heap.size + 1) zeros8w 196 := (R4.keep ho7).only ho8 (by simp; omega)
      have S5 : Blk w8 B5 (u64s K) 221 := (R5.keep ho7).only ho8 (by simp; omega)
      have S6 : Blk w8 B6 (u64s W) 221 := (hbk.keep ho7).only ho8 (by simp; omega)
      have hnew : w.heap.size + 1 < B6 := by omega
      have hall8 : Only [] w w8 := ((hall.step hok (by simp; omega)).trans ho7).step ho8 (by have := hall.size; have := hok.size; simp; omega)
      have l8 : B6 < wr.heap.size := l6
      generalize wr.heap.size = B13 at *
      clear R2 R4 R5 l6 hs7 hs8 z7 ho7 ho8 hb7 hok hbk
      obtain ⟨h0, h1, h2, h3, h4, h5, h6, h7, rfl⟩ := Sha.eight HH.out
      have SM : Hid (Sha.Small (Sha.stOf [h0, h1, h2, h3, h4, h5, h6, h7])) := ⟨HB.out 0, HB.out 1, HB.out 2, HB.out 3, HB.out 4, HB.out 5, HB.out 6, HB.out 7⟩
      go_loopw [14] (fun i wr => ∃ (k : Nat) (st : Sha.St), k ≤ 64 ∧ i = .int .i64 k ∧ Hid (st = Sha.rounds W (Sha.stOf [h0, h1, h2, h3, h4, h5, h6, h7]) k) ∧ Sha.Small st ∧ Blk wr B13 (u64s (Sha.stList st)) 196 ∧ Only [B13] w8 wr) (fun i _ => 64 - (intOf i).toNat)
      case atStart => exact ⟨0, _, by omega, rfl, rfl, SM.out, hb8, Only.refl _ _⟩
      case round =>
        obtain ⟨k, ⟨a, b, c, d, e, f, g, i⟩, hk, rfl, hst, ⟨sa, sb, sc, sd, se, sf, sg, si⟩, hbv, hov⟩ := hrel
        simp only at sa sb sc sd se sf sg si
        by_cases hlt : k < 64
        · have i64 : (k : Int) < 64 := by omega
          have lK : K.length = 64 := by have := HLK.out; rwa [u64s_length] at this
          have hcw := (S6.only hov (by simp; omega)).cell (u64s_get _ k (by rw [HWl.out]; omega))
          have hck := (S5.only hov (by simp; omega)).cell (u64s_get _ k (by rw [lK]; omega))
          clear lK
          obtain ⟨wk, ewk⟩ : ∃ x : Nat, x = W.getD k 0 := ⟨_, rfl⟩
          obtain ⟨kk, ekk⟩ : ∃ x : Nat, x = K.getD k 0 := ⟨_, rfl⟩
          have bwk : wk < 4294967296 := by rw [ewk, HW.out]; exact Sha.sched_lt _ _ _
          have bkk : kk < 4294967296 := by rw [ekk, HK.out]; exact Sha.K_lt _
          rw [← ewk] at hcw
          rw [← ekk] at hck
          have EW := Lib.hid ewk
          have EK := Lib.hid ekk
          clear ewk ekk
          have c0 := hbv.cell (i := 0) rfl
          have c1 := hbv.cell (i := 1) rfl
          have c2 := hbv.cell (i := 2) rfl
          have c3 := hbv.cell (i := 3) rfl
          have c4 := hbv.cell (i := 4) rfl
          have c5 := hbv.cell (i := 5) rfl
          have c6 := hbv.cell (i := 6) rfl
          have c7 := hbv.cell (i := 7) rfl
          have hq1 := big1_tells64 e
          have lq1 := Sha.big1_lt e
          have hq0 := big0_tells64 a
          have lq0 := Sha.big0_lt a
          obtain ⟨q1, eq1⟩ : ∃ q, q = Sha.big1 e := ⟨_, rfl⟩
          obtain ⟨q0, eq0⟩ : ∃ q, q = Sha.big0 a := ⟨_, rfl⟩
          rw [← eq1] at hq1 lq1
          rw [← eq0] at hq0 lq0
          obtain ⟨ne, hne, hcne⟩ := not_tells64 e se
          have hnl : 4294967295 ^^^ e < 4294967296 := Sha.xor_lt (by decide) se
          have hef := and64 e f se sf
          have heg := and64 (4294967295 ^^^ e) g hnl sg
          have hch := xor64 (e &&& f) ((4294967295 ^^^ e) &&& g) (Sha.and_lt sf) (Sha.and_lt sg)
          have lch := Sha.ch_lt e f g sf sg
          obtain ⟨c1', ec1⟩ : ∃ q, q = Sha.ch e f g := ⟨_, rfl⟩
          rw [show (e &&& f) ^^^ ((4294967295 ^^^ e) &&& g) = Sha.ch e f g from rfl, ← ec1] at hch
          rw [← ec1] at lch
          obtain ⟨y1, ey1⟩ : ∃ q, q = e &&& f := ⟨_, rfl⟩
          obtain ⟨nn, enn⟩ : ∃ q, q = 4294967295 ^^^ e := ⟨_, rfl⟩
          obtain ⟨y2, ey2⟩ : ∃ q, q = (4294967295 ^^^ e) &&& g := ⟨_, rfl⟩
          rw [← ey1] at hef hch
          rw [← ey2] at heg hch
          rw [← enn] at heg hcne
          have hab := and64 a b sa sb
          have hac := and64 a c sa sc
          have hbc := and64 b c sb sc
          have hx1 := xor64 (a &&& b) (a &&& c) (Sha.and_lt sb) (Sha.and_lt sc)
          have hx2 := xor64 ((a &&& b) ^^^ (a &&& c)) (b &&& c) (Sha.xor_lt (Sha.and_lt sb) (Sha.and_lt sc)) (Sha.and_lt sc)
          have lmj := Sha.maj_lt a b c sb sc
          obtain ⟨mj, emj⟩ : ∃ q, q = Sha.maj a b c := ⟨_, rfl⟩
          rw [show (a &&& b) ^^^ (a &&& c) ^^^ (b &&& c) = Sha.maj a b c from rfl, ← emj] at hx2
          rw [← emj] at lmj
          obtain ⟨m1, em1⟩ : ∃ q, q = a &&& b := ⟨_, rfl⟩
          obtain ⟨m2, em2⟩ : ∃ q, q = a &&& c := ⟨_, rfl⟩
          obtain ⟨m3, em3⟩ : ∃ q, q = b &&& c := ⟨_, rfl⟩
          obtain ⟨m4, em4⟩ : ∃ q, q = (a &&& b) ^^^ (a &&& c) := ⟨_, rfl⟩
          rw [← em1] at hab
          rw [← em2] at hac
          rw [← em3] at hbc hx2
          rw [← em4] at hx1 hx2
          rw [← em1, ← em2] at hx1
          have HNE := Lib.hid hne
          have HCNE := Lib.hid hcne
          have EQ1 := Lib.hid eq1
          have EQ0 := Lib.hid eq0
          have EC1 := Lib.hid ec1
          have EMJ := Lib.hid emj
          clear hne hcne eq1 eq0 ec1 emj ey1 enn ey2 em1 em2 em3 em4 hnl
          go_wp2_with fail
          refine wp_region_held [1, 13, 19, 25, 29] [] (DrawsOf wr) (by kernel_rfl) (by kernel_rfl) ?_ ⟨1, rfl⟩ ?_
          · intro i hi
            simp only [List.mem_cons, List.not_mem_nil, or_false] at hi
            rcases hi with rfl | rfl | rfl | rfl | rfl
            all_goals exact ⟨_, rfl, rfl, fun b w' n w1 hA hw hrun => held_drawn rfl (fun _ _ h h' => h.two h') hw hrun⟩
          refine Held.cut 4 rfl rfl rfl (by kernel_rfl) ?_
          simp only [List.take_succ_cons, List.take_zero, List.drop_succ_cons, List.drop_zero, List.length_cons, List.length_nil]
          go_wp2_with (go_at_call 164; refine (turn_any _ _ _ (by assumption) (by decide) (by decide)).mono ?_; rintro e w' ⟨rfl, rfl⟩)
          refine TextQ.mk ⟨⟨2, rfl⟩, ?_⟩ rfl
          refine Held.cut 2 rfl rfl rfl (by kernel_rfl) ?_
          simp only [List.take_succ_cons, List.take_zero, List.drop_succ_cons, List.drop_zero, List.length_cons, List.length_nil]
          go_wp2_with (go_at_call 164; refine (turn_any _ _ _ (by assumption) (by decide) (by decide)).mono ?_; rintro e w' ⟨rfl, rfl⟩)
          refine TextQ.mk ⟨⟨3, rfl⟩, ?_⟩ rfl
          refine Held.cut 3 rfl rfl rfl (by kernel_rfl) ?_
          simp only [List.take_succ_cons, List.take_zero, List.drop_succ_cons, List.drop_zero, List.length_cons, List.length_nil]
          go_wp2_with (go_at_call 164; refine (turn_any _ _ _ (by assumption) (by decide) (by decide)).mono ?_; rintro e w' ⟨rfl, rfl⟩)
          refine TextQ.mk ⟨⟨4, rfl⟩, ?_⟩ rfl
          refine Held.cut 9 rfl rfl rfl (by kernel_rfl) ?_
          simp only [List.take_succ_cons, List.take_zero, List.drop_succ_cons, List.drop_zero, List.length_cons, List.length_nil]
          go_wp2_with (first
            | (refine wpL_not64 rfl _ _ rfl e ne rfl HNE ?_)
            | (go_at_call 165; refine (cut_any _ _ _ HCNE.out).mono ?_; rintro e w' ⟨rfl, rfl⟩))
          refine TextQ.mk ⟨⟨4, rfl⟩, ?_⟩ rfl
          refine Held.cut 14 rfl rfl rfl (by kernel_rfl) ?_
          simp only [List.take_succ_cons, List.take_zero, List.drop_succ_cons, List.drop_zero, List.length_cons, List.length_nil]
          go_wp2_with fail
          refine TextQ.mk ⟨⟨4, rfl⟩, ?_⟩ rfl
          refine Held.done ?_
          go_wp2_with fail
          refine wp_region_held [10, 14, 18, 20] [] (DrawsOf wr) (by kernel_rfl) (by kernel_rfl) ?_ ⟨5, rfl⟩ ?_
          · intro i hi
            simp only [List.mem_cons, List.not_mem_nil, or_false] at hi
            rcases hi with rfl | rfl | rfl | rfl
            all_goals exact ⟨_, rfl, rfl, fun b w' n w1 hA hw hrun => held_drawn rfl (fun _ _ h h' => h.two h') hw hrun⟩
          refine Held.cut 2 rfl rfl rfl (by kernel_rfl) ?_
          simp only [List.take_succ_cons, List.take_zero, List.drop_succ_cons, List.drop_zero, List.length_cons, List.length_nil]
          go_wp2_with (go_at_call 164; refine (turn_any _ _ _ (by assumption) (by decide) (by decide)).mono ?_; rintro e w' ⟨rfl, rfl⟩)
          refine TextQ.mk ⟨⟨6, rfl⟩, ?_⟩ rfl
          refine Held.cut 2 rfl rfl rfl (by kernel_rfl) ?_
          simp only [List.take_succ_cons, List.take_zero, List.drop_succ_cons, List.drop_zero, List.length_cons, List.length_nil]
          go_wp2_with (go_at_call 164; refine (turn_any _ _ _ (by assumption) (by decide) (by decide)).mono ?_; rintro e w' ⟨rfl, rfl⟩)
          refine TextQ.mk ⟨⟨7, rfl⟩, ?_⟩ rfl
          refine Held.cut 3 rfl rfl rfl (by kernel_rfl) ?_
          simp only [List.take_succ_cons, List.take_zero, List.drop_succ_cons, List.drop_zero, List.length_cons, List.length_nil]
          go_wp2_with (go_at_call 164; refine (turn_any _ _ _ (by assumption) (by decide) (by decide)).mono ?_; rintro e w' ⟨rfl, rfl⟩)
          refine TextQ.mk ⟨⟨8, rfl⟩, ?_⟩ rfl
          refine Held.cut 18 rfl rfl rfl (by kernel_rfl) ?_
          simp only [List.take_succ_cons, List.take_zero, List.drop_succ_cons, List.drop_zero, List.length_cons, List.length_nil]
          go_wp2_with fail
          refine TextQ.mk ⟨⟨8, rfl⟩, ?_⟩ rfl
          refine Held.done ?_
          go_wp2_with fail
          obtain ⟨A, eA⟩ : ∃ A, A = ((i + q1 + c1' + kk + wk) + (q0 + mj)) % 4294967296 := ⟨_, rfl⟩
          obtain ⟨E, eE⟩ : ∃ E, E = (d + (i + q1 + c1' + kk + wk)) % 4294967296 := ⟨_, rfl⟩
          have hcA := cut_nat ((i + q1 + c1' + kk + wk) + (q0 + mj)) (by omega)
          have hcE := cut_nat (d + (i + q1 + c1' + kk + wk)) (by omega)
          rw [← eA] at hcA
          rw [← eE] at hcE
          simp only [Int.natCast_add] at hcA hcE
          have HCA := Lib.hid hcA
          have HCE := Lib.hid hcE
          have EA := Lib.hid eA
          have EE := Lib.hid eE
          clear hcA hcE eA eE
          refine wp_region_held_last [5, 7, 9, 11, 16, 18, 20] [] (DrawsOf wr) (by kernel_rfl) (by kernel_rfl) (by kernel_rfl) rfl rfl ?_ ⟨9, rfl⟩ ?_
          · intro i hi
            simp only [List.mem_cons, List.not_mem_nil, or_false] at hi
            rcases hi with rfl | rfl | rfl | rfl | rfl | rfl | rfl
            all_goals exact ⟨_, rfl, rfl, fun b w' n w1 hA hw hrun => held_drawn rfl (fun _ _ h h' => h.two h') hw hrun⟩
          simp only [List.dropLast_cons_cons, List.dropLast_singleton]
          refine Held.cut 4 rfl rfl rfl (by kernel_rfl) ?_
          simp only [List.take_succ_cons, List.take_zero, List.drop_succ_cons, List.drop_zero, List.length_cons, List.length_nil]
          go_wp2_with (go_at_call 165; refine (cut_any _ _ _ HCA.out).mono ?_; rintro e w' ⟨rfl, rfl⟩)
          refine TextQ.mk ⟨⟨9, rfl⟩, ?_⟩ rfl
          refine Held.cut 11 rfl rfl rfl (by kernel_rfl) ?_
          simp only [List.take_succ_cons, List.take_zero, List.drop_succ_cons, List.drop_zero, List.length_cons, List.length_nil]
          go_wp2_with (go_at_call 165; refine (cut_any _ _ _ HCE.out).mono ?_; rintro e w' ⟨rfl, rfl⟩)
          refine TextQ.mk ⟨⟨9, rfl⟩, ?_⟩ rfl
          refine Held.cut 7 rfl rfl rfl (by kernel_rfl) ?_
          simp only [List.take_succ_cons, List.take_zero, List.drop_succ_cons, List.drop_zero, List.length_cons, List.length_nil]
          go_wp2_with (refine wpL_build rfl _ _ rfl (u64s [A, a, b, c, E, e, f, g]) (by kernel_rfl) ?_)
          refine TextQ.mk ⟨⟨9, rfl⟩, ?_⟩ rfl
          refine Held.last (by rfl) ?_
          go_wp2_with (refine wpL_store rfl _ _ _ rfl B13 (u64s [A, a, b, c, E, e, f, g]).toArray rfl rfl _ _ (hbv.drewN 9) (by kernel_rfl : (Try.prog.info? 196).map (·.size) = some 8) rfl rfl (u64s_one _) ?_; intro w9 ho9 hs9 hb9)
          refine TextQ.mk ?_ rfl
          go_wp2_with fail
          go_roundw
          case rel =>
            have hst' := hst.out
            refine ⟨k + 1, Sha.round ⟨a, b, c, d, e, f, g, i⟩ kk wk, by omega, by go_num, ?_, Sha.Small.round ⟨sa, sb, sc, sd, se, sf, sg, si⟩ _ _, ?_, (hov.drewN 9).trans ho9⟩
            · show _ = Sha.round (Sha.rounds W _ k) (Sha.K.getD k 0) (W.getD k 0)
              rw [← hst.out, ← HK.out, EW.out, EK.out]
            · have e9 : Sha.stList (Sha.round ⟨a, b, c, d, e, f, g, i⟩ kk wk) = [A, a, b, c, E, e, f, g] := by
                unfold Sha.round Sha.stList Sha.t1 Sha.t2
                simp only
                rw [← EQ1.out, ← EQ0.out, ← EC1.out, ← EMJ.out, EA.out, EE.out]
                congr 1
                · omega
                · congr 4
                  omega
              rw [e9]
              exact hb9
          case measure => simp [intOf]; omega
        · have EK : Hid (k = 64) := by show k = 64; omega
          obtain ⟨V, eV⟩ : ∃ V, V = [a, b, c, d, e, f, g, i] := ⟨_, rfl⟩
          obtain ⟨H, eH⟩ : ∃ H, H = [h0, h1, h2, h3, h4, h5, h6, h7] := ⟨_, rfl⟩
          have HV := Lib.hid eV
          have HH' := Lib.hid eH
          have hV : Blk wr B13 (u64s V) 196 := by rw [eV]; exact hbv
          have HVl : Hid (V.length = 8) := by show V.length = 8; rw [eV]; rfl
          have HVb : Hid (∀ j, j < 8 → V.getD j 0 < 4294967296) := by
            intro j hj
            rw [eV]
            match j, hj with
            | 0, _ => exact sa
            | 1, _ => exact sb
            | 2, _ => exact sc
            | 3, _ => exact sd
            | 4, _ => exact se
            | 5, _ => exact sf
            | 6, _ => exact sg
            | 7, _ => exact si
          have T2 := S2.only hov (by simp; omega)
          rw [← eH] at T2
          have T4 := S4.only hov (by simp; omega)
          have n64 : ¬ (k : Int) < 64 := by omega
          have hwlt : w.heap.size + 1 < B13 := by omega
          have hallr : Only [] w wr := hall8.step hov (by have := hall8.size; simp; omega)
          clear eV eH hbv S2 S4 S5 S6
          go_wp2_with fail
          go_loopw [19] (fun i wj => ∃ (j : Nat), j ≤ 8 ∧ i = .int .i64 j ∧ Blk wj w.heap.size (u64s (Sha.addTo H V j)) 196 ∧ Only [w.heap.size] wr wj) (fun i _ => 8 - (intOf i).toNat)
          case atStart => exact ⟨0, by omega, rfl, T2, Only.refl _ _⟩
          case round =>
            obtain ⟨j, hj, rfl, hbj, hoj⟩ := hrel
            by_cases hltj : j < 8
            · have lH : H.length = 8 := by rw [HH'.out]; rfl
              have l1 := Sha.addTo_length H V j
              have hcj := hbj.cell (u64s_get _ j (by omega))
              rw [Sha.addTo_rest _ _ _ _ (Nat.le_refl _)] at hcj
              have hfj := hbj.free j
              have hcv := (hV.only hoj (by simp; omega)).cell (u64s_get V j (by rw [HVl.out]; omega))
              clear l1 lH
              obtain ⟨x, ex⟩ : ∃ x, x = H.getD j 0 := ⟨_, rfl⟩
              obtain ⟨y, ey⟩ : ∃ y, y = V.getD j 0 := ⟨_, rfl⟩
              have bx : x < 4294967296 := by rw [ex, HH'.out]; exact HB.out j
              have bY : y < 4294967296 := by rw [ey]; exact HVb.out j hltj
              rw [← ex] at hcj
              rw [← ey] at hcv
              have EX := Lib.hid ex
              have EY := Lib.hid ey
              have hcut := cut_nat (x + y) (by omega)
              rw [Int.natCast_add] at hcut
              have HCUT := Lib.hid hcut
              clear ex ey hcut
              go_wp2_with fail
              refine wp_region_text (by kernel_rfl) (by kernel_rfl) ?_
              go_wp2_with (go_at_call 165; refine (cut_any _ _ _ HCUT.out).mono ?_; rintro e w' ⟨rfl, rfl⟩)
              refine TextQ.mk ?_ rfl
              go_wp2_with fail
              go_roundw
              case rel =>
                refine ⟨j + 1, by omega, by go_num, ?_, (hoj.drew).set (by simp) _⟩
                refine hbj.drew.set64 j _ ?_
                rw [← EX.out, ← EY.out]
                omega
              case measure => simp [intOf]; omega
            · have EJ : Hid (j = 8) := by show j = 8; omega
              have hl8 : Hid ((u64s (Sha.addTo H V j)).length = 8) := by
                show _ = 8
                rw [u64s_length, Sha.addTo_length, HH'.out]
                rfl
              have T4j := T4.only hoj (by simp)
              have n8 : ¬ (j : Int) < 8 := by omega
              go_wp2_with (first
                | (refine wpL_load rfl _ _ rfl w.heap.size rfl _ _ _ hbj Try.underlying196 rfl (by kernel_rfl : (Try.prog.info? 196).map (·.size) = some 8) hl8.out ?_)
                | (refine wpL_store rfl _ _ _ rfl (w.heap.size + 1) (u64s (Sha.addTo H V j)).toArray rfl rfl _ _ T4j (by kernel_rfl : (Try.prog.info? 196).map (·.size) = some 8) (by simpa using hl8.out) rfl (u64s_one _) ?_; intro w9 ho9 hs9 hb9))
              refine end_row (ty := 196) Try.results139 rfl hb9 Try.underlying196 rfl (by kernel_rfl : (Try.prog.info? _).map (·.size) = some 8) hl8.out rfl ⟨?_, (hallr.step hoj (by simp)).step ho9 (by simp)⟩
              rw [EJ.out, Sha.block_eq H (bl s) (by rw [HH'.out]; rfl) (by rw [HV.out, HH'.out, ← HW.out, ← EK.out, ← hst.out]; rfl), HH'.out]

end Go.Proofs.Ytmogkiacakkmbaa
