/- Walks: a turned word; the two tables; a block's words. -/
import Derived.Test.YtmogkiacakkmbaaRows
import Derived.Test.YtmogkiacakkmbaaBase
import Derived.Test.YtmogkiacakkmbaaShaP
namespace Go.Proofs.Ytmogkiacakkmbaa
open Go.RowKit

theorem ret_int {k : IntKind} {a b : Int} (h : a = b) : Ending.returned (.int k a) = .returned (.int k b) := by rw [h]

theorem turnCount : ∀ n : Fin 32, 1 ≤ n.val → Go.bits .and .u64 (IntKind.u64.wrap (-(n.val : Int))) 31 = ((32 - n.val : Nat) : Int) := by decide +kernel

theorem rotr_tells (x n : Nat) (hx : x < 4294967296) (h1 : 1 ≤ n) (h2 : n ≤ 31) :
    Go.bits .or .u32 ((x : Int) * 2 ^ (32 - n) % 4294967296) ((x : Int) / 2 ^ (32 - (32 - n))) = ((Sha.rotr x n : Nat) : Int) := by
  have e0 : 32 - (32 - n) = n := by omega
  have e1 : ((x : Int) * 2 ^ (32 - n) % 4294967296) = ((x <<< (32 - n) % 4294967296 : Nat) : Int) := by rw [Nat.shiftLeft_eq]; simp
  have e2 : ((x : Int) / 2 ^ n) = ((x >>> n : Nat) : Int) := by rw [Nat.shiftRight_eq_div_pow]; simp
  have hle : x >>> n < 4294967296 := by rw [Nat.shiftRight_eq_div_pow]; exact Nat.lt_of_le_of_lt (Nat.div_le_self _ _) hx
  rw [e0, e1, e2, Go.u32_or_nat _ _ (Nat.mod_lt _ (by decide)) hle]
  unfold Sha.rotr
  rw [show (4294967296 : Nat) = 2 ^ 32 from rfl, Nat.or_mod_two_pow, Nat.or_comm, Nat.mod_eq_of_lt (a := x >>> n) hle]

set_option maxHeartbeats 400000 in
theorem rot_any (x n : Nat) (w : World) (hx : x < 4294967296) (h1 : 1 ≤ n) (h2 : n ≤ 31) :
    Calls Try.prog 170 #[.int .u32 x, .int .i64 (-(n : Int))] w fun e w' => e = .returned (.int .u32 (Sha.rotr x n : Nat)) ∧ w = w' := by
  have hr := Lib.hid (rotr_tells x n hx h1 h2)
  have hc := turnCount ⟨n, by omega⟩ h1
  simp only at hc
  have h3 : (0 : Int) ≤ ((32 - n : Nat) : Int) := by omega
  have h4 : ((32 - n : Nat) : Int) ≤ 32 := by omega
  go_enter Try.func170, Try.ntmps170
  go_wp2
  go_ret
  exact ⟨ret_int hr.out, rfl⟩

/-- The same at a count that is written. -/
theorem rot_at (x : Nat) (k : Int) (w : World) (hx : x < 4294967296) (h1 : -31 ≤ k) (h2 : k ≤ -1) :
    Calls Try.prog 170 #[.int .u32 x, .int .i64 k] w fun e w' => e = .returned (.int .u32 (Sha.rotr x (-k).toNat : Nat)) ∧ w = w' := by
  obtain ⟨n, hn⟩ : ∃ n : Nat, k = -(n : Int) := ⟨(-k).toNat, by omega⟩
  subst hn
  have e : (- -(n : Int)).toNat = n := by omega
  rw [e]
  exact rot_any x n w hx (by omega) (by omega)

theorem s0_tells (x : Nat) (h : x < 4294967296) : Go.bits .xor .u32 (Go.bits .xor .u32 ((Sha.rotr x 7 : Nat) : Int) ((Sha.rotr x 18 : Nat) : Int)) ((x : Int) / 8) = ((Sha.s0 x : Nat) : Int) := by
  rw [show ((x : Int) / (8 : Int)) = ((x >>> 3 : Nat) : Int) by rw [Nat.shiftRight_eq_div_pow]; simp, Go.u32_xor_nat _ _ (Sha.rotr_lt _ _) (Sha.rotr_lt _ _), Go.u32_xor_nat _ _ (Sha.xor_lt (Sha.rotr_lt _ _) (Sha.rotr_lt _ _)) (Sha.shr_lt _ _ h)]
  rfl
theorem s1_tells (x : Nat) (h : x < 4294967296) : Go.bits .xor .u32 (Go.bits .xor .u32 ((Sha.rotr x 17 : Nat) : Int) ((Sha.rotr x 19 : Nat) : Int)) ((x : Int) / 1024) = ((Sha.s1 x : Nat) : Int) := by
  rw [show ((x : Int) / (1024 : Int)) = ((x >>> 10 : Nat) : Int) by rw [Nat.shiftRight_eq_div_pow]; simp, Go.u32_xor_nat _ _ (Sha.rotr_lt _ _) (Sha.rotr_lt _ _), Go.u32_xor_nat _ _ (Sha.xor_lt (Sha.rotr_lt _ _) (Sha.rotr_lt _ _)) (Sha.shr_lt _ _ h)]
  rfl
theorem big0_tells (x : Nat) : Go.bits .xor .u32 (Go.bits .xor .u32 ((Sha.rotr x 2 : Nat) : Int) ((Sha.rotr x 13 : Nat) : Int)) ((Sha.rotr x 22 : Nat) : Int) = ((Sha.big0 x : Nat) : Int) := by
  rw [Go.u32_xor_nat _ _ (Sha.rotr_lt _ _) (Sha.rotr_lt _ _), Go.u32_xor_nat _ _ (Sha.xor_lt (Sha.rotr_lt _ _) (Sha.rotr_lt _ _)) (Sha.rotr_lt _ _)]
  rfl
theorem big1_tells (x : Nat) : Go.bits .xor .u32 (Go.bits .xor .u32 ((Sha.rotr x 6 : Nat) : Int) ((Sha.rotr x 11 : Nat) : Int)) ((Sha.rotr x 25 : Nat) : Int) = ((Sha.big1 x : Nat) : Int) := by
  rw [Go.u32_xor_nat _ _ (Sha.rotr_lt _ _) (Sha.rotr_lt _ _), Go.u32_xor_nat _ _ (Sha.xor_lt (Sha.rotr_lt _ _) (Sha.rotr_lt _ _)) (Sha.rotr_lt _ _)]
  rfl

theorem H0_cells : (u32s Sha.H0).toArray = #[.int .u32 1779033703, .int .u32 3144134277, .int .u32 1013904242, .int .u32 2773480762, .int .u32 1359893119, .int .u32 2600822924, .int .u32 528734635, .int .u32 1541459225] := rfl

set_option maxRecDepth 100000 in
set_option maxHeartbeats 400000 in
theorem start_any (w : World) : Calls Try.prog 150 #[] w fun e w' => e = .returned (.agg (u32s Sha.H0).toArray) ∧ Only [] w w' := by
  go_enter Try.func150, Try.ntmps150
  go_wp2
  refine end_row (ty := 206) (cs := u32s Sha.H0) Try.results150 rfl (Blk.newA _ _ _) Try.underlying206 rfl (by kernel_rfl : (Try.prog.info? _).map (·.size) = some _) rfl rfl ⟨rfl, ?_⟩
  exact (Only.refl _ _).alloc _

def zeros64 : List Value := List.replicate 64 (.int .u32 0)
theorem K_all : (u32s Sha.K).toArray.all (·.oneCell') = true := u32s_one _

set_option maxRecDepth 100000 in
set_option maxHeartbeats 400000 in
theorem constants_any (w : World) : Calls Try.prog 169 #[] w fun e w' => e = .returned (.agg (u32s Sha.K).toArray) ∧ Only [] w w' := by
  go_enter Try.func169, Try.ntmps169
  go_wp2_with (first
    | (refine wpL_alloc rfl _ rfl _ rfl (.agg zeros64.toArray) zeros64 (by kernel_rfl) rfl ?_; intro w1 ho1 hs1 hb1)
    | (refine wpL_build rfl _ _ rfl (u32s Sha.K) (by kernel_rfl) ?_)
    | (refine wpL_store rfl _ _ _ rfl w.heap.size (u32s Sha.K).toArray rfl rfl _ _ hb1 (by kernel_rfl : (Try.prog.info? 229).map (·.size) = some 64) rfl rfl K_all ?_; intro w2 ho2 hs2 hb2))
  refine end_row (ty := 229) Try.results169 rfl hb2 Try.underlying229 rfl (by kernel_rfl : (Try.prog.info? _).map (·.size) = some _) rfl rfl ⟨rfl, ?_⟩
  exact ho1.step ho2 (by simp)

/-- A byte more at a word's right. -/
theorem or_byte (p : Nat) (c : Nat) (hp : p < 16777216) (hc : c < 256) : Go.bits .or .u32 ((p : Int) * 2 ^ 8 % 4294967296) (c : Int) = ((p * 256 + c : Nat) : Int) := by
  have e1 : ((p : Int) * 2 ^ 8 % 4294967296) = ((p * 256 : Nat) : Int) := by omega
  rw [e1, Go.u32_or_nat _ _ (by omega) (by omega)]
  have := Nat.shiftLeft_add_eq_or_of_lt (b := c) (i := 8) hc p
  rw [Nat.shiftLeft_eq, show 2 ^ 8 = 256 from rfl] at this
  rw [this]

theorem or_byte' (p : Nat) (c : Nat) (hp : p < 16777216) (hc : c < 256) : Go.bits .or .u32 ((p : Int) * 256) (c : Int) = ((p * 256 + c : Nat) : Int) := by
  have := or_byte p c hp hc
  rwa [Int.emod_eq_of_lt (by omega) (by omega), show (2 : Int) ^ 8 = 256 from rfl] at this
theorem first_set (b : List UInt8) (k j : Nat) (h : k < 64) : (u32s ((Sha.first b k).set k (Sha.part b (4 * k) j)))[k]? = some (.int .u32 ((Sha.part b (4 * k) j : Nat) : Int)) := by
  have hl : ((Sha.first b k).set k (Sha.part b (4 * k) j)).length = 64 := by simp [Sha.first_length]
  rw [u32s_get _ _ (by omega), List.getD_eq_getElem?_getD, List.getElem?_set_self (by rw [Sha.first_length]; omega)]
  rfl
theorem first_zero (b : List UInt8) (k i : Nat) (h : k ≤ i) (hi : i < 64) : (Sha.first b k).getD i 0 = 0 := by
  induction k with
  | zero => 
    simp only [Sha.first, List.getD_eq_getElem?_getD]
    rw [List.getElem?_replicate]
    split <;> rfl
  | succ k ih =>
    simp only [Sha.first, List.getD_eq_getElem?_getD]
    rw [List.getElem?_set_ne (by omega), ← List.getD_eq_getElem?_getD]
    exact ih (by omega)
theorem first_start (b : List UInt8) (k : Nat) (h : k < 64) : (Sha.first b k).set k (Sha.part b (4 * k) 0) = Sha.first b k := by
  have h0 := first_zero b k k (Nat.le_refl _) h
  have hl := Sha.first_length b k
  have : (Sha.first b k)[k]'(by omega) = 0 := by
    rw [List.getD_eq_getElem?_getD, List.getElem?_eq_getElem (by omega)] at h0
    exact h0
  show (Sha.first b k).set k 0 = _
  rw [← this]
  exact List.set_getElem_self (by omega)

set_option maxRecDepth 100000 in
set_option maxHeartbeats 400000 in
theorem sched_any (s : ByteArray) (w : World) (hs : s.size ≤ 64) (hs2 : 64 ≤ s.size) :
    Calls Try.prog 168 #[.string s] w fun e w' => e = .returned (.agg (u32s (Sha.sched (bl s) 48)).toArray) ∧ Only [] w w' := by
  go_enter Try.func168, Try.ntmps168
  go_wp2_with (refine wpL_alloc rfl _ rfl _ rfl (.agg zeros64.toArray) zeros64 (by kernel_rfl) rfl ?_; intro w0 ho0 hs0 hb0)
  go_loopw [11] (fun i wr => ∃ (k : Nat), k ≤ 16 ∧ i = .int .i64 k ∧ Blk wr w.heap.size (u32s (Sha.first (bl s) k)) 229 ∧ Only [] w wr) (fun i _ => 16 - (intOf i).toNat)
  case atStart => exact ⟨0, by omega, rfl, hb0, ho0⟩
  case round =>
    obtain ⟨k, hk, rfl, hb, ho⟩ := hrel
    obtain ⟨wo, rfl⟩ : ∃ wo : World, wo = wr := ⟨_, rfl⟩
    by_cases hlt : k < 16
    · have hm4 : min (4 * k + 4) s.size - 4 * k = 4 := by omega
      go_wp2_with (refine wpL_bytes rfl _ _ 5 _ rfl _ rfl Try.underlying9 Try.underlying56 Try.underlying5 ?_; intro cap w1 hcap hsz1 ho1 hcell)
      have HC : Hid (∀ j, j < 4 → w1.cell? ⟨wo.heap.size, j, none⟩ = some (.int .u8 (((bl s).getD (4 * k + j) 0).toNat : Int))) := by
        intro j hj
        rw [hcell j (by simp; omega), bl_extract, List.getD_eq_getElem?_getD, List.getElem?_drop, List.getElem?_take, if_pos (by omega), List.getD_eq_getElem?_getD]
      clear hcell
      have hb1 := hb.keep ho1
      have hlt1 := hb.lt
      have hsz1 := hsz1.out
      go_loopw [23] (fun i wj => ∃ (j : Nat), j ≤ 4 ∧ i = .int .i64 j ∧ Blk wj w.heap.size (u32s ((Sha.first (bl s) k).set k (Sha.part (bl s) (4 * k) j))) 229 ∧ Only [w.heap.size] w1 wj) (fun i _ => 4 - (intOf i).toNat)
      case atStart => exact ⟨0, by omega, rfl, by rw [first_start _ _ (by omega)]; exact hb1, Only.refl _ _⟩
      case round =>
        obtain ⟨j, hj, rfl, hbj, hoj⟩ := hrel
        by_cases hltj : j < 4
        · have hcj := HC.out j hltj
          rw [← hoj.cellAt _ _ (by omega) (by simp; omega)] at hcj
          have hc256 := ((bl s).getD (4 * k + j) 0).toNat_lt
          obtain ⟨c, hc⟩ : ∃ c : Nat, c = ((bl s).getD (4 * k + j) 0).toNat := ⟨_, rfl⟩
          rw [← hc] at hcj hc256
          have Hc := Lib.hid hc
          clear hc
          have hcw := hbj.cell (first_set (bl s) k j (by omega))
          have hfw := hbj.free k
          have hp := Sha.part_lt (bl s) (4 * k) j
          have hp3 : Sha.part (bl s) (4 * k) j < 16777216 := Nat.lt_of_lt_of_le hp (Nat.pow_le_pow_right (by decide) (show j ≤ 3 by omega))
          clear hp
          go_wp2
          go_roundw
          case rel =>
            refine ⟨j + 1, by omega, by go_num, ?_, hoj.set (by simp) _⟩
            have h9 := hbj.set k (.int .u32 (Go.bits .or .u32 ((Sha.part (bl s) (4 * k) j : Int) * 256) c))
            rw [or_byte' _ _ hp3 hc256, u32s_set, List.set_set] at h9
            rw [or_byte' _ _ hp3 hc256]
            simp only [Sha.part, ← Hc.out]
            exact h9
          case measure => simp [intOf]; omega
        · obtain rfl : j = 4 := by omega
          go_wp2
          go_roundw
          case rel => exact ⟨k + 1, by omega, by go_num, hbj, (ho.trans ho1).step hoj (by simp)⟩
          case measure => simp [intOf]; omega
    · have hb : Blk wo w.heap.size (u32s (Sha.sched (bl s) (16 - 16))) 229 := by
        obtain rfl : k = 16 := by omega
        exact hb
      go_wp2
      go_loopw [6] (fun i wr => ∃ (k : Nat), 16 ≤ k ∧ k ≤ 64 ∧ i = .int .i64 k ∧ Blk wr w.heap.size (u32s (Sha.sched (bl s) (k - 16))) 229 ∧ Only [] w wr) (fun i _ => 64 - (intOf i).toNat)
      case atStart => exact ⟨16, by omega, by omega, rfl, hb, ho⟩
      case round =>
        obtain ⟨k, hk1, hk2, rfl, hbk, hok⟩ := hrel
        by_cases hltk : k < 64
        · have hl := Sha.sched_length (bl s) (k - 16)
          have hlt := Lib.hid (Sha.sched_lt (bl s) (k - 16))
          have hc15 := hbk.cell (u32s_get _ (k - 15) (by omega))
          have hc2 := hbk.cell (u32s_get _ (k - 2) (by omega))
          have hc16 := hbk.cell (u32s_get _ (k - 16) (by omega))
          have hc7 := hbk.cell (u32s_get _ (k - 7) (by omega))
          have hck := hbk.cell (u32s_get _ k (by omega))
          have hfk := hbk.free k
          obtain ⟨x15, e15⟩ : ∃ x : Nat, x = (Sha.sched (bl s) (k - 16)).getD (k - 15) 0 := ⟨_, rfl⟩
          obtain ⟨x2, e2⟩ : ∃ x : Nat, x = (Sha.sched (bl s) (k - 16)).getD (k - 2) 0 := ⟨_, rfl⟩
          obtain ⟨x16, e16⟩ : ∃ x : Nat, x = (Sha.sched (bl s) (k - 16)).getD (k - 16) 0 := ⟨_, rfl⟩
          obtain ⟨x7, e7⟩ : ∃ x : Nat, x = (Sha.sched (bl s) (k - 16)).getD (k - 7) 0 := ⟨_, rfl⟩
          have b15 : x15 < 4294967296 := e15 ▸ hlt.out _
          have b2 : x2 < 4294967296 := e2 ▸ hlt.out _
          have b16 : x16 < 4294967296 := e16 ▸ hlt.out _
          have b7 : x7 < 4294967296 := e7 ▸ hlt.out _
          rw [← e15] at hc15
          rw [← e2] at hc2
          rw [← e16] at hc16
          rw [← e7] at hc7
          have E15 := Lib.hid e15
          have E2 := Lib.hid e2
          have E16 := Lib.hid e16
          have E7 := Lib.hid e7
          clear e15 e2 e16 e7 hl
          have hs0 := s0_tells x15 b15
          have hs1 := s1_tells x2 b2
          go_wp2
          go_quiet (fail)
          go_wp2_with (go_at_call 170; refine (rot_at _ _ _ (by assumption) (by omega) (by omega)).mono ?_; rintro e w' ⟨rfl, rfl⟩)
          go_region
          go_wp2
          go_roundw
          case rel =>
            refine ⟨k + 1, by omega, by omega, by go_num, ?_, (hok.drewN _).set (by simp) _⟩
            have e1 : Sha.sched (bl s) (k + 1 - 16) = (Sha.sched (bl s) (k - 16)).set k (Sha.next (Sha.sched (bl s) (k - 16)) k) := by
              rw [show k + 1 - 16 = (k - 16) + 1 by omega, Sha.sched, show 16 + (k - 16) = k by omega]
            rw [e1]
            refine (hbk.drewN (nq + 1)).set32 k _ ?_
            unfold Sha.next
            rw [← E15.out, ← E2.out, ← E16.out, ← E7.out]
            omega
          case measure => simp [intOf]; omega
        · have HK : Hid (k = 64) := by show k = 64; omega
          have hlen : (u32s (Sha.sched (bl s) (k - 16))).length = 64 := by rw [u32s_length, Sha.sched_length]
          go_wp2_with (first
            | (refine wpL_load rfl _ _ rfl w.heap.size rfl _ _ _ hbk Try.underlying229 rfl (by kernel_rfl : (Try.prog.info? 229).map (·.size) = some 64) hlen ?_)
            | (refine wpL_store rfl _ _ _ rfl w.heap.size (u32s (Sha.sched (bl s) (k - 16))).toArray rfl rfl _ _ hbk (by kernel_rfl : (Try.prog.info? 229).map (·.size) = some 64) (by simpa using hlen) hlen (u32s_one _) ?_; intro w2 ho2 hs2' hb2))
          refine end_row (ty := 229) Try.results168 rfl hb2 Try.underlying229 rfl (by kernel_rfl : (Try.prog.info? _).map (·.size) = some 64) hlen rfl ⟨?_, hok.step ho2 (by simp)⟩
          rw [HK.out]

end Go.Proofs.Ytmogkiacakkmbaa
