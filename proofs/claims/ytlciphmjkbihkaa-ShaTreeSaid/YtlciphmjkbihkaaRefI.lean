/- Walks: sha.Parse; digits. -/
import Derived.Test.YtlciphmjkbihkaaRefH
import Derived.Laws.ResultCell
namespace Go.Proofs.Ytlciphmjkbihkaa
open Go.RowKit

section
variable {P : Program} {fn : Func} {R : Ending → World → Prop} {a : Act} {w : World}
/-- The end of a call that gives a row in memory and a value. -/
theorem end_row_tmp {p q : Tmp} {ty t : TypeId} {b : Nat} {cs : List Value} {d : TypeDesc} {v : Value} (h : fn.results = #[.cell p ty, .tmp q]) (hp : a.tmps.getD p undef = .pointer (some ⟨b, 0, none⟩)) (hg : Blk w b cs t)
    (hu : P.underlying ty = some d) (hd : (match d with | .struct _ | .array _ _ => true | _ => false) = true) {n : Nat} (hi : (P.info? ty).map (·.size) = some n) (hn : cs.length = n) (hdef : a.defers = []) (hq : a.tmps.getD q undef = v)
    (hR : R (.returned (.tuple #[.agg cs.toArray, v])) w) : bodyPost P fn R .ret a w := by
  refine bodyPost_ret (v := .tuple #[.agg cs.toArray, v]) ?_ hdef hR
  rw [results_cell_tmp h, hp, hq]
  have hl := run_loadVar_row w b t ty cs.toArray (0, 0) d hg hu hd (by rw [hi, ← hn]; simp)
  simp [asAddr, hl, Result.andThen]
end

theorem or8 (o n : Nat) (hn : n < 16) : Go.bits .or .u8 ((o : Int) * 16 % 256) (n : Int) = ((o * 16 % 256 + n : Nat) : Int) := by
  have e1 : ((o : Int) * 16 % 256) = ((o * 16 % 256 : Nat) : Int) := by omega
  have e2 : o * 16 % 256 = (o % 16) * 16 := by omega
  rw [e1, Go.u8_or_nat _ _ (by omega) (by omega), e2]
  have := Nat.shiftLeft_add_eq_or_of_lt (b := n) (i := 4) hn (o % 16)
  rw [Nat.shiftLeft_eq, show 2 ^ 4 = 16 from rfl] at this
  rw [this]

set_option maxRecDepth 100000 in
set_option maxHeartbeats 1000000 in
theorem parse_short (s : ByteArray) (w : World) (h : s.size ≠ 64) : Calls Try.prog 52 #[.string s] w fun e w' => e = .returned (.tuple #[.agg zeros32.toArray, .int .i64 5]) ∧ Only [] w w' := by
  have hne : ((s.size : Int) != 64) = true := by rw [bne_iff_ne]; omega
  go_enter Try.func52, Try.ntmps52
  go_wp2_with (first
    | (refine wpL_alloc rfl 2 rfl _ rfl (.agg zeros32.toArray) zeros32 (by kernel_rfl) rfl ?_; intro w1 ho1 hs1 hb1)
    | (refine wpL_alloc rfl 4 rfl _ rfl (.agg zeros32.toArray) zeros32 (by kernel_rfl) rfl ?_; intro w2 ho2 hs2 hb2)
    | (refine wpL_build rfl _ _ rfl zeros32 (by kernel_rfl) ?_)
    | (refine wpL_store rfl _ _ _ rfl w.heap.size zeros32.toArray rfl rfl _ _ (hb1.keep ho2) digInfo rfl rfl (u8s_one (List.replicate 32 0)) ?_; intro w3 ho3 hs3 hb3))
  refine end_row_tmp (ty := 57) Try.results52 rfl hb3 Try.underlying57 rfl digInfo rfl rfl rfl ⟨rfl, (ho1.trans ho2).step ho3 (by simp)⟩

set_option maxRecDepth 100000 in
set_option maxHeartbeats 8000000 in
theorem parse_any (s : ByteArray) (w : World) (h : s.size = 64) : Calls Try.prog 52 #[.string s] w fun e w' => e = .returned (if (bl s).all isDig = true then .tuple #[.agg (Lib.byteCells (parse (bl s))).toArray, .int .i64 0] else .tuple #[.agg zeros32.toArray, .int .i64 5]) ∧ Only [] w w' := by
  have hne : ((s.size : Int) != 64) = false := by rw [bne_eq_false_iff_eq]; omega
  have hl := bl_length s
  have HL : Hid ((bl s).length = 64) := by show _ = 64; omega
  go_enter Try.func52, Try.ntmps52
  go_wp2_with (first
    | (refine wpL_alloc rfl 2 rfl _ rfl (.agg zeros32.toArray) zeros32 (by kernel_rfl) rfl ?_; intro w1 ho1 hs1 hb1)
    | (refine wpL_alloc rfl 4 rfl _ rfl (.agg zeros32.toArray) zeros32 (by kernel_rfl) rfl ?_; intro w2 ho2 hs2 hb2)
    | (refine wpL_bytes rfl _ _ 5 _ rfl s rfl Try.underlying9 Try.underlying114 Try.underlying5 ?_; intro cap w3 hcap hs3 ho3 hcell))
  have z1 := hs1.out
  have z3 := hs3.out
  have A1 := (hb1.keep ho2).keep ho3
  have A2 : Blk w3 w1.heap.size (u8s (parTo (bl s) 0)) 57 := hb2.keep ho3
  have w1lt : w.heap.size < w1.heap.size := by omega
  have w12 : w1.heap.size < w2.heap.size := by have := hs2.out; omega
  have hw3 : w2.heap.size < w3.heap.size := by omega
  have hall : Only [] w w3 := (ho1.trans ho2).trans ho3
  have hlt3 := ho2.size
  have HH := Lib.hid hcell
  clear hb1 hb2 ho1 ho2 ho3 hl hne z1 z3 hs1 hs2 hs3 hlt3 hcell
  generalize w1.heap.size = B at *
  go_loopw [15] (fun i wr => ∃ (k : Nat), k ≤ 64 ∧ i = .int .i64 k ∧ Hid (∀ c ∈ (bl s).take k, isDig c = true) ∧ Blk wr B (u8s (parTo (bl s) k)) 57 ∧ Only [B] w3 wr) (fun i _ => 64 - (intOf i).toNat)
  case atStart => exact ⟨0, by omega, rfl, fun c hc => by simp at hc, A2, Only.refl _ _⟩
  case round =>
    obtain ⟨k, hk, rfl, hdg, hbr, hor⟩ := hrel
    have hsz : (s.size : Int) = 64 := by omega
    by_cases hlt : k < 64
    · have hix : k < (bl s).length := by rw [HL.out]; exact hlt
      have k64 : (k : Int) < 64 := by omega
      obtain ⟨c, ec⟩ : ∃ c, c = (bl s).getD k 0 := ⟨_, rfl⟩
      have hcl := HH.out k (by omega)
      have hlen64 := HL.out
      rw [← hor.cellAt _ _ (by omega) (by simp; omega), ← ec] at hcl
      have hmem : c ∈ bl s := by rw [ec, List.getD_eq_getElem?_getD, List.getElem?_eq_getElem hix]; exact List.getElem_mem _
      have htk : ∀ P : UInt8 → Prop, P c → (∀ x ∈ (bl s).take k, P x) → ∀ x ∈ (bl s).take (k + 1), P x := fun P h1 h2 x hx => by
        rw [List.take_succ_eq_append_getElem hix, List.mem_append] at hx
        rcases hx with hx | hx
        · exact h2 x hx
        · simp at hx
          rw [hx]
          have : c = (bl s)[k] := by rw [ec, List.getD_eq_getElem?_getD, List.getElem?_eq_getElem hix]; rfl
          rw [← this]
          exact h1
      have hcn : ((c.toNat : Int)).toNat.toUInt8 = c := by rw [Int.toNat_natCast]; exact UInt8.ofNat_toNat
      have IX : Hid (∀ w, Calls Try.prog 81 #[.string ⟨#[48, 49, 50, 51, 52, 53, 54, 55, 56, 57, 97, 98, 99, 100, 101, 102]⟩, .int .u8 (c.toNat : Int)] w fun e w' => e = .returned (.int .i64 (if isDig c then (digVal c : Int) else -1)) ∧ w' = w) := fun w => by
        have := Try.strings_IndexByte ⟨#[48, 49, 50, 51, 52, 53, 54, 55, 56, 57, 97, 98, 99, 100, 101, 102]⟩ (c.toNat : Int) w
        rw [hcn] at this
        rw [← index_dig]
        exact this
      obtain ⟨q, eq⟩ : ∃ q : Nat, q = c.toNat := ⟨_, rfl⟩
      rw [← eq] at hcl IX
      have EC := Lib.hid ec
      clear ec hcn eq HH
      by_cases hd : isDig c = true
      · rw [if_pos hd] at IX
        have hn16 := digVal_lt c hd
        obtain ⟨n, en⟩ : ∃ n, n = digVal c := ⟨_, rfl⟩
        rw [← en] at IX hn16
        have hdg2 : Hid (∀ x ∈ (bl s).take (k + 1), isDig x = true) := htk _ hd hdg.out
        have hco := hbr.cell (u8s_get _ (k / 2) (by rw [parTo_length]; omega))
        have hfo := hbr.free (k / 2)
        obtain ⟨o, eo⟩ : ∃ o : Nat, o = (parTo (bl s) k).getD (k / 2) 0 := ⟨_, rfl⟩
        rw [← eo] at hco
        have EO := Lib.hid eo
        have EN := Lib.hid en
        have OR := Lib.hid (or8 o n hn16)
        clear eo en htk hmem hdg
        go_wp2_with (go_at_call 81; refine (IX.out _).mono ?_; rintro e w4 ⟨rfl, rfl⟩)
        go_roundw
        case rel =>
          refine ⟨k + 1, by omega, by go_num, hdg2, ?_, hor.set (by simp) _⟩
          have h9 := hbr.set (k / 2) (.int .u8 (Go.bits .or .u8 ((o : Int) * 16 % 256) n))
          rw [OR.out, u8s_set] at h9
          rw [OR.out]
          unfold parTo
          rw [← EO.out, ← EC.out, ← EN.out]
          exact h9
        case measure => simp [intOf]; omega
      · rw [if_neg hd] at IX
        have HA : Hid (¬ (bl s).all isDig = true) := by
          show ¬ _
          rw [List.all_eq_true]
          exact fun h => hd (h c hmem)
        have A1r := A1.only hor (by simp; omega)
        have hallr : Only [] w wr := hall.step hor (by simp; omega)
        clear htk hmem hdg hd A2 A1
        have IX' : Hid (∀ w, Calls Try.prog 81 #[.string ⟨#[48, 49, 50, 51, 52, 53, 54, 55, 56, 57, 97, 98, 99, 100, 101, 102]⟩, .int .u8 (q : Int)] w fun e w' => e = .returned (.int .i64 (-1)) ∧ w' = w) := IX.out
        clear IX
        go_wp2_with (go_at_call 81; refine (IX'.out _).mono ?_)
        intro e w4 hx
        obtain ⟨rfl, rfl⟩ := hx
        go_wp2_with (first
          | (refine wpL_build rfl _ _ rfl zeros32 (by kernel_rfl) ?_)
          | (refine wpL_store rfl _ _ _ rfl w.heap.size zeros32.toArray rfl rfl _ _ A1r digInfo rfl rfl (u8s_one (List.replicate 32 0)) ?_))
        intro w5 ho5 hs5 hb5
        go_wp2_with fail
        refine end_row_tmp (ty := 57) Try.results52 rfl hb5 Try.underlying57 rfl digInfo rfl rfl rfl ⟨?_, hallr.step ho5 (by simp)⟩
        rfl
    · have HA : Hid ((bl s).all isDig = true) := by
        show _ = true
        rw [List.all_eq_true]
        have := hdg.out
        rwa [List.take_of_length_le (by rw [HL.out]; omega)] at this
      have EK : Hid (k = 64) := by show k = 64; omega
      have hlen : Hid ((u8s (parTo (bl s) k)).length = 32) := by show _ = 32; rw [u8s_length, parTo_length]
      have A1r := A1.only hor (by simp; omega)
      have hallr : Only [] w wr := hall.step hor (by simp; omega)
      have n64 : ¬ (k : Int) < 64 := by omega
      clear A2 A1 hdg
      go_wp2_with (first
        | (refine wpL_load rfl _ _ rfl B rfl _ _ _ hbr Try.underlying57 rfl digInfo hlen.out ?_)
        | (refine wpL_store rfl _ _ _ rfl w.heap.size (u8s (parTo (bl s) k)).toArray rfl rfl _ _ A1r digInfo (by simpa using hlen.out) rfl (u8s_one _) ?_))
      intro w5 ho5 hs5 hb5
      go_wp2_with fail
      refine end_row_tmp (ty := 57) Try.results52 rfl hb5 Try.underlying57 rfl digInfo hlen.out rfl rfl ⟨?_, hallr.step ho5 (by simp)⟩
      rw [EK.out, parse_cells _ (List.all_eq_true.1 HA.out) HL.out]
      rfl

end Go.Proofs.Ytlciphmjkbihkaa
