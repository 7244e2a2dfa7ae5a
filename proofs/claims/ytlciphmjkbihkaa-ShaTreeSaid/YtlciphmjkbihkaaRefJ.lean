/- Walks: digits; the law ShaText. -/
import Derived.Test.YtlciphmjkbihkaaRefI
import Derived.Test.YtlciphmjkbihkaaRefG
namespace Go.Proofs.Ytlciphmjkbihkaa
open Go.RowKit

section
variable {P : Program} {w : World} {ops : Array Oper} {rest : List Oper} {o : Oper} {a : Act} {Q : Exit → Act → World → Prop}
/-- A string's byte that is known. -/
theorem wpL_index_known (hgd : o.guard = none) (t : TypeId) (x i : Operand) (ho : o.op = .index t x i) (s : ByteArray) (hx : a.eval x = .string s) {k : IntKind} {n : Int} (hi : a.eval i = .int k n)
    (ht : P.underlying t = some .string) (h0 : 0 ≤ n) (h1 : n < s.size) (c : Nat) (hc : Hid (c = ((bl s).getD n.toNat 0).toNat)) (h : wpList P ops Q rest (a.put o.dst (.int .u8 (c : Int))) w) : wpList P ops Q (o :: rest) a w :=
  wpL_index_string hgd t x i ho s hx hi ht h0 h1 fun c' hc' _ => by
    rw [hc'.out, ← hc.out]
    exact h
/-- Two rows of bytes, compared the other way. -/
theorem wpL_neq_bytes (hgd : o.guard = none) (t r : TypeId) (x y : Operand) (ho : o.op = .binOp .neq t x y r) (e : TypeId) (n : Nat) (ht : P.underlying t = some (.array n e)) (he : P.underlying e = some (.int .u8)) (hsz : (P.info? e).map (·.size) = some 1) (hgt : P.eqGuardType P.depth t = false)
    (xs ys : List UInt8) (hx : a.eval x = .agg (Lib.byteCells xs).toArray) (hy : a.eval y = .agg (Lib.byteCells ys).toArray) (hlx : xs.length = n) (hly : ys.length = n) (b : Bool) (hb : (xs == ys) = b)
    (h : wpList P ops Q rest (a.put o.dst (.bool !b)) w) : wpList P ops Q (o :: rest) a w := by
  refine wpL_run hgd (v := .bool !b) ?_ h
  obtain ⟨i, hi, hs⟩ : ∃ i, P.info? e = some i ∧ i.size = 1 := by
    cases hi : P.info? e with
    | none => simp [hi] at hsz
    | some i => exact ⟨i, rfl, by simpa [hi] using hsz⟩
  have hr := run_eql_bytes (P := P) w t e n ht he (fun w => by simp [sizeOf, typeInfo, hi, hs]) xs ys hlx hly
  subst hb
  have e1 : Lib.byteCells = fun xs => xs.map Extern.Stop.cell := rfl
  have hn : (binOp .neq t (.agg (xs.map Extern.Stop.cell).toArray) (.agg (ys.map Extern.Stop.cell).toArray)).run P w = .ok (.bool !(xs == ys)) w := by
    rw [run_eql_struct] at hr
    rw [run_neq_struct]
    cases hq : (Op.equalIn 10000 t (.agg (xs.map Extern.Stop.cell).toArray) (.agg (ys.map Extern.Stop.cell).toArray)).run P w with
    | halt y w' => rw [hq] at hr; simp [Result.andThen] at hr
    | ok v w' =>
      rw [hq] at hr
      simp [Result.andThen] at hr ⊢
      obtain ⟨rfl, rfl⟩ := hr
      exact ⟨rfl, rfl⟩
  unfold execOp
  simp only [ho, Sem.run_bind, hx, hy, run_eqGuard_agg w .neq t x y _ _ hgt, e1, hn, Result.andThen_ok, Sem.run_pure]
/-- A string, held against itself the other way. -/
theorem wpL_neq_same (hgd : o.guard = none) (t r : TypeId) (x y : Operand) (ho : o.op = .binOp .neq t x y r) (s : ByteArray) (hx : a.eval x = .string s) (hy : a.eval y = .string s)
    (h : wpList P ops Q rest (a.put o.dst (.bool false)) w) : wpList P ops Q (o :: rest) a w := by
  refine wpL_run hgd (v := .bool false) ?_ h
  unfold execOp
  simp only [ho, Sem.run_bind, hx, hy]
  simp [eqGuard, binOp, Op.stringOp]
end

theorem isDig_iff (c : UInt8) : isDig c = true ↔ (48 ≤ c.toNat ∧ c.toNat ≤ 57) ∨ (97 ≤ c.toNat ∧ c.toNat ≤ 102) := by simp [isDig]

set_option maxRecDepth 100000 in
set_option maxHeartbeats 4000000 in
theorem digits_any (s : ByteArray) (w : World) (hs : s.size ≤ 1000000) : Calls Try.prog 54 #[.string s] w fun e w' => e = .returned (.bool ((bl s).all isDig && decide (s.size = 64))) ∧ w = w' := by
  have hl := bl_length s
  go_enter Try.func54, Try.ntmps54
  go_wp2
  go_loopw [3] (fun i wr => ∃ (k : Nat), k ≤ s.size ∧ i = .int .i64 k ∧ Hid (∀ c ∈ (bl s).take k, isDig c = true) ∧ wr = w) (fun i _ => s.size - (intOf i).toNat)
  case atStart => exact ⟨0, by omega, rfl, fun c hc => by simp at hc, rfl⟩
  case round =>
    obtain ⟨k, hk, rfl, hdg, rfl⟩ := hrel
    by_cases hlt : k < s.size
    · have hix : k < (bl s).length := by omega
      have k1 : (k : Int) < s.size := by omega
      have k0 : (0 : Int) ≤ k := by omega
      have ex0 : s[k]'hlt = (bl s).getD k 0 := (bl_get s k hlt).symm
      obtain ⟨x, ex⟩ : ∃ x, x = (bl s).getD k 0 := ⟨_, rfl⟩
      have hmem : x ∈ bl s := by rw [ex, List.getD_eq_getElem?_getD, List.getElem?_eq_getElem hix]; exact List.getElem_mem _
      have htk : isDig x = true → Hid (∀ y ∈ (bl s).take (k + 1), isDig y = true) := fun h1 y hy => by
        rw [List.take_succ_eq_append_getElem hix, List.mem_append] at hy
        rcases hy with hy | hy
        · exact hdg.out y hy
        · simp at hy
          have : x = (bl s)[k] := by rw [ex, List.getD_eq_getElem?_getD, List.getElem?_eq_getElem hix]; rfl
          rw [hy, ← this]
          exact h1
      obtain ⟨c, ec⟩ : ∃ c : Nat, c = x.toNat := ⟨_, rfl⟩
      have HC : c = (s[k]'hlt).toNat := by rw [ec, ex, ex0]
      have hdi := isDig_iff x
      rw [← ec] at hdi
      have HNO : isDig x = false → Hid (((bl s).all isDig && decide (s.size = 64)) = false) := fun h1 => by
        show _ = false
        have : (bl s).all isDig = false := by
          rw [List.all_eq_false]
          exact ⟨x, hmem, by simp [h1]⟩
        rw [this]
        rfl
      clear ex ec hmem hix hl hdg ex0
      have R : (c < 48 ∧ isDig x = false) ∨ (48 ≤ c ∧ c ≤ 57 ∧ isDig x = true) ∨ (57 < c ∧ c < 97 ∧ isDig x = false) ∨ (97 ≤ c ∧ c ≤ 102 ∧ isDig x = true) ∨ (102 < c ∧ isDig x = false) := by
        cases hi : isDig x with
        | true => have := hdi.1 hi; simp; omega
        | false =>
          have : ¬ ((48 ≤ c ∧ c ≤ 57) ∨ (97 ≤ c ∧ c ≤ 102)) := fun h => by rw [hdi.2 h] at hi; cases hi
          simp
          omega
      clear hdi
      rcases R with ⟨c1, hd⟩ | ⟨c1, c2, hd⟩ | ⟨c1, c2, hd⟩ | ⟨c1, c2, hd⟩ | ⟨c1, hd⟩
      · have HN := HNO hd
        have g1 : ((s[k]'hlt).toNat : Int) < 48 := by omega
        have g2 : ((s[k]'hlt).toNat : Int) < 97 := by omega
        clear HNO htk HC
        go_wp2_with fail
        go_ret
        exact ⟨by rw [HN.out]; rfl, rfl⟩
      · have HN := htk hd
        have g1 : ¬ ((s[k]'hlt).toNat : Int) < 48 := by omega
        have g2 : ¬ (57 : Int) < ((s[k]'hlt).toNat : Int) := by omega
        clear HNO htk HC
        go_wp2_with fail
        go_roundw
        case rel => exact ⟨k + 1, by omega, by go_num, HN, trivial⟩
        case measure => simp [intOf]; omega
      · have HN := HNO hd
        have g1 : ¬ ((s[k]'hlt).toNat : Int) < 48 := by omega
        have g2 : (57 : Int) < ((s[k]'hlt).toNat : Int) := by omega
        have g3 : ((s[k]'hlt).toNat : Int) < 97 := by omega
        clear HNO htk HC
        go_wp2_with fail
        go_ret
        exact ⟨by rw [HN.out]; rfl, rfl⟩
      · have HN := htk hd
        have g1 : ¬ ((s[k]'hlt).toNat : Int) < 48 := by omega
        have g2 : (57 : Int) < ((s[k]'hlt).toNat : Int) := by omega
        have g3 : ¬ ((s[k]'hlt).toNat : Int) < 97 := by omega
        have g4 : ¬ (102 : Int) < ((s[k]'hlt).toNat : Int) := by omega
        clear HNO htk HC
        go_wp2_with fail
        go_roundw
        case rel => exact ⟨k + 1, by omega, by go_num, HN, trivial⟩
        case measure => simp [intOf]; omega
      · have HN := HNO hd
        have g1 : ¬ ((s[k]'hlt).toNat : Int) < 48 := by omega
        have g2 : (57 : Int) < ((s[k]'hlt).toNat : Int) := by omega
        have g3 : ¬ ((s[k]'hlt).toNat : Int) < 97 := by omega
        have g4 : (102 : Int) < ((s[k]'hlt).toNat : Int) := by omega
        clear HNO htk HC
        go_wp2_with fail
        go_ret
        exact ⟨by rw [HN.out]; rfl, rfl⟩
    · have HA : Hid ((bl s).all isDig = true) := by
        show _ = true
        rw [List.all_eq_true]
        have := hdg.out
        rwa [List.take_of_length_le (by omega)] at this
      have n1 : ¬ (k : Int) < s.size := by omega
      clear hdg
      by_cases h64 : s.size = 64
      · have g1 : (s.size : Int) = 64 := by omega
        go_wp2_with fail
        go_ret
        refine ⟨?_, rfl⟩
        rw [HA.out]
        rfl
      · have g1 : ((s.size : Int) == 64) = false := by rw [beq_eq_false_iff_ne]; omega
        go_wp2_with fail
        go_ret
        refine ⟨?_, rfl⟩
        rfl

theorem zeros_cells : zeros32 = Lib.byteCells (List.replicate 32 0) := rfl

set_option maxRecDepth 100000 in
set_option maxHeartbeats 8000000 in
theorem textLaw_any (d : List UInt8) (s : ByteArray) (w : World) (hd : d.length = 32) : Calls Try.prog 14 #[.agg (Lib.byteCells d).toArray, .string s] w fun e w' => e = .returned (.bool true) ∧ Only [] w w' := by
  have HD := Lib.hid hd
  have hb0 := Lib.hid (Blk.new w (Lib.byteCells d) 57)
  by_cases hbig : 200 < s.size
  · have hb' : (200 : Int) < s.size := by omega
    go_enter Try.func14, Try.ntmps14
    go_wp2_with (go_at_call 32; refine (awake_any _).mono ?_; rintro e w1 ⟨rfl, ho1⟩)
    go_ret
    exact ⟨rfl, ((Only.refl [] w).alloc _).trans ho1⟩
  · have hb' : ¬ (200 : Int) < s.size := by omega
    obtain ⟨T, eT⟩ : ∃ T : ByteArray, T = ⟨(Sha.text d).toArray⟩ := ⟨_, rfl⟩
    have hTs : T.size = 64 := by rw [eT]; show (Sha.text d).length = 64; rw [text_length, hd]
    have TXT : Hid (∀ w, Calls Try.prog 51 #[.agg (Lib.byteCells d).toArray] w fun e w' => e = .returned (.string T) ∧ Only [] w w') := fun w => by rw [eT]; exact text_any d w hd
    have RTX : Hid (∀ w, Calls Try.prog 53 #[.agg (Lib.byteCells d).toArray] w fun e w' => e = .returned (.string T) ∧ Only [] w w') := fun w => by rw [eT]; exact refText_any d w hd
    have PAR : Hid (∀ w, Calls Try.prog 52 #[.string T] w fun e w' => e = .returned (.tuple #[.agg (Lib.byteCells d).toArray, .int .i64 0]) ∧ Only [] w w') := fun w => by
      have := parse_any T w hTs
      have eb : bl T = Sha.text d := by rw [eT]; rfl
      rwa [eb, if_pos (List.all_eq_true.2 (text_digs d)), parse_text d hd] at this
    clear eT hTs hd
    go_enter Try.func14, Try.ntmps14
    go_wp2_with (first
      | (go_at_call 32; refine (awake_any _).mono ?_; rintro e w1 ⟨rfl, ho1⟩)
      | (refine wpL_load rfl _ _ rfl w.heap.size rfl _ _ _ (hb0.out.keep ho1) Try.underlying57 rfl digInfo (by rw [byteCells_length, HD.out]) ?_)
      | (go_at_call 51; refine (TXT.out _).mono ?_; rintro e w2 ⟨rfl, ho2⟩)
      | (go_at_call 52; refine (PAR.out _).mono ?_))
    intro e w3 hx
    first | (subst hx; intro ho3) | (obtain ⟨rfl, ho3⟩ := hx)
    have hb3 := ((hb0.out.keep ho1).keep ho2).keep ho3
    go_wp2_with (first
      | (refine wpL_alloc rfl 6 rfl _ rfl (.agg zeros32.toArray) zeros32 (by kernel_rfl) rfl ?_; intro w4 ho4 hs4 hb4)
      | (refine wpL_store rfl _ _ _ rfl w3.heap.size (Lib.byteCells d).toArray rfl rfl _ _ hb4 digInfo (by simp [byteCells_length, HD.out]) rfl (byteCells_one _) ?_))
    intro w5 ho5 hs5 hb5
    have k5 := (hb3.keep ho4).only ho5 (by have := hb3.lt; simp; omega)
    have hall5 : Only [] w w5 := (((((Only.refl [] w).alloc _).trans ho1).trans ho2).trans ho3).trans ho4 |>.step ho5 (fun i hi => .inr (by
      simp at hi
      subst hi
      exact (((((Only.refl [] w).alloc _).trans ho1).trans ho2).trans ho3).size))
    go_wp2_with (first
      | (refine wpL_load rfl _ (.tmp 2) rfl w.heap.size rfl _ _ _ k5 Try.underlying57 rfl digInfo (by rw [byteCells_length, HD.out]) ?_)
      | (go_at_call 53; refine (RTX.out _).mono ?_))
    intro e w6 hx
    first | (subst hx; intro ho6) | (obtain ⟨rfl, ho6⟩ := hx)
    have k6 := k5.keep ho6
    have l6 := hb5.keep ho6
    go_wp2_with (first
      | (refine wpL_neq_same rfl 9 _ (.tmp 22) (.tmp 24) rfl T rfl rfl ?_)
      | (refine wpL_yes rfl (wpL_load rfl _ (.tmp 6) rfl w3.heap.size rfl _ _ _ l6 Try.underlying57 rfl digInfo (by rw [byteCells_length, HD.out]) ?_))
      | (refine wpL_yes rfl (wpL_load rfl _ (.tmp 2) rfl w.heap.size rfl _ _ _ k6 Try.underlying57 rfl digInfo (by rw [byteCells_length, HD.out]) ?_))
      | (refine wpL_yes rfl (wpL_neq_bytes rfl 57 _ (.tmp 31) (.tmp 32) rfl 5 32 Try.underlying57 Try.underlying5 (by kernel_rfl) (by kernel_rfl) d d rfl rfl HD.out HD.out true (by simp) ?_)))
    have hall6 : Only [] w w6 := hall5.trans ho6
    clear TXT RTX PAR k6 k5 l6 hb3 hb4 hb5 hb0
    by_cases hp : s.size = 64 ∧ (bl s).all isDig = true
    · obtain ⟨Y, eY⟩ : ∃ Y, Y = parse (bl s) := ⟨_, rfl⟩
      have YL : Hid (Y.length = 32) := by rw [eY]; exact parse_length _
      have P2 := parse_any s w6 hp.1
      rw [if_pos hp.2, ← eY] at P2
      have TX2 : Hid (∀ w, Calls Try.prog 51 #[.agg (Lib.byteCells Y).toArray] w fun e w' => e = .returned (.string s) ∧ Only [] w w') := fun w => by
        have := text_any Y w YL.out
        rw [eY, text_parse _ (List.all_eq_true.1 hp.2) (by rw [bl_length]; exact hp.1), bl_of] at this
        rw [eY]
        exact this
      clear eY hp
      refine P2.mono ?_
      intro e w7 hx
      obtain ⟨rfl, ho7⟩ := hx
      go_wp2_with (first
        | (refine wpL_alloc rfl 8 rfl _ rfl (.agg zeros32.toArray) zeros32 (by kernel_rfl) rfl ?_; intro w8 ho8 hs8 hb8)
        | (refine wpL_store rfl _ _ _ rfl w7.heap.size (Lib.byteCells Y).toArray rfl rfl _ _ hb8 digInfo (by simp [byteCells_length, YL.out]) rfl (byteCells_one _) ?_))
      intro w9 ho9 hs9 hb9
      go_wp2_with (first
        | (refine wpL_load rfl _ (.tmp 8) rfl w7.heap.size rfl _ _ _ hb9 Try.underlying57 rfl digInfo (by rw [byteCells_length, YL.out]) ?_)
        | (go_at_call 51; refine (TX2.out _).mono ?_))
      intro e w10 hx
      first | (subst hx; intro ho10) | (obtain ⟨rfl, ho10⟩ := hx)
      go_wp2_with (refine wpL_eql_same rfl 9 _ (.tmp 55) (.tmp 56) rfl s rfl rfl ?_)
      go_ret
      exact ⟨rfl, (((hall6.trans ho7).trans ho8).step ho9 (fun i hi => .inr (by simp at hi; subst hi; exact (hall6.trans ho7).size))).trans ho10⟩
    · have P2 : Hid (Calls Try.prog 52 #[.string s] w6 fun e w' => e = .returned (.tuple #[.agg zeros32.toArray, .int .i64 5]) ∧ Only [] w6 w') := by
        by_cases h64 : s.size = 64
        · have := parse_any s w6 h64
          rwa [if_neg (fun h => hp ⟨h64, h⟩)] at this
        · exact parse_short s w6 h64
      have DG : Hid (∀ w, Calls Try.prog 54 #[.string s] w fun e w' => e = .returned (.bool false) ∧ w = w') := fun w => by
        have := digits_any s w (by omega)
        have hf : ((bl s).all isDig && decide (s.size = 64)) = false := by
          cases h1 : (bl s).all isDig with
          | false => rfl
          | true => simp; exact fun h => hp ⟨h, h1⟩
        rwa [hf] at this
      clear hp
      refine P2.out.mono ?_
      intro e w7 hx
      obtain ⟨rfl, ho7⟩ := hx
      go_wp2_with (first
        | (refine wpL_alloc rfl 8 rfl _ rfl (.agg zeros32.toArray) zeros32 (by kernel_rfl) rfl ?_; intro w8 ho8 hs8 hb8)
        | (refine wpL_store rfl _ _ _ rfl w7.heap.size zeros32.toArray rfl rfl _ _ hb8 digInfo rfl rfl (u8s_one (List.replicate 32 0)) ?_))
      intro w9 ho9 hs9 hb9
      have hb9' : Blk w9 w7.heap.size (Lib.byteCells (List.replicate 32 0)) 57 := hb9
      go_wp2_with (first
        | (refine wpL_yes rfl (wpL_load rfl _ (.tmp 8) rfl w7.heap.size rfl _ _ _ hb9' Try.underlying57 rfl digInfo rfl ?_))
        | (refine wpL_yes rfl (wpL_build rfl _ _ rfl (Lib.byteCells (List.replicate 32 0)) (by kernel_rfl) ?_))
        | (refine wpL_yes rfl (wpL_eql_bytes rfl 57 _ (.tmp 45) (.tmp 46) rfl 5 32 Try.underlying57 Try.underlying5 (by kernel_rfl) (by kernel_rfl) (List.replicate 32 0) (List.replicate 32 0) rfl rfl rfl rfl true (by simp) ?_))
        | (go_at_call 54; refine (DG.out _).mono ?_))
      intro e w10 hx
      first | (subst hx; intro h10; subst h10) | (obtain ⟨rfl, rfl⟩ := hx)
      go_wp2_with fail
      go_ret
      exact ⟨rfl, ((hall6.trans ho7).trans ho8).step ho9 (fun i hi => .inr (by simp at hi; subst hi; exact (hall6.trans ho7).size))⟩

end Go.Proofs.Ytlciphmjkbihkaa
