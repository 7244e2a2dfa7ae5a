/- A region that draws its order, walked in the order of its text: loads of cells that nothing in the region turns may stand beside whatever it holds. -/
import Derived.Test.YtmogkiacakkmbaaText
namespace Go.Proofs.Ytmogkiacakkmbaa

section held
variable {P : Program} {ops : Array Oper}

/-- It leaves the world alone. -/
def keepB (P : Program) (o : Oper) : Bool := freeB P o || readB o

theorem sOp_keep {i : Nat} {o : Oper} (ho : ops[i]? = some o) (hk : keepB P o = true) {K : Act → World → Prop} {a : Act} {w : World} (h : sOp P ops i K a w) : ∃ v, (∀ K' : Act → World → Prop, K' (a.put o.dst v) w → sOp P ops i K' a w) ∧ K (a.put o.dst v) w := by
  unfold keepB at hk
  rw [Bool.or_eq_true] at hk
  rcases hk with hf | hr
  · obtain ⟨v, hy, hg, hK⟩ := sOp_free ho hf h
    exact ⟨v, fun K' h' => (sOp_yields ho hy hg).2 h', hK⟩
  · unfold sOp at h
    simp only [ho] at h
    by_cases hw : Region.wanted o (yielded ops a.tmps) = true
    · simp only [hw, if_true] at h
      obtain ⟨hg, hwp⟩ := h
      unfold Oper.wp at hwp
      cases hrun : (execOp a.eval o).run P w with
      | halt x w' => rw [hrun] at hwp; cases x <;> exact hwp.elim
      | ok n w' =>
        obtain ⟨v, rfl, rfl⟩ := read_spec (P := P) (a := a) hr w n w' hrun
        rw [hrun, Oper.upon_value] at hwp
        refine ⟨v, fun K' hK' => ?_, hwp⟩
        unfold sOp
        simp only [ho, hw, if_true]
        refine ⟨hg, ?_⟩
        unfold Oper.wp
        rw [hrun]
        exact hK'
    · simp only [hw, if_false, Bool.false_eq_true] at h
      refine ⟨undef, fun K' hK' => ?_, h⟩
      unfold sOp
      simp only [ho, hw, if_false, Bool.false_eq_true]
      exact hK'

/-- Every end is a frame with its slot put. -/
theorem sOp_ends {i : Nat} {o : Oper} (ho : ops[i]? = some o) {K : Act → World → Prop} {a : Act} {w : World} (h : sOp P ops i K a w) : sOp P ops i (fun a' w' => K a' w' ∧ ∃ (b : Act) (v : Value), b.tmps = a.tmps ∧ a' = b.put o.dst v) a w := by
  unfold sOp at h ⊢
  simp only [ho] at h ⊢
  split
  · rename_i hw
    rw [if_pos hw] at h
    refine ⟨h.1, ?_⟩
    have hwp := h.2
    unfold Oper.wp at hwp ⊢
    generalize (execOp a.eval o).run P w = r at hwp ⊢
    cases r with
    | ok n w' =>
      cases n <;> simp only [Oper.upon] at hwp ⊢
      case value u => exact ⟨hwp, a, _, rfl, rfl⟩
      case skip => exact ⟨hwp, a, _, rfl, rfl⟩
      case defer d => exact ⟨hwp, { a with defers := d :: a.defers }, _, rfl, rfl⟩
      case enter f args => exact Calls.mono hwp fun e w'' he => by cases e <;> first | exact ⟨he, a, _, rfl, rfl⟩ | exact he
      case row => exact Rows.mono hwp fun u w'' he => ⟨he, a, _, rfl, rfl⟩
    | halt x w' => cases x <;> simp only [Oper.upon] at hwp ⊢ <;> exact hwp
  · rename_i hw
    rw [if_neg hw] at h
    exact ⟨h, a, _, rfl, rfl⟩

/-- T: what holds all through the region; H: loads whose answers it fixes. -/
structure Hold (P : Program) (ops : Array Oper) (T : Act → World → Prop) (H : List Nat) : Prop where
  put : ∀ (i : Nat) (o : Oper), ops[i]? = some o → ∀ (a : Act) (w : World) (v : Value), T (a.put o.dst v) w ↔ T a w
  tmps : ∀ (a b : Act) (w : World), b.tmps = a.tmps → T a w → T b w
  held : ∀ i ∈ H, ∃ (o : Oper), ops[i]? = some o ∧ asksGood o = false ∧ ∀ (a : Act) (w : World) (n : Next) (w1 : World), T a w → (execOp a.eval o).run P w = .ok n w1 → ∃ v, n = .value v ∧ w1 = w ∧ ∀ w', T a w' → (execOp a.eval o).run P w' = .ok (.value v) w'

variable {T : Act → World → Prop} {H : List Nat}

/-- Two frames that an operation sees alike. -/
def Alike (ops : Array Oper) (o : Oper) (a b : Act) : Prop := execOp b.eval o = execOp a.eval o ∧ Region.wanted o (yielded ops b.tmps) = Region.wanted o (yielded ops a.tmps)
theorem Alike.put {o : Oper} (hs : ∀ cs b, o.op ≠ .select cs b) {a b : Act} (hb : b.tmps = a.tmps) (dst : Option Tmp) (u : Value) (h : ∀ d, dst = some d → d ∉ o.looksAt ops) : Alike ops o a (b.put dst u) := by
  refine ⟨?_, ?_⟩
  · rw [execOp_put (ops := ops) o hs b dst u h, eval_tmps hb]
  · rw [wanted_put o b dst u h, hb]

theorem sOp_held (hT : Hold P ops T H) {i : Nat} (hi : i ∈ H) : ∃ (o : Oper), ops[i]? = some o ∧ ∀ (K : Act → World → Prop) (a : Act) (w : World), T a w → sOp P ops i K a w →
    ∃ v, K (a.put o.dst v) w ∧ ∀ (b : Act) (w' : World), (Alike ops o a b ∨ Alike ops o b a) → T b w' → T a w' → ∀ K' : Act → World → Prop, (sOp P ops i K' b w' ↔ K' (b.put o.dst v) w') := by
  obtain ⟨o, ho, hg, hr⟩ := hT.held i hi
  refine ⟨o, ho, fun K a w hTa h => ?_⟩
  unfold sOp at h
  simp only [ho] at h
  by_cases hw : Region.wanted o (yielded ops a.tmps) = true
  · simp only [hw, if_true] at h
    have hwp := h.2
    unfold Oper.wp at hwp
    cases hrun : (execOp a.eval o).run P w with
    | halt x w' => rw [hrun] at hwp; cases x <;> exact hwp.elim
    | ok n w' =>
      obtain ⟨v, rfl, rfl, hall⟩ := hr a w n w' hTa hrun
      rw [hrun, Oper.upon_value] at hwp
      refine ⟨v, hwp, fun b w' hab hTb hTa' K' => ?_⟩
      have he : execOp b.eval o = execOp a.eval o := hab.elim (fun h => h.1) (fun h => h.1.symm)
      have hwb : Region.wanted o (yielded ops b.tmps) = true := hab.elim (fun h => h.2.trans hw) (fun h => h.2.symm.trans hw)
      unfold sOp
      simp only [ho, hwb, if_true, Oper.wp, he, hall w' hTa', Oper.upon]
      exact ⟨fun h => h.2, fun h => ⟨good_of_not hg b, h⟩⟩
  · simp only [hw, if_false, Bool.false_eq_true] at h
    refine ⟨undef, h, fun b w' hab hTb hTa' K' => ?_⟩
    have hwb : ¬ Region.wanted o (yielded ops b.tmps) = true := hab.elim (fun h => by rw [h.2]; exact hw) (fun h => by rw [← h.2]; exact hw)
    unfold sOp
    simp only [ho, hwb, if_false, Bool.false_eq_true]

/-- Two operations, the first ahead of the second by the text: they commute. -/
def commH (P : Program) (ops : Array Oper) (H : List Nat) (j i : Nat) : Bool :=
  match ops[j]?, ops[i]? with
  | some oj, some oi => oj.apart ops oi && (freeB P oj || freeB P oi || (readB oj && readB oi) || H.contains j || H.contains i)
  | _, _ => false

theorem swap_held (hT : Hold P ops T H) (hsel : ∀ (j : Nat) (o : Oper) cs b, ops[j]? = some o → o.op ≠ .select cs b) {i j : Nat} (hc : commH P ops H j i = true)
    {K : Act → World → Prop} (hK : ∀ a w, K a w → T a w) {a : Act} {w : World} (hTa : T a w) (h : sOp P ops j (fun a w => T a w ∧ sOp P ops i K a w) a w) : sOp P ops i (fun a w => T a w ∧ sOp P ops j K a w) a w := by
  unfold commH at hc
  cases hj : ops[j]? with
  | none => simp [hj] at hc
  | some oj =>
    cases hi : ops[i]? with
    | none => simp [hj, hi] at hc
    | some oi =>
      simp only [hj, hi, Bool.and_eq_true, Bool.or_eq_true, List.contains_iff_mem] at hc
      obtain ⟨hap, hc⟩ := hc
      have h0 : sOp P ops j (sOp P ops i K) a w := sOp_mono (fun _ _ hh => hh.2) h
      have hsi := fun cs b => hsel i oi cs b hi
      have hsj := fun cs b => hsel j oj cs b hj
      -- the second leaves the world alone
      have right : keepB P oi = true → sOp P ops i (sOp P ops j K) a w → sOp P ops i (fun a w => T a w ∧ sOp P ops j K a w) a w := fun hk hh => by
        obtain ⟨v, h1, h2⟩ := sOp_keep hi hk hh
        exact h1 _ ⟨(hT.put i oi hi a w v).2 hTa, h2⟩
      -- the first does
      have left : keepB P oj = true → sOp P ops i (sOp P ops j K) a w → sOp P ops i (fun a w => T a w ∧ sOp P ops j K a w) a w := fun hk hh => by
        refine sOp_mono (fun a' w' h1 => ⟨?_, h1⟩) hh
        obtain ⟨v, _, h2⟩ := sOp_keep hj hk h1
        exact (hT.put j oj hj a' w' v).1 (hK _ _ h2)
      obtain ⟨p1, p2, p3⟩ := Oper.apart_spec hap
      have p2' : ∀ d, oi.dst = some d → oj.dst ≠ some d := fun d hd hd' => p2 d hd' hd
      rcases hc with (((hf | hf) | ⟨h1, h2⟩) | hH) | hH
      · exact left (by simp [keepB, hf]) (swap_free_left hi hj hsi hsj hap hf h0)
      · exact right (by simp [keepB, hf]) (swap_free_right hi hj hsi hsj hap hf h0)
      · exact right (by simp [keepB, h2]) (swap_read hi hj hsi hsj hap h2 h1 h0)
      · -- the first is held
        obtain ⟨o, ho, hv⟩ := sOp_held hT hH
        obtain rfl : o = oj := by rw [hj] at ho; exact (Option.some.inj ho).symm
        obtain ⟨v, h3, hall⟩ := hv _ a w hTa h
        have h4 : sOp P ops i (fun a' w' => K (a'.put o.dst v) w') a w := sOp_put hi hsi o.dst _ p1 p2 (fun _ _ hh => hh) h3.2
        refine sOp_mono (fun a' w' hh => ?_) (sOp_ends hi h4)
        obtain ⟨hk, b, u, hb, rfl⟩ := hh
        have hTe : T (b.put oi.dst u) w' := (hT.put j o hj _ w' _).1 (hK _ _ hk)
        have hTa' : T a w' := hT.tmps b a w' hb.symm ((hT.put i oi hi b w' u).1 hTe)
        exact ⟨hTe, (hall _ w' (.inl (Alike.put hsj hb oi.dst u p3)) hTe hTa' _).2 hk⟩
      · -- the second is
        obtain ⟨o, ho, hv⟩ := sOp_held hT hH
        obtain rfl : o = oi := by rw [hi] at ho; exact (Option.some.inj ho).symm
        obtain ⟨b0, v0, w0, hb0, hT0, hk0⟩ := sOp_exists hj h
        obtain ⟨v, _, hall⟩ := hv _ _ w0 hT0 hk0
        have toA : ∀ (b : Act) (w' : World), b.tmps = a.tmps → (T b w' ↔ T a w') := fun b w' hb => ⟨hT.tmps b a w' hb.symm, hT.tmps a b w' hb⟩
        have hTany : ∀ (c : Act) (u : Value) (w' : World), c.tmps = a.tmps → (T (c.put oj.dst u) w' ↔ T a w') := fun c u w' hc => (hT.put j oj hj c w' u).trans (toA c w' hc)
        have hal : Alike ops o a (b0.put oj.dst v0) := Alike.put hsi hb0 oj.dst v0 p1
        refine (hall a w (.inr hal) hTa ((hTany b0 v0 w hb0).2 hTa) _).2 ⟨(hT.put i o hi a w _).2 hTa, ?_⟩
        refine sOp_put' hj hsj o.dst _ (fun d hd => p3 d hd) p2' (K := fun a' w' => K (a'.put o.dst v) w') (fun _ _ hh => hh) ?_
        refine sOp_mono (fun a' w' hh => ?_) (sOp_ends hj h)
        obtain ⟨⟨hTe, hk⟩, b, u, hb, rfl⟩ := hh
        have hal2 : Alike ops o (b0.put oj.dst v0) (b.put oj.dst u) := by
          have h1 : Alike ops o a (b.put oj.dst u) := Alike.put hsi hb oj.dst u p1
          exact ⟨h1.1.trans hal.1.symm, h1.2.trans hal.2.symm⟩
        exact (hall _ w' (.inl hal2) hTe ((hTany b0 v0 w' hb0).2 ((hTany b u w' hb).1 hTe)) _).1 hk

/-- Operations one behind the other, T before each and at the end. -/
def sLT (P : Program) (ops : Array Oper) (T : Act → World → Prop) (K : Act → World → Prop) : List Nat → Act → World → Prop
  | [], a, w => T a w ∧ K a w
  | i :: r, a, w => T a w ∧ sOp P ops i (sLT P ops T K r) a w

theorem sLT_T {K : Act → World → Prop} {L : List Nat} {a : Act} {w : World} (h : sLT P ops T K L a w) : T a w := by cases L <;> exact h.1

theorem sLT_move (hT : Hold P ops T H) (hsel : ∀ (j : Nat) (o : Oper) cs b, ops[j]? = some o → o.op ≠ .select cs b) {K : Act → World → Prop} {i : Nat} {post : List Nat} :
    ∀ (pre : List Nat) (a : Act) (w : World), (∀ j ∈ pre, commH P ops H j i = true) → sLT P ops T K (pre ++ i :: post) a w → sOp P ops i (sLT P ops T K (pre ++ post)) a w
  | [], _, _, _, h => h.2
  | j :: pre, a, w, hc, h => by
    obtain ⟨hTa, h⟩ := h
    have h1 : sOp P ops j (fun a w => T a w ∧ sOp P ops i (sLT P ops T K (pre ++ post)) a w) a w := sOp_mono (fun a' w' hh => ⟨sLT_T hh, sLT_move hT hsel pre a' w' (fun k hk => hc k (by simp [hk])) hh⟩) h
    exact swap_held hT hsel (hc j (by simp)) (fun _ _ hh => sLT_T hh) hTa h1

/-- The whole look at a region's text. X: the slots that held loads look at. -/
def textH (P : Program) (ops : Array Oper) (H : List Nat) (X : List Tmp) (B : List Nat) : Bool :=
  Region.noSelect ops &&
  (List.range ops.size).all (fun i => match ops[i]? with
    | none => true
    | some o => o.after.all (fun e => !Region.binds .any e || decide (e.on < i)) &&
      (List.range i).all (fun j => (bitB B i j && o.after.any (fun e => Region.binds .any e && (e.on == j || bitB B e.on j))) || (!bitB B i j && commH P ops H j i)) &&
      decide (B.getD i 0 < 2 ^ i) &&
      (!asksGood o || (List.range ops.size).all (fun j => decide (j < i) || match ops[j]? with
        | none => true
        | some oj => match oj.dst with | none => true | some d => !(o.looksAt ops).contains d))) &&
  ops.all (fun o => match o.dst with | none => true | some d => !X.contains d)

theorem textH_ok {X : List Tmp} {B : List Nat} (h : textH P ops H X B = true) : TextOk (fun j i => commH P ops H j i = true) ops B ∧ (∀ (i j : Nat) (oi oj : Oper), ops[i]? = some oi → ops[j]? = some oj → i ≤ j → asksGood oi = true → ∀ d, oj.dst = some d → d ∉ oi.looksAt ops) ∧
    ∀ (i : Nat) (o : Oper), ops[i]? = some o → ∀ d, o.dst = some d → d ∉ X := by
  unfold textH at h
  rw [Bool.and_eq_true, Bool.and_eq_true] at h
  obtain ⟨⟨hsel, h⟩, hX⟩ := h
  have row : ∀ (i : Nat) (o : Oper), ops[i]? = some o → _ := fun i o ho => by
    have := List.all_eq_true.1 h i (by simpa using (Array.getElem?_eq_some_iff.1 ho).1)
    simp only [ho, Bool.and_eq_true, decide_eq_true_eq] at this
    exact this
  refine ⟨⟨Region.noSelect_spec hsel, fun i o ho e he hb => ?_, fun i o ho j hbit => ?_, fun j i hji his => ?_⟩, fun i j oi oj hi hj hij hag d hd => ?_, fun i o ho d hd => ?_⟩
  · have := Array.all_eq_true_iff_forall_mem.1 (row i o ho).1.1.1 e he
    simpa [hb] using this
  · have hlt : j < i := by
      rcases Nat.lt_or_ge j i with hlt | hge
      · exact hlt
      · have hB := (row i o ho).1.2
        have : (B.getD i 0).testBit j = false := Nat.testBit_lt_two_pow (Nat.lt_of_lt_of_le hB (Nat.pow_le_pow_right (by decide) hge))
        unfold bitB at hbit
        rw [this] at hbit
        simp at hbit
    have := List.all_eq_true.1 (row i o ho).1.1.2 j (by simpa using hlt)
    simp only [hbit, Bool.true_and, Bool.not_true, Bool.false_and, Bool.or_false] at this
    obtain ⟨e, he, h1⟩ := Array.any_eq_true'.1 this
    simp only [Bool.and_eq_true, Bool.or_eq_true, beq_iff_eq] at h1
    exact ⟨e, he, h1.1, h1.2⟩
  · have ho : ops[i]? = some ops[i] := Array.getElem?_eq_getElem his
    have := List.all_eq_true.1 (row i _ ho).1.1.2 j (by simpa using hji)
    cases hb : bitB B i j with
    | true => exact .inl rfl
    | false =>
      simp only [hb, Bool.false_and, Bool.not_false, Bool.true_and, Bool.false_or] at this
      exact .inr this
  · have h1 := (row i oi hi).2
    rw [hag] at h1
    simp only [Bool.not_true, Bool.false_or] at h1
    have h2 := List.all_eq_true.1 h1 j (by simpa using (Array.getElem?_eq_some_iff.1 hj).1)
    simp only [hj, hd, Bool.or_eq_true, decide_eq_true_eq] at h2
    rcases h2 with h2 | h2
    · omega
    · simpa using h2
  · have := Array.all_eq_true_iff_forall_mem.1 hX o (Array.mem_of_getElem? ho)
    simp only [hd] at this
    simpa using this

/-- One step of a list, its operands good. -/
theorem wpList_sOp {Q : Exit → Act → World → Prop} {l : List Oper} {o : Oper} {rest : List Oper} {k : Nat} {a : Act} {w : World} (h0 : ops[k]? = some o) (hl : o ∈ l)
    (hst : ∀ (j : Nat) (oj : Oper), (o :: rest)[j]? = some oj → asksGood o = true → ∀ d, oj.dst = some d → d ∉ o.looksAt ops) (h : wpList P ops (TextQ Q ops l) (o :: rest) a w) : sOp P ops k (wpList P ops (TextQ Q ops l) rest) a w := by
  have h1 := wpList_first h
  unfold sOp
  simp only [h0]
  by_cases hw : Region.wanted o (yielded ops a.tmps) = true
  · rw [if_pos hw] at h1 ⊢
    refine ⟨?_, h1⟩
    cases hag : asksGood o with
    | false => exact good_of_not hag a
    | true =>
      obtain ⟨b, v, w', hb, h2⟩ := wpList_exists h
      have hd : ∀ d, o.dst = some d → d ∉ o.looksAt ops := hst 0 o rfl hag
      obtain ⟨c, w2, hq, h3, h4⟩ := wpList_sees o rest (b.put o.dst v) w' (fun o' ho' d hd' => by
        obtain ⟨j, hj⟩ := List.mem_iff_getElem?.1 ho'
        exact hst (j + 1) o' (by simpa using hj) hag d hd') h2
      have hfin := List.all_eq_true.1 hq.2 o hl
      rw [h4, wanted_put o b o.dst v hd, hb, h3, good_put (ops := ops) o b o.dst v hd, good_tmps hb, hw, hag] at hfin
      simpa using hfin
  · rw [if_neg hw] at h1 ⊢
    exact h1

/-- The slots of X hold what they held at the region's head. -/
def AgreeX (X : List Tmp) (a0 a : Act) : Prop := ∀ p ∈ X, a.tmps.getD p undef = a0.tmps.getD p undef
/-- What holds all through the region. -/
def HeldT (X : List Tmp) (a0 : Act) (S : World → Prop) (a : Act) (w : World) : Prop := AgreeX X a0 a ∧ S w

/-- What a region's text shows of its slots. -/
structure TextFine (ops : Array Oper) (X : List Tmp) : Prop where
  good : ∀ (i j : Nat) (oi oj : Oper), ops[i]? = some oi → ops[j]? = some oj → i ≤ j → asksGood oi = true → ∀ d, oj.dst = some d → d ∉ oi.looksAt ops
  apart : ∀ (i : Nat) (o : Oper), ops[i]? = some o → ∀ d, o.dst = some d → d ∉ X

variable {X : List Tmp} {a0 : Act} {S : World → Prop}

theorem AgreeX.put (hX : TextFine ops X) {i : Nat} {o : Oper} (ho : ops[i]? = some o) (a : Act) (v : Value) : AgreeX X a0 (a.put o.dst v) ↔ AgreeX X a0 a := by
  unfold AgreeX
  cases hd : o.dst with
  | none => exact Iff.rfl
  | some d =>
    have hn := hX.apart i o ho d hd
    have e : ∀ p ∈ X, (a.put (some d) v).tmps.getD p undef = a.tmps.getD p undef := fun p hp => by
      have : d ≠ p := fun h => hn (h ▸ hp)
      simp [Act.put, this]
    exact ⟨fun h p hp => by rw [← e p hp]; exact h p hp, fun h p hp => by rw [e p hp]; exact h p hp⟩
theorem AgreeX.tmps {a b : Act} (h : b.tmps = a.tmps) (ha : AgreeX X a0 a) : AgreeX X a0 b := fun p hp => by rw [h]; exact ha p hp

/-- A stretch of the text, of which the last operation alone may turn the world, to the operations one behind the other. -/
theorem sLT_of_chunk (hX : TextFine ops X) {Q : Exit → Act → World → Prop} {l : List Oper} {tail : List Nat} {K : Act → World → Prop} (hQ : ∀ a w, AgreeX X a0 a → Q .normal a w → sLT P ops (HeldT X a0 S) K tail a w) :
    ∀ (rest : List Oper) (k : Nat) (a : Act) (w : World), rest ≠ [] → (∀ (j : Nat) (o : Oper), rest[j]? = some o → ops[k + j]? = some o) → (∀ o ∈ rest, o ∈ l) → rest.dropLast.all (keepB P) = true → AgreeX X a0 a → S w →
    wpList P ops (TextQ Q ops l) rest a w → sLT P ops (HeldT X a0 S) K (List.range' k rest.length ++ tail) a w
  | [], _, _, _, h, _, _, _, _, _, _ => absurd rfl h
  | o :: rest, k, a, w, _, hk, hl, hkeep, hA, hS, h => by
    have h0 : ops[k]? = some o := hk 0 o rfl
    have hs := wpList_sOp h0 (hl o (by simp)) (fun j oj hj hag d hd => hX.good k (k + j) o oj h0 (hk j oj hj) (by omega) hag d hd) h
    refine ⟨⟨hA, hS⟩, ?_⟩
    cases rest with
    | nil =>
      refine sOp_mono (fun a' w' hh => ?_) (sOp_ends h0 hs)
      obtain ⟨hq, b, v, hb, rfl⟩ := hh
      exact hQ _ _ ((AgreeX.put hX h0 b v).2 (hA.tmps hb)) hq.1
    | cons o2 rest =>
      simp only [List.dropLast_cons_cons, List.all_cons, Bool.and_eq_true] at hkeep
      obtain ⟨v, h1, h2⟩ := sOp_keep h0 hkeep.1 hs
      refine h1 _ ?_
      exact sLT_of_chunk hX hQ (o2 :: rest) (k + 1) (a.put o.dst v) w (by simp) (fun j o' hj => by have := hk (j + 1) o' (by simpa using hj); rwa [show k + 1 + j = k + (j + 1) by omega]) (fun x hx => hl x (by simp [hx])) hkeep.2 ((AgreeX.put hX h0 a v).2 hA) hS h2

/-- What is left of a region's text, S being kept. -/
def Held (P : Program) (ops : Array Oper) (X : List Tmp) (a0 : Act) (S : World → Prop) (K : Act → World → Prop) (rest : List Oper) (k : Nat) (a : Act) (w : World) : Prop :=
  TextFine ops X → (∀ (j : Nat) (o : Oper), rest[j]? = some o → ops[k + j]? = some o) → AgreeX X a0 a → S w → sLT P ops (HeldT X a0 S) K (List.range' k rest.length) a w

/-- The next stretch: its last operation alone may turn the world. -/
theorem Held.cut {K : Act → World → Prop} {rest : List Oper} {k : Nat} {a : Act} {w : World} (n : Nat) {c r : List Oper} (hc : rest.take n = c) (hr : rest.drop n = r) (hn : c.isEmpty = false) (hkeep : c.dropLast.all (keepB P) = true)
    (h : wpList P ops (TextQ (fun _ a' w' => S w' ∧ Held P ops X a0 S K r (k + c.length) a' w') ops c) c a w) : Held P ops X a0 S K rest k a w := by
  intro hX hk hA hS
  have e : rest = c ++ r := by rw [← hc, ← hr, List.take_append_drop]
  subst e
  have hcne : c ≠ [] := by intro h; simp [h] at hn
  rw [List.length_append, ← List.range'_append_1]
  refine sLT_of_chunk hX (l := c) (Q := fun _ a' w' => S w' ∧ Held P ops X a0 S K r (k + c.length) a' w') (fun a' w' hA' hq => ?_) c k a w hcne (fun j o hj => hk j o (by rw [List.getElem?_append_left (List.getElem?_eq_some_iff.1 hj).1]; exact hj)) (fun o ho => ho) hkeep hA hS h
  exact hq.2 hX (fun j o hj => by
    have := hk (c.length + j) o (by rw [List.getElem?_append_right (by omega)]; simpa using hj)
    rwa [show k + (c.length + j) = k + c.length + j by omega] at this) hA' hq.1

theorem Held.done {K : Act → World → Prop} {k : Nat} {a : Act} {w : World} (h : K a w) : Held P ops X a0 S K [] k a w := fun _ _ hA hS => ⟨⟨hA, hS⟩, h⟩

/-- A REGION THAT DRAWS ITS ORDER, WALKED IN THE ORDER OF ITS TEXT, THE LOADS OF H HELD BY S. -/
theorem wp_region_held {id : Nat} {Q : Exit → Act → World → Prop} {a : Act} {w : World} {l : List Oper} (H : List Nat) (X : List Tmp) (S : World → Prop) (hm : P.follows .mixedOrders = true) (hB : textH P l.toArray H X (waitsFor l) = true)
    (hheld : ∀ i ∈ H, ∃ (o : Oper), l[i]? = some o ∧ asksGood o = false ∧ ∀ (b : Act) (w : World) (n : Next) (w1 : World), AgreeX X a b → S w → (execOp b.eval o).run P w = .ok n w1 → ∃ v, n = .value v ∧ w1 = w ∧ ∀ w', S w' → (execOp b.eval o).run P w' = .ok (.value v) w')
    (hS : S w.drew) (h : Held P l.toArray X a S (fun a w => Q .normal a w) l 0 a w.drew) : (Code.region id l.toArray true).wp P Q a w := by
  obtain ⟨ok, hst, hX⟩ := textH_ok hB
  refine wp_region_any hm ?_
  have fine : TextFine l.toArray X := ⟨hst, hX⟩
  have hT : Hold P l.toArray (HeldT X a S) H := ⟨fun i o ho b w v => ⟨fun h => ⟨(AgreeX.put fine ho b v).1 h.1, h.2⟩, fun h => ⟨(AgreeX.put fine ho b v).2 h.1, h.2⟩⟩, fun b c w hb h => ⟨h.1.tmps hb, h.2⟩, fun i hi => by
    obtain ⟨o, ho, hg, hr⟩ := hheld i hi
    refine ⟨o, by simpa using ho, hg, fun b w n w1 hb hrun => ?_⟩
    obtain ⟨v, h1, h2, h3⟩ := hr b w n w1 hb.1 hb.2 hrun
    exact ⟨v, h1, h2, fun w' hb' => h3 w' hb'.2⟩⟩
  have hs := h fine (fun j o hj => by simpa using hj) (fun _ _ => rfl) hS
  refine wpAny_text ok (R := sLT P l.toArray (HeldT X a S) (fun a w => Q .normal a w)) (fun _ _ h => h.2) (fun pre i post a w hc h => sLT_move hT ok.sel pre a w hc h) _ _ (List.range' 0 l.length) a _ (by simp) (fun i => ?_) (List.pairwise_lt_range' ..) (by simp) (fun k o _ hk => ?_) hs
  · by_cases hi : i < l.length <;> simp [List.mem_range'_1, hi]
  · by_cases hi : k < l.length <;> simp [hi] at hk

/-- Two worlds that only draws part. -/
def Drawn (w w' : World) : Prop := ∃ (w0 : World) (n m : Nat), w = w0.drewN n ∧ w' = w0.drewN m
theorem Drawn.symm {w w' : World} (h : Drawn w w') : Drawn w' w := let ⟨w0, n, m, h1, h2⟩ := h; ⟨w0, m, n, h2, h1⟩
def DrawSteady (P : Program) {α : Type} (s : Sem α) : Prop := ∀ w a w1, s.run P w = .ok a w1 → w1 = w ∧ ∀ w', Drawn w w' → s.run P w' = .ok a w'
theorem Steady.drawn {α : Type} {s : Sem α} (h : Steady P s) : DrawSteady P s := fun w a w1 hr => ⟨(h w a w1 hr).1, fun w' _ => (h w a w1 hr).2 w'⟩
theorem drawn_bind {α β : Type} {s : Sem α} {f : α → Sem β} (h : DrawSteady P s) (k : ∀ a, DrawSteady P (f a)) : DrawSteady P (s >>= f) := by
  intro w b w2 hr
  rw [Sem.run_bind] at hr
  cases hs : s.run P w with
  | halt x w1 => rw [hs] at hr; simp [Result.andThen] at hr
  | ok a w1 =>
    rw [hs, Result.andThen_ok] at hr
    obtain ⟨rfl, h2⟩ := h w a w1 hs
    obtain ⟨e, h3⟩ := k a w1 b w2 hr
    refine ⟨e, fun w' hw => ?_⟩
    rw [Sem.run_bind, h2 w' hw, Result.andThen_ok]
    exact h3 w' hw
theorem drawn_load1 (a : Addr) : DrawSteady P (load a) := by
  intro w v w1 hr
  refine ⟨quiet_load1 a w v w1 hr, fun w' hw => ?_⟩
  obtain ⟨w0, n, m, rfl, rfl⟩ := hw
  have hc : ∀ k, (w0.drewN k).cell? a = w0.cell? a := fun _ => rfl
  have hf : ∀ k b, World.farLoad P (w0.drewN k) a b = World.farLoad P w0 a b := fun _ _ => rfl
  unfold load at hr ⊢
  rw [Sem.run, hc] at hr ⊢
  cases h0 : w0.cell? a with
  | some v => rw [h0] at hr; simp [Sem.run] at hr ⊢; exact hr.1
  | none =>
    rw [h0] at hr
    simp only [hf] at hr ⊢
    cases h1 : World.farLoad P w0 a (Mode.plain == Mode.atomic) with
    | ok r => rw [h1] at hr; simp [Sem.run] at hr ⊢; exact hr.1
    | error e => rw [h1] at hr; simp at hr
theorem drawn_loadCellsFrom (a : Addr) : ∀ (n i : Nat) (acc : Array Value), DrawSteady P (loadCellsFrom a i n acc)
  | 0, _, _ => (steady_pure _).drawn
  | n + 1, _, _ => drawn_bind (drawn_load1 _) fun _ => drawn_loadCellsFrom a n _ _
theorem drawn_loadAt (t : TypeId) (x : Value) : DrawSteady P (Instr.loadAt t x) := by
  unfold Instr.loadAt
  refine drawn_bind (steady_sureAddr _).drawn fun a => ?_
  unfold loadVar
  refine drawn_bind (steady_isAgg _).drawn fun b => ?_
  split
  · exact drawn_bind (steady_sizeOf _).drawn fun n => drawn_bind (drawn_loadCellsFrom _ _ _ _) fun _ => (steady_pure _).drawn
  · exact drawn_load1 _
/-- A load, where all worlds of S differ by draws alone. -/
theorem held_drawn {o : Oper} {t : TypeId} {x : Operand} (ho : o.op = .load t x) (hS : ∀ w w', S w → S w' → Drawn w w') {b : Act} {w w1 : World} {n : Next} (hw : S w) (hrun : (execOp b.eval o).run P w = .ok n w1) :
    ∃ v, n = .value v ∧ w1 = w ∧ ∀ w', S w' → (execOp b.eval o).run P w' = .ok (.value v) w' := by
  have e : execOp b.eval o = Instr.loadAt t (b.eval x) >>= fun v => pure (Next.value v) := by unfold execOp; rw [ho]
  rw [e] at hrun ⊢
  rw [Sem.run_bind] at hrun
  cases hs : (Instr.loadAt t (b.eval x)).run P w with
  | halt y w' => rw [hs] at hrun; simp [Result.andThen] at hrun
  | ok v w' =>
    rw [hs, Result.andThen_ok, Sem.run_pure] at hrun
    obtain ⟨rfl, h2⟩ := drawn_loadAt t (b.eval x) w v w' hs
    injection hrun with e1 e2
    subst e1 e2
    exact ⟨v, rfl, rfl, fun w'' hw'' => by rw [Sem.run_bind, h2 w'' (hS _ _ hw hw''), Result.andThen_ok, Sem.run_pure]⟩
/-- All worlds that draws lead to from one. -/
def DrawsOf (w0 w : World) : Prop := ∃ n, w = w0.drewN n
theorem DrawsOf.two {w0 w w' : World} (h : DrawsOf w0 w) (h' : DrawsOf w0 w') : Drawn w w' := let ⟨n, h1⟩ := h; let ⟨m, h2⟩ := h'; ⟨w0, n, m, h1, h2⟩

/-- What answers the same wherever S holds. -/
theorem held_const {o : Oper} {b : Act} {v : Value} (h : ∀ w, S w → (execOp b.eval o).run P w = .ok (.value v) w) {w w1 : World} {n : Next} (hS : S w) (hrun : (execOp b.eval o).run P w = .ok n w1) : ∃ v, n = .value v ∧ w1 = w ∧ ∀ w', S w' → (execOp b.eval o).run P w' = .ok (.value v) w' := by
  rw [h w hS] at hrun
  injection hrun with e1 e2
  exact ⟨v, e1.symm, e2.symm, h⟩

/-- A held load of a whole value. -/
theorem held_load {o : Oper} {ty : TypeId} {p : Tmp} (hop : o.op = .load ty (.tmp p)) (hp : p ∈ X) {b i : Nat} (ha : a0.tmps.getD p undef = .pointer (some ⟨b, i, none⟩)) (cs : List Value) (d : TypeDesc) (hS : ∀ w, S w → ∀ j v, cs[j]? = some v → w.cell? ⟨b, i + j, none⟩ = some v)
    (hu : P.underlying ty = some d) (hd : (match d with | .struct _ | .array _ _ => true | _ => false) = true) {n : Nat} (hi : (P.info? ty).map (·.size) = some n) (hn : cs.length = n) (a : Act) (w : World) (hA : AgreeX X a0 a) (hw : S w) :
    (execOp a.eval o).run P w = .ok (.value (.agg cs.toArray)) w := by
  have hx : a.eval (.tmp p) = .pointer (some ⟨b, i, none⟩) := by rw [← ha]; exact hA p hp
  unfold execOp
  simp only [hop, hx, Instr.loadAt, Instr.sureAddr, Sem.run_bind, Sem.run_pure, Result.andThen_ok, run_loadVar_at ty b i cs d (hS w hw) hu hd hi hn]
end held

end Go.Proofs.Ytmogkiacakkmbaa
