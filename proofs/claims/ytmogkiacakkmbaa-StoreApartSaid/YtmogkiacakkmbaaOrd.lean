/- A region that draws its order, walked in an order of one's own: loads ahead of operations that only make new memory. -/
import Derived.Test.YtmogkiacakkmbaaHeld
namespace Go.Proofs.Ytmogkiacakkmbaa
open Go.RowKit

section ord
variable {P : Program} {ops : Array Oper}

theorem view_only {w w' : World} {at_ : Addr} {u : TypeId} {k : Addr} {b : Bool} {r : Value × List Addr} (h : w.viewLoad P at_ u k b = .ok r) (ho : Only [] w w') : w'.viewLoad P at_ u k b = .ok r := by
  have key : w'.heap[at_.block]? = w.heap[at_.block]? ∨ w.heap[at_.block]? = none := by
    rcases Nat.lt_or_ge at_.block w.heap.size with hl | hl
    · exact .inl (ho.block _ hl (by simp))
    · exact .inr (Array.getElem?_eq_none hl)
  rcases key with e | e
  · have : w'.seen P at_ u k b = w.seen P at_ u k b := by unfold World.seen; rw [e]
    unfold World.viewLoad at h ⊢
    rw [this]
    exact h
  · exfalso
    have hs : ∀ r, w.seen P at_ u k b ≠ .ok r := fun r hr => by
      unfold World.seen at hr
      rw [e] at hr
      simp only [bind, Except.bind] at hr
      repeat' split at hr
      all_goals first | cases hr | (simp at hr)
    unfold World.viewLoad at h
    cases hq : w.seen P at_ u k b with
    | ok r => exact hs r hq
    | error x => rw [hq] at h; simp [bind, Except.bind] at h

/-- Its answer stays where the world only grows. -/
def OnlySteady (P : Program) {α : Type} (s : Sem α) : Prop := ∀ w a w1, s.run P w = .ok a w1 → w1 = w ∧ ∀ w', Only [] w w' → s.run P w' = .ok a w'
theorem Steady.only {α : Type} {s : Sem α} (h : Steady P s) : OnlySteady P s := fun w a w1 hr => ⟨(h w a w1 hr).1, fun w' _ => (h w a w1 hr).2 w'⟩
theorem only_bind {α β : Type} {s : Sem α} {f : α → Sem β} (h : OnlySteady P s) (k : ∀ a, OnlySteady P (f a)) : OnlySteady P (s >>= f) := by
  intro w b w2 hr
  rw [Sem.run_bind] at hr
  cases hs : s.run P w with
  | halt x w1 => rw [hs] at hr; simp [Result.andThen] at hr
  | ok a w1 =>
    rw [hs, Result.andThen_ok] at hr
    obtain ⟨rfl, h2⟩ := h w a w1 hs
    obtain ⟨e, h3⟩ := k a w1 b w2 hr
    refine ⟨e, fun w' hw => ?_⟩
    rw [Sem.run_bind, h2 w' hw, Result.andThen_ok]
    exact h3 w' hw
theorem only_load1 (a : Addr) : OnlySteady P (load a) := by
  intro w v w1 hr
  refine ⟨quiet_load1 a w v w1 hr, fun w' hw => ?_⟩
  have key : w'.heap[a.block]? = w.heap[a.block]? ∨ w.heap[a.block]? = none := by
    rcases Nat.lt_or_ge a.block w.heap.size with hl | hl
    · exact .inl (hw.block _ hl (by simp))
    · exact .inr (Array.getElem?_eq_none hl)
  unfold load at hr ⊢
  rw [Sem.run] at hr ⊢
  rcases key with e | e
  · have hc : w'.cell? a = w.cell? a := by unfold World.cell?; rw [e]
    rw [hc]
    cases h0 : w.cell? a with
    | some v => rw [h0] at hr; simp [Sem.run] at hr ⊢; exact hr.1
    | none =>
      rw [h0] at hr
      simp only at hr ⊢
      unfold World.farLoad at hr ⊢
      rw [e]
      split at hr
      · rename_i r h1
        split at h1
        · rename_i at_ u hh
          cases h2 : w.viewLoad P at_ u a (Mode.plain == Mode.atomic) with
          | error x => rw [h2] at h1; simp at h1
          | ok r2 =>
            rw [h2] at h1
            simp at h1
            rw [view_only h2 hw]
            subst h1
            simp [Sem.run] at hr ⊢
            exact hr.1
        · simp at h1
      · simp at hr
  · exfalso
    have h0 : w.cell? a = none := by unfold World.cell?; rw [e]
    rw [h0] at hr
    unfold World.farLoad at hr
    rw [e] at hr
    simp at hr
theorem only_loadCellsFrom (a : Addr) : ∀ (n i : Nat) (acc : Array Value), OnlySteady P (loadCellsFrom a i n acc)
  | 0, _, _ => (steady_pure _).only
  | n + 1, _, _ => only_bind (only_load1 _) fun _ => only_loadCellsFrom a n _ _
theorem only_loadAt (t : TypeId) (x : Value) : OnlySteady P (Instr.loadAt t x) := by
  unfold Instr.loadAt
  refine only_bind (steady_sureAddr _).only fun a => ?_
  unfold loadVar
  refine only_bind (steady_isAgg _).only fun b => ?_
  split
  · exact only_bind (steady_sizeOf _).only fun n => only_bind (only_loadCellsFrom _ _ _ _) fun _ => (steady_pure _).only
  · exact only_load1 _
theorem read_only {o : Oper} {a : Act} (h : readB o = true) : OnlySteady P (execOp a.eval o) := by
  obtain ⟨dst, op, ty, pos, after, guard⟩ := o
  cases op <;> simp only [readB] at h <;> (try exact absurd h (by decide)) <;> simp only [execOp]
  exact only_bind (only_loadAt _ _) fun _ => (steady_pure _).only

/-- A load comes behind an operation that only makes new memory. -/
theorem swap_read_grow {i j : Nat} {oi oj : Oper} (hi : ops[i]? = some oi) (hj : ops[j]? = some oj) (hsi : ∀ cs b, oi.op ≠ .select cs b) (hsj : ∀ cs b, oj.op ≠ .select cs b) (hap : oj.apart ops oi = true) (hrj : readB oj = true)
    {K : Act → World → Prop} {a : Act} {w : World} (hK : ∀ a' w', K a' w' → Only [] w w') (h : sOp P ops j (sOp P ops i K) a w) : sOp P ops i (sOp P ops j K) a w := by
  obtain ⟨p1, p2, p3⟩ := Oper.apart_spec hap
  have hag : asksGood oj = false := by
    obtain ⟨dst, op, ty, pos, after, guard⟩ := oj
    cases op <;> simp [readB] at hrj <;> rfl
  have main : ∀ v, sOp P ops i K (a.put oj.dst v) w → (∀ (b : Act) (u : Value) (w' : World), b.tmps = a.tmps → K ((b.put oi.dst u).put oj.dst v) w' → sOp P ops j K (b.put oi.dst u) w') → sOp P ops i (sOp P ops j K) a w := fun v h1 fin => by
    have h2 : sOp P ops i (fun a' w' => K (a'.put oj.dst v) w') a w := sOp_put hi hsi oj.dst v p1 p2 (fun _ _ hh => hh) h1
    refine sOp_mono (fun a' w' hh => ?_) (sOp_ends hi h2)
    obtain ⟨hk, b, u, hb, rfl⟩ := hh
    exact fin b u w' hb hk
  unfold sOp at h
  simp only [hj] at h
  by_cases hw : Region.wanted oj (yielded ops a.tmps) = true
  · simp only [hw, if_true] at h
    have hwp := h.2
    unfold Oper.wp at hwp
    cases hrun : (execOp a.eval oj).run P w with
    | halt x w' => rw [hrun] at hwp; cases x <;> exact hwp.elim
    | ok n w' =>
      obtain ⟨v, rfl, rfl⟩ := read_spec (P := P) (a := a) hrj w n w' hrun
      rw [hrun, Oper.upon_value] at hwp
      refine main v hwp fun b u w2 hb hk => ?_
      have hall := (read_only (P := P) (a := a) hrj w' _ _ hrun).2 w2 (hK _ _ hk)
      unfold sOp
      simp only [hj]
      rw [wanted_put oj b oi.dst u p3, hb, if_pos hw]
      refine ⟨good_of_not hag _, ?_⟩
      unfold Oper.wp
      rw [execOp_put (ops := ops) oj hsj b oi.dst u p3, eval_tmps hb, hall]
      exact hk
  · simp only [hw, if_false, Bool.false_eq_true] at h
    refine main undef h fun b u w2 hb hk => ?_
    unfold sOp
    simp only [hj]
    rw [wanted_put oj b oi.dst u p3, hb, if_neg hw]
    exact hk

/-- Operations one behind the other; those of G only make new memory. -/
def sLG (P : Program) (ops : Array Oper) (G : List Nat) (K : Act → World → Prop) : List Nat → Act → World → Prop
  | [], a, w => K a w
  | i :: r, a, w => sOp P ops i (fun a' w' => (i ∈ G → Only [] w w') ∧ sLG P ops G K r a' w') a w

/-- Two operations, the first ahead of the second in the walk: they commute. -/
def commO (P : Program) (ops : Array Oper) (G : List Nat) (j i : Nat) : Bool :=
  match ops[j]?, ops[i]? with
  | some oj, some oi => oj.apart ops oi && (freeB P oj || freeB P oi || (readB oj && readB oi) || (readB oj && G.contains i))
  | _, _ => false

theorem swap_ord (hsel : ∀ (j : Nat) (o : Oper) cs b, ops[j]? = some o → o.op ≠ .select cs b) {G : List Nat} {i j : Nat} (hc : commO P ops G j i = true) {X : Act → World → Prop} {a : Act} {w : World}
    (h : sOp P ops j (fun a' w' => (j ∈ G → Only [] w w') ∧ sOp P ops i (fun a2 w2 => (i ∈ G → Only [] w' w2) ∧ X a2 w2) a' w') a w) :
    sOp P ops i (fun a' w' => (i ∈ G → Only [] w w') ∧ sOp P ops j (fun a2 w2 => (j ∈ G → Only [] w' w2) ∧ X a2 w2) a' w') a w := by
  unfold commO at hc
  cases hj : ops[j]? with
  | none => simp [hj] at hc
  | some oj =>
    cases hi : ops[i]? with
    | none => simp [hj, hi] at hc
    | some oi =>
      simp only [hj, hi, Bool.and_eq_true, Bool.or_eq_true, List.contains_iff_mem] at hc
      obtain ⟨hap, hc⟩ := hc
      have hsi := fun cs b => hsel i oi cs b hi
      have hsj := fun cs b => hsel j oj cs b hj
      -- the first leaves the world alone
      have left : keepB P oj = true → (sOp P ops j (sOp P ops i (fun a2 w2 => (i ∈ G → Only [] w w2) ∧ X a2 w2)) a w → sOp P ops i (sOp P ops j (fun a2 w2 => (i ∈ G → Only [] w w2) ∧ X a2 w2)) a w) →
          sOp P ops i (fun a' w' => (i ∈ G → Only [] w w') ∧ sOp P ops j (fun a2 w2 => (j ∈ G → Only [] w' w2) ∧ X a2 w2) a' w') a w := fun hk sw => by
        obtain ⟨v, re, _, hI⟩ := sOp_keep hj hk h
        refine sOp_mono (fun a' w' hh => ?_) (sw (re _ hI))
        obtain ⟨v', re', hg, hx⟩ := sOp_keep hj hk hh
        exact ⟨hg, re' _ ⟨fun _ => Only.refl _ _, hx⟩⟩
      rcases hc with ((hf | hf) | ⟨h1, h2⟩) | ⟨h1, hG⟩
      · exact left (by simp [keepB, hf]) fun h2 => swap_free_left hi hj hsi hsj hap hf h2
      · -- the second does
        have hk : keepB P oi = true := by simp [keepB, hf]
        have h2 : sOp P ops j (sOp P ops i (fun a2 w2 => (j ∈ G → Only [] w w2) ∧ X a2 w2)) a w := sOp_mono (fun a' w' hh => by
          obtain ⟨u, re, _, hx⟩ := sOp_keep hi hk hh.2
          exact re _ ⟨hh.1, hx⟩) h
        obtain ⟨u, re, hx⟩ := sOp_keep hi hk (swap_free_right hi hj hsi hsj hap hf h2)
        exact re _ ⟨fun _ => Only.refl _ _, hx⟩
      · exact left (by simp [keepB, h1]) fun h3 => swap_read hi hj hsi hsj hap h2 h1 h3
      · exact left (by simp [keepB, h1]) fun h3 => swap_read_grow hi hj hsi hsj hap h1 (fun _ _ hk => hk.1 hG) h3

theorem sLG_move (hsel : ∀ (j : Nat) (o : Oper) cs b, ops[j]? = some o → o.op ≠ .select cs b) {G : List Nat} {K : Act → World → Prop} {i : Nat} {post : List Nat} :
    ∀ (pre : List Nat) (a : Act) (w : World), (∀ j ∈ pre, commO P ops G j i = true) → sLG P ops G K (pre ++ i :: post) a w → sOp P ops i (fun a' w' => (i ∈ G → Only [] w w') ∧ sLG P ops G K (pre ++ post) a' w') a w
  | [], _, _, _, h => h
  | j :: pre, a, w, hc, h => by
    have h1 : sOp P ops j (fun a' w' => (j ∈ G → Only [] w w') ∧ sOp P ops i (fun a2 w2 => (i ∈ G → Only [] w' w2) ∧ sLG P ops G K (pre ++ post) a2 w2) a' w') a w :=
      sOp_mono (fun a' w' hh => ⟨hh.1, sLG_move hsel pre a' w' (fun k hk => hc k (by simp [hk])) hh.2⟩) h
    exact swap_ord hsel (hc j (by simp)) h1

/-- Each pair of the walk's order: bound, or it commutes. -/
def ordB (P : Program) (ops : Array Oper) (G : List Nat) (B : List Nat) : List Nat → Bool
  | [] => true
  | j :: r => r.all (fun i => bitB B i j || commO P ops G j i) && ordB P ops G B r
theorem ordB_spec {G B : List Nat} {i : Nat} {post : List Nat} : ∀ {pre : List Nat}, ordB P ops G B (pre ++ i :: post) = true → ∀ j ∈ pre, bitB B i j = true ∨ commO P ops G j i = true
  | [], _, j, hj => by simp at hj
  | k :: pre, h, j, hj => by
    simp only [List.cons_append, ordB, Bool.and_eq_true] at h
    rcases List.mem_cons.1 hj with rfl | hj
    · have := List.all_eq_true.1 h.1 i (by simp)
      simpa using this
    · exact ordB_spec h.2 j hj

/-- What an operation asks of its operands is not put anew later in the walk. -/
def fineO (ops : Array Oper) : List Nat → Bool
  | [] => true
  | j :: r => (match ops[j]? with
    | none => true
    | some oj => !asksGood oj || (j :: r).all (fun i => match ops[i]? with | none => true | some oi => match oi.dst with | none => true | some d => !(oj.looksAt ops).contains d)) && fineO ops r

def nodupO : List Nat → Bool
  | [] => true
  | j :: r => !r.contains j && nodupO r

/-- The look at a region's text, for a walk in the order L. -/
def textO (P : Program) (ops : Array Oper) (G : List Nat) (B : List Nat) (L : List Nat) : Bool :=
  Region.noSelect ops &&
  (List.range ops.size).all (fun i => match ops[i]? with
    | none => true
    | some o => o.after.all (fun e => !Region.binds .any e || decide (e.on < i)) &&
      (List.range i).all (fun j => !bitB B i j || o.after.any (fun e => Region.binds .any e && (e.on == j || bitB B e.on j))) &&
      decide (B.getD i 0 < 2 ^ i)) &&
  (ordB P ops G B L && fineO ops L && nodupO L && (List.range ops.size).all (fun i => L.contains i) && L.all (fun i => decide (i < ops.size)))

theorem nodupO_spec : ∀ {L : List Nat}, nodupO L = true → L.Nodup
  | [], _ => List.nodup_nil
  | j :: r, h => by
    simp only [nodupO, Bool.and_eq_true, Bool.not_eq_true'] at h
    refine List.nodup_cons.2 ⟨fun hm => ?_, nodupO_spec h.2⟩
    have : r.contains j = true := by simpa using hm
    rw [this] at h
    cases h.1

theorem bit_lt {B : List Nat} {i j : Nat} (hB : B.getD i 0 < 2 ^ i) (h : bitB B i j = true) : j < i := by
  rcases Nat.lt_or_ge j i with hlt | hge
  · exact hlt
  · have : (B.getD i 0).testBit j = false := Nat.testBit_lt_two_pow (Nat.lt_of_lt_of_le hB (Nat.pow_le_pow_right (by decide) hge))
    unfold bitB at h
    rw [this] at h
    simp at h

theorem textO_ok {G B L : List Nat} (h : textO P ops G B L = true) : TextOk (fun j i => bitB B i j = false) ops B ∧ (∀ i, i < ops.size → B.getD i 0 < 2 ^ i) ∧ ordB P ops G B L = true ∧ fineO ops L = true ∧ L.Nodup ∧ (∀ i, i ∈ L ↔ i < ops.size) := by
  unfold textO at h
  simp only [Bool.and_eq_true, decide_eq_true_eq] at h
  obtain ⟨⟨hsel, h⟩, ⟨⟨⟨⟨ho, hf⟩, hlen⟩, hcov⟩, hin⟩⟩ := h
  have row : ∀ (i : Nat) (o : Oper), ops[i]? = some o → _ := fun i o ho => by
    have := List.all_eq_true.1 h i (by simpa using (Array.getElem?_eq_some_iff.1 ho).1)
    simp only [ho, Bool.and_eq_true, decide_eq_true_eq] at this
    exact this
  have hcov' : ∀ i, i < ops.size → i ∈ L := fun i hi => by
    have := List.all_eq_true.1 hcov i (by simpa using hi)
    simpa using this
  have hbound : ∀ i, i < ops.size → B.getD i 0 < 2 ^ i := fun i hi => (row i _ (Array.getElem?_eq_getElem hi)).2
  refine ⟨⟨Region.noSelect_spec hsel, fun i o ho e he hb => ?_, fun i o ho j hbit => ?_, fun j i hji his => ?_⟩, hbound, ho, hf, nodupO_spec hlen, fun i => ⟨fun hi => ?_, hcov' i⟩⟩
  · have := Array.all_eq_true_iff_forall_mem.1 (row i o ho).1.1 e he
    simpa [hb] using this
  · have hlt := bit_lt (row i o ho).2 hbit
    have := List.all_eq_true.1 (row i o ho).1.2 j (by simpa using hlt)
    simp only [hbit, Bool.not_true, Bool.false_or] at this
    obtain ⟨e, he, h1⟩ := Array.any_eq_true'.1 this
    simp only [Bool.and_eq_true, Bool.or_eq_true, beq_iff_eq] at h1
    exact ⟨e, he, h1.1, h1.2⟩
  · cases bitB B i j with
    | true => exact .inl rfl
    | false => exact .inr rfl
  · have := List.all_eq_true.1 hin i hi
    simpa using this

/-- What is left of a walk. -/
def Ord (P : Program) (ops : Array Oper) (G : List Nat) (K : Act → World → Prop) (rest : List Nat) (a : Act) (w : World) : Prop := fineO ops rest = true → sLG P ops G K rest a w

theorem fineO_tail : ∀ {c r : List Nat}, fineO ops (c ++ r) = true → fineO ops r = true
  | [], _, h => h
  | j :: c, r, h => by
    simp only [List.cons_append, fineO, Bool.and_eq_true] at h
    exact fineO_tail h.2
theorem fineO_here {j : Nat} {r : List Nat} {oj : Oper} (hj : ops[j]? = some oj) (h : fineO ops (j :: r) = true) (hag : asksGood oj = true) : ∀ i ∈ j :: r, ∀ (oi : Oper), ops[i]? = some oi → ∀ d, oi.dst = some d → d ∉ oj.looksAt ops := by
  intro i hi oi ho d hd
  simp only [fineO, hj, hag, Bool.not_true, Bool.false_or, Bool.and_eq_true] at h
  have := List.all_eq_true.1 h.1 i hi
  simp only [ho, hd] at this
  simpa using this

theorem sLG_of_chunk {G : List Nat} {K : Act → World → Prop} {l : List Oper} {r : List Nat} {Q : Exit → Act → World → Prop} (last : Nat) (w0 : World) (hQ : ∀ a w, Q .normal a w → (last ∈ G → Only [] w0 w) ∧ sLG P ops G K r a w) :
    ∀ (c : List Nat) (lc : List Oper) (a : Act), c.map (fun i => ops[i]?) = lc.map some → c ≠ [] → c.getLast? = some last → (∀ o ∈ lc, o ∈ l) → lc.dropLast.all (keepB P) = true → fineO ops (c ++ r) = true →
    wpList P ops (TextQ Q ops l) lc a w0 → sLG P ops G K (c ++ r) a w0
  | [], _, _, _, h, _, _, _, _, _ => absurd rfl h
  | i :: c, [], _, hm, _, _, _, _, _, _ => by simp at hm
  | i :: c, o :: lc, a, hm, _, hlast, hl, hkeep, hf, h => by
    simp only [List.map_cons, List.cons.injEq] at hm
    obtain ⟨h0, hm⟩ := hm
    have hs := wpList_sOp h0 (hl o (by simp)) (fun j oj hj hag d hd => by
      cases j with
      | zero =>
        simp at hj
        subst hj
        exact fineO_here h0 hf hag i (by simp) o h0 d hd
      | succ j =>
        have hjl : lc[j]? = some oj := by simpa using hj
        have hcm : (c.map (fun i => ops[i]?))[j]? = some (some oj) := by rw [hm, List.getElem?_map, hjl]; rfl
        rw [List.getElem?_map] at hcm
        cases hcj : c[j]? with
        | none => rw [hcj] at hcm; simp at hcm
        | some k =>
          rw [hcj] at hcm
          simp at hcm
          exact fineO_here h0 hf hag k (by simp [List.mem_of_getElem? hcj]) oj hcm d hd) h
    cases c with
    | nil =>
      have hnil : lc = [] := by
        cases lc with
        | nil => rfl
        | cons x y => simp at hm
      subst hnil
      simp at hlast
      subst hlast
      exact sOp_mono (fun a' w' hh => hQ _ _ hh.1) hs
    | cons i2 c =>
      cases lc with
      | nil => simp at hm
      | cons o2 lc =>
        simp only [List.dropLast_cons_cons, List.all_cons, Bool.and_eq_true] at hkeep
        obtain ⟨v, h1, h2⟩ := sOp_keep h0 hkeep.1 hs
        refine h1 _ ⟨fun _ => Only.refl _ _, ?_⟩
        exact sLG_of_chunk last w0 hQ (i2 :: c) (o2 :: lc) (a.put o.dst v) hm (by simp) (by simpa using hlast) (fun x hx => hl x (by simp [hx])) hkeep.2 (by
          simp only [List.cons_append, fineO, Bool.and_eq_true] at hf
          simpa [fineO] using hf.2) h2

/-- The next stretch of the walk: its last operation alone may turn the world. -/
theorem Ord.cut {l : List Oper} {G : List Nat} {K : Act → World → Prop} {rest : List Nat} {a : Act} {w : World} (n : Nat) (last : Nat) {c r : List Nat} {lc : List Oper} (hc : rest.take n = c) (hr : rest.drop n = r) (hlast : c.getLast? = some last)
    (hlc : c.filterMap (fun i => l[i]?) = lc) (hall : c.all (fun i => decide (i < l.length)) = true) (hkeep : lc.dropLast.all (keepB P) = true)
    (h : wpList P l.toArray (TextQ (fun _ a' w' => (last ∈ G → Only [] w w') ∧ Ord P l.toArray G K r a' w') l.toArray lc) lc a w) : Ord P l.toArray G K rest a w := by
  intro hf
  have e : rest = c ++ r := by rw [← hc, ← hr, List.take_append_drop]
  subst e
  have hne : c ≠ [] := by intro h; simp [h] at hlast
  have hm : c.map (fun i => l.toArray[i]?) = lc.map some := by
    rw [← hlc]
    clear hc hr hlast hlc hkeep h hne hf
    induction c with
    | nil => rfl
    | cons i c ih =>
      simp only [List.all_cons, Bool.and_eq_true, decide_eq_true_eq] at hall
      have hi : l[i]? = some l[i] := List.getElem?_eq_getElem hall.1
      rw [List.map_cons, ih hall.2, List.filterMap_cons, hi]
      simp [hi]
  exact sLG_of_chunk last w (fun a' w' hq => ⟨hq.1, hq.2 (fineO_tail hf)⟩) c lc a hm hne hlast (fun o ho => ho) hkeep hf h

theorem Ord.done {G : List Nat} {K : Act → World → Prop} {a : Act} {w : World} (h : K a w) : Ord P ops G K [] a w := fun _ => h

/-- What is left of a walk's order. -/
def leftOf (L M : List Nat) : List Nat := L.filter (fun i => decide (i ∈ M))
theorem left_split {L : List Nat} {i : Nat} (hn : L.Nodup) (hi : i ∈ L) {M M' : List Nat} (h1 : i ∈ M) (h2 : i ∉ M') (hx : ∀ k, k ≠ i → (k ∈ M ↔ k ∈ M')) :
    ∃ pre post, leftOf L M = pre ++ i :: post ∧ leftOf L M' = pre ++ post ∧ (∀ k ∈ pre, k ∈ M') ∧ ∃ A C, L = A ++ i :: C ∧ ∀ k ∈ pre, k ∈ A := by
  obtain ⟨A, C, rfl⟩ := List.append_of_mem hi
  have hA : i ∉ A := fun h => by
    have := (List.nodup_append.1 hn).2.2 i h i (by simp)
    exact this rfl
  have hC : i ∉ C := (List.nodup_cons.1 (List.nodup_append.1 hn).2.1).1
  have same : ∀ (T : List Nat), i ∉ T → T.filter (fun k => decide (k ∈ M)) = T.filter (fun k => decide (k ∈ M')) := fun T hT => List.filter_congr fun k hk => by
    have : k ≠ i := fun e => hT (e ▸ hk)
    simp [hx k this]
  refine ⟨A.filter (fun k => decide (k ∈ M)), C.filter (fun k => decide (k ∈ M)), ?_, ?_, fun k hk => ?_, A, C, rfl, fun k hk => (List.mem_filter.1 hk).1⟩
  · simp [leftOf, h1]
  · simp [leftOf, h2, same A hA, same C hC]
  · rw [same A hA] at hk
    simpa using (List.mem_filter.1 hk).2

/-- A REGION THAT DRAWS ITS ORDER, WALKED IN THE ORDER L. -/
theorem wp_region_ord {id : Nat} {Q : Exit → Act → World → Prop} {a : Act} {w : World} {l : List Oper} (G L : List Nat) (hm : P.follows .mixedOrders = true) (hB : textO P l.toArray G (waitsFor l) L = true)
    (h : Ord P l.toArray G (fun a w => Q .normal a w) L a w.drew) : (Code.region id l.toArray true).wp P Q a w := by
  obtain ⟨ok, hbound, hord, hfine, hnd, hmem⟩ := textO_ok hB
  refine wp_region_any hm ?_
  have hs := h hfine
  have hfull : leftOf L (List.range' 0 l.length) = L := by
    unfold leftOf
    rw [List.filter_eq_self.2]
    intro i hi
    have := (hmem i).1 hi
    simp at this
    simp [List.mem_range'_1, this]
  refine wpAny_text ok (R := fun M a w => M.Pairwise (· < ·) ∧ (∀ i ∈ M, i < l.toArray.size) ∧ sLG P l.toArray G (fun a w => Q .normal a w) (leftOf L M) a w) (fun a w hh => ?_) (fun pre i post a w hc hh => ?_) _ _ (List.range' 0 l.length) a _ (by simp) (fun i => ?_) (List.pairwise_lt_range' ..) (by simp) (fun k o _ hk => ?_) ⟨List.pairwise_lt_range' .., fun i hi => by simpa [List.mem_range'_1] using hi, ?_⟩
  · have h0 : leftOf L [] = [] := by
      unfold leftOf
      rw [List.filter_eq_nil_iff]
      intro i _
      simp
    have := hh.2.2
    rw [h0] at this
    exact this
  · obtain ⟨hp, hin, hh⟩ := hh
    have hndM : (pre ++ i :: post).Nodup := hp.imp (fun h => by omega)
    have his := hin i (by simp)
    have hi2 : i ∉ pre ++ post := by
      obtain ⟨_, n2, n3⟩ := List.nodup_append.1 hndM
      intro hm
      rcases List.mem_append.1 hm with hm | hm
      · exact n3 i hm i (by simp) rfl
      · exact (List.nodup_cons.1 n2).1 hm
    obtain ⟨pre', post', e1, e2, hpre, A, C, eL, hA⟩ := left_split hnd ((hmem i).2 his) (M := pre ++ i :: post) (M' := pre ++ post) (by simp) hi2 (fun k hk => by simp [hk])
    rw [e1] at hh
    have hsub : (pre ++ post).Sublist (pre ++ i :: post) := List.Sublist.append (List.Sublist.refl _) (List.sublist_cons_self _ _)
    refine sOp_mono (fun a' w' hk => ⟨hp.sublist hsub, fun k hk' => hin k (hsub.subset hk'), ?_⟩) (sLG_move ok.sel pre' a w (fun j hj => ?_) hh)
    · rw [e2]
      exact hk.2
    · rw [eL] at hord
      rcases ordB_spec hord j (hA j hj) with hb | hb
      · have hlt := bit_lt (hbound i his) hb
        have hjp : j ∈ pre := by
          rcases List.mem_append.1 (hpre j hj) with h1 | h1
          · exact h1
          · have := List.rel_of_pairwise_cons (List.pairwise_append.1 hp).2.1 h1
            omega
        rw [hc j hjp] at hb
        cases hb
      · exact hb
  · by_cases hi : i < l.length <;> simp [List.mem_range'_1, hi]
  · by_cases hi : k < l.length <;> simp [hi] at hk
  · rw [hfull]
    exact hs
end ord

end Go.Proofs.Ytmogkiacakkmbaa
