/- A region that draws its order, walked in an order of one's own: loads ahead of operations that change blocks of S alone. -/
import Derived.Test.YtmogkiacakkmbaaOrd
namespace Go.Proofs.Ytmogkiacakkmbaa
open Go.RowKit

section ordh
variable {P : Program} {ops : Array Oper}

/-- A load comes behind an operation that only makes new memory. -/
theorem swap_read_sure {i j : Nat} {oi oj : Oper} (hi : ops[i]? = some oi) (hj : ops[j]? = some oj) (hsi : ∀ cs b, oi.op ≠ .select cs b) (hsj : ∀ cs b, oj.op ≠ .select cs b) (hap : oj.apart ops oi = true) (hrj : readB oj = true) {S : List Nat}
    {K : Act → World → Prop} {a : Act} {w : World} (hK : ∀ a' w', K a' w' → Only S w w') (hSu : ∃ n, ∀ w', Only S w w' → (execOp a.eval oj).run P w' = .ok n w') (h : sOp P ops j (sOp P ops i K) a w) : sOp P ops i (sOp P ops j K) a w := by
  obtain ⟨p1, p2, p3⟩ := Oper.apart_spec hap
  have hag : asksGood oj = false := by
    obtain ⟨dst, op, ty, pos, after, guard⟩ := oj
    cases op <;> simp [readB] at hrj <;> rfl
  have main : ∀ v, sOp P ops i K (a.put oj.dst v) w → (∀ (b : Act) (u : Value) (w' : World), b.tmps = a.tmps → K ((b.put oi.dst u).put oj.dst v) w' → sOp P ops j K (b.put oi.dst u) w') → sOp P ops i (sOp P ops j K) a w := fun v h1 fin => by
    have h2 : sOp P ops i (fun a' w' => K (a'.put oj.dst v) w') a w := sOp_put hi hsi oj.dst v p1 p2 (fun _ _ hh => hh) h1
    refine sOp_mono (fun a' w' hh => ?_) (sOp_ends hi h2)
    obtain ⟨hk, b, u, hb, rfl⟩ := hh
    exact fin b u w' hb hk
  unfold sOp at h
  simp only [hj] at h
  by_cases hw : Region.wanted oj (yielded ops a.tmps) = true
  · simp only [hw, if_true] at h
    have hwp := h.2
    unfold Oper.wp at hwp
    cases hrun : (execOp a.eval oj).run P w with
    | halt x w' => rw [hrun] at hwp; cases x <;> exact hwp.elim
    | ok n w' =>
      obtain ⟨v, rfl, rfl⟩ := read_spec (P := P) (a := a) hrj w n w' hrun
      rw [hrun, Oper.upon_value] at hwp
      refine main v hwp fun b u w2 hb hk => ?_
      obtain ⟨n0, hn0⟩ := hSu
      have hall := hn0 w2 (hK _ _ hk)
      rw [hn0 w' (Only.refl _ _)] at hrun
      injection hrun with e0 _
      subst e0
      unfold sOp
      simp only [hj]
      rw [wanted_put oj b oi.dst u p3, hb, if_pos hw]
      refine ⟨good_of_not hag _, ?_⟩
      unfold Oper.wp
      rw [execOp_put (ops := ops) oj hsj b oi.dst u p3, eval_tmps hb, hall]
      exact hk
  · simp only [hw, if_false, Bool.false_eq_true] at h
    refine main undef h fun b u w2 hb hk => ?_
    unfold sOp
    simp only [hj]
    rw [wanted_put oj b oi.dst u p3, hb, if_neg hw]
    exact hk

/-- A load whose answer stays where blocks of S alone change. -/
def Sure (P : Program) (ops : Array Oper) (S H : List Nat) (j : Nat) (a : Act) (w : World) : Prop :=
  j ∈ H → ∀ (o : Oper), ops[j]? = some o → ∃ (n : Next), ∀ w', Only S w w' → (execOp a.eval o).run P w' = .ok n w'
theorem Sure.put {S H : List Nat} {j : Nat} {o : Oper} (hj : ops[j]? = some o) (hs : ∀ cs b, o.op ≠ .select cs b) {a : Act} {w : World} {d : Option Tmp} {v : Value} (h1 : ∀ d', d = some d' → d' ∉ o.looksAt ops) : Sure P ops S H j (a.put d v) w ↔ Sure P ops S H j a w := by
  have key : (execOp (a.put d v).eval o).run P = (execOp a.eval o).run P := by rw [execOp_put (ops := ops) o hs a d v h1]
  constructor
  · intro h hm o' ho'
    have e : o' = o := by rw [hj] at ho'; exact (Option.some.inj ho').symm
    subst e
    have := h hm o' hj
    rwa [key] at this
  · intro h hm o' ho'
    have e : o' = o := by rw [hj] at ho'; exact (Option.some.inj ho').symm
    subst e
    rw [key]
    exact h hm o' hj
theorem Sure.tmps {S H : List Nat} {j : Nat} {a b : Act} {w : World} (hb : b.tmps = a.tmps) (h : Sure P ops S H j a w) : Sure P ops S H j b w := fun hm o ho => by
  rw [eval_tmps hb]
  exact h hm o ho
theorem Sure.later {S H : List Nat} {j : Nat} {a : Act} {w w' : World} (h : Sure P ops S H j a w) (ho : Only S w w') : Sure P ops S H j a w' := fun hm o hj => by
  obtain ⟨n, hn⟩ := h hm o hj
  exact ⟨n, fun w'' hw => hn w'' (ho.trans hw)⟩
theorem Sure.away {S H : List Nat} {j : Nat} {a : Act} {w : World} (h : j ∉ H) : Sure P ops S H j a w := fun hm => absurd hm h

/-- Operations one behind the other; those of G change blocks of S alone. -/
def sLH (P : Program) (ops : Array Oper) (S G H : List Nat) (K : Act → World → Prop) : List Nat → Act → World → Prop
  | [], a, w => K a w
  | i :: r, a, w => Sure P ops S H i a w ∧ sOp P ops i (fun a' w' => (i ∈ G → Only S w w') ∧ sLH P ops S G H K r a' w') a w

/-- Two operations, the first ahead of the second in the walk: they commute. -/
def commS (P : Program) (ops : Array Oper) (G H : List Nat) (j i : Nat) : Bool :=
  match ops[j]?, ops[i]? with
  | some oj, some oi => oj.apart ops oi && (freeB P oj || freeB P oi || (readB oj && readB oi) || (readB oj && G.contains i && H.contains j)) && (!H.contains i || keepB P oj) && (!H.contains j || keepB P oi || G.contains i)
  | _, _ => false

theorem swap_sure (hsel : ∀ (j : Nat) (o : Oper) cs b, ops[j]? = some o → o.op ≠ .select cs b) {S G H : List Nat} {i j : Nat} (hc : commS P ops G H j i = true) {X : Act → World → Prop} {a : Act} {w : World}
    (h : Sure P ops S H j a w ∧ sOp P ops j (fun a' w' => (j ∈ G → Only S w w') ∧ (Sure P ops S H i a' w' ∧ sOp P ops i (fun a2 w2 => (i ∈ G → Only S w' w2) ∧ X a2 w2) a' w')) a w) :
    Sure P ops S H i a w ∧ sOp P ops i (fun a' w' => (i ∈ G → Only S w w') ∧ (Sure P ops S H j a' w' ∧ sOp P ops j (fun a2 w2 => (j ∈ G → Only S w' w2) ∧ X a2 w2) a' w')) a w := by
  unfold commS at hc
  cases hj : ops[j]? with
  | none => simp [hj] at hc
  | some oj =>
    cases hi : ops[i]? with
    | none => simp [hj, hi] at hc
    | some oi =>
      simp only [hj, hi, Bool.and_eq_true, Bool.or_eq_true, List.contains_iff_mem, Bool.not_eq_true'] at hc
      obtain ⟨⟨⟨hap, hc⟩, hHi⟩, hHj⟩ := hc
      have hsi := fun cs b => hsel i oi cs b hi
      have hsj := fun cs b => hsel j oj cs b hj
      obtain ⟨p1, p2, p3⟩ := Oper.apart_spec hap
      obtain ⟨sj, h⟩ := h
      have si : Sure P ops S H i a w := by
        by_cases hm : i ∈ H
        · have hk : keepB P oj = true := by
            rcases hHi with h1 | h1
            · have : H.contains i = true := by simpa using hm
              rw [this] at h1
              cases h1
            · exact h1
          obtain ⟨v, _, _, s1, _⟩ := sOp_keep hj hk h
          exact (Sure.put hi hsi p1).1 s1
        · exact Sure.away hm
      refine ⟨si, ?_⟩
      replace h : sOp P ops j (fun a' w' => (j ∈ G → Only S w w') ∧ sOp P ops i (fun a2 w2 => (i ∈ G → Only S w' w2) ∧ X a2 w2) a' w') a w := sOp_mono (fun a' w' hh => ⟨hh.1, hh.2.2⟩) h
      have left : keepB P oj = true → (sOp P ops j (sOp P ops i (fun a2 w2 => (i ∈ G → Only S w w2) ∧ X a2 w2)) a w → sOp P ops i (sOp P ops j (fun a2 w2 => (i ∈ G → Only S w w2) ∧ X a2 w2)) a w) →
          sOp P ops i (fun a' w' => (i ∈ G → Only S w w') ∧ sOp P ops j (fun a2 w2 => (j ∈ G → Only S w' w2) ∧ X a2 w2) a' w') a w := fun hk sw => by
        obtain ⟨v, re, _, hI⟩ := sOp_keep hj hk h
        refine sOp_mono (fun a' w' hh => ?_) (sw (re _ hI))
        obtain ⟨v', re', hg, hx⟩ := sOp_keep hj hk hh
        exact ⟨hg, re' _ ⟨fun _ => Only.refl _ _, hx⟩⟩
      have main : sOp P ops i (fun a' w' => (i ∈ G → Only S w w') ∧ sOp P ops j (fun a2 w2 => (j ∈ G → Only S w' w2) ∧ X a2 w2) a' w') a w := by
        rcases hc with ((hf | hf) | ⟨h1, h2⟩) | ⟨⟨h1, hG⟩, hH⟩
        · exact left (by simp [keepB, hf]) fun h2 => swap_free_left hi hj hsi hsj hap hf h2
        · have hk : keepB P oi = true := by simp [keepB, hf]
          have h2 : sOp P ops j (sOp P ops i (fun a2 w2 => (j ∈ G → Only S w w2) ∧ X a2 w2)) a w := sOp_mono (fun a' w' hh => by
            obtain ⟨u, re, _, hx⟩ := sOp_keep hi hk hh.2
            exact re _ ⟨hh.1, hx⟩) h
          obtain ⟨u, re, hx⟩ := sOp_keep hi hk (swap_free_right hi hj hsi hsj hap hf h2)
          exact re _ ⟨fun _ => Only.refl _ _, hx⟩
        · exact left (by simp [keepB, h1]) fun h3 => swap_read hi hj hsi hsj hap h2 h1 h3
        · exact left (by simp [keepB, h1]) fun h3 => swap_read_sure hi hj hsi hsj hap h1 (fun _ _ hk => hk.1 hG) (sj hH oj hj) h3
      by_cases hm : j ∈ H
      · rcases hHj with (h1 | hk) | hG
        · have : H.contains j = true := by simpa using hm
          rw [this] at h1
          cases h1
        · obtain ⟨v, re, h1, h2⟩ := sOp_keep hi hk main
          exact re _ ⟨h1, (Sure.put hj hsj p3).2 sj, h2⟩
        · refine sOp_mono (fun a' w' hh => ?_) (sOp_ends hi main)
          obtain ⟨hk, b, v, hb, rfl⟩ := hh
          exact ⟨hk.1, (Sure.put hj hsj p3).2 ((sj.later (hk.1 hG)).tmps hb), hk.2⟩
      · exact sOp_mono (fun a' w' hh => ⟨hh.1, Sure.away hm, hh.2⟩) main

theorem sLH_move (hsel : ∀ (j : Nat) (o : Oper) cs b, ops[j]? = some o → o.op ≠ .select cs b) {S G H : List Nat} {K : Act → World → Prop} {i : Nat} {post : List Nat} :
    ∀ (pre : List Nat) (a : Act) (w : World), (∀ j ∈ pre, commS P ops G H j i = true) → sLH P ops S G H K (pre ++ i :: post) a w → Sure P ops S H i a w ∧ sOp P ops i (fun a' w' => (i ∈ G → Only S w w') ∧ sLH P ops S G H K (pre ++ post) a' w') a w
  | [], _, _, _, h => h
  | j :: pre, a, w, hc, h => by
    have h1 := swap_sure hsel (hc j (by simp)) (X := sLH P ops S G H K (pre ++ post)) ⟨h.1, sOp_mono (fun a' w' hh => ⟨hh.1, sLH_move hsel pre a' w' (fun k hk => hc k (by simp [hk])) hh.2⟩) h.2⟩
    exact h1

/-- Each pair of the walk's order: bound, or it commutes. -/
def ordS (P : Program) (ops : Array Oper) (G H : List Nat) (B : List Nat) : List Nat → Bool
  | [] => true
  | j :: r => r.all (fun i => bitB B i j || commS P ops G H j i) && ordS P ops G H B r
theorem ordS_spec {G H B : List Nat} {i : Nat} {post : List Nat} : ∀ {pre : List Nat}, ordS P ops G H B (pre ++ i :: post) = true → ∀ j ∈ pre, bitB B i j = true ∨ commS P ops G H j i = true
  | [], _, j, hj => by simp at hj
  | k :: pre, h, j, hj => by
    simp only [List.cons_append, ordS, Bool.and_eq_true] at h
    rcases List.mem_cons.1 hj with rfl | hj
    · have := List.all_eq_true.1 h.1 i (by simp)
      simpa using this
    · exact ordS_spec h.2 j hj

/-- The look at a region's text, for a walk in the order L. -/
def textS (P : Program) (ops : Array Oper) (G H : List Nat) (B : List Nat) (L : List Nat) : Bool :=
  Region.noSelect ops &&
  (List.range ops.size).all (fun i => match ops[i]? with
    | none => true
    | some o => o.after.all (fun e => !Region.binds .any e || decide (e.on < i)) &&
      (List.range i).all (fun j => !bitB B i j || o.after.any (fun e => Region.binds .any e && (e.on == j || bitB B e.on j))) &&
      decide (B.getD i 0 < 2 ^ i)) &&
  (ordS P ops G H B L && fineO ops L && nodupO L && (List.range ops.size).all (fun i => L.contains i) && L.all (fun i => decide (i < ops.size)))

theorem textS_ok {G H B L : List Nat} (h : textS P ops G H B L = true) : TextOk (fun j i => bitB B i j = false) ops B ∧ (∀ i, i < ops.size → B.getD i 0 < 2 ^ i) ∧ ordS P ops G H B L = true ∧ fineO ops L = true ∧ L.Nodup ∧ (∀ i, i ∈ L ↔ i < ops.size) := by
  unfold textS at h
  simp only [Bool.and_eq_true] at h
  obtain ⟨⟨hsel, h⟩, ⟨⟨⟨⟨ho, hf⟩, hlen⟩, hcov⟩, hin⟩⟩ := h
  have row : ∀ (i : Nat) (o : Oper), ops[i]? = some o → _ := fun i o ho => by
    have := List.all_eq_true.1 h i (by simpa using (Array.getElem?_eq_some_iff.1 ho).1)
    simp only [ho, Bool.and_eq_true, decide_eq_true_eq] at this
    exact this
  have hcov' : ∀ i, i < ops.size → i ∈ L := fun i hi => by
    have := List.all_eq_true.1 hcov i (by simpa using hi)
    simpa using this
  have hbound : ∀ i, i < ops.size → B.getD i 0 < 2 ^ i := fun i hi => (row i _ (Array.getElem?_eq_getElem hi)).2
  refine ⟨⟨Region.noSelect_spec hsel, fun i o ho e he hb => ?_, fun i o ho j hbit => ?_, fun j i hji his => ?_⟩, hbound, ho, hf, nodupO_spec hlen, fun i => ⟨fun hi => ?_, hcov' i⟩⟩
  · have := Array.all_eq_true_iff_forall_mem.1 (row i o ho).1.1 e he
    simpa [hb] using this
  · have hlt := bit_lt (row i o ho).2 hbit
    have := List.all_eq_true.1 (row i o ho).1.2 j (by simpa using hlt)
    simp only [hbit, Bool.not_true, Bool.false_or] at this
    obtain ⟨e, he, h1⟩ := Array.any_eq_true'.1 this
    simp only [Bool.and_eq_true, Bool.or_eq_true, beq_iff_eq] at h1
    exact ⟨e, he, h1.1, h1.2⟩
  · cases bitB B i j with
    | true => exact .inl rfl
    | false => exact .inr rfl
  · have := List.all_eq_true.1 hin i hi
    simpa using this

/-- What is left of a walk. -/
def OrdH (P : Program) (ops : Array Oper) (S G H : List Nat) (K : Act → World → Prop) (rest : List Nat) (a : Act) (w : World) : Prop := fineO ops rest = true → sLH P ops S G H K rest a w

theorem sLH_of_chunk {S G H : List Nat} {K : Act → World → Prop} {l : List Oper} {r : List Nat} {Q : Exit → Act → World → Prop} (last : Nat) (w0 : World) (hQ : ∀ a w, Q .normal a w → (last ∈ G → Only S w0 w) ∧ sLH P ops S G H K r a w) :
    ∀ (c : List Nat) (lc : List Oper) (a : Act), c.map (fun i => ops[i]?) = lc.map some → c ≠ [] → c.getLast? = some last → (∀ o ∈ lc, o ∈ l) → lc.dropLast.all (keepB P) = true → fineO ops (c ++ r) = true →
    (∀ i, c.head? = some i → Sure P ops S H i a w0) → (∀ i ∈ c.tail, i ∉ H) → wpList P ops (TextQ Q ops l) lc a w0 → sLH P ops S G H K (c ++ r) a w0
  | [], _, _, _, h, _, _, _, _, _, _, _ => absurd rfl h
  | i :: c, [], _, hm, _, _, _, _, _, _, _, _ => by simp at hm
  | i :: c, o :: lc, a, hm, _, hlast, hl, hkeep, hf, hsu, htl, h => by
    refine ⟨hsu i rfl, ?_⟩
    simp only [List.map_cons, List.cons.injEq] at hm
    obtain ⟨h0, hm⟩ := hm
    have hs := wpList_sOp h0 (hl o (by simp)) (fun j oj hj hag d hd => by
      cases j with
      | zero =>
        simp at hj
        subst hj
        exact fineO_here h0 hf hag i (by simp) o h0 d hd
      | succ j =>
        have hjl : lc[j]? = some oj := by simpa using hj
        have hcm : (c.map (fun i => ops[i]?))[j]? = some (some oj) := by rw [hm, List.getElem?_map, hjl]; rfl
        rw [List.getElem?_map] at hcm
        cases hcj : c[j]? with
        | none => rw [hcj] at hcm; simp at hcm
        | some k =>
          rw [hcj] at hcm
          simp at hcm
          exact fineO_here h0 hf hag k (by simp [List.mem_of_getElem? hcj]) oj hcm d hd) h
    cases c with
    | nil =>
      have hnil : lc = [] := by
        cases lc with
        | nil => rfl
        | cons x y => simp at hm
      subst hnil
      simp at hlast
      subst hlast
      exact sOp_mono (fun a' w' hh => hQ _ _ hh.1) hs
    | cons i2 c =>
      cases lc with
      | nil => simp at hm
      | cons o2 lc =>
        simp only [List.dropLast_cons_cons, List.all_cons, Bool.and_eq_true] at hkeep
        obtain ⟨v, h1, h2⟩ := sOp_keep h0 hkeep.1 hs
        refine h1 _ ⟨fun _ => Only.refl _ _, ?_⟩
        exact sLH_of_chunk last w0 hQ (i2 :: c) (o2 :: lc) (a.put o.dst v) hm (by simp) (by simpa using hlast) (fun x hx => hl x (by simp [hx])) hkeep.2 (by
          simp only [List.cons_append, fineO, Bool.and_eq_true] at hf
          simpa [fineO] using hf.2) (fun k hk => Sure.away (htl k (by simp only [List.head?_cons, Option.some.injEq] at hk; subst hk; simp))) (fun k hk => htl k (by simp only [List.tail_cons] at hk ⊢; exact List.mem_cons_of_mem _ hk)) h2

/-- The next stretch of the walk: its last operation alone may turn the world. -/
theorem OrdH.cut' {l : List Oper} {S G H : List Nat} {K : Act → World → Prop} {rest : List Nat} {a : Act} {w : World} (n : Nat) (last : Nat) {c r : List Nat} {lc : List Oper} (hc : rest.take n = c) (hr : rest.drop n = r) (hlast : c.getLast? = some last)
    (hlc : c.filterMap (fun i => l[i]?) = lc) (hall : c.all (fun i => decide (i < l.length)) = true) (hkeep : lc.dropLast.all (keepB P) = true) (hsu : ∀ i, c.head? = some i → Sure P l.toArray S H i a w) (htl : ∀ i ∈ c.tail, i ∉ H)
    (h : wpList P l.toArray (TextQ (fun _ a' w' => (last ∈ G → Only S w w') ∧ OrdH P l.toArray S G H K r a' w') l.toArray lc) lc a w) : OrdH P l.toArray S G H K rest a w := by
  intro hf
  have e : rest = c ++ r := by rw [← hc, ← hr, List.take_append_drop]
  subst e
  have hne : c ≠ [] := by intro h; simp [h] at hlast
  have hm : c.map (fun i => l.toArray[i]?) = lc.map some := by
    rw [← hlc]
    clear hc hr hlast hlc hkeep h hne hf hsu htl
    induction c with
    | nil => rfl
    | cons i c ih =>
      simp only [List.all_cons, Bool.and_eq_true, decide_eq_true_eq] at hall
      have hi : l[i]? = some l[i] := List.getElem?_eq_getElem hall.1
      rw [List.map_cons, ih hall.2, List.filterMap_cons, hi]
      simp [hi]
  exact sLH_of_chunk last w (fun a' w' hq => ⟨hq.1, hq.2 (fineO_tail hf)⟩) c lc a hm hne hlast (fun o ho => ho) hkeep hf hsu htl h


/-- The same, none of the stretch being in H. -/
theorem OrdH.cut {l : List Oper} {S G H : List Nat} {K : Act → World → Prop} {rest : List Nat} {a : Act} {w : World} (n : Nat) (last : Nat) {c r : List Nat} {lc : List Oper} (hc : rest.take n = c) (hr : rest.drop n = r) (hlast : c.getLast? = some last)
    (hlc : c.filterMap (fun i => l[i]?) = lc) (hall : c.all (fun i => decide (i < l.length)) = true) (hkeep : lc.dropLast.all (keepB P) = true) (hno : c.all (fun i => !H.contains i) = true)
    (h : wpList P l.toArray (TextQ (fun _ a' w' => (last ∈ G → Only S w w') ∧ OrdH P l.toArray S G H K r a' w') l.toArray lc) lc a w) : OrdH P l.toArray S G H K rest a w := by
  have hn : ∀ i ∈ c, i ∉ H := fun i hi => by
    have := List.all_eq_true.1 hno i hi
    simpa using this
  exact OrdH.cut' n last hc hr hlast hlc hall hkeep (fun i hi => Sure.away (hn i (List.mem_of_mem_head? hi))) (fun i hi => hn i (List.mem_of_mem_tail hi)) h

/-- A load of H alone. -/
theorem OrdH.load {l : List Oper} {S G H : List Nat} {K : Act → World → Prop} {rest : List Nat} {a : Act} {w : World} (last : Nat) {c r : List Nat} {lc : List Oper} (hc : rest.take 1 = c) (hr : rest.drop 1 = r) (hlast : c.getLast? = some last)
    (hlc : c.filterMap (fun i => l[i]?) = lc) (hall : c.all (fun i => decide (i < l.length)) = true) (hkeep : lc.dropLast.all (keepB P) = true) (hc1 : c = [last]) (hsu : Sure P l.toArray S H last a w)
    (h : wpList P l.toArray (TextQ (fun _ a' w' => (last ∈ G → Only S w w') ∧ OrdH P l.toArray S G H K r a' w') l.toArray lc) lc a w) : OrdH P l.toArray S G H K rest a w := by
  exact OrdH.cut' 1 last hc hr hlast hlc hall hkeep (fun i hi => by rw [hc1] at hi; simp only [List.head?_cons, Option.some.injEq] at hi; subst hi; exact hsu) (fun i hi => by rw [hc1] at hi; simp at hi) h

theorem OrdH.done {S G H : List Nat} {K : Act → World → Prop} {a : Act} {w : World} (h : K a w) : OrdH P ops S G H K [] a w := fun _ => h

/-- A REGION THAT DRAWS ITS ORDER, WALKED IN THE ORDER L. -/
theorem wp_region_ordH {id : Nat} {Q : Exit → Act → World → Prop} {a : Act} {w : World} {l : List Oper} (S G H L : List Nat) (hm : P.follows .mixedOrders = true) (hB : textS P l.toArray G H (waitsFor l) L = true)
    (h : OrdH P l.toArray S G H (fun a w => Q .normal a w) L a w.drew) : (Code.region id l.toArray true).wp P Q a w := by
  obtain ⟨ok, hbound, hord, hfine, hnd, hmem⟩ := textS_ok hB
  refine wp_region_any hm ?_
  have hs := h hfine
  have hfull : leftOf L (List.range' 0 l.length) = L := by
    unfold leftOf
    rw [List.filter_eq_self.2]
    intro i hi
    have := (hmem i).1 hi
    simp at this
    simp [List.mem_range'_1, this]
  refine wpAny_text ok (R := fun M a w => M.Pairwise (· < ·) ∧ (∀ i ∈ M, i < l.toArray.size) ∧ sLH P l.toArray S G H (fun a w => Q .normal a w) (leftOf L M) a w) (fun a w hh => ?_) (fun pre i post a w hc hh => ?_) _ _ (List.range' 0 l.length) a _ (by simp) (fun i => ?_) (List.pairwise_lt_range' ..) (by simp) (fun k o _ hk => ?_) ⟨List.pairwise_lt_range' .., fun i hi => by simpa [List.mem_range'_1] using hi, ?_⟩
  · have h0 : leftOf L [] = [] := by
      unfold leftOf
      rw [List.filter_eq_nil_iff]
      intro i _
      simp
    have := hh.2.2
    rw [h0] at this
    exact this
  · obtain ⟨hp, hin, hh⟩ := hh
    have hndM : (pre ++ i :: post).Nodup := hp.imp (fun h => by omega)
    have his := hin i (by simp)
    have hi2 : i ∉ pre ++ post := by
      obtain ⟨_, n2, n3⟩ := List.nodup_append.1 hndM
      intro hm
      rcases List.mem_append.1 hm with hm | hm
      · exact n3 i hm i (by simp) rfl
      · exact (List.nodup_cons.1 n2).1 hm
    obtain ⟨pre', post', e1, e2, hpre, A, C, eL, hA⟩ := left_split hnd ((hmem i).2 his) (M := pre ++ i :: post) (M' := pre ++ post) (by simp) hi2 (fun k hk => by simp [hk])
    rw [e1] at hh
    have hsub : (pre ++ post).Sublist (pre ++ i :: post) := List.Sublist.append (List.Sublist.refl _) (List.sublist_cons_self _ _)
    refine sOp_mono (fun a' w' hk => ⟨hp.sublist hsub, fun k hk' => hin k (hsub.subset hk'), ?_⟩) (sLH_move ok.sel pre' a w (fun j hj => ?_) hh).2
    · rw [e2]
      exact hk.2
    · rw [eL] at hord
      rcases ordS_spec hord j (hA j hj) with hb | hb
      · have hlt := bit_lt (hbound i his) hb
        have hjp : j ∈ pre := by
          rcases List.mem_append.1 (hpre j hj) with h1 | h1
          · exact h1
          · have := List.rel_of_pairwise_cons (List.pairwise_append.1 hp).2.1 h1
            omega
        rw [hc j hjp] at hb
        cases hb
      · exact hb
  · by_cases hi : i < l.length <;> simp [List.mem_range'_1, hi]
  · by_cases hi : k < l.length <;> simp [hi] at hk
  · rw [hfull]
    exact hs
end ordh

end Go.Proofs.Ytmogkiacakkmbaa
