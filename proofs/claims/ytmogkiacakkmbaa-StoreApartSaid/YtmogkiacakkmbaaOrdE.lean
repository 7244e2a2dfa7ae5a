/- A region that draws its order: as Ord; and operations of E (calls that read alone) answer alike in every world that has only grown: what makes memory may come ahead of them. -/
import Derived.Test.YtmogkiacakkmbaaOrd
namespace Go.Proofs.Ytmogkiacakkmbaa
open Go.RowKit

section orde
variable {P : Program} {ops : Array Oper}

/-- An operation whose answer is v wherever the world has only grown. -/
def SureE (P : Program) (ops : Array Oper) (j : Nat) (v : Value) (a : Act) (w : World) : Prop :=
  ∀ (o : Oper), ops[j]? = some o → ∀ (b : Act), b.tmps = a.tmps → ∀ w', Only [] w w' → ∀ K : Act → World → Prop, K (b.put o.dst v) w' → sOp P ops j K b w'
/-- One step of the walk. -/
def stepE (P : Program) (ops : Array Oper) (G E : List Nat) (i : Nat) (X : Act → World → Prop) (a : Act) (w : World) : Prop :=
  if i ∈ E then ∃ v, SureE P ops i v a w ∧ ∀ (o : Oper), ops[i]? = some o → X (a.put o.dst v) w else sOp P ops i (fun a' w' => (i ∈ G → Only [] w w') ∧ X a' w') a w
def sLE (P : Program) (ops : Array Oper) (G E : List Nat) (K : Act → World → Prop) : List Nat → Act → World → Prop
  | [], a, w => K a w
  | i :: r, a, w => stepE P ops G E i (sLE P ops G E K r) a w
theorem stepE_mono {G E : List Nat} {i : Nat} {X X' : Act → World → Prop} (h : ∀ a w, X a w → X' a w) {a : Act} {w : World} (hh : stepE P ops G E i X a w) : stepE P ops G E i X' a w := by
  unfold stepE at *
  split
  · rename_i hi
    rw [if_pos hi] at hh
    obtain ⟨v, h1, h2⟩ := hh
    exact ⟨v, h1, fun o ho => h _ _ (h2 o ho)⟩
  · rename_i hi
    rw [if_neg hi] at hh
    exact sOp_mono (fun a w h' => ⟨h'.1, h _ _ h'.2⟩) hh
theorem stepE_sOp {G E : List Nat} {i : Nat} {o : Oper} (ho : ops[i]? = some o) {X : Act → World → Prop} {a : Act} {w : World} (h : stepE P ops G E i X a w) : sOp P ops i (fun a' w' => (i ∈ G → Only [] w w') ∧ X a' w') a w := by
  unfold stepE at h
  split at h
  · obtain ⟨v, h1, h2⟩ := h
    exact h1 o ho a rfl w (Only.refl _ _) _ ⟨fun _ => Only.refl _ _, h2 o ho⟩
  · exact h
theorem SureE.put {j : Nat} {oi oj : Oper} (hj : ops[j]? = some oj) (hsj : ∀ cs b, oj.op ≠ .select cs b) (p2 : ∀ d, oi.dst = some d → oj.dst ≠ some d) (p3 : ∀ d, oi.dst = some d → d ∉ oj.looksAt ops) {v u : Value} {a b : Act} {w w' : World}
    (h : SureE P ops j v a w) (hb : b.tmps = a.tmps) (ho : Only [] w w') : SureE P ops j v (b.put oi.dst u) w' := by
  intro o hoj c hc w2 ho2 K hK
  have e : o = oj := by rw [hj] at hoj; exact (Option.some.inj hoj).symm
  subst e
  obtain ⟨c0, rfl, h0⟩ : ∃ c0 : Act, c = c0.put oi.dst u ∧ c0.tmps = a.tmps := by
    refine ⟨⟨a.tmps, c.defers⟩, ?_, rfl⟩
    obtain ⟨ct, cd⟩ := c
    obtain ⟨bt, bd⟩ := b
    simp only at hb hc
    subst hb
    cases hd : oi.dst with
    | none => rw [hd] at hc; simpa [Act.put] using hc
    | some d => rw [hd] at hc; simpa [Act.put] using hc
  refine sOp_put' hj hsj oi.dst u p3 p2 (K := fun a' w' => K (a'.put oi.dst u) w') (fun _ _ hh => hh) ?_
  refine h o hj c0 h0 w2 (ho.step ho2 (by simp)) _ ?_
  rw [Act.put_comm c0 u v p2] at hK
  exact hK

/-- Two operations, the first ahead of the second in the walk: they commute. -/
def commE (P : Program) (ops : Array Oper) (G E : List Nat) (j i : Nat) : Bool :=
  !E.contains i && (if E.contains j then (match ops[j]?, ops[i]? with
    | some oj, some oi => oj.apart ops oi && (G.contains i || keepB P oi)
    | _, _ => false) else commO P ops G j i)

theorem swap_e (hsel : ∀ (j : Nat) (o : Oper) cs b, ops[j]? = some o → o.op ≠ .select cs b) {G E : List Nat} {i j : Nat} (hc : commE P ops G E j i = true) {X : Act → World → Prop} {a : Act} {w : World}
    (h : stepE P ops G E j (stepE P ops G E i X) a w) : stepE P ops G E i (stepE P ops G E j X) a w := by
  unfold commE at hc
  simp only [Bool.and_eq_true, Bool.not_eq_true', List.contains_eq_mem, decide_eq_false_iff_not, decide_eq_true_eq] at hc
  obtain ⟨hi, hc⟩ := hc
  by_cases hjE : j ∈ E
  · rw [if_pos hjE] at hc
    cases hj : ops[j]? with
    | none => simp [hj] at hc
    | some oj =>
      cases hi2 : ops[i]? with
      | none => simp [hj, hi2] at hc
      | some oi =>
        simp only [hj, hi2, Bool.and_eq_true, Bool.or_eq_true, decide_eq_true_eq] at hc
        obtain ⟨hap, hc⟩ := hc
        have hsi := fun cs b => hsel i oi cs b hi2
        have hsj := fun cs b => hsel j oj cs b hj
        obtain ⟨p1, p2, p3⟩ := Oper.apart_spec hap
        have p2' : ∀ d, oi.dst = some d → oj.dst ≠ some d := fun d hd he => p2 d he hd
        unfold stepE at h ⊢
        rw [if_pos hjE] at h
        rw [if_neg hi]
        obtain ⟨v, hs, h2⟩ := h
        have h3 := h2 oj hj
        rw [if_neg hi] at h3
        have k1 : sOp P ops i (fun a' w' => (i ∈ G → Only [] w w') ∧ X (a'.put oj.dst v) w') a w := sOp_put hi2 hsi oj.dst v p1 p2 (fun _ _ hh => hh) h3
        have k2 := sOp_ends hi2 k1
        have fin : ∀ a' w', Only [] w w' → (((i ∈ G → Only [] w w') ∧ X (a'.put oj.dst v) w') ∧ ∃ (b : Act) (v : Value), b.tmps = a.tmps ∧ a' = b.put oi.dst v) → (i ∈ G → Only [] w w') ∧ stepE P ops G E j X a' w' := fun a' w' ho hh => by
          obtain ⟨⟨hg, hx⟩, b, u, hb, rfl⟩ := hh
          refine ⟨hg, ?_⟩
          unfold stepE
          rw [if_pos hjE]
          exact ⟨v, hs.put hj hsj p2' p3 hb ho, fun o ho' => by rw [hj] at ho'; cases ho'; exact hx⟩
        rcases hc with hG | hk
        · exact sOp_mono (fun a' w' hh => fin a' w' (hh.1.1 hG) hh) k2
        · obtain ⟨u, re, hx⟩ := sOp_keep hi2 hk k2
          exact re _ (fin _ _ (Only.refl _ _) hx)
  · rw [if_neg hjE] at hc
    unfold stepE at h ⊢
    rw [if_neg hjE] at h
    rw [if_neg hi]
    have h1 : sOp P ops j (fun a' w' => (j ∈ G → Only [] w w') ∧ sOp P ops i (fun a2 w2 => (i ∈ G → Only [] w' w2) ∧ X a2 w2) a' w') a w := sOp_mono (fun a' w' hh => ⟨hh.1, by have := hh.2; rw [if_neg hi] at this; exact this⟩) h
    refine sOp_mono (fun a' w' hh => ⟨hh.1, ?_⟩) (swap_ord hsel hc h1)
    rw [if_neg hjE]
    exact hh.2

theorem sLE_move (hsel : ∀ (j : Nat) (o : Oper) cs b, ops[j]? = some o → o.op ≠ .select cs b) {G E : List Nat} {K : Act → World → Prop} {i : Nat} {o : Oper} (_ho : ops[i]? = some o) {post : List Nat} :
    ∀ (pre : List Nat) (a : Act) (w : World), (∀ j ∈ pre, commE P ops G E j i = true) → sLE P ops G E K (pre ++ i :: post) a w → stepE P ops G E i (sLE P ops G E K (pre ++ post)) a w
  | [], _, _, _, h => h
  | j :: pre, a, w, hc, h => by
    have h1 : stepE P ops G E j (stepE P ops G E i (sLE P ops G E K (pre ++ post))) a w := stepE_mono (fun a' w' hh => sLE_move hsel _ho pre a' w' (fun k hk => hc k (by simp [hk])) hh) h
    exact swap_e hsel (hc j (by simp)) h1

/-- Each pair of the walk's order: bound, or it commutes. -/
def ordBE (P : Program) (ops : Array Oper) (G E : List Nat) (B : List Nat) : List Nat → Bool
  | [] => true
  | j :: r => r.all (fun i => bitB B i j || commE P ops G E j i) && ordBE P ops G E B r
theorem ordBE_spec {G E B : List Nat} {i : Nat} {post : List Nat} : ∀ {pre : List Nat}, ordBE P ops G E B (pre ++ i :: post) = true → ∀ j ∈ pre, bitB B i j = true ∨ commE P ops G E j i = true
  | [], _, j, hj => by simp at hj
  | k :: pre, h, j, hj => by
    simp only [List.cons_append, ordBE, Bool.and_eq_true] at h
    rcases List.mem_cons.1 hj with rfl | hj
    · have := List.all_eq_true.1 h.1 i (by simp)
      simpa using this
    · exact ordBE_spec h.2 j hj

/-- The look at a region's text, for a walk in the order L. -/
def textE (P : Program) (ops : Array Oper) (G E : List Nat) (B : List Nat) (L : List Nat) : Bool :=
  Region.noSelect ops &&
  (List.range ops.size).all (fun i => match ops[i]? with
    | none => true
    | some o => o.after.all (fun e => !Region.binds .any e || decide (e.on < i)) &&
      (List.range i).all (fun j => !bitB B i j || o.after.any (fun e => Region.binds .any e && (e.on == j || bitB B e.on j))) &&
      decide (B.getD i 0 < 2 ^ i)) &&
  (ordBE P ops G E B L && fineO ops L && nodupO L && (List.range ops.size).all (fun i => L.contains i) && L.all (fun i => decide (i < ops.size)))


theorem textE_ok {G E B L : List Nat} (h : textE P ops G E B L = true) : TextOk (fun j i => bitB B i j = false) ops B ∧ (∀ i, i < ops.size → B.getD i 0 < 2 ^ i) ∧ ordBE P ops G E B L = true ∧ fineO ops L = true ∧ L.Nodup ∧ (∀ i, i ∈ L ↔ i < ops.size) := by
  unfold textE at h
  simp only [Bool.and_eq_true, decide_eq_true_eq] at h
  obtain ⟨⟨hsel, h⟩, ⟨⟨⟨⟨ho, hf⟩, hlen⟩, hcov⟩, hin⟩⟩ := h
  have row : ∀ (i : Nat) (o : Oper), ops[i]? = some o → _ := fun i o ho => by
    have := List.all_eq_true.1 h i (by simpa using (Array.getElem?_eq_some_iff.1 ho).1)
    simp only [ho, Bool.and_eq_true, decide_eq_true_eq] at this
    exact this
  have hcov' : ∀ i, i < ops.size → i ∈ L := fun i hi => by
    have := List.all_eq_true.1 hcov i (by simpa using hi)
    simpa using this
  have hbound : ∀ i, i < ops.size → B.getD i 0 < 2 ^ i := fun i hi => (row i _ (Array.getElem?_eq_getElem hi)).2
  refine ⟨⟨Region.noSelect_spec hsel, fun i o ho e he hb => ?_, fun i o ho j hbit => ?_, fun j i hji his => ?_⟩, hbound, ho, hf, nodupO_spec hlen, fun i => ⟨fun hi => ?_, hcov' i⟩⟩
  · have := Array.all_eq_true_iff_forall_mem.1 (row i o ho).1.1 e he
    simpa [hb] using this
  · have hlt := bit_lt (row i o ho).2 hbit
    have := List.all_eq_true.1 (row i o ho).1.2 j (by simpa using hlt)
    simp only [hbit, Bool.not_true, Bool.false_or] at this
    obtain ⟨e, he, h1⟩ := Array.any_eq_true'.1 this
    simp only [Bool.and_eq_true, Bool.or_eq_true, beq_iff_eq] at h1
    exact ⟨e, he, h1.1, h1.2⟩
  · cases bitB B i j with
    | true => exact .inl rfl
    | false => exact .inr rfl
  · have := List.all_eq_true.1 hin i hi
    simpa using this


/-- What is left of a walk. -/
def OrdE (P : Program) (ops : Array Oper) (G E : List Nat) (K : Act → World → Prop) (rest : List Nat) (a : Act) (w : World) : Prop := fineO ops rest = true → sLE P ops G E K rest a w

theorem sLE_of_chunk {G E : List Nat} {K : Act → World → Prop} {l : List Oper} {r : List Nat} {Q : Exit → Act → World → Prop} (last : Nat) (w0 : World) (hQ : ∀ a w, Q .normal a w → (last ∈ G → Only [] w0 w) ∧ sLE P ops G E K r a w) :
    ∀ (c : List Nat) (lc : List Oper) (a : Act), c.map (fun i => ops[i]?) = lc.map some → c ≠ [] → c.getLast? = some last → (∀ o ∈ lc, o ∈ l) → (∀ i ∈ c, i ∉ E) → lc.dropLast.all (keepB P) = true → fineO ops (c ++ r) = true →
    wpList P ops (TextQ Q ops l) lc a w0 → sLE P ops G E K (c ++ r) a w0
  | [], _, _, _, h, _, _, _, _, _, _ => absurd rfl h
  | i :: c, [], _, hm, _, _, _, _, _, _, _ => by simp at hm
  | i :: c, o :: lc, a, hm, _, hlast, hl, hE, hkeep, hf, h => by
    simp only [List.map_cons, List.cons.injEq] at hm
    obtain ⟨h0, hm⟩ := hm
    have hs := wpList_sOp h0 (hl o (by simp)) (fun j oj hj hag d hd => by
      cases j with
      | zero =>
        simp at hj
        subst hj
        exact fineO_here h0 hf hag i (by simp) o h0 d hd
      | succ j =>
        have hjl : lc[j]? = some oj := by simpa using hj
        have hcm : (c.map (fun i => ops[i]?))[j]? = some (some oj) := by rw [hm, List.getElem?_map, hjl]; rfl
        rw [List.getElem?_map] at hcm
        cases hcj : c[j]? with
        | none => rw [hcj] at hcm; simp at hcm
        | some k =>
          rw [hcj] at hcm
          simp at hcm
          exact fineO_here h0 hf hag k (by simp [List.mem_of_getElem? hcj]) oj hcm d hd) h
    cases c with
    | nil =>
      have hnil : lc = [] := by
        cases lc with
        | nil => rfl
        | cons x y => simp at hm
      subst hnil
      simp at hlast
      subst hlast
      show stepE P ops G E i _ a w0
      unfold stepE
      rw [if_neg (hE i (by simp))]
      exact sOp_mono (fun a' w' hh => hQ _ _ hh.1) hs
    | cons i2 c =>
      cases lc with
      | nil => simp at hm
      | cons o2 lc =>
        simp only [List.dropLast_cons_cons, List.all_cons, Bool.and_eq_true] at hkeep
        obtain ⟨v, h1, h2⟩ := sOp_keep h0 hkeep.1 hs
        show stepE P ops G E i _ a w0
        unfold stepE
        rw [if_neg (hE i (by simp))]
        refine h1 _ ⟨fun _ => Only.refl _ _, ?_⟩
        exact sLE_of_chunk last w0 hQ (i2 :: c) (o2 :: lc) (a.put o.dst v) hm (by simp) (by simpa using hlast) (fun x hx => hl x (by simp [hx])) (fun x hx => hE x (by simp [hx])) hkeep.2 (by
          simp only [List.cons_append, fineO, Bool.and_eq_true] at hf
          simpa [fineO] using hf.2) h2


/-- The next stretch of the walk: its last operation alone may turn the world. -/
theorem OrdE.cut {l : List Oper} {G E : List Nat} {K : Act → World → Prop} {rest : List Nat} {a : Act} {w : World} (n : Nat) (last : Nat) {c r : List Nat} {lc : List Oper} (hc : rest.take n = c) (hr : rest.drop n = r) (hlast : c.getLast? = some last)
    (hlc : c.filterMap (fun i => l[i]?) = lc) (hall : c.all (fun i => decide (i < l.length)) = true) (hkeep : lc.dropLast.all (keepB P) = true) (hE : c.all (fun i => !E.contains i) = true)
    (h : wpList P l.toArray (TextQ (fun _ a' w' => (last ∈ G → Only [] w w') ∧ OrdE P l.toArray G E K r a' w') l.toArray lc) lc a w) : OrdE P l.toArray G E K rest a w := by
  intro hf
  have e : rest = c ++ r := by rw [← hc, ← hr, List.take_append_drop]
  subst e
  have hne : c ≠ [] := by intro h; simp [h] at hlast
  have hm : c.map (fun i => l.toArray[i]?) = lc.map some := by
    rw [← hlc]
    clear hc hr hlast hlc hkeep hE h hne hf
    induction c with
    | nil => rfl
    | cons i c ih =>
      simp only [List.all_cons, Bool.and_eq_true, decide_eq_true_eq] at hall
      have hi : l[i]? = some l[i] := List.getElem?_eq_getElem hall.1
      rw [List.map_cons, ih hall.2, List.filterMap_cons, hi]
      simp [hi]
  exact sLE_of_chunk last w (fun a' w' hq => ⟨hq.1, hq.2 (fineO_tail hf)⟩) c lc a hm hne hlast (fun o ho => ho) (fun i hi => by have := List.all_eq_true.1 hE i hi; simpa using this) hkeep hf h


theorem OrdE.done {G E : List Nat} {K : Act → World → Prop} {a : Act} {w : World} (h : K a w) : OrdE P ops G E K [] a w := fun _ => h
/-- A call that reads alone. -/
theorem OrdE.ecall {l : List Oper} {G E : List Nat} {K : Act → World → Prop} {rest : List Nat} {a : Act} {w : World} (j : Nat) {r : List Nat} (hr : rest = j :: r) (hE : E.contains j = true) {o : Oper} (hj : l[j]? = some o) (v : Value)
    (hs : ∀ df w', Only [] w w' → ∀ K : Act → World → Prop, K ((Act.mk a.tmps df).put o.dst v) w' → wpList P l.toArray (TextQ (fun _ a w => K a w) l.toArray [o]) [o] (Act.mk a.tmps df) w') (h : OrdE P l.toArray G E K r (a.put o.dst v) w) : OrdE P l.toArray G E K rest a w := by
  subst hr
  intro hf
  have hj' : l.toArray[j]? = some o := by simpa using hj
  have hE' : j ∈ E := by simpa using hE
  show stepE P l.toArray G E j _ a w
  unfold stepE
  rw [if_pos hE']
  refine ⟨v, fun o' ho' b hb w' ho K' hK' => ?_, fun o' ho' => ?_⟩
  · rw [hj'] at ho'
    cases ho'
    obtain ⟨bt, bd⟩ := b
    simp only at hb
    subst hb
    have h1 := wpList_sOp (Q := fun _ a w => K' a w) (l := [o]) hj' (by simp) (fun k oj hk hag d hd => by
      cases k with
      | zero =>
        simp at hk
        subst hk
        exact fineO_here hj' hf hag j (by simp) o hj' d hd
      | succ k => simp at hk) (hs bd w' ho K' hK')
    exact sOp_mono (fun a' w' hh => hh.1) h1
  · rw [hj'] at ho'
    cases ho'
    exact h (by
      simp only [fineO, Bool.and_eq_true] at hf
      exact hf.2)

/-- A REGION THAT DRAWS ITS ORDER, WALKED IN THE ORDER L. -/
theorem wp_region_ordE {id : Nat} {Q : Exit → Act → World → Prop} {a : Act} {w : World} {l : List Oper} (G E L : List Nat) (hm : P.follows .mixedOrders = true) (hB : textE P l.toArray G E (waitsFor l) L = true)
    (h : OrdE P l.toArray G E (fun a w => Q .normal a w) L a w.drew) : (Code.region id l.toArray true).wp P Q a w := by
  obtain ⟨ok, hbound, hord, hfine, hnd, hmem⟩ := textE_ok hB
  refine wp_region_any hm ?_
  have hs := h hfine
  have hfull : leftOf L (List.range' 0 l.length) = L := by
    unfold leftOf
    rw [List.filter_eq_self.2]
    intro i hi
    have := (hmem i).1 hi
    simp at this
    simp [List.mem_range'_1, this]
  refine wpAny_text ok (R := fun M a w => M.Pairwise (· < ·) ∧ (∀ i ∈ M, i < l.toArray.size) ∧ sLE P l.toArray G E (fun a w => Q .normal a w) (leftOf L M) a w) (fun a w hh => ?_) (fun pre i post a w hc hh => ?_) _ _ (List.range' 0 l.length) a _ (by simp) (fun i => ?_) (List.pairwise_lt_range' ..) (by simp) (fun k o _ hk => ?_) ⟨List.pairwise_lt_range' .., fun i hi => by simpa [List.mem_range'_1] using hi, ?_⟩
  · have h0 : leftOf L [] = [] := by
      unfold leftOf
      rw [List.filter_eq_nil_iff]
      intro i _
      simp
    have := hh.2.2
    rw [h0] at this
    exact this
  · obtain ⟨hp, hin, hh⟩ := hh
    have hndM : (pre ++ i :: post).Nodup := hp.imp (fun h => by omega)
    have his := hin i (by simp)
    have hi2 : i ∉ pre ++ post := by
      obtain ⟨_, n2, n3⟩ := List.nodup_append.1 hndM
      intro hm
      rcases List.mem_append.1 hm with hm | hm
      · exact n3 i hm i (by simp) rfl
      · exact (List.nodup_cons.1 n2).1 hm
    obtain ⟨pre', post', e1, e2, hpre, A, C, eL, hA⟩ := left_split hnd ((hmem i).2 his) (M := pre ++ i :: post) (M' := pre ++ post) (by simp) hi2 (fun k hk => by simp [hk])
    rw [e1] at hh
    have hsub : (pre ++ post).Sublist (pre ++ i :: post) := List.Sublist.append (List.Sublist.refl _) (List.sublist_cons_self _ _)
    refine sOp_mono (fun a' w' hk => ⟨hp.sublist hsub, fun k hk' => hin k (hsub.subset hk'), ?_⟩) (stepE_sOp (Array.getElem?_eq_getElem his) (sLE_move ok.sel (Array.getElem?_eq_getElem his) pre' a w (fun j hj => ?_) hh))
    · rw [e2]
      exact hk.2
    · rw [eL] at hord
      rcases ordBE_spec hord j (hA j hj) with hb | hb
      · have hlt := bit_lt (hbound i his) hb
        have hjp : j ∈ pre := by
          rcases List.mem_append.1 (hpre j hj) with h1 | h1
          · exact h1
          · have := List.rel_of_pairwise_cons (List.pairwise_append.1 hp).2.1 h1
            omega
        rw [hc j hjp] at hb
        cases hb
      · exact hb
  · by_cases hi : i < l.length <;> simp [List.mem_range'_1, hi]
  · by_cases hi : k < l.length <;> simp [hi] at hk
  · rw [hfull]
    exact hs

end orde

end Go.Proofs.Ytmogkiacakkmbaa
