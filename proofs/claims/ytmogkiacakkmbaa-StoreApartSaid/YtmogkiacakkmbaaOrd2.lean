/- A region that draws its order, one of whose operations (q) makes memory and may come anywhere in a chain D of others that do so too: walked in the order C, and from there in each. -/
import Derived.Test.YtmogkiacakkmbaaOrd
namespace Go.Proofs.Ytmogkiacakkmbaa
open Go.RowKit

section ord2
variable {P : Program} {ops : Array Oper}

theorem sLG_app {G : List Nat} {K : Act → World → Prop} {T : List Nat} : ∀ (c : List Nat) (a : Act) (w : World), sLG P ops G (fun a w => sLG P ops G K T a w) c a w → sLG P ops G K (c ++ T) a w
  | [], _, _, h => h
  | _ :: c, _, _, h => sOp_mono (fun _ _ hh => ⟨hh.1, sLG_app c _ _ hh.2⟩) h
theorem sLG_mono {G : List Nat} {K K' : Act → World → Prop} (hk : ∀ a w, K a w → K' a w) : ∀ (c : List Nat) (a : Act) (w : World), sLG P ops G K c a w → sLG P ops G K' c a w
  | [], _, _, h => hk _ _ h
  | _ :: c, _, _, h => sOp_mono (fun _ _ hh => ⟨hh.1, sLG_mono hk c _ _ hh.2⟩) h

def chainB (B : List Nat) : List Nat → Bool
  | [] => true
  | d :: D => D.all (fun i => bitB B i d) && chainB B D
theorem chainB_spec {B : List Nat} {i : Nat} {E : List Nat} : ∀ {A : List Nat}, chainB B (A ++ i :: E) = true → ∀ j ∈ A, bitB B i j = true
  | [], _, j, hj => by simp at hj
  | k :: A, h, j, hj => by
    simp only [List.cons_append, chainB, Bool.and_eq_true] at h
    rcases List.mem_cons.1 hj with rfl | hj
    · exact List.all_eq_true.1 h.1 i (by simp)
    · exact chainB_spec h.2 j hj
/-- The look at the text: q may come anywhere in the chain D; all of T wait for all of both. -/
def textO2 (P : Program) (ops : Array Oper) (G : List Nat) (B : List Nat) (C D : List Nat) (q : Nat) (T : List Nat) : Bool :=
  Region.noSelect ops &&
  (List.range ops.size).all (fun i => match ops[i]? with
    | none => true
    | some o => o.after.all (fun e => !Region.binds .any e || decide (e.on < i)) &&
      (List.range i).all (fun j => !bitB B i j || o.after.any (fun e => Region.binds .any e && (e.on == j || bitB B e.on j))) &&
      decide (B.getD i 0 < 2 ^ i)) &&
  (ordB P ops G B (C ++ (D ++ T)) && ordB P ops G B (C ++ q :: T) && D.all (fun d => ordB P ops G B (C ++ [d])) && nodupO (C ++ q :: (D ++ T)) && (List.range ops.size).all (fun i => (C ++ q :: (D ++ T)).contains i) && (C ++ q :: (D ++ T)).all (fun i => decide (i < ops.size)) && T.all (fun i => (q :: D).all (fun j => bitB B i j)) && chainB B D)

theorem textO2_ok {G B C D T : List Nat} {q : Nat} (h : textO2 P ops G B C D q T = true) : TextOk (fun j i => bitB B i j = false) ops B ∧ (∀ i, i < ops.size → B.getD i 0 < 2 ^ i) ∧ ordB P ops G B (C ++ (D ++ T)) = true ∧ ordB P ops G B (C ++ q :: T) = true ∧ (∀ d ∈ D, ordB P ops G B (C ++ [d]) = true) ∧ (C ++ q :: (D ++ T)).Nodup ∧ (∀ i, i ∈ C ++ q :: (D ++ T) ↔ i < ops.size) ∧ (∀ i ∈ T, ∀ j ∈ q :: D, bitB B i j = true) ∧ chainB B D = true := by
  unfold textO2 at h
  simp only [Bool.and_eq_true] at h
  obtain ⟨⟨hsel, h⟩, ⟨⟨⟨⟨⟨⟨⟨h1, h2⟩, h3⟩, hlen⟩, hcov⟩, hin⟩, hT⟩, hch⟩⟩ := h
  have row : ∀ (i : Nat) (o : Oper), ops[i]? = some o → _ := fun i o ho => by
    have := List.all_eq_true.1 h i (by simpa using (Array.getElem?_eq_some_iff.1 ho).1)
    simp only [ho, Bool.and_eq_true, decide_eq_true_eq] at this
    exact this
  have hcov' : ∀ i, i < ops.size → i ∈ C ++ q :: (D ++ T) := fun i hi => by
    have := List.all_eq_true.1 hcov i (by simpa using hi)
    exact List.contains_iff_mem.1 this
  have hbound : ∀ i, i < ops.size → B.getD i 0 < 2 ^ i := fun i hi => (row i _ (Array.getElem?_eq_getElem hi)).2
  refine ⟨⟨Region.noSelect_spec hsel, fun i o ho e he hb => ?_, fun i o ho j hbit => ?_, fun j i hji his => ?_⟩, hbound, h1, h2, fun d hd => List.all_eq_true.1 h3 d hd, nodupO_spec hlen, fun i => ⟨fun hi => ?_, hcov' i⟩, fun i hi j hj => List.all_eq_true.1 (List.all_eq_true.1 hT i hi) j hj, hch⟩
  · have := Array.all_eq_true_iff_forall_mem.1 (row i o ho).1.1 e he
    simpa [hb] using this
  · have hlt := bit_lt (row i o ho).2 hbit
    have := List.all_eq_true.1 (row i o ho).1.2 j (by simpa using hlt)
    simp only [hbit, Bool.not_true, Bool.false_or] at this
    obtain ⟨e, he, h1⟩ := Array.any_eq_true'.1 this
    simp only [Bool.and_eq_true, Bool.or_eq_true, beq_iff_eq] at h1
    exact ⟨e, he, h1.1, h1.2⟩
  · cases bitB B i j with
    | true => exact .inl rfl
    | false => exact .inr rfl
  · have := List.all_eq_true.1 hin i hi
    simpa using this

/-- The chain from here on, with q at any place. -/
def WT (P : Program) (ops : Array Oper) (G : List Nat) (K : Act → World → Prop) (q : Nat) (T : List Nat) : List Nat → Act → World → Prop
  | [], a, w => sLG P ops G K (q :: T) a w
  | d :: D, a, w => sLG P ops G K (q :: d :: (D ++ T)) a w ∧ sLG P ops G (WT P ops G K q T D) [d] a w
/-- The same, as one walks it. -/
def OT (P : Program) (ops : Array Oper) (G : List Nat) (K : Act → World → Prop) (q : Nat) (T : List Nat) : List Nat → Act → World → Prop
  | [], a, w => Ord P ops G K (q :: T) a w
  | d :: D, a, w => Ord P ops G K (q :: d :: (D ++ T)) a w ∧ Ord P ops G (OT P ops G K q T D) [d] a w
def fineT (ops : Array Oper) (q : Nat) (T : List Nat) : List Nat → Bool
  | [] => fineO ops (q :: T)
  | d :: D => fineO ops (q :: d :: (D ++ T)) && fineO ops [d] && fineT ops q T D
theorem WT_of_OT {G : List Nat} {K : Act → World → Prop} {q : Nat} {T : List Nat} : ∀ (D : List Nat), fineT ops q T D = true → ∀ (a : Act) (w : World), OT P ops G K q T D a w → WT P ops G K q T D a w
  | [], hf, _, _, h => h hf
  | _ :: D, hf, _, _, h => by
    simp only [fineT, Bool.and_eq_true] at hf
    exact ⟨h.1 hf.1.1, sLG_mono (fun _ _ => WT_of_OT D hf.2 _ _) _ _ _ (h.2 hf.1.2)⟩
theorem WT_here {G : List Nat} {K : Act → World → Prop} {q : Nat} {T : List Nat} : ∀ (D : List Nat) (a : Act) (w : World), WT P ops G K q T D a w → sLG P ops G K (q :: (D ++ T)) a w
  | [], _, _, h => h
  | _ :: _, _, _, h => h.1

theorem leftOf_nil (L : List Nat) : leftOf L [] = [] := by
  unfold leftOf
  rw [List.filter_eq_nil_iff]
  intro i _
  simp
theorem leftOf_all {L M : List Nat} (h : ∀ i ∈ L, i ∈ M) : leftOf L M = L := by
  unfold leftOf
  rw [List.filter_eq_self]
  intro i hi
  simp [h i hi]
theorem leftOf_app (A D M : List Nat) : leftOf (A ++ D) M = leftOf A M ++ leftOf D M := by simp [leftOf]
theorem leftOf_skip (L : List Nat) {M M' : List Nat} {i : Nat} (hi : i ∉ L) (hx : ∀ k, k ≠ i → (k ∈ M ↔ k ∈ M')) : leftOf L M = leftOf L M' :=
  List.filter_congr fun k hk => by
    have : k ≠ i := fun e => hi (e ▸ hk)
    simp [hx k this]

/-- One more operation is taken out of a walk. -/
theorem sLG_take (hsel : ∀ (j : Nat) (o : Oper) cs b, ops[j]? = some o → o.op ≠ .select cs b) {G B : List Nat} {K : Act → World → Prop} {L : List Nat} (hnd : L.Nodup) (hord : ordB P ops G B L = true) {pre post : List Nat} {i : Nat} (hiL : i ∈ L) (hp : (pre ++ i :: post).Pairwise (· < ·)) (hb : B.getD i 0 < 2 ^ i)
    (hc : ∀ j ∈ pre, bitB B i j = false) {a : Act} {w : World} (h : sLG P ops G K (leftOf L (pre ++ i :: post)) a w) : sOp P ops i (sLG P ops G K (leftOf L (pre ++ post))) a w := by
  have hndM : (pre ++ i :: post).Nodup := hp.imp (fun h => by omega)
  have hi2 : i ∉ pre ++ post := by
    obtain ⟨_, n2, n3⟩ := List.nodup_append.1 hndM
    intro hm
    rcases List.mem_append.1 hm with hm | hm
    · exact n3 i hm i (by simp) rfl
    · exact (List.nodup_cons.1 n2).1 hm
  obtain ⟨pre', post', e1, e2, hpre, A, C, eL, hA⟩ := left_split hnd hiL (M := pre ++ i :: post) (M' := pre ++ post) (by simp) hi2 (fun k hk => by simp [hk])
  rw [e1] at h
  refine sOp_mono (fun a' w' hk => by rw [e2]; exact hk.2) (sLG_move hsel pre' a w (fun j hj => ?_) h)
  rw [eL] at hord
  rcases ordB_spec hord j (hA j hj) with hb1 | hb1
  · have hlt := bit_lt hb hb1
    have hjp : j ∈ pre := by
      rcases List.mem_append.1 (hpre j hj) with h1 | h1
      · exact h1
      · have := List.rel_of_pairwise_cons (List.pairwise_append.1 hp).2.1 h1
        omega
    rw [hc j hjp] at hb1
    cases hb1
  · exact hb1

theorem ordB_left {G B : List Nat} : ∀ {A D : List Nat}, ordB P ops G B (A ++ D) = true → ordB P ops G B A = true
  | [], _, _ => rfl
  | j :: A, D, h => by
    simp only [List.cons_append, ordB, Bool.and_eq_true, List.all_append] at h ⊢
    exact ⟨h.1.1, ordB_left h.2⟩

/-- A REGION THAT DRAWS ITS ORDER, ONE OF WHOSE OPERATIONS MAKES MEMORY ANYWHERE IN A CHAIN THAT DOES SO. -/
theorem wp_region_ord2 {id : Nat} {Q : Exit → Act → World → Prop} {a : Act} {w : World} {l : List Oper} (G C D : List Nat) (q : Nat) (T : List Nat) (hm : P.follows .mixedOrders = true) (hB : textO2 P l.toArray G (waitsFor l) C D q T = true) (hf : (fineO l.toArray C && fineT l.toArray q T D) = true)
    (h : Ord P l.toArray G (OT P l.toArray G (fun a w => Q .normal a w) q T D) C a w.drew) : (Code.region id l.toArray true).wp P Q a w := by
  obtain ⟨ok, hbound, hord1, hord2, hord3, hnd, hmem, hT, hch⟩ := textO2_ok hB
  simp only [Bool.and_eq_true] at hf
  refine wp_region_any hm ?_
  have hs : sLG P l.toArray G (WT P l.toArray G (fun a w => Q .normal a w) q T D) C a w.drew := sLG_mono (fun a w hh => WT_of_OT D hf.2 a w hh) C _ _ (h hf.1)
  have hsub1 : (C ++ (D ++ T)).Sublist (C ++ q :: (D ++ T)) := List.Sublist.append (List.Sublist.refl _) (List.sublist_cons_self _ _)
  have hn1 := hnd.sublist hsub1
  have hnC : C.Nodup := (List.nodup_append.1 hnd).1
  have hqn : q ∉ D ++ T := (List.nodup_cons.1 (List.nodup_append.1 hnd).2.1).1
  have hqD : q ∉ D := fun h => hqn (by simp [h])
  have hdC : ∀ d ∈ q :: D, d ∉ C := fun d hd hc => (List.nodup_append.1 hnd).2.2 d hc d (by rcases List.mem_cons.1 hd with rfl | h <;> simp [*]) rfl
  have n1 : ∀ d ∈ q :: D, (C ++ [d]).Nodup := fun d hd => List.nodup_append.2 ⟨hnC, by simp, fun x hx y hy e => by simp at hy; subst hy; subst e; exact hdC _ hd hx⟩
  refine wpAny_text ok (R := fun M a w => M.Pairwise (· < ·) ∧ (∀ i ∈ M, i < l.toArray.size) ∧ ((∃ j ∈ q :: D, j ∈ M) → ∀ i ∈ T, i ∈ M) ∧
    (if q ∈ M then sLG P l.toArray G (WT P l.toArray G (fun a w => Q .normal a w) q T (leftOf D M)) (leftOf C M) a w else sLG P l.toArray G (fun a w => Q .normal a w) (leftOf (C ++ (D ++ T)) M) a w)) (fun a w hh => ?_) (fun pre i post a w hc hh => ?_) _ _ (List.range' 0 l.length) a _ (by simp) (fun i => ?_) (List.pairwise_lt_range' ..) (by simp) (fun k o _ hk => ?_) ⟨List.pairwise_lt_range' .., fun i hi => by simpa [List.mem_range'_1] using hi, fun _ i hi => by simpa [List.mem_range'_1] using (hmem i).1 (by simp [hi]), ?_⟩
  · have := hh.2.2.2
    simp only [List.not_mem_nil, if_false, leftOf_nil] at this
    exact this
  · obtain ⟨hp, hin, hTM, hh⟩ := hh
    have his := hin i (by simp)
    have hsub : (pre ++ post).Sublist (pre ++ i :: post) := List.Sublist.append (List.Sublist.refl _) (List.sublist_cons_self _ _)
    have hiM : i ∈ pre ++ i :: post := by simp
    have hi2 : i ∉ pre ++ post := by
      obtain ⟨_, n2, n3⟩ := List.nodup_append.1 (show (pre ++ i :: post).Nodup from hp.imp (fun h => by omega))
      intro hm
      rcases List.mem_append.1 hm with hm | hm
      · exact n3 i hm i (by simp) rfl
      · exact (List.nodup_cons.1 n2).1 hm
    have hx : ∀ k, k ≠ i → (k ∈ pre ++ i :: post ↔ k ∈ pre ++ post) := fun k hk => by simp [hk]
    have tin : ∀ j, j ∈ pre ++ i :: post → bitB (waitsFor l) i j = true → False := fun j hj hb => by
      have hlt := bit_lt (hbound i his) hb
      rcases List.mem_append.1 hj with h1 | h1
      · rw [hc j h1] at hb; cases hb
      · rcases List.mem_cons.1 h1 with h1 | h1
        · omega
        · have := List.rel_of_pairwise_cons (List.pairwise_append.1 hp).2.1 h1
          omega
    have hTM' : (∃ j ∈ q :: D, j ∈ pre ++ post) → ∀ k ∈ T, k ∈ pre ++ post := fun ⟨j, hj, hjm⟩ k hk => by
      have hkM := hTM ⟨j, hj, hsub.subset hjm⟩ k hk
      refine (hx k fun e => ?_).1 hkM
      subst e
      exact tin j (hsub.subset hjm) (hT k hk j hj)
    refine sOp_mono (K := fun a w => if q ∈ pre ++ post then sLG P l.toArray G (WT P l.toArray G (fun a w => Q .normal a w) q T (leftOf D (pre ++ post))) (leftOf C (pre ++ post)) a w else sLG P l.toArray G (fun a w => Q .normal a w) (leftOf (C ++ (D ++ T)) (pre ++ post)) a w) (fun a' w' hk => ⟨hp.sublist hsub, fun k hk' => hin k (hsub.subset hk'), hTM', hk⟩) ?_
    have single : ∀ d, d = i → leftOf [d] (pre ++ post) = [] := fun d e => by
      subst e
      simp only [leftOf, List.filter_cons, List.filter_nil]
      rw [if_neg (by simpa using hi2)]
    by_cases hqM : q ∈ pre ++ i :: post
    · rw [if_pos hqM] at hh
      by_cases iq : i = q
      · subst iq
        simp only [if_neg hi2]
        have hTall := hTM ⟨i, by simp, hiM⟩
        have h1 : sLG P l.toArray G (fun a w => sLG P l.toArray G (fun a w => sLG P l.toArray G (fun a w => Q .normal a w) (leftOf D (pre ++ i :: post) ++ T) a w) [i] a w) (leftOf C (pre ++ i :: post)) a w := sLG_mono (fun a w hh => WT_here _ a w hh) _ _ _ hh
        have h2 : sLG P l.toArray G (fun a w => sLG P l.toArray G (fun a w => Q .normal a w) (leftOf D (pre ++ i :: post) ++ T) a w) (leftOf (C ++ [i]) (pre ++ i :: post)) a w := by
          rw [leftOf_app, leftOf_all (L := [i]) (fun k hk => by simp at hk; rw [hk]; exact hiM)]
          exact sLG_app _ _ _ h1
        have ho1 : ordB P l.toArray G (waitsFor l) (C ++ [i]) = true := by
          have : C ++ i :: T = (C ++ [i]) ++ T := by simp
          rw [this] at hord2
          exact ordB_left hord2
        refine sOp_mono (fun a' w' hk => ?_) (sLG_take ok.sel (n1 i (by simp)) ho1 (by simp) hp (hbound i his) hc h2)
        rw [leftOf_app, single i rfl, List.append_nil] at hk
        have := sLG_app _ _ _ hk
        rw [leftOf_skip D hqD hx] at this
        have hTx : leftOf T (pre ++ post) = T := leftOf_all fun k hk => (hx k fun e => hqn (by rw [← e]; simp [hk])).1 (hTall k hk)
        rw [leftOf_app, leftOf_app, hTx]
        exact this
      · have hqM' : q ∈ pre ++ post := (hx q (fun e => iq e.symm)).1 hqM
        simp only [if_pos hqM']
        by_cases iD : i ∈ D
        · obtain ⟨A, E, eD⟩ := List.append_of_mem iD
          have hA : leftOf A (pre ++ i :: post) = [] := by
            unfold leftOf
            rw [List.filter_eq_nil_iff]
            intro k hk hm
            exact tin k (by simpa using hm) (chainB_spec (by rw [← eD]; exact hch) k hk)
          have hA' : leftOf A (pre ++ post) = [] := by
            unfold leftOf at hA ⊢
            rw [List.filter_eq_nil_iff] at hA ⊢
            intro k hk hm
            exact hA k hk (by simpa using hsub.subset (by simpa using hm))
          have hnD : (A ++ i :: E).Nodup := by
            rw [← eD]
            exact (List.nodup_append.1 ((List.nodup_cons.1 (List.nodup_append.1 hnd).2.1).2)).1
          have hiE : i ∉ E := (List.nodup_cons.1 (List.nodup_append.1 hnD).2.1).1
          have e1 : leftOf D (pre ++ i :: post) = i :: leftOf E (pre ++ post) := by
            rw [eD, leftOf_app, hA, List.nil_append, ← leftOf_skip E hiE hx]
            simp [leftOf]
          have e2 : leftOf D (pre ++ post) = leftOf E (pre ++ post) := by
            rw [eD, leftOf_app, hA', List.nil_append, show i :: E = [i] ++ E from rfl, leftOf_app, single i rfl, List.nil_append]
          rw [e1] at hh
          rw [e2]
          have h2 : sLG P l.toArray G (WT P l.toArray G (fun a w => Q .normal a w) q T (leftOf E (pre ++ post))) (leftOf (C ++ [i]) (pre ++ i :: post)) a w := by
            rw [leftOf_app, leftOf_all (L := [i]) (fun k hk => by simp at hk; rw [hk]; exact hiM)]
            exact sLG_app _ _ _ (sLG_mono (fun a w hh => hh.2) _ _ _ hh)
          refine sOp_mono (fun a' w' hk => ?_) (sLG_take ok.sel (n1 i (by simp [iD])) (hord3 i iD) (by simp) hp (hbound i his) hc h2)
          rw [leftOf_app, single i rfl, List.append_nil] at hk
          exact hk
        · have hiC : i ∈ C := by
            have := (hmem i).2 his
            simp only [List.mem_append, List.mem_cons] at this
            rcases this with h | h | h | h
            · exact h
            · exact absurd h iq
            · exact absurd h iD
            · exact (tin q hqM (hT i h q (by simp))).elim
          rw [← leftOf_skip D iD hx]
          exact sLG_take ok.sel hnC (ordB_left hord1) hiC hp (hbound i his) hc hh
    · rw [if_neg hqM] at hh
      have hqM' : q ∉ pre ++ post := fun h => hqM (hsub.subset h)
      simp only [if_neg hqM']
      have hiL : i ∈ C ++ (D ++ T) := by
        have := (hmem i).2 his
        have iq : i ≠ q := fun e => hqM (e ▸ hiM)
        simp only [List.mem_append, List.mem_cons] at this ⊢
        rcases this with h | h | h | h
        · exact .inl h
        · exact absurd h iq
        · exact .inr (.inl h)
        · exact .inr (.inr h)
      exact sLG_take ok.sel hn1 hord1 hiL hp (hbound i his) hc hh
  · by_cases hi : i < l.length <;> simp [List.mem_range'_1, hi]
  · by_cases hi : k < l.length <;> simp [hi] at hk
  · have hall : ∀ i ∈ C ++ q :: (D ++ T), i ∈ List.range' 0 l.length := fun i hi => by simpa [List.mem_range'_1] using (hmem i).1 hi
    rw [if_pos (hall q (by simp)), leftOf_all (fun i hi => hall i (by simp [hi])), leftOf_all (fun i hi => hall i (by simp [hi]))]
    exact hs
end ord2

end Go.Proofs.Ytmogkiacakkmbaa
