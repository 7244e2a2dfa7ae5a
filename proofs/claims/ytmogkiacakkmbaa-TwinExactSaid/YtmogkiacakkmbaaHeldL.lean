/- A region that draws its order, walked in the order of its text, of which the last operation waits for all others: what holds all through need not hold behind it. -/
import Derived.Test.YtmogkiacakkmbaaHeld
namespace Go.Proofs.Ytmogkiacakkmbaa

section heldl
variable {P : Program} {ops : Array Oper} {T : Act → World → Prop} {H : List Nat} {X : List Tmp} {a0 : Act} {S : World → Prop}

/-- What is left, the last operation being L. -/
def sLast (P : Program) (ops : Array Oper) (T : Act → World → Prop) (K : Act → World → Prop) (last : Nat) (L : List Nat) (a : Act) (w : World) : Prop :=
  (L = [] ∧ K a w) ∨ ∃ L', L = L' ++ [last] ∧ last ∉ L' ∧ sLT P ops T (sOp P ops last K) L' a w

theorem sLast_move (hT : Hold P ops T H) (hsel : ∀ (j : Nat) (o : Oper) cs b, ops[j]? = some o → o.op ≠ .select cs b) {K : Act → World → Prop} {last i : Nat} {pre post : List Nat} {a : Act} {w : World}
    (hc : ∀ j ∈ pre, commH P ops H j i = true ∧ i ≠ last) (h : sLast P ops T K last (pre ++ i :: post) a w) : sOp P ops i (sLast P ops T K last (pre ++ post)) a w := by
  rcases h with ⟨h, _⟩ | ⟨L', e, hn, h⟩
  · simp at h
  · by_cases hi : i = last
    · subst hi
      have hp : pre = [] := by
        cases pre with
        | nil => rfl
        | cons j r => exact absurd rfl (hc j (by simp)).2
      subst hp
      cases L' with
      | nil =>
        simp only [List.nil_append, List.cons.injEq, true_and] at e
        subst e
        exact sOp_mono (fun _ _ hk => .inl ⟨rfl, hk⟩) h.2
      | cons j r =>
        simp only [List.nil_append, List.cons_append, List.cons.injEq] at e
        exact absurd (by simp [e.1]) hn
    · obtain ⟨post', rfl⟩ : ∃ post', post = post' ++ [last] := by
        rcases List.eq_nil_or_concat post with rfl | ⟨p', x, rfl⟩
        · have := congrArg List.getLast? e
          simp at this
          exact absurd this hi
        · refine ⟨p', ?_⟩
          have h1 : (pre ++ i :: p') ++ [x] = L' ++ [last] := by simpa using e
          have h2 := (List.append_inj' h1 rfl).2
          rw [List.concat_eq_append, h2]
      have e' : pre ++ i :: post' = L' := by
        have : (pre ++ i :: post') ++ [last] = L' ++ [last] := by simpa using e
        exact List.append_cancel_right this
      subst e'
      refine sOp_mono (fun a' w' hk => .inr ⟨pre ++ post', by simp, fun hm => hn (by simp at hm ⊢; rcases hm with hm | hm; exact .inl hm; exact .inr (.inr hm)), hk⟩) (sLT_move hT hsel pre a w (fun j hj => (hc j hj).1) h)

/-- THE SAME, BUT THAT THE LAST OPERATION MAY TURN WHAT THE LOADS READ. -/
theorem wp_region_held_last {id : Nat} {Q : Exit → Act → World → Prop} {a : Act} {w : World} {l front : List Oper} (H : List Nat) (X : List Tmp) (S : World → Prop) (hm : P.follows .mixedOrders = true) (hB : textH P l.toArray H X (waitsFor l) = true)
    (hL : (List.range (l.length - 1)).all (fun j => bitB (waitsFor l) (l.length - 1) j) = true) (hne : l.isEmpty = false) (hf : l.dropLast = front)
    (hheld : ∀ i ∈ H, ∃ (o : Oper), l[i]? = some o ∧ asksGood o = false ∧ ∀ (b : Act) (w : World) (n : Next) (w1 : World), AgreeX X a b → S w → (execOp b.eval o).run P w = .ok n w1 → ∃ v, n = .value v ∧ w1 = w ∧ ∀ w', S w' → (execOp b.eval o).run P w' = .ok (.value v) w')
    (hS : S w.drew) (h : Held P l.toArray X a S (sOp P l.toArray (l.length - 1) (fun a w => Q .normal a w)) front 0 a w.drew) : (Code.region id l.toArray true).wp P Q a w := by
  obtain ⟨ok, hst, hX⟩ := textH_ok hB
  refine wp_region_any hm ?_
  have hpos : 0 < l.length := by cases l <;> simp at hne ⊢
  have fine : TextFine l.toArray X := ⟨hst, hX⟩
  have hT : Hold P l.toArray (HeldT X a S) H := ⟨fun i o ho b w v => ⟨fun h => ⟨(AgreeX.put fine ho b v).1 h.1, h.2⟩, fun h => ⟨(AgreeX.put fine ho b v).2 h.1, h.2⟩⟩, fun b c w hb h => ⟨h.1.tmps hb, h.2⟩, fun i hi => by
    obtain ⟨o, ho, hg, hr⟩ := hheld i hi
    refine ⟨o, by simpa using ho, hg, fun b w n w1 hb hrun => ?_⟩
    obtain ⟨v, h1, h2, h3⟩ := hr b w n w1 hb.1 hb.2 hrun
    exact ⟨v, h1, h2, fun w' hb' => h3 w' hb'.2⟩⟩
  have hlen : front.length = l.length - 1 := by rw [← hf, List.length_dropLast]
  have hs := h fine (fun j o hj => by
    rw [← hf, List.getElem?_dropLast] at hj
    split at hj
    · simpa using hj
    · simp at hj) (fun _ _ => rfl) hS
  rw [hlen] at hs
  have ok' : TextOk (fun j i => commH P l.toArray H j i = true ∧ i ≠ l.length - 1) l.toArray (waitsFor l) := ⟨ok.sel, ok.back, ok.cert, fun j i hji his => by
    by_cases hi : i = l.length - 1
    · exact .inl (hi ▸ List.all_eq_true.1 hL j (by simp; omega))
    · exact (ok.comm j i hji his).imp (fun h => h) (fun h => ⟨h, hi⟩)⟩
  refine wpAny_text ok' (R := sLast P l.toArray (HeldT X a S) (fun a w => Q .normal a w) (l.length - 1)) (fun _ _ h => ?_) (fun pre i post a w hc h => sLast_move hT ok.sel hc h) _ _ (List.range' 0 l.length) a _ (by simp) (fun i => ?_) (List.pairwise_lt_range' ..) (by simp) (fun k o _ hk => ?_) (.inr ⟨List.range' 0 (l.length - 1), ?_, ?_, hs⟩)
  · rcases h with ⟨_, h⟩ | ⟨L', e, _⟩
    · exact h
    · simp at e
  · by_cases hi : i < l.length <;> simp [List.mem_range'_1, hi]
  · by_cases hi : k < l.length <;> simp [hi] at hk
  · have : l.length = (l.length - 1) + 1 := by omega
    rw [this, List.range'_concat]
    simp
  · simp [List.mem_range'_1]

/-- The last operation. -/
theorem Held.last {K : Act → World → Prop} {k n : Nat} {a : Act} {w : World} {o : Oper} (ho : ops[n]? = some o) (h : wpList P ops (TextQ (fun _ a w => K a w) ops [o]) [o] a w) : Held P ops X a0 S (sOp P ops n K) [] k a w := by
  intro hX _ hA hS
  refine ⟨⟨hA, hS⟩, ?_⟩
  refine sOp_mono (fun a' w' hk => ?_) (wpList_sOp ho (by simp) (fun j oj hj hag d hd => ?_) h)
  · exact hk.1
  · cases j with
    | zero =>
      simp at hj
      subst hj
      exact hX.good n n o o ho ho (Nat.le_refl _) hag d hd
    | succ j => simp at hj
end heldl

end Go.Proofs.Ytmogkiacakkmbaa
