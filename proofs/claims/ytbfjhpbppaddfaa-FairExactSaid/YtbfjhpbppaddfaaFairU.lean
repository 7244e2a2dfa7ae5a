/- FairExact, walked: the program's picks are the document's. -/
import Derived.Test.YtbfjhpbppaddfaaFairT
import Derived.Test.YtbfjhpbppaddfaaFairE
namespace Go.Proofs.Ytbfjhpbppaddfaa
open Go.RowKit

/-- Picks, as a slice of them can be read: each one's id, and those who are served. -/
def Acts (w : World) (v : Value) (A : List (Int × List Int)) : Prop :=
  ((∃ a c, v = .slice a 0 c) ∧ A = []) ∨ ∃ bk o c, v = .slice (some ⟨bk, o, none⟩) A.length c ∧ bk < w.heap.size ∧ ∀ (j : Nat) p, A[j]? = some p → wfi p.1 ∧ (∀ x ∈ p.2, wfi x) ∧ w.cell? ⟨bk, o + j * 2, none⟩ = some (.int .i64 p.1) ∧ ∃ vs, w.cell? ⟨bk, o + j * 2 + 1, none⟩ = some vs ∧ Ints w vs p.2

theorem actInfo : (Try.prog.info? 32).map (·.size) = some 2 := by kernel_rfl

set_option maxRecDepth 100000 in
set_option maxHeartbeats 4000000 in
theorem fairExact_no (k : Int) (v : Value) (w : World) (h : k < 1 ∨ 1000 < k) : Calls Try.prog 3 #[.int .i64 k, v] w fun e w' => e = .returned (.bool true) ∧ Only [] w w' := by
  have AW : Hid (∀ w, Calls Try.prog 7 #[] w fun e w' => e = .returned (.bool true) ∧ Only [] w w') := awake38_any
  have NW : Hid (∀ w, Calls Try.prog 8 #[.int .i64 k] w fun e w' => e = .returned (.pointer none) ∧ w = w') := fun w => fairNew_no k h w
  by_cases h1 : k < 1
  · clear h
    go_enter Try.func3, Try.ntmps3
    go_wp2_with (go_at_call 7; refine (AW.out _).mono ?_)
    intro e w1 hx
    first | (subst hx; intro ho1) | (obtain ⟨rfl, ho1⟩ := hx)
    go_wp2_with (go_at_call 8; refine (NW.out _).mono ?_; rintro e w2 ⟨rfl, rfl⟩)
    go_ret
    exact ⟨rfl, ho1⟩
  · have h2 : 1000 < k := by omega
    clear h
    go_enter Try.func3, Try.ntmps3
    go_wp2_with (go_at_call 7; refine (AW.out _).mono ?_)
    intro e w1 hx
    first | (subst hx; intro ho1) | (obtain ⟨rfl, ho1⟩ := hx)
    go_wp2_with (go_at_call 8; refine (NW.out _).mono ?_; rintro e w2 ⟨rfl, rfl⟩)
    go_ret
    exact ⟨rfl, ho1⟩

set_option maxRecDepth 100000 in
set_option maxHeartbeats 2000000 in
theorem see_nil (id : Int) (vs : Value) (w : World) : Calls Try.prog 9 #[.pointer none, .int .i64 id, vs] w fun e w' => e = .returned (.bool false) ∧ Only [] w w' := by
  go_enter Try.func9, Try.ntmps9
  go_wp2
  go_ret
  exact ⟨rfl, Only.refl _ _⟩
set_option maxRecDepth 100000 in
set_option maxHeartbeats 2000000 in
theorem due_nil (vs : Value) (w : World) : Calls Try.prog 11 #[.pointer none, vs] w fun e w' => e = .returned (.int .i64 (-1)) ∧ Only [] w w' := by
  have hB := Blk.new w [.pointer none] 24
  have c0 := hB.cell (i := 0) rfl
  go_enter Try.func11, Try.ntmps11
  go_wp2
  go_ret
  exact ⟨rfl, (Only.refl [] w).alloc _⟩

/-- How both watches stand, and what is picked: the program's by M, the document's by L. -/
structure Fair (w w' : World) (k : Int) (a a2 X b n : Nat) (id : Int) (vs : Value) (xs : List Int) (M L : List (Int × Int)) (V : Value) : Prop where
  ha : Blk w' a [.int .i64 k, .map (some b)] 67
  hm : WMap w' b n (lookL M)
  hR : Blk w' a2 [.int .i64 k, V] 29
  hV : Waits w' V L
  sep : ∀ g n c, V = .slice (some g) n c → g.block ≠ a
  hvs : Ints w vs xs
  x0 : w'.cell? ⟨X, 0, none⟩ = some (.int .i64 id)
  x1 : w'.cell? ⟨X, 1, none⟩ = some vs
  hX : X < w'.heap.size
  hor : Only [] w w'
  na : X ≠ a
  na2 : X ≠ a2
  aa : a ≠ a2
  bb : b ≠ a2
  wa : w.heap.size ≤ a
  wa2 : w.heap.size ≤ a2
theorem Fair.keep {w w' w'' : World} {k : Int} {a a2 X b n : Nat} {id : Int} {vs : Value} {xs : List Int} {M L : List (Int × Int)} {V : Value} (h : Fair w w' k a a2 X b n id vs xs M L V) (ho : Only [] w' w'') : Fair w w'' k a a2 X b n id vs xs M L V :=
  ⟨h.ha.keep ho, h.hm.keep ho, h.hR.keep ho, h.hV.keep ho, h.sep, h.hvs, by rw [ho.cellAt X 0 h.hX (by simp)]; exact h.x0, by rw [ho.cellAt X 1 h.hX (by simp)]; exact h.x1, Nat.lt_of_lt_of_le h.hX ho.size, h.hor.trans ho, h.na, h.na2, h.aa, h.bb, h.wa, h.wa2⟩
theorem fair_see {w w' : World} {k : Int} {a a2 X b n : Nat} {id : Int} {vs : Value} {xs : List Int} {M L : List (Int × Int)} {V : Value} (h : Fair w w' k a a2 X b n id vs xs M L V) (hf : ∀ x, 0 ≤ lookL M x ∧ lookL M x ≤ 1000) (hx : ∀ x ∈ xs, wfi x) (hl : xs.length ≤ 12) :
    Calls Try.prog 9 #[.pointer (some ⟨a, 0, none⟩), .int .i64 id, vs] w' fun e w'' => e = .returned (.bool (okAll (lookL M) id k xs)) ∧ ∃ b', Fair w w'' k a a2 X b' xs.length id vs xs (refTo M id xs xs.length) L V := by
  refine (see_any a b n k id (lookL M) xs vs w' h.ha h.hm (h.hvs.keep h.hor) (fun x => by have := hf x; omega) hx (by omega)).mono ?_
  rintro e w'' ⟨rfl, ha, hm, ho⟩
  have hR := h.hR.lt
  refine ⟨rfl, _, ha, hm.congr (Nat.le_refl _) (fun y => ?_), h.hR.only ho (by have := h.aa; simp; omega), h.hV.only ho (fun g n c e => by have := h.sep g n c e; simpa using this), h.sep, h.hvs, ?_, ?_, Nat.lt_of_lt_of_le h.hX ho.size, h.hor.step ho (fun i hi => .inr (by have := h.wa; simp at hi; omega)), h.na, h.na2, h.aa, by omega, h.wa, h.wa2⟩
  · rw [refTo_look M id xs xs.length (Nat.le_refl _), List.take_length]
  · rw [ho.cellAt X 0 h.hX (by have := h.na; simpa using this)]; exact h.x0
  · rw [ho.cellAt X 1 h.hX (by have := h.na; simpa using this)]; exact h.x1
theorem fair_rsee {w w' : World} {k : Int} {a a2 X b n : Nat} {id : Int} {vs : Value} {xs : List Int} {M L : List (Int × Int)} {V : Value} (h : Fair w w' k a a2 X b n id vs xs M L V) (hf : ∀ x, 0 ≤ lookL L x ∧ lookL L x ≤ 1000) (hL : L.length ≤ 12) (hl : xs.length ≤ 12) :
    Calls Try.prog 10 #[.pointer (some ⟨a2, 0, none⟩), .int .i64 id, vs] w' fun e w'' => e = .returned (.bool (okAll (lookL L) id k xs)) ∧ ∃ V', Fair w w'' k a a2 X b n id vs xs M (refTo L id xs xs.length) V' := by
  refine (refSee38_any a2 k id V L xs vs w' h.hR h.hV (h.hvs.keep h.hor) (by omega) (fun x => by have := hf x; omega) (by omega)).mono ?_
  rintro e w'' ⟨rfl, ⟨V', hR, hV, hs⟩, ho⟩
  have hla := h.ha.lt
  refine ⟨rfl, V', h.ha.only ho (by have := h.aa; simpa using this), h.hm.only ho (by have := h.bb; simpa using this), hR, hV, fun g n c e => by have := hs g n c e; omega, h.hvs, ?_, ?_, Nat.lt_of_lt_of_le h.hX ho.size, h.hor.step ho (fun i hi => .inr (by have := h.wa2; simp at hi; omega)), h.na, h.na2, h.aa, h.bb, h.wa, h.wa2⟩
  · rw [ho.cellAt X 0 h.hX (by have := h.na2; simpa using this)]; exact h.x0
  · rw [ho.cellAt X 1 h.hX (by have := h.na2; simpa using this)]; exact h.x1
theorem fair_due {w w' : World} {k : Int} {a a2 X b n : Nat} {id : Int} {vs : Value} {xs : List Int} {M L : List (Int × Int)} {V : Value} (h : Fair w w' k a a2 X b n id vs xs M L V) (hf : ∀ x, 0 ≤ lookL M x ∧ lookL M x ≤ 1001) (hx : ∀ x ∈ xs, wfi x) (hk : 1 ≤ k ∧ k ≤ 1000) (hl : xs.length ≤ 12) :
    Calls Try.prog 11 #[.pointer (some ⟨a, 0, none⟩), vs] w' fun e w'' => e = .returned (.int .i64 (dueOf (lookL M) k xs)) ∧ Fair w w'' k a a2 X b n id vs xs M L V := by
  refine (due_any a b n k (lookL M) xs vs w' h.ha h.hm (h.hvs.keep h.hor) (fun x => by have := hf x; omega) hx hk (by omega)).mono ?_
  rintro e w'' ⟨rfl, ho⟩
  exact ⟨rfl, h.keep ho⟩
theorem fair_rdue {w w' : World} {k : Int} {a a2 X b n : Nat} {id : Int} {vs : Value} {xs : List Int} {M L : List (Int × Int)} {V : Value} (h : Fair w w' k a a2 X b n id vs xs M L V) (hL : L.length ≤ 12) (hk : 1 ≤ k ∧ k ≤ 1000) (hl : xs.length ≤ 12) :
    Calls Try.prog 12 #[.pointer (some ⟨a2, 0, none⟩), vs] w' fun e w'' => e = .returned (.int .i64 (dueOf (lookL L) k xs)) ∧ Fair w w'' k a a2 X b n id vs xs M L V := by
  refine (refDue38_any a2 k V L xs vs w' h.hR h.hV (h.hvs.keep h.hor) (by omega) hk (by omega)).mono ?_
  rintro e w'' ⟨rfl, ho⟩
  exact ⟨rfl, h.keep ho⟩

set_option maxRecDepth 100000 in
set_option maxHeartbeats 16000000 in
theorem fairExact_yes (k : Int) (v : Value) (A : List (Int × List Int)) (w : World) (hA : Acts w v A) (h1 : 1 ≤ k) (h2 : k ≤ 1000) : Calls Try.prog 3 #[.int .i64 k, v] w fun e w' => e = .returned (.bool true) ∧ Only [] w w' := by
  have AW : Hid (∀ w, Calls Try.prog 7 #[] w fun e w' => e = .returned (.bool true) ∧ Only [] w w') := awake38_any
  have NW : Hid (∀ w, Calls Try.prog 8 #[.int .i64 k] w fun e w' => e = .returned (.pointer (some ⟨w.heap.size + 1, 0, none⟩)) ∧ Blk w' (w.heap.size + 1) [.int .i64 k, .map (some w.heap.size)] 67 ∧ WMap w' w.heap.size 0 (fun _ => 0) ∧ Only [] w w') := fun w => fairNew_yes k h1 h2 w
  have HA := Lib.hid hA
  have SN := Lib.hid see_nil
  have DN := Lib.hid due_nil
  obtain ⟨ad, cap, rfl⟩ : ∃ ad cap, v = .slice ad A.length cap := by
    rcases hA with ⟨⟨a, c, rfl⟩, rfl⟩ | ⟨bk, o, c, rfl, _⟩
    · exact ⟨a, c, rfl⟩
    · exact ⟨_, _, rfl⟩
  have g1 : ¬ k < 1 := by omega
  have g2 : ¬ 1000 < k := by omega
  clear hA
  go_enter Try.func3, Try.ntmps3
  go_wp2_with (go_at_call 7; refine (AW.out _).mono ?_)
  intro e w1 hx
  first | (subst hx; intro ho1) | (obtain ⟨rfl, ho1⟩ := hx)
  go_wp2_with (go_at_call 8; refine (NW.out _).mono ?_)
  rintro e w2 ⟨rfl, ha2, hm2, ho2⟩
  have s1 := ho1.size
  obtain ⟨a, ea⟩ : ∃ a, a = w1.heap.size + 1 := ⟨_, rfl⟩
  have hwa : w.heap.size ≤ a := by omega
  rw [← ea] at ha2 ⊢
  have haw2 := ha2.lt
  have hm2' : WMap w2 w1.heap.size 0 (lookL []) := hm2.congr (Nat.le_refl _) (fun _ => rfl)
  have ho12 := ho1.trans ho2
  clear ea ho1 ho2 hm2 AW NW
  generalize w1.heap.size = b0 at *
  go_wp2_with fail
  have hR0 := Blk.new w2 [.int .i64 k, .slice none 0 0] 29
  have hoW : Only [] w2 (w2.alloc (.cells #[.int .i64 k, .slice none 0 0] 29)) := (Only.refl [] w2).alloc _
  have ha0 := ha2.keep hoW
  have hm0 := hm2'.keep hoW
  have hoo := ho12.trans hoW
  have hV0 : Waits (w2.alloc (.cells #[.int .i64 k, .slice none 0 0] 29)) (.slice none 0 0) [] := .inl ⟨⟨none, 0, rfl⟩, rfl⟩
  have hbw := hm2'.lt
  obtain ⟨a2, ea2⟩ : ∃ a2, a2 = w2.heap.size := ⟨_, rfl⟩
  rw [← ea2] at hR0 haw2 hbw ⊢
  have hwa2 : w.heap.size ≤ a2 := by omega
  clear ha2 hm2' ho12 hoW ea2
  generalize (w2.alloc (.cells #[.int .i64 k, .slice none 0 0] 29)) = W0 at *
  go_loopw [7] (fun i wr => ∃ (m : Nat) (b n : Nat) (L : List (Int × Int)) (V : Value), m ≤ A.length ∧ m ≤ 60 ∧ i = .int .i64 (m : Int) ∧ Blk wr a [.int .i64 k, .map (some b)] 67 ∧ WMap wr b n (lookL L) ∧ Blk wr a2 [.int .i64 k, V] 29 ∧ Waits wr V L ∧ (∀ g n c, V = .slice (some g) n c → g.block ≠ a) ∧ (∀ x, 0 ≤ lookL L x ∧ lookL L x ≤ (m : Int)) ∧ L.length ≤ 12 ∧ b ≠ a2 ∧ Only [] w wr) (fun i _ => A.length - (intOf i).toNat)
  case atStart => exact ⟨0, b0, 0, [], .slice none 0 0, by omega, by omega, rfl, ha0, hm0, hR0, hV0, fun g n c e => by (injection e with e; cases e), fun x => by simp [lookL], by simp, by omega, hoo⟩
  case round =>
    obtain ⟨m, b, n, L, V, hm, hm60, rfl, ha, hmp, hR, hV, hsep, hb, hl12, hba2, hor⟩ := hrel
    by_cases hlt : m < A.length
    · by_cases h60 : m < 60
      · have m64 : (m : Int) < A.length := by omega
        have m60 : (m : Int) < 60 := by omega
        obtain ⟨bk, o, e0, hbk, wid, wxs, hc0, vs, hc1, hvs⟩ : ∃ bk o, ad = some ⟨bk, o, none⟩ ∧ bk < w.heap.size ∧ wfi A[m].1 ∧ (∀ x ∈ A[m].2, wfi x) ∧ wr.cell? ⟨bk, o + m * 2, none⟩ = some (.int .i64 A[m].1) ∧ ∃ vs, wr.cell? ⟨bk, o + m * 2 + 1, none⟩ = some vs ∧ Ints w vs A[m].2 := by
          rcases HA.out with ⟨_, h0⟩ | ⟨bk, o, c, hv, h1, h2⟩
          · subst h0; simp at hlt
          · injection hv with e1 e2 e3
            obtain ⟨q1, q2, q3, vs, q4, q5⟩ := h2 m _ (List.getElem?_eq_getElem hlt)
            exact ⟨bk, o, e1, h1, q1, q2, by rw [hor.cellAt _ _ h1 (by simp)]; exact q3, vs, by rw [hor.cellAt _ _ h1 (by simp)]; exact q4, q5⟩
        subst e0
        obtain ⟨id, eid⟩ : ∃ id, id = A[m].1 := ⟨_, rfl⟩
        obtain ⟨xs, exs⟩ : ∃ xs, xs = A[m].2 := ⟨_, rfl⟩
        rw [← eid] at wid hc0
        rw [← exs] at wxs hvs
        clear eid exs
        obtain ⟨ad2, c2, rfl⟩ : ∃ ad2 c2, vs = .slice ad2 xs.length c2 := by
          rcases hvs with ⟨⟨a, c, rfl⟩, rfl⟩ | ⟨bk, o, c, rfl, _⟩
          · exact ⟨a, c, rfl⟩
          · exact ⟨_, _, rfl⟩
        have AO : Hid ((#[.int .i64 id, .slice ad2 xs.length c2] : Array Value).all (·.oneCell') = true) := by show _ = _; simp [Value.oneCell']
        have HVS := Lib.hid hvs
        have WXS := Lib.hid wxs
        have HBB := Lib.hid hb
        clear hvs wxs hb
        go_wp2_with (first
          | (refine wpL_alloc rfl 8 rfl _ rfl (.agg #[.int .i64 0, .slice none 0 0]) [.int .i64 0, .slice none 0 0] (by kernel_rfl) rfl ?_))
        intro w5 ho5 hs5 hb5
        refine wpL_store rfl 32 (.tmp 8) (.tmp 38) rfl wr.heap.size #[.int .i64 id, .slice ad2 xs.length c2] rfl rfl _ _ hb5 actInfo rfl rfl AO.out ?_
        intro w6 ho6 hs6 hb6
        have hXa : wr.heap.size ≠ a := by have := ha.lt; omega
        have hXa2 : wr.heap.size ≠ a2 := by have := hR.lt; omega
        have hXb : wr.heap.size ≠ b := by have := hmp.lt; omega
        have o56 : Only [] wr w6 := ho5.step ho6 (fun i hi => .inr (by simp at hi; omega))
        have ha6 := ha.keep o56
        have hm6 := hmp.keep o56
        have hR6 := hR.keep o56
        have hV6 := hV.keep o56
        have hor6 := hor.trans o56
        have HVS0 := Lib.hid HVS.out
        have hX6 : wr.heap.size < w6.heap.size := hb6.lt
        have haa2 : a ≠ a2 := by omega
        obtain ⟨X, eX⟩ : ∃ X, X = wr.heap.size := ⟨_, rfl⟩
        rw [← eX] at hb6 hXa hXa2 hXb hX6 ⊢
        have d0 := hb6.cell (i := 0) rfl
        have d1 := hb6.cell (i := 1) rfl
        clear eX ho5 ho6 hs5 hs6 hb5 o56 ha hmp hR hV hor hc0 hc1 HVS hb6
        by_cases h12 : 12 < xs.length
        · have g12 : (12 : Int) < xs.length := by omega
          go_wp2_with fail
          go_ret
          exact ⟨rfl, hor6⟩
        · have g12 : ¬ (12 : Int) < xs.length := by omega
          go_wp2_with fail
          have F6 : Fair w w6.drew k a a2 X b n id (.slice ad2 xs.length c2) xs L L V := ⟨ha6, hm6, hR6, hV6.keep ((Only.refl [] w6).drew), hsep, HVS0.out, d0, d1, hX6, hor6.drew, hXa, hXa2, haa2, hba2, hwa, hwa2⟩
          have hxl : xs.length ≤ 12 := by omega
          obtain ⟨gg, eg⟩ : ∃ gg, gg = okAll (lookL L) id k xs := ⟨_, rfl⟩
          obtain ⟨R, eR⟩ : ∃ R, R = refTo L id xs xs.length := ⟨_, rfl⟩
          have hRl : R.length ≤ 12 := by rw [eR]; have := refTo_length L id xs xs.length; omega
          have hRb : ∀ x, 0 ≤ lookL R x ∧ lookL R x ≤ ((m + 1 : Nat) : Int) := fun x => by
            rw [eR, refTo_look L id xs xs.length (Nat.le_refl _)]
            have := HBB.out x
            unfold nextF
            split <;> omega
          obtain ⟨dd, ed⟩ : ∃ dd, dd = dueOf (lookL R) k xs := ⟨_, rfl⟩
          have S1 : Hid (Calls Try.prog 9 #[.pointer (some ⟨a, 0, none⟩), .int .i64 id, .slice ad2 xs.length c2] w6.drew fun e w'' => e = .returned (.bool gg) ∧ ∃ b', Fair w w'' k a a2 X b' xs.length id (.slice ad2 xs.length c2) xs R L V) := by
            rw [eg, eR]; exact fair_see F6 (fun x => by have := HBB.out x; omega) WXS.out hxl
          have S2 : Hid (∀ w' b', Fair w w' k a a2 X b' xs.length id (.slice ad2 xs.length c2) xs R L V → Calls Try.prog 10 #[.pointer (some ⟨a2, 0, none⟩), .int .i64 id, .slice ad2 xs.length c2] w' fun e w'' => e = .returned (.bool gg) ∧ ∃ V', Fair w w'' k a a2 X b' xs.length id (.slice ad2 xs.length c2) xs R R V') := fun w' b' F => by
            rw [eg, eR]; rw [eR] at F; exact fair_rsee F (fun x => by have := HBB.out x; omega) hl12 hxl
          have S3 : Hid (∀ w' b' V', Fair w w' k a a2 X b' xs.length id (.slice ad2 xs.length c2) xs R R V' → Calls Try.prog 11 #[.pointer (some ⟨a, 0, none⟩), .slice ad2 xs.length c2] w' fun e w'' => e = .returned (.int .i64 dd) ∧ Fair w w'' k a a2 X b' xs.length id (.slice ad2 xs.length c2) xs R R V') := fun w' b' V' F => by
            rw [ed]; exact fair_due F (fun x => by have := hRb x; omega) WXS.out ⟨h1, h2⟩ hxl
          have S4 : Hid (∀ w' b' V', Fair w w' k a a2 X b' xs.length id (.slice ad2 xs.length c2) xs R R V' → Calls Try.prog 12 #[.pointer (some ⟨a2, 0, none⟩), .slice ad2 xs.length c2] w' fun e w'' => e = .returned (.int .i64 dd) ∧ Fair w w'' k a a2 X b' xs.length id (.slice ad2 xs.length c2) xs R R V') := fun w' b' V' F => by
            rw [ed]; exact fair_rdue F hRl ⟨h1, h2⟩ hxl
          have HRB := Lib.hid hRb
          clear eg eR ed F6 hRb ha6 hm6 hR6 hV6 hor6 HVS0
          go_wp2_with fail
          go_region_held3 (fun w' => w'.cell? ⟨X, 0, none⟩ = some (.int .i64 id) ∧ w'.cell? ⟨X, 1, none⟩ = some (.slice ad2 xs.length c2)) (first | exact ⟨by assumption, by assumption⟩ | go_keep) (first
            | (go_at_call 9; refine S1.out.mono ?_; rintro e w7 ⟨rfl, b7, F7⟩; have y0 := F7.x0; have y1 := F7.x1)
            | (go_at_call 10; refine (S2.out _ _ F7).mono ?_; rintro e w8 ⟨rfl, V8, F8⟩; have y0 := F8.x0; have y1 := F8.x1)
            | (go_at_call 11; refine (S3.out _ _ _ F8).mono ?_; rintro e w9 ⟨rfl, F9⟩; have y0 := F9.x0; have y1 := F9.x1)
            | (go_at_call 12; refine (S4.out _ _ _ F9).mono ?_; rintro e w10 ⟨rfl, F10⟩; have y0 := F10.x0; have y1 := F10.x1))
          go_wp2_with fail
          go_roundw
          case rel => exact ⟨m + 1, b7, xs.length, R, V8, by omega, by omega, by go_num, F10.ha, F10.hm, F10.hR, F10.hV, F10.sep, HRB.out, hRl, F10.bb, F10.hor⟩
          case measure => simp [intOf]; omega
      · have m64 : (m : Int) < A.length := by omega
        have m60 : ¬ (m : Int) < 60 := by omega
        clear ha hmp hR hV hb hba2
        go_wp2_with (first
          | (go_at_call 9; refine (SN.out _ _ _).mono ?_; rintro e w7 ⟨rfl, o7⟩)
          | (go_at_call 11; refine (DN.out _ _).mono ?_; rintro e w8 ⟨rfl, o8⟩))
        go_ret
        exact ⟨rfl, (((hor.alloc _).trans o7).alloc _).trans o8⟩
    · have m64 : ¬ (m : Int) < A.length := by omega
      clear ha hmp hR hV hb hba2
      go_wp2_with (first
        | (go_at_call 9; refine (SN.out _ _ _).mono ?_; rintro e w7 ⟨rfl, o7⟩)
        | (go_at_call 11; refine (DN.out _ _).mono ?_; rintro e w8 ⟨rfl, o8⟩))
      go_ret
      exact ⟨rfl, (((hor.alloc _).trans o7).alloc _).trans o8⟩

theorem fairExact_any (k : Int) (v : Value) (A : List (Int × List Int)) (w : World) (hA : Acts w v A) : Calls Try.prog 3 #[.int .i64 k, v] w fun e w' => e = .returned (.bool true) ∧ Only [] w w' := by
  by_cases h : k < 1 ∨ 1000 < k
  · exact fairExact_no k v w h
  · exact fairExact_yes k v A w hA (by omega) (by omega)

end Go.Proofs.Ytbfjhpbppaddfaa
