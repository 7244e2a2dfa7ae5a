/- Shapes: where a part stands, by the document. -/
import Derived.Test.YtbfjhpbppaddfaaConfG
namespace Go.Proofs.Ytbfjhpbppaddfaa
open Go.RowKit

/-- The row of a part of a block. -/
def rowIs (p b : Int) (r : Row4) : Bool := decide (r.1 = p) && decide (r.2.1 = b)

set_option maxRecDepth 100000 in
set_option maxHeartbeats 2000000 in
theorem refRange_no (c : Cfg) (p b : Int) (h : ¬ CanBe c) (w : World) : Calls Try.prog 21 #[.agg c.cells.toArray, .int .i64 p, .int .i64 b] w fun e w' => e = .returned (.tuple #[.int .i64 0, .int .i64 0, .bool false]) ∧ Only [] w w' := by
  have hb0 := Blk.new w c.cells 39
  have GG : Hid (∀ w, Calls Try.prog 14 #[.agg c.cells.toArray] w fun e w' => e = .returned (.bool false) ∧ Only [] w w') := refGood_no c h
  have HL : Hid (c.cells.length = 6) := rfl
  obtain ⟨K, eK⟩ : ∃ K, K = c.cells := ⟨_, rfl⟩
  rw [← eK] at hb0 GG HL ⊢
  clear eK h
  go_enter Try.func21, Try.ntmps21
  go_wp2_with (first
    | (refine wpL_load rfl 39 _ rfl w.heap.size rfl _ _ _ hb0 Try.underlying39 rfl cfgInfo HL.out ?_)
    | (go_at_call 14; refine (GG.out _).mono ?_; rintro e w1 ⟨rfl, ho1⟩))
  go_ret3
  exact ⟨rfl, ((Only.refl [] w).alloc _).trans ho1⟩

/-- What the document tells of a part. -/
def toldOf : Option Row4 → Value
  | some r => .tuple #[.int .i64 r.2.2.1, .int .i64 r.2.2.2, .bool true]
  | none => .tuple #[.int .i64 0, .int .i64 0, .bool false]

set_option maxRecDepth 100000 in
set_option maxHeartbeats 4000000 in
theorem refRange_yes (c : Cfg) (p b : Int) (h : CanBe c) (bn : Nat) (hbn : c.B = (bn : Int)) (w : World) : Calls Try.prog 21 #[.agg c.cells.toArray, .int .i64 p, .int .i64 b] w fun e w' => e = .returned (toldOf ((rowsTo c (12 * (bn + 2))).1.find? (rowIs p b))) ∧ Only [] w w' := by
  have hb0 := Blk.new w c.cells 39
  have GG : Hid (∀ w, Calls Try.prog 14 #[.agg c.cells.toArray] w fun e w' => e = .returned (.bool true) ∧ Only [] w w') := refGood_yes c h
  have hlen := (rowsTo_bounds h.fit (12 * (bn + 2))).2.2
  have hb3 := h.fit.b1
  obtain ⟨L, eL⟩ : ∃ L, L = (rowsTo c (12 * (bn + 2))).1 := ⟨_, rfl⟩
  have RW : Hid (∀ w, Calls Try.prog 36 #[.agg c.cells.toArray] w fun e w' => ∃ v, e = .returned v ∧ w'.ownsRow w.heap.size 76 4 v L.length (rowCells L) ∧ Only [] w w') := fun w => by
    rw [eL]
    exact rows_any c h.fit bn hbn w
  rw [← eL] at hlen ⊢
  have HL : Hid (c.cells.length = 6) := rfl
  have hl60 : L.length ≤ 60 := by omega
  obtain ⟨K, eK⟩ : ∃ K, K = c.cells := ⟨_, rfl⟩
  rw [← eK] at hb0 GG HL RW ⊢
  clear eK eL h hbn hlen hb3
  go_enter Try.func21, Try.ntmps21
  go_wp2_with (first
    | (refine wpL_load rfl 39 _ rfl w.heap.size rfl _ _ _ hb0 Try.underlying39 rfl cfgInfo HL.out ?_)
    | (go_at_call 14; refine (GG.out _).mono ?_))
  intro e w1 hx
  first | (subst hx; intro ho1) | (obtain ⟨rfl, ho1⟩ := hx)
  go_wp2_with (first
    | (refine wpL_load rfl 39 _ rfl w.heap.size rfl _ _ _ (hb0.keep ho1) Try.underlying39 rfl cfgInfo HL.out ?_)
    | (go_at_call 36; refine (RW.out _).mono ?_))
  rintro e w2 ⟨v, rfl, hown, ho2⟩
  obtain ⟨ad, cap, rfl⟩ : ∃ ad cap, v = .slice ad L.length cap := by
    rcases hown.2 with ⟨rfl, h0⟩ | ⟨g, cap, cur, rfl, _⟩
    · exact ⟨none, 0, by rw [h0]⟩
    · exact ⟨_, _, rfl⟩
  have HO := Lib.hid hown
  clear hown
  have hall : Only [] w w2 := (((Only.refl [] w).alloc _).trans ho1).trans ho2
  go_wp2_with fail
  go_loopw [10] (fun i wr => ∃ (k : Nat), k ≤ L.length ∧ i = .int .i64 (k : Int) ∧ Hid (∀ r ∈ L.take k, rowIs p b r = false) ∧ wr = w2) (fun i _ => L.length - (intOf i).toNat)
  case atStart => exact ⟨0, by omega, rfl, fun r hr => by simp at hr, rfl⟩
  case round =>
    obtain ⟨k, hk, rfl, hno, rfl⟩ := hrel
    by_cases hlt : k < L.length
    · have g1 : (k : Int) < L.length := by omega
      obtain ⟨g, rfl, hcap⟩ : ∃ g, ad = some ⟨g, 0, none⟩ ∧ L.length ≤ cap := by
        rcases HO.out.2 with ⟨hv, h0⟩ | ⟨g, cap', cur, hv, _, _, hc, _⟩
        · omega
        · injection hv with e1 e2 e3
          exact ⟨g, e1, by rw [e3]; exact hc⟩
      obtain ⟨⟨r1, r2, r3, r4⟩, er⟩ : ∃ r : Row4, r = L[k] := ⟨_, rfl⟩
      have hget : L[k]? = some (r1, r2, r3, r4) := by rw [List.getElem?_eq_getElem hlt, ← er]
      have cellk : ∀ (j : Nat) (v : Value), j < 4 → (row4 (r1, r2, r3, r4))[j]? = some v → wr.cell? ⟨g, k * 4 + j, none⟩ = some v := fun j v hj hv => by
        have := HO.out.cells (g := g) rfl (k * 4 + j) v (by rw [rowCells_get hget j hj]; exact hv)
        rwa [show (⟨g, 0, none⟩ : Addr).add (k * 4 + j) = ⟨g, k * 4 + j, none⟩ by unfold Addr.add; split <;> simp_all] at this
      have k0 : wr.cell? ⟨g, k * 4, none⟩ = some (.int .i64 r1) := cellk 0 _ (by decide) rfl
      have k1 := cellk 1 _ (by decide) rfl
      have k2 := cellk 2 _ (by decide) rfl
      have k3 := cellk 3 _ (by decide) rfl
      have hnext : rowIs p b (r1, r2, r3, r4) = false → Hid (∀ r ∈ L.take (k + 1), rowIs p b r = false) := fun hn r hr => by
        rw [List.take_succ_eq_append_getElem hlt, List.mem_append] at hr
        rcases hr with hr | hr
        · exact hno.out r hr
        · simp at hr
          rw [hr, ← er]
          exact hn
      have hfound : rowIs p b (r1, r2, r3, r4) = true → Hid (L.find? (rowIs p b) = some (r1, r2, r3, r4)) := fun hy => by
        show _ = _
        have e : L = L.take k ++ L[k] :: L.drop (k + 1) := by rw [← List.drop_eq_getElem_cons hlt, List.take_append_drop]
        rw [e, List.find?_append, List.find?_eq_none.2 (fun x hx => by rw [hno.out x hx]; decide), Option.none_or, ← er, List.find?_cons_of_pos hy]
      clear cellk hget er hno
      by_cases h1 : r1 = p
      · subst h1
        by_cases h2 : r2 = b
        · subst h2
          have HF := hfound (by simp [rowIs])
          clear hnext hfound
          go_wp2_with fail
          refine wp_region_text (by kernel_rfl) (by kernel_rfl) ?_
          go_wp2_with fail
          refine TextQ.mk ?_ rfl
          go_wp2_with fail
          go_ret3
          refine ⟨?_, hall.drew⟩
          rw [HF.out]
          rfl
        · have HN := hnext (by simp [rowIs, h2])
          have e2 : (r2 == b) = false := by rw [beq_eq_false_iff_ne]; exact h2
          clear hnext hfound h2
          go_wp2_with fail
          go_roundw
          case rel => exact ⟨k + 1, by omega, by go_num, HN, trivial⟩
          case measure => simp [intOf]; omega
      · have HN := hnext (by simp [rowIs, h1])
        have e1 : (r1 == p) = false := by rw [beq_eq_false_iff_ne]; exact h1
        clear hnext hfound h1
        go_wp2_with fail
        go_roundw
        case rel => exact ⟨k + 1, by omega, by go_num, HN, trivial⟩
        case measure => simp [intOf]; omega
    · have g1 : ¬ (k : Int) < L.length := by omega
      have HN : Hid (L.find? (rowIs p b) = none) := by
        show _ = none
        rw [List.find?_eq_none]
        intro x hx
        have := hno.out x (by rw [List.take_of_length_le (by omega)]; exact hx)
        rw [this]
        decide
      clear hno
      go_wp2_with fail
      go_ret3
      refine ⟨?_, hall⟩
      rw [HN.out]
      rfl

end Go.Proofs.Ytbfjhpbppaddfaa
