/- The law ShaExact, walked; a row of texts that comes in. -/
import Derived.Test.YtlciphmjkbihkaaRefD
import Derived.Test.YtlciphmjkbihkaaOpen
import Derived.Deep.Strs
namespace Go.Proofs.Ytlciphmjkbihkaa
open Go.RowKit

theorem cell_lt {w : World} {a : Addr} {v : Value} (h : w.cell? a = some v) : a.block < w.heap.size := by
  rcases Nat.lt_or_ge a.block w.heap.size with hl | hl
  · exact hl
  · simp [World.cell?, Array.getElem?_eq_none hl] at h

section
open Go.ChangeShapes Go.WideShapes Go.ChangeAt
variable {H : Type} {enc : TypeId × Value → H} {P : Program} {w : World} {base : Nat} {sp : Nat → Bool} {held : Bool}
/-- A row of texts, as it can be read. -/
theorem open_strs_any {t e : TypeId} {fuel : Nat} {v : Value} {x : DataW H × List MemPlace} (ht : P.underlying t = some (.slice e)) (he : P.underlying e = some .string) (hc : P.cellsOf e = 1)
    (h : DataW.trod enc P w base sp held fuel t [v] = some x) : ∃ xs : List ByteArray, Strs w v xs ∧ xs.length ≤ maxLen := by
  rcases Go.Deep.open_strs ht he hc h with ⟨hcs, _⟩ | ⟨a, len, cap, m, Sx, hcs, hb, hl, hm, hmm, _, hx⟩
  · simp at hcs
    exact ⟨[], .inl ⟨⟨none, 0, hcs⟩, rfl⟩, by simp⟩
  · simp at hcs
    by_cases h0 : len = 0
    · subst h0
      exact ⟨[], .inl ⟨⟨some a, cap, hcs⟩, rfl⟩, by simp⟩
    · have hml : len ≤ m := by split at hmm <;> omega
      have h1 := (hx 0 (by omega)).1
      obtain ⟨bk, o, spot⟩ := a
      have hspot : spot = none := by
        have := World.cell?_spot h1
        simpa [Addr.add] using this
      subst hspot
      have hlt := cell_lt h1
      rw [addr_at] at hlt
      refine ⟨(List.range len).map Sx, .inr ⟨bk, o, cap, by simpa using hcs, fun j y hj => ?_, hlt, by simpa using hl⟩, by simp; omega⟩
      rw [List.getElem?_map] at hj
      cases hr : (List.range len)[j]? with
      | none => rw [hr] at hj; simp at hj
      | some i =>
        have hi := List.getElem?_range (n := len) (i := j) (by have := (List.getElem?_eq_some_iff.1 hr).1; simpa using this)
        rw [hr] at hi
        injection hi with hi
        subst hi
        rw [hr] at hj
        simp at hj
        subst hj
        have hjl : i < len := by have := (List.getElem?_eq_some_iff.1 hr).1; simpa using this
        have := (hx i (by omega)).1
        rwa [addr_at] at this
end

theorem cat_le (xs : List ByteArray) (n : Nat) (h : ∀ x ∈ xs, x.size ≤ n) : (cat xs).length ≤ xs.length * n := by
  induction xs with
  | nil => simp [cat]
  | cons x xs ih =>
    have h1 := ih fun y hy => h y (by simp [hy])
    have h2 := h x (by simp)
    rw [cat_cons, List.length_append, bl_length, List.length_cons, Nat.add_mul, Nat.one_mul]
    omega

set_option maxRecDepth 100000 in
set_option maxHeartbeats 1000000 in
theorem exact_any (v : Value) (xs : List ByteArray) (w : World) (h : Strs w v xs) (hm : xs.length ≤ maxLen) :
    Calls Try.prog 6 #[v] w fun e w' => e = .returned (.bool true) ∧ Only [] w w' := by
  have HH := Lib.hid h
  obtain ⟨ad, cap, rfl⟩ : ∃ ad cap, v = .slice ad xs.length cap := by
    rcases h with ⟨⟨a, c, rfl⟩, rfl⟩ | ⟨bk, o, c, rfl, _⟩
    · exact ⟨a, c, rfl⟩
    · exact ⟨_, _, rfl⟩
  clear h
  unfold maxLen at hm
  by_cases hn : 10 < xs.length
  · have hn' : (10 : Int) < xs.length := by omega
    go_enter Try.func6, Try.ntmps6
    go_wp2_with (go_at_call 32; refine (awake_any _).mono ?_; rintro e w1 ⟨rfl, ho1⟩)
    go_ret
    exact ⟨rfl, ho1⟩
  · have hn' : ¬ (10 : Int) < xs.length := by omega
    go_enter Try.func6, Try.ntmps6
    go_wp2_with (go_at_call 32; refine (awake_any _).mono ?_; rintro e w1 ⟨rfl, ho1⟩)
    have HS := Lib.hid (HH.out.keep ho1)
    clear HH
    go_loopw [3] (fun i wr => ∃ (k : Nat), k ≤ xs.length ∧ i = .int .i64 k ∧ Hid (∀ x ∈ xs.take k, x.size ≤ 300) ∧ wr = w1) (fun i _ => xs.length - (intOf i).toNat)
    case atStart => exact ⟨0, by omega, rfl, by intro x hx; simp at hx, rfl⟩
    case round =>
      obtain ⟨k, hk, rfl, hall, rfl⟩ := hrel
      by_cases hlt : k < xs.length
      · rcases HS.out with ⟨_, rfl⟩ | ⟨bk, o, c, hv, h1, h2, h3⟩
        · simp at hlt
        · injection hv with e1 e2 e3
          subst e1 e3
          have hc := h1 k xs[k] (List.getElem?_eq_getElem hlt)
          have hall' : xs[k].size ≤ 300 → Hid (∀ x ∈ xs.take (k + 1), x.size ≤ 300) := fun h x hx => by
            rw [List.take_succ_eq_append_getElem hlt, List.mem_append] at hx
            rcases hx with hx | hx
            · exact hall.out x hx
            · simp at hx; subst hx; exact h
          by_cases hsz : 300 < xs[k].size
          · have hsz' : (300 : Int) < xs[k].size := by omega
            go_wp2
            go_ret
            exact ⟨rfl, ho1⟩
          · have hsz' : ¬ (300 : Int) < xs[k].size := by omega
            go_wp2
            go_roundw
            case rel => exact ⟨k + 1, by omega, by go_num, hall' (by omega), trivial⟩
            case measure => simp [intOf]; omega
      · have hx : ∀ x ∈ xs, x.size ≤ 300 := by
          have := hall.out
          rwa [List.take_of_length_le (by omega)] at this
        have hcat : (cat xs).length ≤ 3000 := Nat.le_trans (cat_le xs 300 hx) (by omega)
        obtain ⟨d, ed⟩ : ∃ d, d = Sha.sum (cat xs) := ⟨_, rfl⟩
        have D32 : Hid (d.length = 32) := by rw [ed]; exact Sha.sum_length _
        have O1 : Hid (Calls Try.prog 33 #[.slice ad xs.length cap] wr fun e w' => e = .returned (.agg (Lib.byteCells d).toArray) ∧ Only [] wr w') := by
          rw [ed]
          exact of_any _ xs _ HS.out (by omega) (by omega)
        have O2 : Hid (∀ w', Only [] wr w' → Calls Try.prog 35 #[.slice ad xs.length cap] w' fun e w'' => e = .returned (.string ⟨(cat xs).toArray⟩) ∧ w' = w'') := fun w' ho => joined_any _ xs _ (HS.out.keep ho) (by omega) (by omega)
        have O3 : Hid (∀ w', Calls Try.prog 34 #[.string ⟨(cat xs).toArray⟩] w' fun e w'' => e = .returned (.agg (Lib.byteCells d).toArray) ∧ Only [] w' w'') := fun w' => by
          rw [ed]
          exact refOf_any ⟨(cat xs).toArray⟩ w' (by show (cat xs).length ≤ _; omega)
        clear HS ed hx hall
        go_wp2_with (first
          | (go_at_call 33; refine O1.out.mono ?_; rintro e w2 ⟨rfl, ho2⟩)
          | (go_at_call 35; refine (O2.out _ ho2).mono ?_; rintro e w3 ⟨rfl, rfl⟩)
          | (go_at_call 34; refine (O3.out _).mono ?_; rintro e w4 ⟨rfl, ho4⟩)
          | (refine wpL_eql_bytes rfl 57 _ (.tmp 22) (.tmp 25) rfl 5 32 Try.underlying57 Try.underlying5 (by kernel_rfl) (by kernel_rfl) d d rfl rfl D32.out D32.out true (by simp) ?_))
        go_ret
        exact ⟨rfl, (ho1.trans ho2).trans ho4⟩

end Go.Proofs.Ytlciphmjkbihkaa
