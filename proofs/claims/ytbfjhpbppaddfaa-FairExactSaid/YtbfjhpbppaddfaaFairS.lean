/- Picks that leave nobody out, by the document: Due, See. -/
import Derived.Test.YtbfjhpbppaddfaaFairR
namespace Go.Proofs.Ytbfjhpbppaddfaa
open Go.RowKit

set_option maxRecDepth 100000 in
set_option maxHeartbeats 4000000 in
theorem refDue38_any (a : Nat) (K : Int) (V : Value) (L : List (Int × Int)) (xs : List Int) (vs : Value) (w : World) (ha : Blk w a [.int .i64 K, V] 29) (hv : Waits w V L) (hi : Ints w vs xs) (hl : L.length ≤ 1000)
    (hk : 1 ≤ K ∧ K ≤ 1000) (hx : xs.length ≤ 1000) :
    Calls Try.prog 12 #[.pointer (some ⟨a, 0, none⟩), vs] w fun e w' => e = .returned (.int .i64 (dueOf (lookL L) K xs)) ∧ Only [] w w' := by
  have HI := Lib.hid hi
  have HD : Hid (∀ x wr, Only [] w wr → Calls Try.prog 30 #[.pointer (some ⟨a, 0, none⟩), .int .i64 x] wr fun e w' => e = .returned (.int .i64 (lookL L x)) ∧ wr = w') := fun x wr ho => of38_any a K x V L wr (ha.keep ho) (hv.keep ho) hl
  have HA := Lib.hid ha
  obtain ⟨ad, cap, rfl⟩ : ∃ ad cap, vs = .slice ad xs.length cap := by
    rcases hi with ⟨⟨a, c, rfl⟩, rfl⟩ | ⟨bk, o, c, rfl, _⟩
    · exact ⟨a, c, rfl⟩
    · exact ⟨_, _, rfl⟩
  obtain ⟨k0, k1⟩ := hk
  obtain ⟨r, er⟩ : ∃ r, r = dueOf (lookL L) K xs := ⟨_, rfl⟩
  have HR : Hid (dueOf (lookL L) K xs = r) := er.symm
  rw [← er]
  clear hi hv ha er
  go_enter Try.func12, Try.ntmps12
  go_wp2_with fail
  go_loopw [5] (fun i wr => ∃ (k : Nat), k ≤ xs.length ∧ i = .int .i64 (k : Int) ∧ Hid (∀ j (hj : j < xs.length), j < k → lookL L xs[j] < K - 1) ∧ Only [] w wr) (fun i _ => xs.length - (intOf i).toNat)
  case atStart => exact ⟨0, by omega, rfl, fun j hj h => absurd h (by omega), Only.refl _ _⟩
  case round =>
    obtain ⟨k, hk, rfl, hno, hor⟩ := hrel
    by_cases hlt : k < xs.length
    · obtain ⟨bk, o, c, hc⟩ : ∃ bk o c, ad = some ⟨bk, o, none⟩ ∧ cap = c ∧ wr.cell? ⟨bk, o + k, none⟩ = some (.int .i64 xs[k]) := by
        rcases HI.out with ⟨_, h0⟩ | ⟨bk, o, c, hv, h1, h2, h3⟩
        · subst h0; simp at hlt
        · injection hv with e1 e2 e3
          refine ⟨bk, o, c, e1, e3, ?_⟩
          rw [hor.cellAt bk (o + k) h2 (by simp)]
          exact h1 k _ (List.getElem?_eq_getElem hlt)
      obtain ⟨rfl, rfl, hc⟩ := hc
      have k64 : (k : Int) < xs.length := by omega
      have c0 := (HA.out.keep hor).cell (i := 0) rfl
      have HC := Lib.hid (fun m => HD.out xs[k] (wr.drewN m) (hor.drewN m))
      have HY : Hid (K - 1 ≤ lookL L xs[k] → r = xs[k]) := fun h => by
        have : dueAt (lookL L) K xs = some k := by
          rw [dueAt, List.findIdx?_eq_some_iff_getElem]
          exact ⟨hlt, by simpa using h, fun j hj => by have := hno.out j (by omega) hj; simp; omega⟩
        rw [← HR.out, dueOf, this]
        simp [List.getD_eq_getElem?_getD, List.getElem?_eq_getElem hlt]
      have HN : Hid (¬ K - 1 ≤ lookL L xs[k] → Hid (∀ j (hj : j < xs.length), j < k + 1 → lookL L xs[j] < K - 1)) := fun h j hj hjk => by
        by_cases e : j = k
        · subst e; omega
        · exact hno.out j hj (by omega)
      obtain ⟨x, ex⟩ : ∃ x, x = xs[k] := ⟨_, rfl⟩
      rw [← ex] at hc HC HY HN
      obtain ⟨z, ez⟩ : ∃ z, z = lookL L x := ⟨_, rfl⟩
      rw [← ez] at HC HY HN
      clear ex ez
      by_cases hd : K - 1 ≤ z
      · have HY' := Lib.hid (HY.out hd)
        clear HY HN hno
        go_wp2_with fail
        go_big_quiet ((refine (HC.out _).mono ?_; rintro e w' ⟨rfl, rfl⟩; exact ⟨rfl, _, rfl⟩))
        go_wp2_with fail
        go_ret
        exact ⟨by rw [HY'.out]; rfl, hor.drewN _⟩
      · have HN' := HN.out hd
        clear HY HN hno
        go_wp2_with fail
        go_big_quiet ((refine (HC.out _).mono ?_; rintro e w' ⟨rfl, rfl⟩; exact ⟨rfl, _, rfl⟩))
        go_wp2_with fail
        go_roundw
        case rel => exact ⟨k + 1, by omega, by go_num, HN', hor.drewN _⟩
        case measure => simp [intOf]; omega
    · obtain rfl : k = xs.length := by omega
      have HE : Hid (r = -1) := by
        have : dueAt (lookL L) K xs = none := by
          rw [dueAt, List.findIdx?_eq_none_iff]
          intro x hxx
          obtain ⟨j, hj, rfl⟩ := List.mem_iff_getElem.1 hxx
          have := hno.out j hj hj
          simp
          omega
        show _ = _
        rw [← HR.out, dueOf, this]
      go_wp2_with fail
      go_ret
      exact ⟨by rw [HE.out]; rfl, hor⟩

end Go.Proofs.Ytbfjhpbppaddfaa
