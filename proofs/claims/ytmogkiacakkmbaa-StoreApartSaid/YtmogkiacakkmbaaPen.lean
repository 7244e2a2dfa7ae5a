/- Walks: numbers as bytes, on both sides. -/
import Derived.Test.YtmogkiacakkmbaaBuild
import Derived.Test.YtmogkiacakkmbaaText
namespace Go.Proofs.Ytmogkiacakkmbaa
open Go.RowKit

/-- A number that can be told. -/
def told (n : Int) : Bool := decide (0 ≤ n) && decide (n < 4294967296)
/-- Four bytes, the least first. -/
def le4 (m : Nat) : List UInt8 := [0, 1, 2, 3].map fun i => UInt8.ofNat (m / 2 ^ (8 * i) % 256)
/-- A number's bytes. -/
def num4 (n : Int) : List UInt8 := le4 (if told n then n.toNat else 0)
theorem le4_length (m : Nat) : (le4 m).length = 4 := rfl
theorem num4_length (n : Int) : (num4 n).length = 4 := rfl
theorem nums_length (xs : List Int) : (xs.map num4).flatten.length = 4 * xs.length := by
  induction xs with
  | nil => rfl
  | cons x xs ih => simp only [List.map_cons, List.flatten_cons, List.length_append, ih, num4_length, List.length_cons]; omega
theorem le4_take (m j : Nat) (h : j < 4) : (le4 m).take (j + 1) = (le4 m).take j ++ [UInt8.ofNat (m / 2 ^ (8 * j) % 256)] := by
  match j, h with
  | 0, _ => rfl
  | 1, _ => rfl
  | 2, _ => rfl
  | 3, _ => rfl
theorem le4_cast (m k : Nat) : ((m / 2 ^ k % 256 : Nat) : Int) = (m : Int) / 2 ^ k % 256 := by
  rw [Int.natCast_emod, Int.natCast_ediv, Int.natCast_pow]
  rfl
theorem bad_take {xs : List Int} {k : Nat} (h : k < xs.length) {bad : Bool} : (bad || (xs.take (k + 1)).any (fun n => !told n)) = (bad || (xs.take k).any (fun n => !told n) || !told xs[k]) := by
  rw [List.take_succ_eq_append_getElem h, List.any_append, Bool.or_assoc]
  simp

/-- A slice of numbers, as it can be read. -/
def Ints (w : World) (v : Value) (xs : List Int) : Prop :=
  ((∃ a c, v = .slice a 0 c) ∧ xs = []) ∨ ∃ bk o c, v = .slice (some ⟨bk, o, none⟩) xs.length c ∧ (∀ (j : Nat) x, xs[j]? = some x → w.cell? ⟨bk, o + j, none⟩ = some (.int .i64 x)) ∧ bk < w.heap.size ∧ xs.length ≤ c
theorem Ints.only {S : List Nat} {w w' : World} {v : Value} {xs : List Int} (h : Ints w v xs) (ho : Only S w w') (hn : ∀ a n c, v = .slice (some a) n c → a.block ∉ S) : Ints w' v xs := by
  rcases h with h | ⟨bk, o, c, rfl, h1, h2, h3⟩
  · exact .inl h
  · refine .inr ⟨bk, o, c, rfl, fun j x hx => ?_, Nat.lt_of_lt_of_le h2 ho.size, h3⟩
    rw [ho.cellAt _ _ h2 (hn _ _ _ rfl)]
    exact h1 j x hx
theorem Ints.keep {w w' : World} {v : Value} {xs : List Int} (h : Ints w v xs) (ho : Only [] w w') : Ints w' v xs := h.only ho (by simp)
theorem Ints.made (w : World) (xs : List Int) (ty : TypeId) : Ints (w.alloc (.cells (xs.map (Value.int .i64)).toArray ty)) (.slice (some ⟨w.heap.size, 0, none⟩) xs.length xs.length) xs := by
  refine .inr ⟨w.heap.size, 0, _, rfl, fun j x hx => ?_, by simp, Nat.le_refl _⟩
  have h := (Blk.new w (xs.map (Value.int .i64)) ty).cell (i := j) (v := .int .i64 x) (by simp [hx])
  simpa using h

theorem lies_pen : Lies 149 3 := by unfold Lies; kernel_rfl
theorem Bld.drewW {w : World} {b : Nat} {tail : List Value} {ty : TypeId} {v : Value} {l : List UInt8} (h : Bld w b tail ty v l) : Bld w.drew b tail ty v l := h.keep (Only.refl [] w).drew
theorem Bld.tail1 {w : World} {b : Nat} {x : Value} {ty : TypeId} {v : Value} {l : List UInt8} (h : Bld w b [x] ty v l) (y : Value) : Bld (w.setCell ⟨b, 2, none⟩ y) b [y] ty v l ∧ Wrote w (w.setCell ⟨b, 2, none⟩ y) b v v := by
  obtain ⟨p, hp, hb, hr, hne, hn⟩ := h
  refine ⟨⟨p, hp, hb.set 2 y, ownsRow_only hr (S := [b]) ((Only.refl _ w).set (by simp) _) (fun k hk e => hne (by rw [hk]; simp at e; rw [e])), hne, hn⟩, (Only.refl _ w).set (by simp) _, fun k hk => .inl hk⟩
theorem Bld.tailCell {w : World} {b : Nat} {x : Value} {ty : TypeId} {v : Value} {l : List UInt8} (h : Bld w b [x] ty v l) : w.cell? ⟨b, 2, none⟩ = some x ∧ w.frozen? ⟨b, 2, none⟩ = false := by
  obtain ⟨p, hp, hb, hr, hne, hn⟩ := h
  exact ⟨hb.cell rfl, hb.free 2⟩

set_option maxRecDepth 100000 in
set_option maxHeartbeats 4000000 in
/-- (*pen.Pen).Num: so many numbers more. -/
theorem penNum_any (b : Nat) (bad : Bool) (v : Value) (l : List UInt8) (vs : Value) (xs : List Int) (w : World) (h : Bld w b [.bool bad] 149 v l) (hi : Ints w vs xs)
    (hsep : ∀ a n c, vs = .slice (some a) n c → a.block ≠ b ∧ v.ownBlock ≠ some a.block) (hx : xs.length ≤ 1000000) (hl : l.length ≤ 1000000000) :
    Calls Try.prog 90 #[.pointer (some ⟨b, 0, none⟩), vs] w fun e w' => e = .returned (.tuple #[]) ∧ ∃ v', Bld w' b [.bool (bad || xs.any (fun n => !told n))] 149 v' (l ++ (xs.map num4).flatten) ∧ Wrote w w' b v v' := by
  have HI := Lib.hid hi
  have HS := Lib.hid hsep
  have HLEN : Hid (∀ k, ((l ++ ((xs.take k).map num4).flatten)).length ≤ 1004000000) := fun k => by
    rw [List.length_append, nums_length, List.length_take]
    omega
  obtain ⟨ad, cap, rfl⟩ : ∃ ad cap, vs = .slice ad xs.length cap := by
    rcases hi with ⟨⟨a, c, rfl⟩, rfl⟩ | ⟨bk, o, c, rfl, _⟩
    · exact ⟨a, c, rfl⟩
    · exact ⟨_, _, rfl⟩
  clear hi hsep hl
  go_enter Try.func90, Try.ntmps90
  go_wp2
  go_loopw [11] (fun i wr => ∃ (k : Nat) (v' : Value), k ≤ xs.length ∧ i = .int .i64 k ∧ Bld wr b [.bool (bad || (xs.take k).any (fun n => !told n))] 149 v' (l ++ ((xs.take k).map num4).flatten) ∧ Wrote w wr b v v') (fun i _ => xs.length - (intOf i).toNat)
  case atStart => exact ⟨0, v, by omega, rfl, by simpa using h, Wrote.refl _ _ _⟩
  case round =>
    obtain ⟨k, v', hk, rfl, hb, hw⟩ := hrel
    by_cases hlt : k < xs.length
    · obtain ⟨bk, o, c, hc⟩ : ∃ bk o c, ad = some ⟨bk, o, none⟩ ∧ cap = c ∧ xs.length ≤ c ∧ wr.cell? ⟨bk, o + k, none⟩ = some (.int .i64 xs[k]) := by
        rcases HI.out with ⟨_, h0⟩ | ⟨bk, o, c, hv, h1, h2, h3⟩
        · subst h0; simp at hlt
        · injection hv with e1 e2 e3
          refine ⟨bk, o, c, e1, e3, h3, ?_⟩
          have hs := HS.out ⟨bk, o, none⟩ xs.length c (by rw [e1, e3])
          rw [hw.1.cellAt bk (o + k) h2 (by
            simp only [List.mem_cons, Option.mem_toList, not_or]
            exact ⟨hs.1, hs.2⟩)]
          exact h1 k _ (List.getElem?_eq_getElem hlt)
      obtain ⟨rfl, rfl, hcap, hc⟩ := hc
      obtain ⟨z, ez⟩ : ∃ z, z = xs[k] := ⟨_, rfl⟩
      rw [← ez] at hc
      have EZ := Lib.hid ez
      clear ez
      obtain ⟨hct, hft⟩ := hb.tailCell
      have k64 : (k : Int) < xs.length := by omega
      by_cases hneg : z < 0
      · have hbt := (hb.tail1 (.bool true)).1
        have hwt := hw.trans (hb.tail1 (.bool true)).2
        have hto : Hid (told xs[k] = false) := by show _ = _; rw [← EZ.out]; simp [told]; omega
        have HNUM : Hid (num4 xs[k] = le4 0) := by show _ = _; unfold num4; rw [hto.out]; rfl
        have HB2 := Lib.hid hbt
        have HW2 := Lib.hid hwt
        clear hbt hwt
        go_wp2_with fail
        go_loopw [24] (fun i wj => ∃ (j : Nat) (v'' : Value), j ≤ 4 ∧ i = .int .i64 j ∧ Bld wj b [.bool (true)] 149 v'' ((l ++ ((xs.take k).map num4).flatten) ++ (le4 0).take j) ∧ Wrote w wj b v v'') (fun i _ => 4 - (intOf i).toNat)
        case atStart => exact ⟨0, _, by omega, rfl, by simpa using HB2.out, HW2.out⟩
        case round =>
          obtain ⟨j, v'', hj, rfl, hbj, hwj⟩ := hrel
          by_cases hltj : j < 4
          · have hcount : (8 * (j : Int)).toNat = 8 * j := by omega
            have hlen : ((l ++ ((xs.take k).map num4).flatten) ++ (le4 0).take j).length + 1 ≤ 140737488355328 := by
              have := HLEN.out k
              rw [List.length_append]
              simp only [List.length_take]
              omega
            have j4 : (j : Int) < 4 := by omega
            have HLN := Lib.hid hlen
            clear hlen
            go_wp2_with fail
            refine wp_region_text (by kernel_rfl) (by kernel_rfl) ?_
            go_wp2_with (go_at_call 138; refine (writeByte_any b _ _ _ _ _ _ hbj.drewW lies_pen (by omega) (by omega) HLN.out).mono ?_; rintro e w3 ⟨rfl, v3, hb3, hw3⟩)
            refine TextQ.mk ?_ rfl
            go_wp2_with fail
            go_roundw
            case rel =>
              refine ⟨j + 1, v3, by omega, by go_num, ?_, (hwj.post (Only.refl [] _).drew).trans hw3⟩
              rw [le4_take 0 j hltj, ← List.append_assoc]
              have e1 : UInt8.ofNat (Int.toNat 0) = UInt8.ofNat (0 / 2 ^ (8 * j) % 256) := by
                rw [Nat.zero_div]; rfl
              rw [e1] at hb3
              exact hb3
            case measure => simp [intOf]; omega
          · obtain rfl : j = 4 := by omega
            have e4 : (l ++ ((xs.take k).map num4).flatten) ++ (le4 0).take 4 = l ++ ((xs.take (k + 1)).map num4).flatten := by
              rw [List.take_succ_eq_append_getElem hlt, List.map_append, List.flatten_append, List.append_assoc]
              congr 2
              simp [HNUM.out, le4]
            rw [e4] at hbj
            go_wp2_with fail
            go_roundw
            case rel =>
              refine ⟨k + 1, v'', by omega, by go_num, ?_, hwj⟩
              rw [bad_take hlt, hto.out, Bool.not_false, Bool.or_true]
              exact hbj
            case measure => simp [intOf]; omega
      · have hnn : 0 ≤ z := by omega
        by_cases hbig : 4294967296 ≤ z
        · have hbt := (hb.tail1 (.bool true)).1
          have hwt := hw.trans (hb.tail1 (.bool true)).2
          have hto : Hid (told xs[k] = false) := by show _ = _; rw [← EZ.out]; simp [told]; omega
          have HNUM : Hid (num4 xs[k] = le4 0) := by show _ = _; unfold num4; rw [hto.out]; rfl
          have HB2 := Lib.hid hbt
          have HW2 := Lib.hid hwt
          clear hbt hwt
          go_wp2_with fail
          go_loopw [24] (fun i wj => ∃ (j : Nat) (v'' : Value), j ≤ 4 ∧ i = .int .i64 j ∧ Bld wj b [.bool (true)] 149 v'' ((l ++ ((xs.take k).map num4).flatten) ++ (le4 0).take j) ∧ Wrote w wj b v v'') (fun i _ => 4 - (intOf i).toNat)
          case atStart => exact ⟨0, _, by omega, rfl, by simpa using HB2.out, HW2.out⟩
          case round =>
            obtain ⟨j, v'', hj, rfl, hbj, hwj⟩ := hrel
            by_cases hltj : j < 4
            · have hcount : (8 * (j : Int)).toNat = 8 * j := by omega
              have hlen : ((l ++ ((xs.take k).map num4).flatten) ++ (le4 0).take j).length + 1 ≤ 140737488355328 := by
                have := HLEN.out k
                rw [List.length_append]
                simp only [List.length_take]
                omega
              have j4 : (j : Int) < 4 := by omega
              have HLN := Lib.hid hlen
              clear hlen
              go_wp2_with fail
              refine wp_region_text (by kernel_rfl) (by kernel_rfl) ?_
              go_wp2_with (go_at_call 138; refine (writeByte_any b _ _ _ _ _ _ hbj.drewW lies_pen (by omega) (by omega) HLN.out).mono ?_; rintro e w3 ⟨rfl, v3, hb3, hw3⟩)
              refine TextQ.mk ?_ rfl
              go_wp2_with fail
              go_roundw
              case rel =>
                refine ⟨j + 1, v3, by omega, by go_num, ?_, (hwj.post (Only.refl [] _).drew).trans hw3⟩
                rw [le4_take 0 j hltj, ← List.append_assoc]
                have e1 : UInt8.ofNat (Int.toNat 0) = UInt8.ofNat (0 / 2 ^ (8 * j) % 256) := by
                  rw [Nat.zero_div]; rfl
                rw [e1] at hb3
                exact hb3
              case measure => simp [intOf]; omega
            · obtain rfl : j = 4 := by omega
              have e4 : (l ++ ((xs.take k).map num4).flatten) ++ (le4 0).take 4 = l ++ ((xs.take (k + 1)).map num4).flatten := by
                rw [List.take_succ_eq_append_getElem hlt, List.map_append, List.flatten_append, List.append_assoc]
                congr 2
                simp [HNUM.out, le4]
              rw [e4] at hbj
              go_wp2_with fail
              go_roundw
              case rel =>
                refine ⟨k + 1, v'', by omega, by go_num, ?_, hwj⟩
                rw [bad_take hlt, hto.out, Bool.not_false, Bool.or_true]
                exact hbj
              case measure => simp [intOf]; omega
        · obtain ⟨m, rfl⟩ : ∃ m : Nat, z = (m : Int) := ⟨z.toNat, by omega⟩
          have hm : m < 4294967296 := by omega
          have hto : Hid (told xs[k] = true) := by show _ = _; rw [← EZ.out]; simp [told]; omega
          have HNUM : Hid (num4 xs[k] = le4 m) := by show _ = _; unfold num4; rw [hto.out, ← EZ.out]; rfl
          have HB2 := Lib.hid hb
          have HW2 := Lib.hid hw
          clear hb hw
          go_wp2_with fail
          go_loopw [24] (fun i wj => ∃ (j : Nat) (v'' : Value), j ≤ 4 ∧ i = .int .i64 j ∧ Bld wj b [.bool (bad || (xs.take k).any (fun n => !told n))] 149 v'' ((l ++ ((xs.take k).map num4).flatten) ++ (le4 m).take j) ∧ Wrote w wj b v v'') (fun i _ => 4 - (intOf i).toNat)
          case atStart => exact ⟨0, _, by omega, rfl, by simpa using HB2.out, HW2.out⟩
          case round =>
            obtain ⟨j, v'', hj, rfl, hbj, hwj⟩ := hrel
            by_cases hltj : j < 4
            · have hcount : (8 * (j : Int)).toNat = 8 * j := by omega
              have hlen : ((l ++ ((xs.take k).map num4).flatten) ++ (le4 m).take j).length + 1 ≤ 140737488355328 := by
                have := HLEN.out k
                rw [List.length_append]
                simp only [List.length_take]
                omega
              have j4 : (j : Int) < 4 := by omega
              have HLN := Lib.hid hlen
              clear hlen
              go_wp2_with fail
              refine wp_region_text (by kernel_rfl) (by kernel_rfl) ?_
              go_wp2_with (go_at_call 138; refine (writeByte_any b _ _ _ _ _ _ hbj.drewW lies_pen (by omega) (by omega) HLN.out).mono ?_; rintro e w3 ⟨rfl, v3, hb3, hw3⟩)
              refine TextQ.mk ?_ rfl
              go_wp2_with fail
              go_roundw
              case rel =>
                refine ⟨j + 1, v3, by omega, by go_num, ?_, (hwj.post (Only.refl [] _).drew).trans hw3⟩
                rw [le4_take m j hltj, ← List.append_assoc]
                have e1 : UInt8.ofNat ((m : Int) / 2 ^ (8 * j) % 256).toNat = UInt8.ofNat (m / 2 ^ (8 * j) % 256) := by
                  rw [← le4_cast, Int.toNat_natCast]
                rw [e1] at hb3
                exact hb3
              case measure => simp [intOf]; omega
            · obtain rfl : j = 4 := by omega
              have e4 : (l ++ ((xs.take k).map num4).flatten) ++ (le4 m).take 4 = l ++ ((xs.take (k + 1)).map num4).flatten := by
                rw [List.take_succ_eq_append_getElem hlt, List.map_append, List.flatten_append, List.append_assoc]
                congr 2
                simp [HNUM.out, le4]
              rw [e4] at hbj
              go_wp2_with fail
              go_roundw
              case rel =>
                refine ⟨k + 1, v'', by omega, by go_num, ?_, hwj⟩
                rw [bad_take hlt, hto.out, Bool.not_true, Bool.or_false]
                exact hbj
              case measure => simp [intOf]; omega
    · have ek : Hid (k = xs.length) := by show k = _; omega
      rw [show xs.take k = xs from List.take_of_length_le (by omega)] at hb
      go_wp2_with fail
      go_end0
      exact ⟨rfl, v', hb, hw⟩

end Go.Proofs.Ytmogkiacakkmbaa
