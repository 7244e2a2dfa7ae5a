/- Models: rows, and whether two rows are the same. -/
import Derived.Test.YtgdifegbpbnekaaBrainD2
namespace Go.Proofs.Ytgdifegbpbnekaa
open Go.RowKit

theorem Ints.form {w : World} {v : Value} {xs : List Int} (h : Ints w v xs) : ∃ a c, v = .slice a xs.length c ∧ ∀ j x, xs[j]? = some x → ∃ b o, a = some ⟨b, o, none⟩ ∧ b < w.heap.size ∧ w.cell? ⟨b, o + j, none⟩ = some (.int .i64 x) := by
  rcases h with ⟨⟨a, c, rfl⟩, rfl⟩ | ⟨bk, o, c, rfl, h1, h2, h3⟩
  · exact ⟨a, c, rfl, fun j x hx => by simp at hx⟩
  · exact ⟨_, c, rfl, fun j x hx => ⟨bk, o, rfl, h2, h1 j x hx⟩⟩
theorem Ints.of_owns {w : World} {base : Nat} {e : TypeId} {v : Value} {xs : List Int} {n : Nat} (h : w.ownsRow base e 1 v n (xs.map (Value.int .i64))) (hn : xs.length = n) : Ints w v xs := by
  subst hn
  rcases h.2 with ⟨rfl, hz⟩ | ⟨g, cap, cur, rfl, hb, hg, hcap, _⟩
  · exact .inl ⟨⟨none, 0, rfl⟩, List.eq_nil_of_length_eq_zero hz⟩
  · refine .inr ⟨g, 0, cap, rfl, fun j x hx => ?_, ?_, hcap⟩
    · have := h.cells (g := g) rfl j (.int .i64 x) (by rw [List.getElem?_map, hx]; rfl)
      rwa [show (⟨g, 0, none⟩ : Addr).add j = ⟨g, 0 + j, none⟩ by unfold Addr.add; split <;> simp_all] at this
    · rcases Nat.lt_or_ge g w.heap.size with h' | h'
      · exact h'
      · rw [Array.getElem?_eq_none h'] at hg; simp at hg
theorem Ints.of_blk {w : World} {b : Nat} {ty : TypeId} {xs : List Int} (h : Blk w b (xs.map (Value.int .i64)) ty) (cp : Nat) (hc : xs.length ≤ cp) : Ints w (.slice (some ⟨b, 0, none⟩) xs.length cp) xs :=
  .inr ⟨b, 0, cp, rfl, fun j x hx => h.cell (by rw [Nat.zero_add, List.getElem?_map, hx]; rfl), h.lt, hc⟩

set_option maxRecDepth 100000 in
set_option maxHeartbeats 8000000 in
theorem ints16_same (v1 v2 : Value) (xs : List Int) (w : World) (h1 : Ints w v1 xs) (h2 : Ints w v2 xs) (hm : xs.length ≤ 9223372036854775807) :
    Calls Try.prog 45 #[v1, v2] w fun e w' => e = .returned (.bool true) ∧ Only [] w w' := by
  obtain ⟨a1, c1, rfl, H1⟩ := h1.form
  obtain ⟨a2, c2, rfl, H2⟩ := h2.form
  obtain ⟨n, hn⟩ : ∃ n, n = xs.length := ⟨_, rfl⟩
  have G1 := Lib.hid H1
  have G2 := Lib.hid H2
  have HN := Lib.hid hn
  rw [← hn] at hm ⊢
  have hm' : (n : Int) ≤ 9223372036854775807 := by omega
  clear h1 h2 H1 H2 hn hm
  go_enter Try.func45, Try.ntmps45
  go_wp2_with fail
  go_loopw [5] (fun i wr => ∃ (j : Nat), j ≤ n ∧ i = .int .i64 (j : Int) ∧ Only [] w wr) (fun i _ => n - (intOf i).toNat)
  case atStart => exact ⟨0, by omega, rfl, Only.refl _ _⟩
  case round =>
    obtain ⟨j, hj, rfl, hor⟩ := hrel
    by_cases hlt : j < n
    · have j64 : (j : Int) < n := by omega
      have hx : xs[j]? = some xs[j] := List.getElem?_eq_getElem (by rw [← HN.out]; exact hlt)
      obtain ⟨b1, o1, e1, l1, x1⟩ := G1.out j _ hx
      obtain ⟨b2, o2, e2, l2, x2⟩ := G2.out j _ hx
      subst e1
      subst e2
      have y1 := (hor.cellAt b1 (o1 + j) l1 (by simp)).trans x1
      have y2 := (hor.cellAt b2 (o2 + j) l2 (by simp)).trans x2
      obtain ⟨z, ez⟩ : ∃ z, z = xs[j] := ⟨_, rfl⟩
      rw [← ez] at y1 y2
      clear ez x1 x2 hx l1 l2
      go_wp2_with fail
      go_quiet (fail)
      go_wp2_with fail
      go_roundw
      case rel => exact ⟨j + 1, by omega, by go_num, hor.drewN _⟩
      case measure => simp [intOf]; omega
    · obtain rfl : j = n := by omega
      have j64 : ¬ (j : Int) < j := by omega
      go_wp2_with fail
      go_ret
      exact ⟨rfl, hor⟩

/-- A model's row, as numbers; nothing: there is none. -/
def rowB (c : Cfg) (s : ByteArray) (p k a : Int) : List Int := if inR c p k = true ∧ 0 ≤ a ∧ a < (c.side p).1 then rowI (bl (tabS c s p k)) (c.side p).2.toNat a.toNat else []

set_option maxRecDepth 100000 in
set_option maxHeartbeats 8000000 in
theorem brainRow_any (b : Nat) (c : Cfg) (s : ByteArray) (p k a : Int) (h : CanBe c) (hs : (s.size : Int) = c.all) (w : World) (hb : Blk w b (brnC c s) 38) :
    Calls Try.prog 46 #[.pointer (some ⟨b, 0, none⟩), .int .i64 p, .int .i64 k, .int .i64 a] w fun e w' => ∃ V, e = .returned V ∧ Ints w' V (rowB c s p k a) ∧ Only [] w w' := by
  have hst := St.with (S := []) hb
  by_cases hi : inR c p k = true
  · have TB : Hid (∀ w, Blk w b (brnC c s) 38 → Calls Try.prog 15 #[.pointer (some ⟨b, 0, none⟩), .int .i64 p, .int .i64 k] w fun e w' => ∃ g cp rest, e = .returned (.tuple #[.agg #[.int .i64 (c.side p).1, .int .i64 (c.side p).2, .slice (some ⟨g, 0, none⟩) (tabS c s p k).size cp], .bool true]) ∧ (tabS c s p k).size ≤ cp ∧ w.heap.size ≤ g ∧ Blk w' g (i8s (bl (tabS c s p k)) ++ rest) 142 ∧ Only [] w w') := fun w hw => brainTable_yes b c s p k h hs hi w hw
    have hsd := inR_side h.fit hi
    have hts := tabS_size h.fit hs hi
    have RW : Hid (∀ g cp rest w, (tabS c s p k).size ≤ cp → Blk w g (i8s (bl (tabS c s p k)) ++ rest) 142 → Calls Try.prog 109 #[.agg #[.int .i64 (c.side p).1, .int .i64 (c.side p).2, .slice (some ⟨g, 0, none⟩) (tabS c s p k).size cp], .int .i64 a] w fun e w' => ∃ V, e = .returned V ∧ Ints w' V (rowB c s p k a) ∧ Only [] w w') := fun g cp rest w hcp hB => by
      by_cases ha : 0 ≤ a ∧ a < (c.side p).1
      · have e : rowB c s p k a = rowI (bl (tabS c s p k)) (c.side p).2.toNat a.toNat := by unfold rowB; rw [if_pos ⟨hi, ha⟩]
        rw [e]
        refine (vecsRow_yes _ _ g cp _ rest a w hsd.1 (by omega) hsd.2.2.1 (by omega) hts ha.1 ha.2 hcp hB).mono ?_
        rintro e w' ⟨V, rfl, hV, ho⟩
        refine ⟨V, rfl, Ints.of_owns hV (rowI_length _ _ _ ?_), ho⟩
        rw [bl_length]
        have h1 : (a + 1) * (c.side p).2 ≤ (c.side p).1 * (c.side p).2 := Int.mul_le_mul_of_nonneg_right (by omega) (by omega)
        rw [← hts] at h1
        have h2 : (((a.toNat + 1) * (c.side p).2.toNat : Nat) : Int) = (a + 1) * (c.side p).2 := by
          rw [Int.natCast_mul, show ((a.toNat + 1 : Nat) : Int) = a + 1 by omega, show (((c.side p).2.toNat : Nat) : Int) = (c.side p).2 by omega]
        omega
      · have e : rowB c s p k a = [] := by unfold rowB; rw [if_neg (fun hh => ha hh.2)]
        rw [e]
        refine (vecsRow_no _ _ _ _ cp a w hsd.1 (by omega) hsd.2.2.1 (by omega) hts (by omega)).mono ?_
        rintro e w' ⟨rfl, ho⟩
        exact ⟨_, rfl, .inl ⟨⟨_, _, rfl⟩, rfl⟩, ho⟩
    generalize brnC c s = K at *
    generalize rowB c s p k a = X at *
    generalize tabS c s p k = t at *
    generalize (c.side p).1 = x at *
    generalize (c.side p).2 = y at *
    clear hi hb h hs hsd hts
    go_enter Try.func46, Try.ntmps46
    go_wp2_with (first
      | ((with_reducible refine wpL_peel rfl ?_ ?_); focus (go_simp; done)) | ((with_reducible refine wpL_isLoad rfl ?_); first | (refine wpL_loadAtS hst rfl (ty := 31) rfl 0 rfl rfl (by kernel_rfl) 3 (by kernel_rfl) [_, _, _] rfl rfl ?_) | (refine wpL_loadAtS hst rfl (ty := 31) rfl 1 rfl rfl (by kernel_rfl) 3 (by kernel_rfl) [_, _, _] rfl rfl ?_) | (refine wpL_loadAtS hst rfl (ty := 31) rfl 2 rfl rfl (by kernel_rfl) 3 (by kernel_rfl) [_, _, _] rfl rfl ?_) | (refine wpL_loadAtS hst rfl (ty := 31) rfl 3 rfl rfl (by kernel_rfl) 3 (by kernel_rfl) [_, _, _] rfl rfl ?_) | (refine wpL_load1S hst rfl rfl 0 rfl rfl rfl (by kernel_rfl) ?_) | (refine wpL_load1S hst rfl rfl 1 rfl rfl rfl (by kernel_rfl) ?_) | (refine wpL_load1S hst rfl rfl 2 rfl rfl rfl (by kernel_rfl) ?_) | (refine wpL_load1S hst rfl rfl 3 rfl rfl rfl (by kernel_rfl) ?_))
      | ((with_reducible refine wpL_isStore rfl ?_); first | (refine wpL_storeS hst rfl (ty := 31) rfl 0 rfl rfl rfl (by kernel_rfl) (by kernel_rfl) rfl rfl ?_; clear hst; intro w1 hst; simp only [List.set] at hst) | (refine wpL_storeS hst rfl (ty := 31) rfl 1 rfl rfl rfl (by kernel_rfl) (by kernel_rfl) rfl rfl ?_; clear hst; intro w1 hst; simp only [List.set] at hst) | (refine wpL_storeS hst rfl (ty := 31) rfl 2 rfl rfl rfl (by kernel_rfl) (by kernel_rfl) rfl rfl ?_; clear hst; intro w1 hst; simp only [List.set] at hst) | (refine wpL_storeS hst rfl (ty := 31) rfl 3 rfl rfl rfl (by kernel_rfl) (by kernel_rfl) rfl rfl ?_; clear hst; intro w1 hst; simp only [List.set] at hst) | (refine wpL_store1S hst rfl rfl 0 rfl rfl rfl rfl (by kernel_rfl) rfl ?_; clear hst; intro w1 hst; simp only [List.set] at hst) | (refine wpL_store1S hst rfl rfl 1 rfl rfl rfl rfl (by kernel_rfl) rfl ?_; clear hst; intro w1 hst; simp only [List.set] at hst) | (refine wpL_store1S hst rfl rfl 2 rfl rfl rfl rfl (by kernel_rfl) rfl ?_; clear hst; intro w1 hst; simp only [List.set] at hst) | (refine wpL_store1S hst rfl rfl 3 rfl rfl rfl rfl (by kernel_rfl) rfl ?_; clear hst; intro w1 hst; simp only [List.set] at hst))
      | ((with_reducible refine wpL_isAlloc rfl ?_); refine wpL_allocS hst rfl 31 rfl (.agg #[.int .i64 0, .int .i64 0, .slice none 0 0]) [.int .i64 0, .int .i64 0, .slice none 0 0] (by kernel_rfl) rfl _ rfl ?_; clear hst; intro w1 b1 hb1 hst)
      | (go_at_call 15; refine (TB.out _ (hst.blk 0 rfl)).mono ?_; rintro e1 w1 ⟨g, cp, rest, rfl, hcp, hg, hV, ho1⟩; replace hst := hst.new ho1 hV hg; clear ho1 hV)
      | (go_at_call 109; refine (RW.out g cp rest _ hcp (hst.blk 1 rfl)).mono ?_; rintro e1 w1 ⟨V, rfl, hV, ho1⟩; replace hst := hst.keep ho1; clear ho1))
    go_ret
    exact ⟨V, rfl, hV, hst.only⟩
  · have hi' : inR c p k = false := by simpa using hi
    have TB := Lib.hid (fun w hw => brainTable_no b c s p k h hi' w hw)
    have HR : Hid (rowB c s p k a = []) := by show _ = _; unfold rowB; rw [if_neg (fun hh => hi hh.1)]
    rw [HR.out]
    generalize brnC c s = K at *
    clear hi hi' hb h hs
    go_enter Try.func46, Try.ntmps46
    go_wp2_with (first
      | ((with_reducible refine wpL_peel rfl ?_ ?_); focus (go_simp; done)) | ((with_reducible refine wpL_isLoad rfl ?_); first | (refine wpL_loadAtS hst rfl (ty := 31) rfl 0 rfl rfl (by kernel_rfl) 3 (by kernel_rfl) [_, _, _] rfl rfl ?_) | (refine wpL_loadAtS hst rfl (ty := 31) rfl 1 rfl rfl (by kernel_rfl) 3 (by kernel_rfl) [_, _, _] rfl rfl ?_) | (refine wpL_loadAtS hst rfl (ty := 31) rfl 2 rfl rfl (by kernel_rfl) 3 (by kernel_rfl) [_, _, _] rfl rfl ?_) | (refine wpL_loadAtS hst rfl (ty := 31) rfl 3 rfl rfl (by kernel_rfl) 3 (by kernel_rfl) [_, _, _] rfl rfl ?_) | (refine wpL_load1S hst rfl rfl 0 rfl rfl rfl (by kernel_rfl) ?_) | (refine wpL_load1S hst rfl rfl 1 rfl rfl rfl (by kernel_rfl) ?_) | (refine wpL_load1S hst rfl rfl 2 rfl rfl rfl (by kernel_rfl) ?_) | (refine wpL_load1S hst rfl rfl 3 rfl rfl rfl (by kernel_rfl) ?_))
      | ((with_reducible refine wpL_isStore rfl ?_); first | (refine wpL_storeS hst rfl (ty := 31) rfl 0 rfl rfl rfl (by kernel_rfl) (by kernel_rfl) rfl rfl ?_; clear hst; intro w1 hst; simp only [List.set] at hst) | (refine wpL_storeS hst rfl (ty := 31) rfl 1 rfl rfl rfl (by kernel_rfl) (by kernel_rfl) rfl rfl ?_; clear hst; intro w1 hst; simp only [List.set] at hst) | (refine wpL_storeS hst rfl (ty := 31) rfl 2 rfl rfl rfl (by kernel_rfl) (by kernel_rfl) rfl rfl ?_; clear hst; intro w1 hst; simp only [List.set] at hst) | (refine wpL_storeS hst rfl (ty := 31) rfl 3 rfl rfl rfl (by kernel_rfl) (by kernel_rfl) rfl rfl ?_; clear hst; intro w1 hst; simp only [List.set] at hst) | (refine wpL_store1S hst rfl rfl 0 rfl rfl rfl rfl (by kernel_rfl) rfl ?_; clear hst; intro w1 hst; simp only [List.set] at hst) | (refine wpL_store1S hst rfl rfl 1 rfl rfl rfl rfl (by kernel_rfl) rfl ?_; clear hst; intro w1 hst; simp only [List.set] at hst) | (refine wpL_store1S hst rfl rfl 2 rfl rfl rfl rfl (by kernel_rfl) rfl ?_; clear hst; intro w1 hst; simp only [List.set] at hst) | (refine wpL_store1S hst rfl rfl 3 rfl rfl rfl rfl (by kernel_rfl) rfl ?_; clear hst; intro w1 hst; simp only [List.set] at hst))
      | ((with_reducible refine wpL_isAlloc rfl ?_); refine wpL_allocS hst rfl 31 rfl (.agg #[.int .i64 0, .int .i64 0, .slice none 0 0]) [.int .i64 0, .int .i64 0, .slice none 0 0] (by kernel_rfl) rfl _ rfl ?_; clear hst; intro w1 b1 hb1 hst)
      | (go_at_call 15; (with_reducible refine (TB.out _ (hst.blk 0 rfl)).mono ?_); rintro e1 w1 ⟨rfl, ho1⟩; replace hst := hst.keep ho1; clear ho1))
    go_ret
    exact ⟨_, rfl, .inl ⟨⟨_, _, rfl⟩, rfl⟩, hst.only⟩

end Go.Proofs.Ytgdifegbpbnekaa
