/- The law ShaTrees. -/
import Derived.Test.YtlciphmjkbihkaaShaF
import Derived.Test.YtlciphmjkbihkaaText
namespace Go.Proofs.Ytlciphmjkbihkaa
open Go.RowKit

theorem level_append : ∀ (m : Nat) (a b : List (List UInt8)), a.length = 2 * m → Sha.level (a ++ b) = Sha.level a ++ Sha.level b
  | 0, [], b, _ => rfl
  | 0, _ :: _, _, h => by simp at h
  | m + 1, [], _, h => by simp at h
  | m + 1, [_], _, h => by simp at h; omega
  | m + 1, x :: y :: r, b, h => by
    show Sha.pair x y :: Sha.level (r ++ b) = Sha.pair x y :: Sha.level r ++ Sha.level b
    rw [level_append m r b (by simp at h; omega)]
    rfl
theorem tree_levels (l : List (List UInt8)) : Sha.tree (Sha.level l) = Sha.tree l := by
  rcases Nat.lt_or_ge l.length 2 with h | h
  · match l with
    | [] => rfl
    | [_] => rfl
    | _ :: _ :: _ => exact absurd h (by simp)
  · exact (Sha.tree_level l h).symm
/-- A tree is the pair of two trees: the first part as long as a power of two, the rest no longer. -/
theorem tree_pair : ∀ (e : Nat) (a b : List (List UInt8)), a.length = 2 ^ e → b ≠ [] → b.length ≤ 2 ^ e → Sha.tree (a ++ b) = Sha.pair (Sha.tree a) (Sha.tree b)
  | 0, a, b, ha, hb, hl => by
    match a, b, ha, hb, hl with
    | [x], [y], _, _, _ => rfl
    | [], _, ha, _, _ => simp at ha
    | _ :: _ :: _, _, ha, _, _ => simp at ha
    | [_], [], _, hb, _ => exact absurd rfl hb
    | [_], _ :: _ :: _, _, _, hl => simp at hl
  | e + 1, a, b, ha, hb, hl => by
    have hbl : 0 < b.length := List.length_pos_iff.2 hb
    have h2 : 2 ^ (e + 1) = 2 * 2 ^ e := by rw [Nat.pow_succ]; omega
    rw [← tree_levels, level_append (2 ^ e) a b (by omega), tree_pair e (Sha.level a) (Sha.level b) (by rw [Sha.level_length]; omega) (fun h => by have := Sha.level_length b; rw [h] at this; simp at this; omega) (by rw [Sha.level_length]; omega), tree_levels, tree_levels]

/-- What comes in: a row of sums, or none. -/
def DigsOr (w : World) (v : Value) (ds : List (List UInt8)) : Prop := (ds = [] ∧ v = .slice none 0 0) ∨ Digs w v ds

theorem Digs.take {w : World} {bk o c : Nat} {ds : List (List UInt8)} {n : Nat} (h : Digs w (.slice (some ⟨bk, o, none⟩) ds.length c) ds) (hn : n ≤ ds.length) : Digs w (.slice (some ⟨bk, o, none⟩) n c) (ds.take n) := by
  obtain ⟨bk', o', c', e, h1, h2, h3⟩ := h
  injection e with e1 e2 e3
  injection e1 with e1
  injection e1 with e4 e5
  subst e3 e4 e5
  refine ⟨bk, o, c, by rw [List.length_take, Nat.min_eq_left hn], by rw [List.length_take]; omega, h2, fun j u hu => h3 j u ?_⟩
  have : digCells ds = digCells (ds.take n) ++ digCells (ds.drop n) := by rw [← digCells_append, List.take_append_drop]
  rw [this, List.getElem?_append_left (List.getElem?_eq_some_iff.1 hu).1]
  exact hu
theorem Digs.drop {w : World} {bk o c : Nat} {ds : List (List UInt8)} {n : Nat} (hw : Wide ds) (h : Digs w (.slice (some ⟨bk, o, none⟩) ds.length c) ds) (hn : n ≤ ds.length) : Digs w (.slice (some ⟨bk, o + n * 32, none⟩) (ds.length - n) (c - n)) (ds.drop n) := by
  obtain ⟨bk', o', c', e, h1, h2, h3⟩ := h
  injection e with e1 e2 e3
  injection e1 with e1
  injection e1 with e4 e5
  subst e3 e4 e5
  refine ⟨bk, o + n * 32, c - n, by rw [List.length_drop], by rw [List.length_drop]; omega, h2, fun j u hu => ?_⟩
  rw [Nat.add_assoc]
  refine h3 (n * 32 + j) u ?_
  rw [digCells_drop ds hw n, List.getElem?_drop] at hu
  exact hu

set_option maxRecDepth 100000 in
set_option maxHeartbeats 2000000 in
theorem trees_far (a : Option Addr) (len cap : Nat) (x : Int) (w : World) (E : Int) (N : Nat) (hEN : (E = 0 ∧ N = 1) ∨ (E = 1 ∧ N = 2) ∨ (E = 2 ∧ N = 4) ∨ (E = 3 ∧ N = 8)) (hE : (IntKind.u64.wrap x).tmod 4 = E) (h : len ≤ N ∨ 2 * N < len) :
    Calls Try.prog 9 #[.slice a len cap, .int .i64 x] w fun e w' => e = .returned (.bool true) ∧ Only [] w w' := by
  rcases hEN with ⟨rfl, rfl⟩ | ⟨rfl, rfl⟩ | ⟨rfl, rfl⟩ | ⟨rfl, rfl⟩
  all_goals
    rcases h with h | h
    · go_enter Try.func9, Try.ntmps9
      go_wp2_with (go_at_call 32; refine (awake_any _).mono ?_; rintro e w1 ⟨rfl, ho1⟩)
      go_ret
      exact ⟨rfl, ho1⟩
    · go_enter Try.func9, Try.ntmps9
      go_wp2_with (go_at_call 32; refine (awake_any _).mono ?_; rintro e w1 ⟨rfl, ho1⟩)
      go_ret
      exact ⟨rfl, ho1⟩

set_option maxRecDepth 100000 in
set_option maxHeartbeats 2000000 in
theorem trees_near (bk o c : Nat) (ds : List (List UInt8)) (x : Int) (w : World) (E : Int) (N M : Nat) (hEN : (E = 0 ∧ N = 1 ∧ M = 32) ∨ (E = 1 ∧ N = 2 ∧ M = 64) ∨ (E = 2 ∧ N = 4 ∧ M = 128) ∨ (E = 3 ∧ N = 8 ∧ M = 256)) (hE : (IntKind.u64.wrap x).tmod 4 = E)
    (h1 : N < ds.length) (h2 : ds.length ≤ 2 * N) (hw : Wide ds) (hd : Digs w (.slice (some ⟨bk, o, none⟩) ds.length c) ds) :
    Calls Try.prog 9 #[.slice (some ⟨bk, o, none⟩) ds.length c, .int .i64 x] w fun e w' => e = .returned (.bool true) ∧ Only [] w w' := by
  have hM : M = N * 32 := by omega
  have hmax : ds.length ≤ 1099511627776 := by omega
  have hcap : ds.length ≤ c := by
    obtain ⟨_, _, _, e, h1, _⟩ := hd
    injection e with e1 e2 e3
    omega
  obtain ⟨tA, eA⟩ : ∃ t, t = Sha.tree ds := ⟨_, rfl⟩
  obtain ⟨tB, eB⟩ : ∃ t, t = Sha.tree (ds.take N) := ⟨_, rfl⟩
  obtain ⟨tC, eC⟩ : ∃ t, t = Sha.tree (ds.drop N) := ⟨_, rfl⟩
  have LB : Hid (tB.length = 32) := by rw [eB]; exact tree_wide _ _ (Nat.le_refl _) (hw.take N)
  have LC : Hid (tC.length = 32) := by rw [eC]; exact tree_wide _ _ (Nat.le_refl _) (hw.drop N)
  have LA : Hid (tA.length = 32) := by rw [eA]; exact tree_wide _ _ (Nat.le_refl _) hw
  have hP : Sha.pair tB tC = tA := by
    rw [eA, eB, eC]
    have hl1 : (ds.take N).length = N := by rw [List.length_take]; omega
    have hl2 : (ds.drop N).length = ds.length - N := List.length_drop
    have : ∃ e, N = 2 ^ e := by
      rcases hEN with ⟨_, rfl, _⟩ | ⟨_, rfl, _⟩ | ⟨_, rfl, _⟩ | ⟨_, rfl, _⟩
      · exact ⟨0, rfl⟩
      · exact ⟨1, rfl⟩
      · exact ⟨2, rfl⟩
      · exact ⟨3, rfl⟩
    obtain ⟨e, he⟩ := this
    have := tree_pair e (ds.take N) (ds.drop N) (by rw [hl1, he]) (fun h => by rw [h] at hl2; simp at hl2; omega) (by rw [hl2, ← he]; omega)
    rw [List.take_append_drop] at this
    exact this.symm
  have hdt := hd.take (n := N) (by omega)
  have hdd := Digs.drop (n := N) hw hd (by omega)
  rw [← hM] at hdd
  have hn1 : ds.take N ≠ [] := fun h => by have := congrArg List.length h; rw [List.length_take, List.length_nil] at this; omega
  have hn2 : ds.drop N ≠ [] := fun h => by have := congrArg List.length h; rw [List.length_drop, List.length_nil] at this; omega
  have hn0 : ds ≠ [] := fun h => by rw [h] at h1; simp at h1
  have T0 : Hid (∀ w', Only [] w w' → Calls Try.prog 38 #[.slice (some ⟨bk, o, none⟩) ds.length c] w' fun e w2 => e = .returned (.agg (Lib.byteCells tA).toArray) ∧ Only [] w' w2) := fun w' ho => by
    rw [eA]; exact tree_any _ ds w' hw hmax (.inr ⟨hn0, hd.keep ho⟩)
  have T1 : Hid (∀ w', Only [] w w' → Calls Try.prog 38 #[.slice (some ⟨bk, o, none⟩) N c] w' fun e w2 => e = .returned (.agg (Lib.byteCells tB).toArray) ∧ Only [] w' w2) := fun w' ho => by
    rw [eB]; exact tree_any _ _ w' (hw.take N) (by rw [List.length_take]; omega) (.inr ⟨hn1, hdt.keep ho⟩)
  have T2 : Hid (∀ w', Only [] w w' → Calls Try.prog 38 #[.slice (some ⟨bk, o + M, none⟩) (ds.length - N) (c - N)] w' fun e w2 => e = .returned (.agg (Lib.byteCells tC).toArray) ∧ Only [] w' w2) := fun w' ho => by
    rw [eC]; exact tree_any _ _ w' (hw.drop N) (by rw [List.length_drop]; omega) (.inr ⟨hn2, hdd.keep ho⟩)
  have PR : Hid (∀ w, Calls Try.prog 36 #[.agg (Lib.byteCells tB).toArray, .agg (Lib.byteCells tC).toArray] w fun e w' => e = .returned (.agg (Lib.byteCells tA).toArray) ∧ Only [] w w') := fun w => by
    have := pair_any tB tC w LB.out LC.out
    rwa [hP] at this
  clear eA eB eC hP hdt hdd hn1 hn2 hn0 hM hd hw
  generalize ds.length = len at *
  clear ds
  rcases hEN with ⟨rfl, rfl, rfl⟩ | ⟨rfl, rfl, rfl⟩ | ⟨rfl, rfl, rfl⟩ | ⟨rfl, rfl, rfl⟩
  all_goals
    go_enter Try.func9, Try.ntmps9
    go_wp2_with (go_at_call 32; refine (awake_any _).mono ?_; rintro e w1 ⟨rfl, ho1⟩)
    refine wp_region_text (by kernel_rfl) (by kernel_rfl) ?_
    go_wp2_with (go_at_call 38; refine (T0.out _ ho1.drew).mono ?_)
    rintro e w2 ⟨rfl, ho2⟩
    have o2 := ho1.drew.trans ho2
    go_wp2_with (go_at_call 38; refine (T1.out _ o2).mono ?_)
    rintro e w3 ⟨rfl, ho3⟩
    have o3 := o2.trans ho3
    go_wp2_with (first
      | (go_at_call 38; refine (T2.out _ o3).mono ?_; rintro e w4 ⟨rfl, ho4⟩)
      | (go_at_call 36; refine (PR.out _).mono ?_; rintro e w5 ⟨rfl, ho5⟩)
      | (refine wpL_eql_bytes rfl 57 _ (.tmp 24) (.tmp 33) rfl 5 32 Try.underlying57 Try.underlying5 (by kernel_rfl) (by kernel_rfl) tA tA rfl rfl LA.out LA.out true (by simp) ?_))
    refine TextQ.mk ?_ ?_
    case refine_2 => repeat' (first | exact rfl | exact fine_bytes rfl rfl rfl | refine fine_cons ?_ ?_)
    go_wp2_with fail
    go_ret
    exact ⟨rfl, (o3.trans ho4).trans ho5⟩

end Go.Proofs.Ytlciphmjkbihkaa
