/- Zones: written; made. -/
import Derived.Test.YtmogkiacakkmbaaDskJ
namespace Go.Proofs.Ytmogkiacakkmbaa
open Go.RowKit

def zcells (d f n : Nat) : List Value := [.pointer (some ⟨d, 0, none⟩), .int .i64 (f : Int), .int .i64 (n : Int)]
def zIn (n : Nat) (a : Int) : Bool := decide (0 ≤ a) && decide (a < (n : Int))
def zreadE (m : DM) (f n : Nat) (a : Int) : Int := if zIn n a then m.check ((f : Int) + a) else 3
def zread (m : DM) (f n : Nat) (a : Int) : ByteArray := if zIn n a then m.read ((f : Int) + a) else ⟨#[]⟩
def zwriteE (m : DM) (f n : Nat) (a : Int) (s : ByteArray) : Int := if s.size ≠ 32 then 1 else if zIn n a then m.writeE ((f : Int) + a) s else 3
def zwrite (m : DM) (f n : Nat) (a : Int) (s : ByteArray) : DM := if s.size ≠ 32 then m else if zIn n a then m.write ((f : Int) + a) s else m
def partOk (f n all : Int) : Bool := decide (1 ≤ n) && decide (0 ≤ f) && decide (f < all) && decide (n ≤ all - f)

set_option maxRecDepth 100000 in
set_option maxHeartbeats 2000000 in
theorem isPart_any (f n : Int) (all : Nat) (w : World) (ha : all ≤ 4096) :
    Calls Try.prog 79 #[.int .i64 f, .int .i64 n, .int .i64 (all : Int)] w fun e w' => e = .returned (.bool (partOk f n all)) ∧ w = w' := by
  have ha' : (all : Int) ≤ 4096 := by omega
  unfold partOk
  by_cases c1 : 1 ≤ n
  · by_cases c2 : 0 ≤ f
    · by_cases c3 : f < (all : Int)
      · rw [decide_eq_true c1, decide_eq_true c2, decide_eq_true c3]
        go_enter Try.func79, Try.ntmps79
        go_wp2_with fail
        go_ret
        exact ⟨rfl, rfl⟩
      · rw [decide_eq_true c1, decide_eq_true c2, decide_eq_false c3]
        go_enter Try.func79, Try.ntmps79
        go_wp2_with fail
        go_ret
        exact ⟨rfl, rfl⟩
    · rw [decide_eq_true c1, decide_eq_false c2]
      go_enter Try.func79, Try.ntmps79
      go_wp2_with fail
      go_ret
      exact ⟨rfl, rfl⟩
  · rw [decide_eq_false c1]
    go_enter Try.func79, Try.ntmps79
    go_wp2_with fail
    go_ret
    exact ⟨rfl, rfl⟩

set_option maxRecDepth 100000 in
set_option maxHeartbeats 2000000 in
theorem zonLen_any (z d f n : Nat) (w : World) (hz : Blk w z (zcells d f n) 34) :
    Calls Try.prog 80 #[.pointer (some ⟨z, 0, none⟩)] w fun e w' => e = .returned (.int .i64 (n : Int)) ∧ w = w' := by
  unfold zcells at hz
  have hst := Sd.of (St.with (S := []) hz)
  clear hz
  go_enter Try.func80, Try.ntmps80
  go_wp2_with (first | ((with_reducible refine wpL_peel rfl ?_ ?_); focus (go_simp; done)) | ((with_reducible refine wpL_isLoad rfl ?_); first | (refine wpL_load1S hst.st rfl rfl 0 rfl rfl rfl (by kernel_rfl) ?_)))
  go_ret
  exact ⟨rfl, rfl⟩

set_option maxRecDepth 100000 in
set_option maxHeartbeats 2000000 in
theorem zonIsIn_any (z d f n : Nat) (a : Int) (w : World) (hz : Blk w z (zcells d f n) 34) :
    Calls Try.prog 101 #[.pointer (some ⟨z, 0, none⟩), .int .i64 a] w fun e w' => e = .returned (.bool (zIn n a)) ∧ w = w' := by
  unfold zcells at hz
  have hst := Sd.of (St.with (S := []) hz)
  clear hz
  unfold zIn
  by_cases c1 : 0 ≤ a
  · rw [decide_eq_true c1]
    by_cases c2 : a < (n : Int)
    · rw [decide_eq_true c2]
      go_enter Try.func101, Try.ntmps101
      go_wp2_with (first | ((with_reducible refine wpL_peel rfl ?_ ?_); focus (go_simp; done)) | ((with_reducible refine wpL_isLoad rfl ?_); first | (refine wpL_load1S hst.st rfl rfl 0 rfl rfl rfl (by kernel_rfl) ?_)))
      go_ret
      exact ⟨rfl, rfl⟩
    · rw [decide_eq_false c2]
      go_enter Try.func101, Try.ntmps101
      go_wp2_with (first | ((with_reducible refine wpL_peel rfl ?_ ?_); focus (go_simp; done)) | ((with_reducible refine wpL_isLoad rfl ?_); first | (refine wpL_load1S hst.st rfl rfl 0 rfl rfl rfl (by kernel_rfl) ?_)))
      go_ret
      exact ⟨rfl, rfl⟩
  · rw [decide_eq_false c1]
    go_enter Try.func101, Try.ntmps101
    go_wp2_with (first | ((with_reducible refine wpL_peel rfl ?_ ?_); focus (go_simp; done)) | ((with_reducible refine wpL_isLoad rfl ?_); first | (refine wpL_load1S hst.st rfl rfl 0 rfl rfl rfl (by kernel_rfl) ?_)))
    go_ret
    exact ⟨rfl, rfl⟩
theorem zIn_iff {n : Nat} {a : Int} : zIn n a = true ↔ 0 ≤ a ∧ a < (n : Int) := by unfold zIn; simp

set_option maxRecDepth 100000 in
set_option maxHeartbeats 4000000 in
theorem zonRead_any (z d f n : Nat) (m : DM) (F : List Nat) (a : Int) (w : World) (hz : Blk w z (zcells d f n) 34) (hd : DiskAt w d m F) (hzF : z ∉ F) (hf : f ≤ 4096) (hn : n ≤ 4096) (few : m.loose.length ≤ 1000000) :
    Calls Try.prog 83 #[.pointer (some ⟨z, 0, none⟩), .int .i64 a] w fun e w' => e = .returned (.tuple #[.string (zread m f n a), .int .i64 (zreadE m f n a)]) ∧ Only [] w w' := by
  have hst := (Sd.withQ [] (diskQ d m F) hd rfl).read hz (by simp) (fun r hr => by simp only [List.mem_singleton] at hr; subst hr; exact hzF)
  unfold zcells at hst
  unfold zread zreadE
  have II : Hid (∀ w, Blk w z (zcells d f n) 34 → Calls Try.prog 101 #[.pointer (some ⟨z, 0, none⟩), .int .i64 a] w fun e w' => e = .returned (.bool (zIn n a)) ∧ w = w') := fun w h => zonIsIn_any z d f n a w h
  have hzi := @zIn_iff n a
  cases hi : zIn n a
  · rw [hi] at II
    clear hz hd hzF hzi
    go_enter Try.func83, Try.ntmps83
    go_wp2_with (first | (go_at_call 101; (with_reducible refine (II.out _ (hst.blk 0 rfl)).mono ?_); rintro e1 w1 ⟨rfl, rfl⟩))
    go_ret2
    exact ⟨rfl, hst.only⟩
  · rw [hi] at II
    obtain ⟨h0, h1⟩ := hzi.1 hi
    have RD : Hid (∀ w, DiskAt w d m F → Calls Try.prog 133 #[.pointer (some ⟨d, 0, none⟩), .int .i64 ((f : Int) + a)] w fun e w' => e = .returned (.tuple #[.string (m.read ((f : Int) + a)), .int .i64 (m.check ((f : Int) + a))]) ∧ Only [] w w') := fun w h => dskRead_any d m F _ w h few
    generalize m.read ((f : Int) + a) = rv at *
    generalize m.check ((f : Int) + a) = re at *
    have hb : (f : Int) + a ≤ 8192 := by omega
    clear hz hd hzF hzi
    go_enter Try.func83, Try.ntmps83
    go_wp2_with (first | (go_at_call 101; (with_reducible refine (II.out _ (hst.blk 0 rfl)).mono ?_); rintro e1 w1 ⟨rfl, rfl⟩))
    replace hst := hst.drew
    refine wp_region_text (by kernel_rfl) (by kernel_rfl) ?_
    generalize World.drew _ = W at *
    go_wp2_with (first | ((with_reducible refine wpL_peel rfl ?_ ?_); focus (go_simp; done)) | ((with_reducible refine wpL_isLoad rfl ?_); first | (refine wpL_load1S hst.st rfl rfl 0 rfl rfl rfl (by kernel_rfl) ?_)) | (go_at_call 133; (with_reducible refine (RD.out _ (hst.rs 0 rfl)).mono ?_); rintro e1 w1 ⟨rfl, ho1⟩; replace hst := hst.keep ho1; clear ho1))
    refine TextQ.mk ?_ rfl
    go_wp2_with fail
    go_ret2
    exact ⟨rfl, hst.only⟩
end Go.Proofs.Ytmogkiacakkmbaa

namespace Go.Proofs.Ytmogkiacakkmbaa
open Go.RowKit

set_option maxRecDepth 100000 in
set_option maxHeartbeats 4000000 in
theorem zonWrite_any (z d f n : Nat) (m : DM) (F : List Nat) (a : Int) (s : ByteArray) (w : World) (hz : Blk w z (zcells d f n) 34) (hd : DiskAt w d m F) (hzF : z ∉ F) (hf : f ≤ 4096) (hn : n ≤ 4096) (h0 : 0 < m.len) (few : m.loose.length ≤ 1000000) :
    Calls Try.prog 40 #[.pointer (some ⟨z, 0, none⟩), .int .i64 a, .string s] w fun e w' => ∃ F', e = .returned (.int .i64 (zwriteE m f n a s)) ∧ DiskAt w' d (zwrite m f n a s) F' ∧ Turn F F' w w' := by
  have hst := (Sd.withQ [] (diskQ d m F) hd rfl).read hz (by simp) (fun r hr => by simp only [List.mem_singleton] at hr; subst hr; exact hzF)
  unfold zcells at hst
  have II : Hid (∀ w, Blk w z (zcells d f n) 34 → Calls Try.prog 101 #[.pointer (some ⟨z, 0, none⟩), .int .i64 a] w fun e w' => e = .returned (.bool (zIn n a)) ∧ w = w') := fun w h => zonIsIn_any z d f n a w h
  have hzi := @zIn_iff n a
  by_cases hs : s.size = 32
  · have hs1 : ((s.size : Int) != 32) = false := by simp; omega
    have hs2 : ¬ s.size ≠ 32 := fun h => h hs
    cases hi : zIn n a
    · rw [hi] at II
      have eE : zwriteE m f n a s = 3 := by unfold zwriteE; rw [if_neg hs2, hi]; rfl
      have eW : zwrite m f n a s = m := by unfold zwrite; rw [if_neg hs2, hi]; rfl
      rw [eE, eW]
      clear eE eW
      clear hz hd hzF hzi
      go_enter Try.func40, Try.ntmps40
      go_wp2_with (first | (go_at_call 101; (with_reducible refine (II.out _ (hst.blk 0 rfl)).mono ?_); rintro e1 w1 ⟨rfl, rfl⟩))
      go_ret
      exact ⟨F, rfl, hst.rs 0 rfl, Turn.refl _ _⟩
    · rw [hi] at II
      obtain ⟨h0', h1⟩ := hzi.1 hi
      have WR : Hid (∀ w, DiskAt w d m F → Calls Try.prog 102 #[.pointer (some ⟨d, 0, none⟩), .int .i64 ((f : Int) + a), .string s] w fun e w' => ∃ F', e = .returned (.int .i64 (m.writeE ((f : Int) + a) s)) ∧ DiskAt w' d (m.write ((f : Int) + a) s) F' ∧ Turn F F' w w') := fun w h => dskWrite_any d m F _ s w h h0 few
      have eE : zwriteE m f n a s = m.writeE ((f : Int) + a) s := by unfold zwriteE; rw [if_neg hs2, hi]; rfl
      have eW : zwrite m f n a s = m.write ((f : Int) + a) s := by unfold zwrite; rw [if_neg hs2, hi]; rfl
      rw [eE, eW]
      clear eE eW
      generalize m.write ((f : Int) + a) s = m' at *
      generalize m.writeE ((f : Int) + a) s = re at *
      have hb : (f : Int) + a ≤ 8192 := by omega
      clear hz hd hzF hzi
      go_enter Try.func40, Try.ntmps40
      go_wp2_with (first | (go_at_call 101; (with_reducible refine (II.out _ (hst.blk 0 rfl)).mono ?_); rintro e1 w1 ⟨rfl, rfl⟩))
      replace hst := hst.drew
      refine wp_region_text (by kernel_rfl) (by kernel_rfl) ?_
      have HW := Lib.hid (Turn.of_only (F := F) ((Only.refl [] w).drew))
      generalize World.drew _ = W at *
      go_wp2_with (first | ((with_reducible refine wpL_peel rfl ?_ ?_); focus (go_simp; done)) | ((with_reducible refine wpL_isLoad rfl ?_); first | (refine wpL_load1S hst.st rfl rfl 0 rfl rfl rfl (by kernel_rfl) ?_)) | (go_at_call 102; (with_reducible refine (WR.out _ (hst.rs 0 rfl)).mono ?_); rintro e1 w1 ⟨F1, rfl, hd1, ht1⟩))
      refine TextQ.mk ?_ rfl
      go_wp2_with fail
      go_ret
      exact ⟨F1, rfl, hd1, HW.out.trans ht1⟩
  · have hs1 : ((s.size : Int) != 32) = true := by simp; omega
    have eE : zwriteE m f n a s = 1 := by unfold zwriteE; rw [if_pos hs]
    have eW : zwrite m f n a s = m := by unfold zwrite; rw [if_pos hs]
    rw [eE, eW]
    clear eE eW
    clear hz hd hzF hzi II
    go_enter Try.func40, Try.ntmps40
    go_wp2_with fail
    go_ret
    exact ⟨F, rfl, hst.rs 0 rfl, Turn.refl _ _⟩

section
variable {P : Program} {w : World} {ops : Array Oper} {rest : List Oper} {o : Oper} {a : Act} {Q : Exit → Act → World → Prop}
/-- A row made of three parts. -/
theorem wpL_build3 (hg : o.guard = none) (t : TypeId) {i1 i2 i3 : Nat} {x1 x2 x3 : Operand} (ho : o.op = .build t #[(i1, x1), (i2, x2), (i3, x3)]) {v1 v2 v3 : Value} (h1 : a.eval x1 = v1) (h2 : a.eval x2 = v2) (h3 : a.eval x3 = v3) (C : List Value)
    (hf : P.built t [(i1, v1), (i2, v2), (i3, v3)] = some C.toArray) (h : wpList P ops Q rest (a.put o.dst (.agg C.toArray)) w) : wpList P ops Q (o :: rest) a w :=
  wpL_build hg t _ ho C (by simpa [h1, h2, h3] using hf) h
end
theorem zonBuilt (d : Nat) (f n : Int) : Try.prog.built 34 [(0, .pointer (some ⟨d, 0, none⟩)), (1, .int .i64 f), (2, .int .i64 n)] = some ([Value.pointer (some ⟨d, 0, none⟩), .int .i64 f, .int .i64 n]).toArray := by kernel_rfl

set_option maxRecDepth 100000 in
set_option maxHeartbeats 4000000 in
/-- A zone of a disk. -/
theorem zonNew_yes (d f n : Nat) (m : DM) (F : List Nat) (w : World) (hd : DiskAt w d m F) (hp : partOk (f : Int) (n : Int) (m.len : Int) = true) :
    Calls Try.prog 15 #[.pointer (some ⟨d, 0, none⟩), .int .i64 (f : Int), .int .i64 (n : Int)] w fun e w' => ∃ z, e = .returned (.tuple #[.pointer (some ⟨z, 0, none⟩), .int .i64 0]) ∧ w.heap.size ≤ z ∧ Blk w' z (zcells d f n) 34 ∧ Only [] w w' := by
  have hst := Sd.withQ [] (diskQ d m F) hd rfl
  have hlen : m.len ≤ 4096 := hd.1.few
  have LN : Hid (∀ w, DiskAt w d m F → Calls Try.prog 27 #[.pointer (some ⟨d, 0, none⟩)] w fun e w' => e = .returned (.int .i64 (m.len : Int)) ∧ Only [] w w') := fun w h => dskLen_any d m F w h
  have IP : Hid (∀ w, Calls Try.prog 79 #[.int .i64 (f : Int), .int .i64 (n : Int), .int .i64 (m.len : Int)] w fun e w' => e = .returned (.bool true) ∧ w = w') := fun w => by have := isPart_any (f : Int) (n : Int) m.len w hlen; rw [hp] at this; exact this
  clear hd hp
  go_enter Try.func15, Try.ntmps15
  go_wp2_with (first
    | (go_at_call 27; (with_reducible refine (LN.out _ (hst.rs 0 rfl)).mono ?_); rintro e1 w1 ⟨rfl, ho1⟩; replace hst := hst.keep ho1; clear ho1)
    | (go_at_call 79; (with_reducible refine (IP.out _).mono ?_); rintro e1 w1 ⟨rfl, rfl⟩))
  go_ret2
  exact ⟨_, rfl, hst.only.size, Blk.new _ _ _, hst.only.alloc _⟩

set_option maxRecDepth 100000 in
set_option maxHeartbeats 4000000 in
theorem zonNew_no (d : Nat) (f n : Int) (m : DM) (F : List Nat) (w : World) (hd : DiskAt w d m F) (hp : partOk f n (m.len : Int) = false) :
    Calls Try.prog 15 #[.pointer (some ⟨d, 0, none⟩), .int .i64 f, .int .i64 n] w fun e w' => e = .returned (.tuple #[.pointer none, .int .i64 1]) ∧ Only [] w w' := by
  have hst := Sd.withQ [] (diskQ d m F) hd rfl
  have hlen : m.len ≤ 4096 := hd.1.few
  have LN : Hid (∀ w, DiskAt w d m F → Calls Try.prog 27 #[.pointer (some ⟨d, 0, none⟩)] w fun e w' => e = .returned (.int .i64 (m.len : Int)) ∧ Only [] w w') := fun w h => dskLen_any d m F w h
  have IP : Hid (∀ w, Calls Try.prog 79 #[.int .i64 f, .int .i64 n, .int .i64 (m.len : Int)] w fun e w' => e = .returned (.bool false) ∧ w = w') := fun w => by have := isPart_any f n m.len w hlen; rw [hp] at this; exact this
  clear hd hp
  go_enter Try.func15, Try.ntmps15
  go_wp2_with (first
    | (go_at_call 27; (with_reducible refine (LN.out _ (hst.rs 0 rfl)).mono ?_); rintro e1 w1 ⟨rfl, ho1⟩; replace hst := hst.keep ho1; clear ho1)
    | (go_at_call 79; (with_reducible refine (IP.out _).mono ?_); rintro e1 w1 ⟨rfl, rfl⟩))
  go_ret2
  exact ⟨rfl, hst.only⟩
end Go.Proofs.Ytmogkiacakkmbaa
