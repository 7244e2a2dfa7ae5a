/- Manifests: the law of raw ones, beyond its bounds. -/
import Derived.Test.YtmogkiacakkmbaaManK
import Derived.Test.YtmogkiacakkmbaaMrC
import Derived.Test.YtmogkiacakkmbaaMrG
namespace Go.Proofs.Ytmogkiacakkmbaa
open Go.RowKit

set_option maxRecDepth 100000 in
set_option maxHeartbeats 4000000 in
theorem manRoot_none (b v z k : Int) (ad : Option Addr) (cp : Nat) (R : List Value) (w : World) :
    Calls Try.prog 70 #[.agg (Value.int .i64 b :: .int .i64 v :: .int .i64 z :: .int .i64 k :: .slice ad 0 cp :: R).toArray] w fun e w' => e = .returned (.agg (Lib.byteCells (Sha.tree [])).toArray) ∧ Only [] w w' := by
  have hw0 : Wide [] := by intro x hx; cases hx
  have hst := (St.start w []).box (.int .i64 b :: .int .i64 v :: .int .i64 z :: .int .i64 k :: .slice ad 0 cp :: R) 104
  have TR : Hid (∀ w', Only [] w w' → Calls Try.prog 125 #[.slice ad 0 cp] w' fun e w'' => e = .returned (.agg (Lib.byteCells (Sha.tree [])).toArray) ∧ Only [] w' w'') := fun w' _ => tree_any _ [] w' hw0 (by simp) (.inl ⟨rfl, _, _, rfl⟩)
  have hdl := tree_wide _ [] (Nat.le_refl _) hw0
  have HL : Hid ((Lib.byteCells (Sha.tree [])).length = zeros32.length) := by show _ = _; rw [digLen _ hdl]; rfl
  have H1 := Lib.hid (digOne (Sha.tree []))
  generalize Lib.byteCells (Sha.tree []) = D at *
  clear hw0 hdl
  go_enter Try.func70, Try.ntmps70
  go_wp2_with (first
    | ((with_reducible refine wpL_isAlloc rfl ?_); refine wpL_allocS hst rfl 102 rfl (.agg zeros32.toArray) zeros32 (by kernel_rfl) rfl _ rfl ?_; clear hst; intro w1 b1 hb1 hst)
    | ((with_reducible refine wpL_peel rfl ?_ ?_); focus (go_simp; done)) | ((with_reducible refine wpL_isLoad rfl ?_); first | (refine wpL_load1S hst rfl rfl 0 rfl rfl rfl (by kernel_rfl) ?_) | (refine wpL_load1S hst rfl rfl 1 rfl rfl rfl (by kernel_rfl) ?_) | (refine wpL_load1S hst rfl rfl 2 rfl rfl rfl (by kernel_rfl) ?_) | (refine wpL_load1S hst rfl rfl 3 rfl rfl rfl (by kernel_rfl) ?_))
    | (go_at_call 125; (with_reducible refine (TR.out _ hst.only).mono ?_); rintro e1 w1 ⟨rfl, ho1⟩; replace hst := hst.keep ho1; clear ho1)
    | ((with_reducible refine wpL_isStore rfl ?_); refine wpL_storeS hst rfl (ty := 102) rfl 0 rfl rfl (D := D) rfl (by kernel_rfl) (by kernel_rfl) HL.out H1.out ?_; clear hst; intro w1 hst; simp only [List.set] at hst))
  refine end_row Try.results70 rfl (hst.blk 0 rfl) Try.underlying102 rfl digInfo (by rw [HL.out]; rfl) rfl ⟨rfl, hst.only⟩

set_option maxRecDepth 100000 in
set_option maxHeartbeats 4000000 in
theorem digsEqual_none (a1 a2 : Option Addr) (c1 c2 : Nat) (w : World) :
    Calls Try.prog 127 #[.slice a1 0 c1, .slice a2 0 c2] w fun e w' => e = .returned (.bool true) ∧ Only [] w w' := by
  go_enter Try.func127, Try.ntmps127
  go_wp2_with fail
  go_loopw [13] (fun i wr => i = .int .i64 0 ∧ Only [] w wr) (fun i _ => 0)
  case atStart => exact ⟨rfl, Only.refl _ _⟩
  case round =>
    obtain ⟨rfl, hor⟩ := hrel
    go_wp2_with fail
    go_ret
    exact ⟨rfl, hor⟩

set_option maxRecDepth 100000 in
set_option maxHeartbeats 8000000 in
theorem manSame_none (b v z k : Int) (a1 a2 : Option Addr) (c1 c2 : Nat) (r : List UInt8) (w : World) (hr : r.length = 32) :
    Calls Try.prog 72 #[.agg (Value.int .i64 b :: .int .i64 v :: .int .i64 z :: .int .i64 k :: .slice a1 0 c1 :: Lib.byteCells r).toArray, .agg (Value.int .i64 b :: .int .i64 v :: .int .i64 z :: .int .i64 k :: .slice a2 0 c2 :: Lib.byteCells r).toArray] w fun e w' => e = .returned (.bool true) ∧ Only [] w w' := by
  have hsz : ∀ o, (w.alloc o).heap.size = w.heap.size + 1 := fun o => by simp
  have hst := ((St.start w []).box (.int .i64 b :: .int .i64 v :: .int .i64 z :: .int .i64 k :: .slice a1 0 c1 :: Lib.byteCells r) 104).box (.int .i64 b :: .int .i64 v :: .int .i64 z :: .int .i64 k :: .slice a2 0 c2 :: Lib.byteCells r) 104
  rw [hsz] at hst
  have EQ : Hid (∀ w', Only [] w w' → Calls Try.prog 127 #[.slice a1 0 c1, .slice a2 0 c2] w' fun e w'' => e = .returned (.bool true) ∧ Only [] w' w'') := fun w' _ => digsEqual_none a1 a2 c1 c2 w'
  have HR := Lib.hid hr
  have HRL := Lib.hid (digLen r hr)
  have HD5 : Hid (∀ V, ((Value.int .i64 b :: .int .i64 v :: .int .i64 z :: .int .i64 k :: V :: Lib.byteCells r).drop 5).take 32 = Lib.byteCells r) := fun V => List.take_of_length_le (by simp [digLen r hr])
  clear hsz hr
  go_enter Try.func72, Try.ntmps72
  go_wp2_with (first
    | ((with_reducible refine wpL_peel rfl ?_ ?_); focus (go_simp; done))
    | ((with_reducible refine wpL_isLoad rfl ?_); first | (refine wpL_loadAtS hst rfl (ty := 102) rfl 0 rfl rfl (by kernel_rfl) 32 (by kernel_rfl) _ (HD5.out _) HRL.out ?_) | (refine wpL_loadAtS hst rfl (ty := 102) rfl 1 rfl rfl (by kernel_rfl) 32 (by kernel_rfl) _ (HD5.out _) HRL.out ?_))
    | ((with_reducible refine wpL_peel rfl ?_ ?_); focus (go_simp; done)) | ((with_reducible refine wpL_isLoad rfl ?_); first | (refine wpL_load1S hst rfl rfl 0 rfl rfl rfl (by kernel_rfl) ?_) | (refine wpL_load1S hst rfl rfl 1 rfl rfl rfl (by kernel_rfl) ?_) | (refine wpL_load1S hst rfl rfl 2 rfl rfl rfl (by kernel_rfl) ?_) | (refine wpL_load1S hst rfl rfl 3 rfl rfl rfl (by kernel_rfl) ?_))
    | ((with_reducible refine wpL_isBin rfl ?_); refine wpL_neqB rfl 102 _ _ _ rfl 5 32 Try.underlying102 Try.underlying5 (by kernel_rfl) (by kernel_rfl) r r rfl rfl HR.out HR.out true (by simp) ?_)
    | (go_at_call 127; (with_reducible refine (EQ.out _ hst.only).mono ?_); rintro e1 w1 ⟨rfl, ho1⟩; replace hst := hst.keep ho1; clear ho1))
  go_ret
  exact ⟨rfl, hst.only⟩

end Go.Proofs.Ytmogkiacakkmbaa

namespace Go.Proofs.Ytmogkiacakkmbaa
open Go.RowKit

set_option maxRecDepth 100000 in
set_option maxHeartbeats 4000000 in
theorem exactLaw_far (b v z k : Int) (ad : Option Addr) (n cp : Nat) (R : List Value) (a : Int) (s t : ByteArray) (w : World) (h : 70 < (n : Int) ∨ 8192 < (s.size : Int) ∨ 512 < (t.size : Int)) :
    Calls Try.prog 12 #[.agg (Value.int .i64 b :: .int .i64 v :: .int .i64 z :: .int .i64 k :: .slice ad n cp :: R).toArray, .int .i64 a, .string s, .string t] w fun e w' => e = .returned (.bool true) ∧ Only [] w w' := by
  have hst := (St.start w []).box (.int .i64 b :: .int .i64 v :: .int .i64 z :: .int .i64 k :: .slice ad n cp :: R) 104
  have AW := Lib.hid awake20_any
  by_cases d1 : 70 < (n : Int)
  · clear h
    go_enter Try.func12, Try.ntmps12
    go_wp2_with (first | (go_at_call 59; (with_reducible refine (AW.out _).mono ?_); rintro e1 w1 ⟨rfl, ho1⟩; replace hst := hst.keep ho1; clear ho1) | ((with_reducible refine wpL_peel rfl ?_ ?_); focus (go_simp; done)) | ((with_reducible refine wpL_isLoad rfl ?_); first | (refine wpL_load1S hst rfl rfl 0 rfl rfl rfl (by kernel_rfl) ?_) | (refine wpL_load1S hst rfl rfl 1 rfl rfl rfl (by kernel_rfl) ?_) | (refine wpL_load1S hst rfl rfl 2 rfl rfl rfl (by kernel_rfl) ?_) | (refine wpL_load1S hst rfl rfl 3 rfl rfl rfl (by kernel_rfl) ?_)))
    go_ret
    exact ⟨rfl, hst.only⟩
  by_cases d2 : 8192 < (s.size : Int)
  · clear h
    go_enter Try.func12, Try.ntmps12
    go_wp2_with (first | (go_at_call 59; (with_reducible refine (AW.out _).mono ?_); rintro e1 w1 ⟨rfl, ho1⟩; replace hst := hst.keep ho1; clear ho1) | ((with_reducible refine wpL_peel rfl ?_ ?_); focus (go_simp; done)) | ((with_reducible refine wpL_isLoad rfl ?_); first | (refine wpL_load1S hst rfl rfl 0 rfl rfl rfl (by kernel_rfl) ?_) | (refine wpL_load1S hst rfl rfl 1 rfl rfl rfl (by kernel_rfl) ?_) | (refine wpL_load1S hst rfl rfl 2 rfl rfl rfl (by kernel_rfl) ?_) | (refine wpL_load1S hst rfl rfl 3 rfl rfl rfl (by kernel_rfl) ?_)))
    go_ret
    exact ⟨rfl, hst.only⟩
  have d3 : 512 < (t.size : Int) := by omega
  clear h
  go_enter Try.func12, Try.ntmps12
  go_wp2_with (first | (go_at_call 59; (with_reducible refine (AW.out _).mono ?_); rintro e1 w1 ⟨rfl, ho1⟩; replace hst := hst.keep ho1; clear ho1) | ((with_reducible refine wpL_peel rfl ?_ ?_); focus (go_simp; done)) | ((with_reducible refine wpL_isLoad rfl ?_); first | (refine wpL_load1S hst rfl rfl 0 rfl rfl rfl (by kernel_rfl) ?_) | (refine wpL_load1S hst rfl rfl 1 rfl rfl rfl (by kernel_rfl) ?_) | (refine wpL_load1S hst rfl rfl 2 rfl rfl rfl (by kernel_rfl) ?_) | (refine wpL_load1S hst rfl rfl 3 rfl rfl rfl (by kernel_rfl) ?_)))
  go_ret
  exact ⟨rfl, hst.only⟩

theorem mfZ_form : mfZ = Value.int .i64 0 :: .int .i64 0 :: .int .i64 0 :: .int .i64 0 :: .slice none 0 0 :: Lib.byteCells (List.replicate 32 0) := rfl

theorem manAlike_zero (w : World) : Calls Try.prog 77 #[.agg mfZ.toArray, .agg mfZ.toArray] w fun e w' => e = .returned (.bool true) ∧ Only [] w w' := by
  rw [mfZ_form]
  exact manAlike_same 0 0 0 0 none none 0 0 0 [] (List.replicate 32 0) w (by simp) (fun x hx => by cases hx) rfl (by omega) (fun h => absurd rfl h) (fun h => absurd rfl h)

theorem manRoot_all (b v z k : Int) (ad : Option Addr) (n cp : Nat) (R : List Value) (ds : List (List UInt8)) (w : World) (hw : Wide ds) (hn : ds.length = n) (hn1 : n ≤ 1000) (hD : ds ≠ [] → Digs w (.slice ad n cp) ds) :
    Calls Try.prog 70 #[.agg (Value.int .i64 b :: .int .i64 v :: .int .i64 z :: .int .i64 k :: .slice ad n cp :: R).toArray] w fun e w' => e = .returned (.agg (Lib.byteCells (Sha.tree ds)).toArray) ∧ Only [] w w' := by
  by_cases hne : ds = []
  · subst hne
    subst hn
    exact manRoot_none b v z k ad cp R w
  · exact manRoot_any b v z k ad n cp R ds w hw (by omega) hne (hD hne)

theorem refTree_all (ad : Option Addr) (n cp : Nat) (ds : List (List UInt8)) (w : World) (hw : Wide ds) (hn : ds.length = n) (hn1 : n ≤ 1000) (hD : ds ≠ [] → Digs w (.slice ad n cp) ds) :
    Calls Try.prog 71 #[.slice ad n cp] w fun e w' => e = .returned (.agg (Lib.byteCells (Sha.tree ds)).toArray) ∧ Only [] w w' := by
  by_cases hne : ds = []
  · subst hne
    subst hn
    rw [Sha.tree_none]
    exact refTree_none ad cp w
  · exact refTree_many _ ds w hw hne (by omega) (hD hne)

theorem manSame_all (b v z k : Int) (ad : Option Addr) (n cp : Nat) (r : List UInt8) (ds : List (List UInt8)) (w : World) (hr : r.length = 32) (hw : Wide ds) (hn : ds.length = n) (hn1 : n ≤ 1000) (hD : ds ≠ [] → Digs w (.slice ad n cp) ds) :
    Calls Try.prog 72 #[.agg (Value.int .i64 b :: .int .i64 v :: .int .i64 z :: .int .i64 k :: .slice ad n cp :: Lib.byteCells r).toArray, .agg (Value.int .i64 b :: .int .i64 v :: .int .i64 z :: .int .i64 k :: .slice ad n cp :: Lib.byteCells r).toArray] w fun e w' => e = .returned (.bool true) ∧ Only [] w w' := by
  by_cases hne : ds = []
  · subst hne
    subst hn
    exact manSame_none b v z k ad ad cp cp r w hr
  · exact manSame_yes b v z k ad ad n cp cp r ds w hr (hD hne) (hD hne) hw (by omega)

theorem manBytes_all (b v z k : Int) (ad : Option Addr) (n cp : Nat) (r : List UInt8) (ds : List (List UInt8)) (w : World) (hr : r.length = 32) (hw : Wide ds) (hn : ds.length = n) (hcnt : 0 < cnt b v z k n) (hD : Digs w (.slice ad n cp) ds) :
    Calls Try.prog 73 #[.agg (Value.int .i64 b :: .int .i64 v :: .int .i64 z :: .int .i64 k :: .slice ad n cp :: Lib.byteCells r).toArray] w fun e w' => e = .returned (.tuple #[.string ⟨(manB b v z k ds r).toArray⟩, .int .i64 0]) ∧ Only [] w w' := by
  obtain ⟨bk, o, c, e, hcp, hlt, hc⟩ := hD
  simp only [Value.slice.injEq] at e
  obtain ⟨rfl, _, rfl⟩ := e
  exact manBytes_yes b v z k bk o n cp ds r w hr hw hn hcnt (by omega) hlt hc

theorem rmanBytes_all (b v z k : Int) (ad : Option Addr) (n cp : Nat) (r : List UInt8) (ds : List (List UInt8)) (w : World) (hr : r.length = 32) (hw : Wide ds) (hn : ds.length = n) (hn1 : n ≤ 1000) (hne : ds ≠ []) (hh : HeadOk b v z k) (hD : Digs w (.slice ad n cp) ds) :
    Calls Try.prog 74 #[.agg (Value.int .i64 b :: .int .i64 v :: .int .i64 z :: .int .i64 k :: .slice ad n cp :: Lib.byteCells r).toArray] w fun e w' => e = .returned (.string ⟨(manB b v z k ds r).toArray⟩) ∧ Only [] w w' := by
  obtain ⟨bk, o, c, e, hcp, hlt, hc⟩ := hD
  simp only [Value.slice.injEq] at e
  obtain ⟨rfl, hnn, rfl⟩ := e
  exact rmanBytes_yes b v z k bk o n cp ds r w hr hw hn hn1 hne hh ⟨bk, o, cp, by rw [hn], hcp, hlt, hc⟩

end Go.Proofs.Ytmogkiacakkmbaa
