/- Sets of numbers below one: made, one comes, the first that is not there. -/
import Derived.Test.YtmogkiacakkmbaaSlotD
namespace Go.Proofs.Ytmogkiacakkmbaa
open Go.RowKit

/-- A set lies at b, in the blocks F. -/
def SetAt (w : World) (b : Nat) (l : List Bool) (F : List Nat) : Prop := ∃ h, Blk w b [.slice (some ⟨h, 0, none⟩) l.length l.length] 166 ∧ Blk w h (bcells l) 4 ∧ b ≠ h ∧ F = [b, h]
def setR (b : Nat) (l : List Bool) (F : List Nat) : Rsc := ⟨true, F, fun w => SetAt w b l F,
  fun {S w w'} h ho hn => by
    obtain ⟨h, h1, h2, h3, rfl⟩ := h
    exact ⟨h, h1.only ho (hn b (by simp)), h2.only ho (hn h (by simp)), h3, rfl⟩,
  fun {w} h => by
    obtain ⟨h, h1, h2, h3, rfl⟩ := h
    intro k hk
    simp only [List.mem_cons, List.not_mem_nil, or_false] at hk
    rcases hk with rfl | rfl
    · exact h1.lt
    · exact h2.lt⟩
theorem boolInfo9 : (Try.prog.info? 4).map (fun i => (i.zero, i.size, i.bytes)) = some (some (.bool false), 1, 1) := by kernel_rfl

set_option maxRecDepth 100000 in
set_option maxHeartbeats 4000000 in
theorem setNew_yes (c : Nat) (w : World) (h1 : 1 ≤ c) (h2 : c ≤ 1024) : Calls Try.prog 109 #[.int .i64 (c : Int)] w fun e w' => ∃ b F, e = .returned (.pointer (some ⟨b, 0, none⟩)) ∧ SetAt w' b (List.replicate c false) F ∧ Only [] w w' ∧ (∀ k ∈ F, w.heap.size ≤ k) := by
  have hst := Sd.start w []
  have g1 : ¬ (c : Int) < 1 := by omega
  have g2 : ¬ (1024 : Int) < c := by omega
  have hn5 : Hid (c ≤ 1024) := h2
  have HB : Hid (List.replicate (c * 1) (Value.bool false) = bcells (List.replicate c false)) := by
    show _ = _
    rw [Nat.mul_one]
    unfold bcells
    rw [List.map_replicate]
  clear h1 h2
  go_enter Try.func109, Try.ntmps109
  go_wp2_with (first
    | ((with_reducible refine wpL_peel rfl ?_ ?_); focus (go_simp; done))
    | ((with_reducible refine wpL_isMakeD rfl ?_); refine wpL_makeD hst rfl 22 _ rfl Try.underlying22 (.bool false) (.bool false) 1 1 rfl (by decide) boolInfo9 c rfl hn5.out (by decide) (by decide) ?_; clear hst; intro w3 gz hg3 hst))
  go_ret
  have hb := hst.blk 0 rfl
  rw [HB.out] at hb
  refine ⟨_, rfl, [_, gz], ⟨gz, ?_, hb.alloc _, fun e => ?_, rfl⟩, hst.only.alloc _, fun k hk => ?_⟩
  · have := Blk.new w3 [.slice (some ⟨gz, 0, none⟩) c c] 166
    rw [List.length_replicate]
    exact this
  · have : gz < w3.heap.size := hb.lt
    omega
  · simp only [List.mem_cons, List.not_mem_nil, or_false] at hk
    rcases hk with rfl | rfl
    · exact hst.only.size
    · exact hg3

/-- The first that is not there. -/
def firstN (l : List Bool) : Int := match l.findIdx? (fun x => x == false) with | some i => (i : Int) | none => -1
theorem firstN_at {l : List Bool} {k : Nat} (hk : k < l.length) (h0 : l.getD k false = false) (hno : ∀ j, j < k → l.getD j false = true) : firstN l = (k : Int) := by
  have : l.findIdx? (fun x => x == false) = some k := by
    rw [List.findIdx?_eq_some_iff_getElem]
    refine ⟨hk, ?_, fun j hj => ?_⟩
    · rw [List.getD_eq_getElem?_getD, List.getElem?_eq_getElem hk] at h0
      simpa using h0
    · have := hno j hj
      rw [List.getD_eq_getElem?_getD, List.getElem?_eq_getElem (by omega)] at this
      simpa using this
  unfold firstN
  rw [this]
theorem firstN_no {l : List Bool} (hno : ∀ j, j < l.length → l.getD j false = true) : firstN l = -1 := by
  have : l.findIdx? (fun x => x == false) = none := by
    rw [List.findIdx?_eq_none_iff]
    intro x hx
    obtain ⟨j, hj, rfl⟩ := List.mem_iff_getElem.1 hx
    have := hno j hj
    rw [List.getD_eq_getElem?_getD, List.getElem?_eq_getElem hj] at this
    simpa using this
  unfold firstN
  rw [this]

set_option maxRecDepth 100000 in
set_option maxHeartbeats 4000000 in
theorem indexBool_any (h o c : Nat) (l : List Bool) (w : World) (hv : ∀ j, j < l.length → w.cell? ⟨h, o + j, none⟩ = some (.bool (l.getD j false))) (hh : h < w.heap.size) (hl : l.length ≤ 1024) :
    Calls Try.prog 110 #[.slice (some ⟨h, o, none⟩) l.length c, .bool false] w fun e w' => e = .returned (.int .i64 (firstN l)) ∧ Only [] w w' := by
  have HV := Lib.hid hv
  have HH := Lib.hid hh
  have FA := Lib.hid (fun k => @firstN_at l k)
  have FN := Lib.hid (@firstN_no l)
  clear hv hh
  go_enter Try.func110, Try.ntmps110
  go_wp2_with fail
  go_loopw [8] (fun i wr => ∃ (k : Nat), k ≤ l.length ∧ i = .int .i64 (k : Int) ∧ Hid (∀ j, j < k → l.getD j false = true) ∧ Only [] w wr) (fun i _ => l.length - (intOf i).toNat)
  case atStart => exact ⟨0, by omega, rfl, fun j h => absurd h (by omega), Only.refl _ _⟩
  case round =>
    obtain ⟨k, hk, rfl, hno, hor⟩ := hrel
    by_cases hlt : k < l.length
    · have hc : wr.cell? ⟨h, o + k, none⟩ = some (.bool (l.getD k false)) := by
        rw [hor.cellAt h (o + k) HH.out (by simp)]
        exact HV.out k hlt
      have k64 : (k : Int) < l.length := by omega
      cases hb : l.getD k false with
      | false =>
        rw [hb] at hc
        have HF := Lib.hid (FA.out k hlt hb hno.out)
        clear hb
        go_wp2_with fail
        go_ret
        exact ⟨by rw [HF.out]; rfl, hor⟩
      | true =>
        rw [hb] at hc
        have HN : Hid (∀ j, j < k + 1 → l.getD j false = true) := fun j hj => by
          by_cases e : j = k
          · subst e; exact hb
          · exact hno.out j (by omega)
        clear hb
        go_wp2_with fail
        go_roundw
        case rel => exact ⟨k + 1, by omega, by go_num, HN, hor⟩
        case measure => simp [intOf]; omega
    · obtain rfl : k = l.length := by omega
      have HF := Lib.hid (FN.out hno.out)
      go_wp2_with fail
      go_ret
      exact ⟨by rw [HF.out]; rfl, hor⟩

set_option maxRecDepth 100000 in
set_option maxHeartbeats 4000000 in
theorem setFirst_any (b : Nat) (l : List Bool) (F : List Nat) (w : World) (h : SetAt w b l F) (hl : l.length ≤ 1024) : Calls Try.prog 48 #[.pointer (some ⟨b, 0, none⟩)] w fun e w' => e = .returned (.int .i64 (firstN l)) ∧ Only [] w w' := by
  obtain ⟨h, hb, hh, hne, rfl⟩ := h
  have hst := Sd.of (St.with (S := []) hb)
  have IX := Lib.hid (indexBool_any h 0 l.length l w (fun j hj => by
    rw [Nat.zero_add]
    refine hh.cell ?_
    unfold bcells
    rw [List.getElem?_map, List.getElem?_eq_getElem hj, List.getD_eq_getElem?_getD, List.getElem?_eq_getElem hj]
    rfl) hh.lt hl)
  clear hb hh hne hl
  go_enter Try.func48, Try.ntmps48
  go_wp2_with (first
    | ((with_reducible refine wpL_peel rfl ?_ ?_); focus (go_simp; done)) | ((with_reducible refine wpL_peel rfl ?_ ?_); focus (go_simp; done)) | ((with_reducible refine wpL_isLoad rfl ?_); first | (refine wpL_load1S hst.st rfl rfl 0 rfl rfl rfl (by kernel_rfl) ?_))
    | (go_at_call 110; (with_reducible refine IX.out.mono ?_); rintro e1 w1 ⟨rfl, ho1⟩))
  go_ret
  exact ⟨rfl, ho1⟩

set_option maxRecDepth 100000 in
set_option maxHeartbeats 4000000 in
theorem putFn_any (B b h n x : Nat) (w : World) (hB : Blk w B [.pointer (some ⟨b, 0, none⟩)] 70) (hb : Blk w b [.slice (some ⟨h, 0, none⟩) n n] 166) (hBb : B ≠ b) (hx : x < n) (_hn : n ≤ 1024) :
    Calls Try.prog 148 #[.int .i64 (x : Int), .pointer (some ⟨B, 0, none⟩)] w fun e w' => e = .returned (.bool false) ∧ Only [] w w' := by
  have hst := Sd.of ((St.with (S := []) hb).read hB (fun x hx => by simp only [List.mem_singleton] at hx; subst hx; exact fun e => hBb e.symm))
  have hxn : ¬ (n : Int) ≤ (x : Int) := by omega
  have hx0 : ¬ (x : Int) < 0 := by omega
  clear hB hb hBb
  go_enter Try.func148, Try.ntmps148
  go_wp2_with (first | ((with_reducible refine wpL_peel rfl ?_ ?_); focus (go_simp; done)) | ((with_reducible refine wpL_peel rfl ?_ ?_); focus (go_simp; done)) | ((with_reducible refine wpL_isLoad rfl ?_); first | (refine wpL_load1S hst.st rfl rfl 0 rfl rfl rfl (by kernel_rfl) ?_) | (refine wpL_load1S hst.st rfl rfl 1 rfl rfl rfl (by kernel_rfl) ?_)))
  go_ret
  exact ⟨rfl, hst.only⟩

set_option maxRecDepth 100000 in
set_option maxHeartbeats 4000000 in
theorem idxFn_no (B b h n g x : Nat) (w : World) (hB : Blk w B [.pointer (some ⟨b, 0, none⟩)] 70) (hb : Blk w b [.slice (some ⟨h, 0, none⟩) n n] 166) (hBb : B ≠ b) (hg : Blk w g [.int .i64 (x : Int)] 3) (hx : x < n) (hn : n ≤ 1024) :
    Calls Try.prog 167 #[.slice (some ⟨g, 0, none⟩) 1 1, .func (.func 148) #[] #[.pointer (some ⟨B, 0, none⟩)]] w fun e w' => e = .returned (.int .i64 (-1)) ∧ Only [] w w' := by
  have PF : Hid (∀ w', Only [] w w' → Calls Try.prog 148 #[.int .i64 (x : Int), .pointer (some ⟨B, 0, none⟩)] w' fun e w'' => e = .returned (.bool false) ∧ Only [] w' w'') := fun w' ho => putFn_any B b h n x w' (hB.keep ho) (hb.keep ho) hBb hx hn
  have HG := Lib.hid hg
  clear hB hb hBb hg hx hn
  go_enter Try.func167, Try.ntmps167
  go_wp2_with fail
  go_loopw [8] (fun i wr => ∃ (k : Nat), k ≤ 1 ∧ i = .int .i64 (k : Int) ∧ Only [] w wr) (fun i _ => 1 - (intOf i).toNat)
  case atStart => exact ⟨0, by omega, rfl, Only.refl _ _⟩
  case round =>
    obtain ⟨k, hk, rfl, hor⟩ := hrel
    by_cases hlt : k < 1
    · obtain rfl : k = 0 := by omega
      have hc : wr.cell? ⟨g, 0, none⟩ = some (.int .i64 (x : Int)) := (HG.out.keep hor).cell rfl
      have PF' := Lib.hid (PF.out wr hor)
      go_wp2_with (go_at_call 148; (with_reducible refine PF'.out.mono ?_); rintro e w2 ⟨rfl, ho2⟩)
      go_roundw
      case rel => exact ⟨1, by omega, by go_num, hor.trans ho2⟩
      case measure => simp [intOf]
    · obtain rfl : k = 1 := by omega
      go_wp2_with fail
      go_ret
      exact ⟨rfl, hor⟩

set_option maxRecDepth 100000 in
set_option maxHeartbeats 4000000 in
theorem contFn_no (B b h n g x : Nat) (w : World) (hB : Blk w B [.pointer (some ⟨b, 0, none⟩)] 70) (hb : Blk w b [.slice (some ⟨h, 0, none⟩) n n] 166) (hBb : B ≠ b) (hg : Blk w g [.int .i64 (x : Int)] 3) (hx : x < n) (hn : n ≤ 1024) :
    Calls Try.prog 147 #[.slice (some ⟨g, 0, none⟩) 1 1, .func (.func 148) #[] #[.pointer (some ⟨B, 0, none⟩)]] w fun e w' => e = .returned (.bool false) ∧ Only [] w w' := by
  have IX := Lib.hid (idxFn_no B b h n g x w hB hb hBb hg hx hn)
  clear hB hb hBb hg hx hn
  go_enter Try.func147, Try.ntmps147
  go_wp2_with (go_at_call 167; (with_reducible refine IX.out.mono ?_); rintro e w2 ⟨rfl, ho2⟩)
  go_ret
  exact ⟨rfl, ho2⟩

set_option maxRecDepth 100000 in
set_option maxHeartbeats 8000000 in
theorem setPut_yes (b : Nat) (l : List Bool) (F : List Nat) (g x : Nat) (w : World) (h : SetAt w b l F) (hg : Blk w g [.int .i64 (x : Int)] 3) (hgF : g ∉ F) (hx : x < l.length) (hl : l.length ≤ 1024) :
    Calls Try.prog 113 #[.pointer (some ⟨b, 0, none⟩), .bool true, .slice (some ⟨g, 0, none⟩) 1 1] w fun e w' => e = .returned (.int .i64 0) ∧ SetAt w' b (l.set x true) F ∧ Turn F F w w' := by
  have hmf : ∀ (fn : Fn) (first cap : Array Value) (w : World), (Instr.makeFunc fn first cap).run Try.prog w = .ok (.func fn first cap) w := fun _ _ _ _ => rfl
  obtain ⟨h, hb, hh, hne, rfl⟩ := h
  simp only [List.mem_cons, List.not_mem_nil, or_false, not_or] at hgF
  have hst := Sd.of ((((St.withOwn (S := [h]) hh (by simp)).read hb (fun x hx => by simp only [List.mem_singleton] at hx; subst hx; exact fun e => hne e.symm)).read hg (fun x hx => by
    simp only [List.mem_cons, List.not_mem_nil, or_false] at hx
    rcases hx with rfl | rfl
    · exact fun e => hgF.1 e.symm
    · exact fun e => hgF.2 e.symm)).box [.pointer (some ⟨b, 0, none⟩)] 70)
  have CF : Hid (∀ w', Blk w' w.heap.size [.pointer (some ⟨b, 0, none⟩)] 70 → Blk w' b [.slice (some ⟨h, 0, none⟩) l.length l.length] 166 → Blk w' g [.int .i64 (x : Int)] 3 → Calls Try.prog 147 #[.slice (some ⟨g, 0, none⟩) 1 1, .func (.func 148) #[] #[.pointer (some ⟨w.heap.size, 0, none⟩)]] w' fun e w'' => e = .returned (.bool false) ∧ Only [] w' w'') := fun w' h1 h2 h3 => contFn_no w.heap.size b h l.length g x w' h1 h2 (by have := hb.lt; omega) h3 hx hl
  have eS : (bcells l).set x (.bool true) = bcells (l.set x true) := by unfold bcells; rw [List.map_set]
  have HXB : Hid (x + 1 ≤ (bcells l).length) := by rw [bcells_length]; exact hx
  have HW := Lib.hid hb.lt
  have ln : (l.set x true).length = l.length := List.length_set
  generalize bcells l = C0 at *
  generalize hC1 : bcells (l.set x true) = C1 at *
  generalize hN : l.length = n at *
  have hx0 : ¬ (x : Int) < 0 := by omega
  have hxn : (x : Int) < n := by omega
  clear hb hh hg hx hl
  go_enter Try.func113, Try.ntmps113
  go_wp2_with (first
    | ((with_reducible refine wpL_peel rfl ?_ ?_); focus (go_simp; done)) | ((with_reducible refine wpL_peel rfl ?_ ?_); focus (go_simp; done)) | ((with_reducible refine wpL_isLoad rfl ?_); first | (refine wpL_load1S hst.st rfl rfl 0 rfl rfl rfl (by kernel_rfl) ?_) | (refine wpL_load1S hst.st rfl rfl 1 rfl rfl rfl (by kernel_rfl) ?_) | (refine wpL_load1S hst.st rfl rfl 2 rfl rfl rfl (by kernel_rfl) ?_))
    | (go_at_call 147; (with_reducible refine (CF.out _ (hst.blk 0 rfl) (hst.blk 2 rfl) (hst.blk 1 rfl)).mono ?_); rintro e1 w1 ⟨rfl, ho1⟩; replace hst := hst.keep ho1; clear ho1))
  go_loopw [18] (fun i wr => ∃ (k : Nat), k ≤ 1 ∧ i = .int .i64 (k : Int) ∧ Sd w [h] wr [⟨w.heap.size, [.pointer (some ⟨b, 0, none⟩)], 70, true⟩, ⟨g, [.int .i64 (x : Int)], 3, false⟩, ⟨b, [.slice (some ⟨h, 0, none⟩) n n], 166, false⟩, ⟨h, if k = 0 then C0 else C1, 4, true⟩] []) (fun i _ => 1 - (intOf i).toNat)
  case atStart => exact ⟨0, by omega, rfl, hst⟩
  case round =>
    obtain ⟨k, hk, rfl, hst⟩ := hrel
    by_cases hlt : k < 1
    · obtain rfl : k = 0 := by omega
      rw [if_pos rfl] at hst
      have hc : wr.cell? ⟨g, 0, none⟩ = some (.int .i64 (x : Int)) := (hst.blk 1 rfl).cell rfl
      go_wp2_with (first
        | ((with_reducible refine wpL_peel rfl ?_ ?_); focus (go_simp; done)) | ((with_reducible refine wpL_peel rfl ?_ ?_); focus (go_simp; done)) | ((with_reducible refine wpL_isLoad rfl ?_); first | (refine wpL_load1S hst.st rfl rfl 0 rfl rfl rfl (by kernel_rfl) ?_) | (refine wpL_load1S hst.st rfl rfl 1 rfl rfl rfl (by kernel_rfl) ?_) | (refine wpL_load1S hst.st rfl rfl 2 rfl rfl rfl (by kernel_rfl) ?_))
        | ((with_reducible refine wpL_isStore rfl ?_); have hh := hst.blk 3 rfl; refine wpL_store1 rfl 4 _ _ rfl h x (.bool true) rfl rfl _ _ hh HXB.out (by kernel_rfl) rfl ?_; clear hh; intro w2 ho2 hx2 hb2; replace hst := hst.chg 3 rfl ho2 hb2; simp only [List.set] at hst; clear ho2 hx2 hb2))
      go_roundw
      case rel => exact ⟨1, by omega, by go_num, by rw [if_neg (by decide)]; rw [eS] at hst; exact hst⟩
      case measure => simp [intOf]
    · obtain rfl : k = 1 := by omega
      rw [if_neg (by decide)] at hst
      go_wp2_with fail
      go_ret
      have h2 := hst.blk 2 rfl
      have h3 := hst.blk 3 rfl
      refine ⟨rfl, ⟨h, ?_, ?_, hne, rfl⟩, hst.only.mono (by simp), fun k hk => .inl hk⟩
      · rw [ln]; exact h2
      · rw [hC1]; exact h3

set_option maxRecDepth 100000 in
set_option maxHeartbeats 4000000 in
theorem setAdd_yes (b : Nat) (l : List Bool) (F : List Nat) (g x : Nat) (w : World) (h : SetAt w b l F) (hg : Blk w g [.int .i64 (x : Int)] 3) (hgF : g ∉ F) (hx : x < l.length) (hl : l.length ≤ 1024) :
    Calls Try.prog 50 #[.pointer (some ⟨b, 0, none⟩), .slice (some ⟨g, 0, none⟩) 1 1] w fun e w' => e = .returned (.int .i64 0) ∧ SetAt w' b (l.set x true) F ∧ Turn F F w w' := by
  have PT := Lib.hid (setPut_yes b l F g x w h hg hgF hx hl)
  clear h hg hgF hx hl
  go_enter Try.func50, Try.ntmps50
  go_wp2_with (go_at_call 113; (with_reducible refine PT.out.mono ?_); rintro e1 w1 ⟨rfl, h1, h2⟩)
  go_ret
  exact ⟨rfl, h1, h2⟩
end Go.Proofs.Ytmogkiacakkmbaa
