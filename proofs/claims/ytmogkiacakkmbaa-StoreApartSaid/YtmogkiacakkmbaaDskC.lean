/- Disks: the power goes; all is made safe. -/
import Derived.Test.YtmogkiacakkmbaaChecked
import Derived.Test.YtmogkiacakkmbaaDskA
import Derived.Test.YtmogkiacakkmbaaText
import Derived.Test.YtmogkiacakkmbaaRules
namespace Go.Proofs.Ytmogkiacakkmbaa
open Go.RowKit

theorem owns_slice0 {w : World} {base : Nat} {e : TypeId} {size : Nat} {v : Value} {n : Nat} {xs : List Value} (h : w.ownsRow base e size v n xs) : ∃ ad cp, v = .slice ad n cp := by
  rcases h.2 with ⟨rfl, rfl⟩ | ⟨g, cap, cur, rfl, _⟩
  · exact ⟨_, _, rfl⟩
  · exact ⟨_, _, rfl⟩

set_option maxRecDepth 100000 in
set_option maxHeartbeats 2000000 in
theorem dskLen_any (d : Nat) (m : DM) (F : List Nat) (w : World) (h : DiskAt w d m F) :
    Calls Try.prog 27 #[.pointer (some ⟨d, 0, none⟩)] w fun e w' => e = .returned (.int .i64 (m.len : Int)) ∧ Only [] w w' := by
  obtain ⟨hok, kv, sv, lv, kb, ⟨h1, h2, h3, h4⟩, rfl, hnd⟩ := h
  obtain ⟨ad, cs, rfl⟩ := owns_slice0 h2
  unfold dcells at h1
  have hst := St.with (S := []) h1
  unfold DM.len
  clear h1 h2 h3 h4 hok hnd
  go_enter Try.func27, Try.ntmps27
  go_wp2_with (first | ((with_reducible refine wpL_peel rfl ?_ ?_); focus (go_simp; done)) | ((with_reducible refine wpL_isLoad rfl ?_); first | (refine wpL_load1S hst rfl rfl 0 rfl rfl rfl (by kernel_rfl) ?_)))
  go_ret
  exact ⟨rfl, hst.only⟩

set_option maxRecDepth 100000 in
set_option maxHeartbeats 2000000 in
theorem dskLoose_any (d : Nat) (m : DM) (F : List Nat) (w : World) (h : DiskAt w d m F) :
    Calls Try.prog 30 #[.pointer (some ⟨d, 0, none⟩)] w fun e w' => e = .returned (.int .i64 (m.loose.length : Int)) ∧ Only [] w w' := by
  obtain ⟨hok, kv, sv, lv, kb, ⟨h1, h2, h3, h4⟩, rfl, hnd⟩ := h
  obtain ⟨ad, cs, rfl⟩ := owns_slice0 h3
  unfold dcells at h1
  have hst := St.with (S := []) h1
  clear h1 h2 h3 h4 hok hnd
  go_enter Try.func30, Try.ntmps30
  go_wp2_with (first | ((with_reducible refine wpL_peel rfl ?_ ?_); focus (go_simp; done)) | ((with_reducible refine wpL_isLoad rfl ?_); first | (refine wpL_load1S hst rfl rfl 0 rfl rfl rfl (by kernel_rfl) ?_)))
  go_ret
  exact ⟨rfl, hst.only⟩

set_option maxRecDepth 100000 in
set_option maxHeartbeats 2000000 in
theorem dskDone_any (d : Nat) (m : DM) (F : List Nat) (w : World) (h : DiskAt w d m F) :
    Calls Try.prog 42 #[.pointer (some ⟨d, 0, none⟩)] w fun e w' => e = .returned (.int .i64 m.done) ∧ Only [] w w' := by
  obtain ⟨hok, kv, sv, lv, kb, ⟨h1, h2, h3, h4⟩, rfl, hnd⟩ := h
  unfold dcells at h1
  have hst := St.with (S := []) h1
  clear h1 h2 h3 h4 hok hnd
  go_enter Try.func42, Try.ntmps42
  go_wp2_with (first | ((with_reducible refine wpL_peel rfl ?_ ?_); focus (go_simp; done)) | ((with_reducible refine wpL_isLoad rfl ?_); first | (refine wpL_load1S hst rfl rfl 0 rfl rfl rfl (by kernel_rfl) ?_)))
  go_ret
  exact ⟨rfl, hst.only⟩

set_option maxRecDepth 100000 in
set_option maxHeartbeats 2000000 in
theorem powIsOn_raw (d : Nat) (b : Bool) (c1 c2 c3 c4 c5 : Value) (w : World) (h : Blk w d [.bool b, c1, c2, c3, c4, c5] 135) :
    Calls Try.prog 119 #[.pointer (some ⟨d, 0, none⟩)] w fun e w' => e = .returned (.bool (!b)) ∧ Only [] w w' := by
  have hst := St.with (S := []) h
  clear h
  go_enter Try.func119, Try.ntmps119
  go_wp2_with (first | ((with_reducible refine wpL_peel rfl ?_ ?_); focus (go_simp; done)) | ((with_reducible refine wpL_isLoad rfl ?_); first | (refine wpL_load1S hst rfl rfl 0 rfl rfl rfl (by kernel_rfl) ?_)))
  go_ret
  exact ⟨rfl, hst.only⟩

set_option maxRecDepth 100000 in
set_option maxHeartbeats 2000000 in
theorem dskIsOn_raw (d : Nat) (b : Bool) (c1 c2 c3 c4 c5 : Value) (w : World) (h : Blk w d [.bool b, c1, c2, c3, c4, c5] 135) :
    Calls Try.prog 55 #[.pointer (some ⟨d, 0, none⟩)] w fun e w' => e = .returned (.bool (!b)) ∧ Only [] w w' := by
  have hst := St.with (S := []) h
  clear h
  go_enter Try.func55, Try.ntmps55
  go_wp2_with (first
    | (go_at_call 119; (with_reducible refine (powIsOn_raw d b c1 c2 c3 c4 c5 _ (hst.blk 0 rfl)).mono ?_); rintro e1 w1 ⟨rfl, ho1⟩; replace hst := hst.keep ho1; clear ho1))
  go_ret
  exact ⟨rfl, hst.only⟩
theorem dskIsOn_any (d : Nat) (m : DM) (F : List Nat) (w : World) (h : DiskAt w d m F) :
    Calls Try.prog 55 #[.pointer (some ⟨d, 0, none⟩)] w fun e w' => e = .returned (.bool (!m.away)) ∧ Only [] w w' := by
  obtain ⟨hok, kv, sv, lv, kb, ⟨h1, h2, h3, h4⟩, rfl, hnd⟩ := h
  exact dskIsOn_raw d _ _ _ _ _ _ w h1

set_option maxRecDepth 100000 in
set_option maxHeartbeats 4000000 in
theorem dskCheck_same (d : Nat) (m : DM) (F : List Nat) (a : Int) (w : World) (h : DiskAt w d m F) :
    Calls Try.prog 143 #[.pointer (some ⟨d, 0, none⟩), .int .i64 a] w fun e w' => e = .returned (.int .i64 (m.check a)) ∧ w = w' := by
  obtain ⟨hok, kv, sv, lv, kb, ⟨h1, h2, h3, h4⟩, rfl, hnd⟩ := h
  obtain ⟨ad, cs, rfl⟩ := owns_slice0 h2
  unfold dcells at h1
  have hst := St.with (S := []) h1
  unfold DM.check DM.len
  clear h1 h2 h3 h4 hok hnd
  obtain ⟨away, ea⟩ : ∃ b, b = m.away := ⟨_, rfl⟩
  rw [← ea] at hst ⊢
  generalize m.safe.length = n at *
  clear ea
  by_cases c1 : a < 0
  · rw [if_pos (.inl c1)]
    go_enter Try.func143, Try.ntmps143
    go_wp2_with (first | ((with_reducible refine wpL_peel rfl ?_ ?_); focus (go_simp; done)) | ((with_reducible refine wpL_isLoad rfl ?_); first | (refine wpL_load1S hst rfl rfl 0 rfl rfl rfl (by kernel_rfl) ?_)))
    go_ret
    exact ⟨rfl, rfl⟩
  by_cases c2 : (n : Int) ≤ a
  · rw [if_pos (.inr c2)]
    go_enter Try.func143, Try.ntmps143
    go_wp2_with (first | ((with_reducible refine wpL_peel rfl ?_ ?_); focus (go_simp; done)) | ((with_reducible refine wpL_isLoad rfl ?_); first | (refine wpL_load1S hst rfl rfl 0 rfl rfl rfl (by kernel_rfl) ?_)))
    go_ret
    exact ⟨rfl, rfl⟩
  rw [if_neg (fun h => h.elim c1 c2)]
  cases away
  · go_enter Try.func143, Try.ntmps143
    go_wp2_with (first | ((with_reducible refine wpL_peel rfl ?_ ?_); focus (go_simp; done)) | ((with_reducible refine wpL_isLoad rfl ?_); first | (refine wpL_load1S hst rfl rfl 0 rfl rfl rfl (by kernel_rfl) ?_)))
    go_ret
    exact ⟨rfl, rfl⟩
  · go_enter Try.func143, Try.ntmps143
    go_wp2_with (first | ((with_reducible refine wpL_peel rfl ?_ ?_); focus (go_simp; done)) | ((with_reducible refine wpL_isLoad rfl ?_); first | (refine wpL_load1S hst rfl rfl 0 rfl rfl rfl (by kernel_rfl) ?_)))
    go_ret
    exact ⟨rfl, rfl⟩
theorem dskCheck_any (d : Nat) (m : DM) (F : List Nat) (a : Int) (w : World) (h : DiskAt w d m F) :
    Calls Try.prog 143 #[.pointer (some ⟨d, 0, none⟩), .int .i64 a] w fun e w' => e = .returned (.int .i64 (m.check a)) ∧ Only [] w w' := by
  refine (dskCheck_same d m F a w h).mono ?_
  rintro e w' ⟨rfl, rfl⟩
  exact ⟨rfl, Only.refl _ _⟩
end Go.Proofs.Ytmogkiacakkmbaa

namespace Go.Proofs.Ytmogkiacakkmbaa
open Go.RowKit

theorem ownsRow_open {w : World} {base : Nat} {e : TypeId} {size : Nat} {v : Value} {n : Nat} {xs : List Value} (h : w.ownsRow base e size v n xs) (hn : n ≠ 0) :
    ∃ g cap rest, v = .slice (some ⟨g, 0, none⟩) n cap ∧ base ≤ g ∧ Blk w g (xs ++ rest) e ∧ n ≤ cap ∧ cap ≤ maxLen ∧ (xs ++ rest).length = cap * size := by
  rcases h.2 with ⟨_, h0⟩ | ⟨g, cap, cur, rfl, hb, hg, hc, hm, hs, ht⟩
  · exact absurd h0 hn
  · refine ⟨g, cap, cur.toList.drop (n * size), rfl, hb, ?_, hc, hm, ?_⟩
    · unfold Blk
      rw [hg, ← ht, List.take_append_drop]
    · rw [← ht, List.take_append_drop]
      simpa using hs
theorem ownsRow_shut {w : World} {base : Nat} {e : TypeId} {size : Nat} {n : Nat} {xs : List Value} {g cap : Nat} {rest : List Value} (hb : Blk w g (xs ++ rest) e) (hl : xs.length = n * size) (hbase : base ≤ g) (hc : n ≤ cap) (hm : cap ≤ maxLen) (ht : (xs ++ rest).length = cap * size) :
    w.ownsRow base e size (.slice (some ⟨g, 0, none⟩) n cap) n xs := by
  refine ⟨hl, .inr ⟨g, cap, (xs ++ rest).toArray, rfl, hbase, hb, hc, hm, by simpa using ht, ?_⟩⟩
  rw [List.toList_toArray, List.take_left' hl]

theorem keptL_take (keep : List Bool) (ws : List (Nat × ByteArray)) (j : Nat) (h : j < ws.length) :
    keptL keep (ws.take (j + 1)) = keptL keep (ws.take j) ++ (if keep.getD j false = true then [ws.getD j (0, ⟨#[]⟩)] else []) := by
  induction ws generalizing j keep with
  | nil => simp at h
  | cons x ws ih =>
    cases keep with
    | nil => cases j <;> simp [keptL]
    | cons k ks =>
      cases j with
      | zero => simp [keptL]
      | succ j =>
        have := ih ks j (by simpa using h)
        simp only [List.take_succ_cons, keptL, List.getD_cons_succ]
        rw [this]
        split <;> simp
theorem wread_cells {w : World} {base : Nat} {g n cap : Nat} {ws : List (Nat × ByteArray)} {e : TypeId} (h : w.ownsRow base e 2 (.slice (some ⟨g, 0, none⟩) n cap) n (wcells ws)) (hn : ws.length = n) (j : Nat) (hj : j < n) :
    ∀ k v, [Value.int .i64 ((ws.getD j (0, ⟨#[]⟩)).1 : Int), Value.string (ws.getD j (0, ⟨#[]⟩)).2][k]? = some v → w.cell? ⟨g, j * 2 + k, none⟩ = some v := by
  have hc := h.cells (g := g) rfl
  obtain ⟨h1, h2⟩ := wcells_at ws j (by omega)
  intro k v hv
  match k, hv with
  | 0, hv => simp only [List.getElem?_cons_zero] at hv; rw [← hv]; have := hc _ _ h1; rw [addr_addD, Nat.zero_add] at this; exact this
  | 1, hv => simp only [List.getElem?_cons_succ, List.getElem?_cons_zero] at hv; rw [← hv]; have := hc _ _ h2; rw [addr_addD, Nat.zero_add] at this; exact this
  | k + 2, hv => simp at hv

set_option maxRecDepth 100000 in
set_option maxHeartbeats 8000000 in
/-- The power goes, while it is there. -/
theorem dskCut_core (d : Nat) (fuse done : Int) (kv V lv : Value) (safe : List ByteArray) (loose : List (Nat × ByteArray)) (keep : List Bool) (kb : List Nat) (gs cs : Nat) (rs : List Value) (w : World)
    (hd : Blk w d [.bool false, .int .i64 fuse, kv, .slice (some ⟨gs, 0, none⟩) safe.length cs, lv, .int .i64 done] 135) (hs : Blk w gs (scells safe ++ rs) 9) (hl : w.ownsRow 0 137 2 lv loose.length (wcells loose)) (hB : Bools w V keep kb)
    (hwi : ∀ x ∈ loose, x.1 < safe.length) (hn : loose.length ≤ 1000000) (hdg : d ≠ gs) (hk : ∀ b ∈ kb, b ≠ d ∧ b ≠ gs) (hlb : ∀ b, lv.ownBlock = some b → b ≠ d ∧ b ≠ gs)
    (IO : ∀ w', Blk w' d [.bool false, .int .i64 fuse, kv, .slice (some ⟨gs, 0, none⟩) safe.length cs, lv, .int .i64 done] 135 → Calls Try.prog 55 #[.pointer (some ⟨d, 0, none⟩)] w' fun e w'' => e = .returned (.bool true) ∧ Only [] w' w'') :
    Calls Try.prog 19 #[.pointer (some ⟨d, 0, none⟩), V] w fun e w' => e = .returned (.tuple #[]) ∧
      Blk w' d [.bool true, .int .i64 fuse, kv, .slice (some ⟨gs, 0, none⟩) safe.length cs, .slice none 0 0, .int .i64 done] 135 ∧ Blk w' gs (scells (laid safe (keptL keep loose)) ++ rs) 9 ∧ Only [d, gs] w w' := by
  have hst : St w [d, gs] w [⟨d, [.bool false, .int .i64 fuse, kv, .slice (some ⟨gs, 0, none⟩) safe.length cs, lv, .int .i64 done], 135, true⟩, ⟨gs, scells safe ++ rs, 9, true⟩] :=
    ⟨Only.refl _ w, by
      intro x hx
      simp only [List.mem_cons, List.not_mem_nil, or_false] at hx
      rcases hx with rfl | rfl
      · exact ⟨hd, fun _ => .inl (by simp)⟩
      · exact ⟨hs, fun _ => .inl (by simp)⟩, by simpa using hdg⟩
  have hlw := owns_lt0 hl
  obtain ⟨al, cl, rfl⟩ := owns_slice0 hl
  have IOH := Lib.hid IO
  have hBl := hB.lt
  obtain ⟨kn, ka, kc, eV, hkn⟩ : ∃ kn ka kc, V = .slice ka kn kc ∧ kn = keep.length := by
    rcases hB with ⟨rfl, _, a, c, rfl⟩ | ⟨g, o, c, rfl, _⟩
    · exact ⟨0, _, _, rfl, rfl⟩
    · exact ⟨_, _, _, rfl, rfl⟩
  have hB0 := hB
  rw [eV] at hB
  clear IO hd hs
  rw [eV]
  generalize hSL : safe.length = ns at *
  generalize hN : loose.length = n at *
  go_enter Try.func19, Try.ntmps19
  go_wp2_with (first | (go_at_call 55; (with_reducible refine (IOH.out _ (hst.blk 0 rfl)).mono ?_); rintro e1 w1 ⟨rfl, ho1⟩; replace hst := hst.keep ho1; clear ho1) | ((with_reducible refine wpL_peel rfl ?_ ?_); focus (go_simp; done)) | ((with_reducible refine wpL_isLoad rfl ?_); first | (refine wpL_load1S hst rfl rfl 0 rfl rfl rfl (by kernel_rfl) ?_)))
  go_loopw [14] (fun i wr => ∃ j : Nat, j ≤ n ∧ i = .int .i64 (j : Int) ∧ St w [d, gs] wr [⟨d, [.bool false, .int .i64 fuse, kv, .slice (some ⟨gs, 0, none⟩) ns cs, .slice al n cl, .int .i64 done], 135, true⟩, ⟨gs, scells (laid safe (keptL keep (loose.take j))) ++ rs, 9, true⟩])
    (fun i _ => (n - intOf i).toNat)
  case atStart => exact ⟨0, by omega, rfl, by simpa [keptL, laid] using hst⟩
  case round =>
    obtain ⟨j, hj, rfl, hst⟩ := hrel
    by_cases hlt : j < n
    · have j1 : (j : Int) < n := by omega
      obtain ⟨p, q, epq⟩ : ∃ p q, loose.getD j (0, ⟨#[]⟩) = (p, q) := ⟨_, _, rfl⟩
      have hpq : (p, q) ∈ loose := by rw [← epq, List.getD_eq_getElem?_getD, List.getElem?_eq_getElem (by omega)]; exact List.getElem_mem _
      have hp : p < ns := by have := hwi _ hpq; omega
      obtain ⟨gl, cl', hal⟩ : ∃ gl cl', Value.slice al n cl = .slice (some ⟨gl, 0, none⟩) n cl' := by
        rcases hl.2 with ⟨_, h0⟩ | ⟨g, cap, cur, e, _⟩
        · omega
        · exact ⟨g, cap, e⟩
      simp only [Value.slice.injEq] at hal
      obtain ⟨rfl, _, rfl⟩ := hal
      have hglb := hlb gl rfl
      have hlr := ownsRow_only hl hst.only (fun k hk => by simp [Value.ownBlock] at hk; subst hk; simp; exact hglb)
      have HW0 := wread_cells hlr hN j hlt
      rw [epq] at HW0
      have HW := Lib.hid HW0
      clear HW0 hlr
      have hBr := hB0.only hst.only (fun b hb => by have := hk b hb; simp; exact this)
      have HKT := Lib.hid (keptL_take keep loose j (by omega))
      by_cases hjk : j < keep.length
      · have j2 : (j : Int) < kn := by omega
        obtain ⟨g, o, c, e, KC⟩ : ∃ g o c, V = .slice (some ⟨g, o, none⟩) kn c ∧ Hid (∀ w', Only [d, gs] w w' → w'.cell? ⟨g, o + j, none⟩ = some (.bool (keep.getD j false))) := by
          rcases hB0 with ⟨h0, _⟩ | ⟨g, o, c, e, rfl, hgl, _, hc⟩
          · rw [h0] at hjk; simp at hjk
          · refine ⟨g, o, c, by rw [hkn]; exact e, fun w' ho => ?_⟩
            have := hk g (by simp)
            rw [ho.cellAt _ _ hgl (by simp; exact this)]
            exact hc j hjk
        rw [eV] at e
        simp only [Value.slice.injEq] at e
        obtain ⟨rfl, _, rfl⟩ := e
        generalize hβ : keep.getD j false = β at *
        cases β
        · rw [if_neg (by simp), List.append_nil] at HKT
          go_wp2_with (first | ((with_reducible refine wpL_peel rfl ?_ ?_); focus (go_simp; done)) | ((with_reducible refine wpL_isLoad rfl ?_); refine wpL_load_at rfl 137 _ rfl gl (j * 2) rfl [.int .i64 (p : Int), .string q] _ HW.out Try.underlying137 rfl (by kernel_rfl) rfl ?_) | ((with_reducible refine wpL_peel rfl ?_ ?_); focus (go_simp; done)) | ((with_reducible refine wpL_isLoad rfl ?_); first | (refine wpL_load1S hst rfl rfl 0 rfl rfl rfl (by kernel_rfl) ?_) | (refine wpL_load1S hst rfl rfl 1 rfl rfl rfl (by kernel_rfl) ?_)) | ((with_reducible refine wpL_isLoad rfl ?_); refine wpL_load1C rfl rfl rfl (KC.out _ hst.only) (by kernel_rfl) ?_) | ((with_reducible refine wpL_isAlloc rfl ?_); refine wpL_allocS hst rfl 137 rfl (.agg #[.int .i64 0, .string ⟨#[]⟩]) [.int .i64 0, .string ⟨#[]⟩] (by kernel_rfl) rfl _ rfl ?_; clear hst; intro w1 b1 hb1 hst) | ((with_reducible refine wpL_isStore rfl ?_); first | (refine wpL_storeS hst rfl (ty := 137) rfl 0 rfl rfl rfl (by kernel_rfl) (by kernel_rfl) rfl rfl ?_; clear hst; intro w1 hst; simp only [List.set] at hst) | (refine wpL_store1S hst rfl rfl 0 rfl rfl rfl rfl (by kernel_rfl) rfl ?_; clear hst; intro w1 hst; simp only [List.set] at hst)))
          go_roundw
          case rel => exact ⟨j + 1, by omega, by go_num, by rw [HKT.out]; exact hst.dropN 1⟩
          case measure => simp [intOf]; omega
        · rw [if_pos rfl, epq] at HKT
          have HLT : Hid (p < (scells (laid safe (keptL keep (loose.take j))) ++ rs).length) := by show _ < _; rw [List.length_append, scells_length, laid_length]; omega
          have HSET : Hid ((scells (laid safe (keptL keep (loose.take j))) ++ rs).set p (.string q) = scells (laid safe (keptL keep (loose.take (j + 1)))) ++ rs) := by
            show _ = _
            rw [HKT.out, laid_snoc, List.set_append_left _ _ (by rw [scells_length, laid_length]; omega), scells_set]
          have p1 : (p : Int) < ns := by omega
          go_wp2_with (first | ((with_reducible refine wpL_peel rfl ?_ ?_); focus (go_simp; done)) | ((with_reducible refine wpL_isLoad rfl ?_); refine wpL_load_at rfl 137 _ rfl gl (j * 2) rfl [.int .i64 (p : Int), .string q] _ HW.out Try.underlying137 rfl (by kernel_rfl) rfl ?_) | ((with_reducible refine wpL_peel rfl ?_ ?_); focus (go_simp; done)) | ((with_reducible refine wpL_isLoad rfl ?_); first | (refine wpL_load1S hst rfl rfl 0 rfl rfl rfl (by kernel_rfl) ?_) | (refine wpL_load1S hst rfl rfl 1 rfl rfl rfl (by kernel_rfl) ?_)) | ((with_reducible refine wpL_isLoad rfl ?_); refine wpL_load1C rfl rfl rfl (KC.out _ hst.only) (by kernel_rfl) ?_) | ((with_reducible refine wpL_isAlloc rfl ?_); refine wpL_allocS hst rfl 137 rfl (.agg #[.int .i64 0, .string ⟨#[]⟩]) [.int .i64 0, .string ⟨#[]⟩] (by kernel_rfl) rfl _ rfl ?_; clear hst; intro w1 b1 hb1 hst) | ((with_reducible refine wpL_isStore rfl ?_); first | (refine wpL_storeS hst rfl (ty := 137) rfl 0 rfl rfl rfl (by kernel_rfl) (by kernel_rfl) rfl rfl ?_; clear hst; intro w1 hst; simp only [List.set] at hst) | (refine wpL_store1S hst rfl rfl 0 rfl rfl rfl rfl (by kernel_rfl) rfl ?_; clear hst; intro w1 hst; simp only [List.set] at hst)))
          replace hst := hst.drew
          refine wp_region_text (by kernel_rfl) (by kernel_rfl) ?_
          generalize World.drew _ = W at *
          go_wp2_with (first | ((with_reducible refine wpL_peel rfl ?_ ?_); focus (go_simp; done)) | ((with_reducible refine wpL_isLoad rfl ?_); first | (refine wpL_load1S hst rfl rfl 0 rfl rfl rfl (by kernel_rfl) ?_) | (refine wpL_load1S hst rfl rfl 1 rfl rfl rfl (by kernel_rfl) ?_)) | ((with_reducible refine wpL_isStore rfl ?_); have hh := hst.blk 2 rfl; refine wpL_store1 rfl 9 _ _ rfl gs p (.string q) rfl rfl _ _ hh HLT.out (by kernel_rfl) rfl ?_; clear hh; intro w1 ho1 hx1 hb1; replace hst := hst.chg 2 rfl ho1 hb1; simp only [List.set] at hst; rw [HSET.out] at hst; clear ho1 hx1 hb1))
          refine TextQ.mk ?_ rfl
          go_wp2_with fail
          go_roundw
          case rel => exact ⟨j + 1, by omega, by go_num, hst.dropN 1⟩
          case measure => simp [intOf]; omega
      · have HKF : Hid ((if keep.getD j false = true then [loose.getD j (0, ⟨#[]⟩)] else []) = []) := by
          show _ = _
          rw [List.getD_eq_getElem?_getD, List.getElem?_eq_none (by omega)]
          rfl
        rw [HKF.out, List.append_nil] at HKT
        have j2 : ¬ (j : Int) < kn := by omega
        go_wp2_with (first | ((with_reducible refine wpL_isLoad rfl ?_); refine wpL_load_at rfl 137 _ rfl gl (j * 2) rfl [.int .i64 (p : Int), .string q] _ HW.out Try.underlying137 rfl (by kernel_rfl) rfl ?_) | ((with_reducible refine wpL_peel rfl ?_ ?_); focus (go_simp; done)) | ((with_reducible refine wpL_isLoad rfl ?_); first | (refine wpL_load1S hst rfl rfl 0 rfl rfl rfl (by kernel_rfl) ?_) | (refine wpL_load1S hst rfl rfl 1 rfl rfl rfl (by kernel_rfl) ?_)) | ((with_reducible refine wpL_isAlloc rfl ?_); refine wpL_allocS hst rfl 137 rfl (.agg #[.int .i64 0, .string ⟨#[]⟩]) [.int .i64 0, .string ⟨#[]⟩] (by kernel_rfl) rfl _ rfl ?_; clear hst; intro w1 b1 hb1 hst) | ((with_reducible refine wpL_isStore rfl ?_); first | (refine wpL_storeS hst rfl (ty := 137) rfl 0 rfl rfl rfl (by kernel_rfl) (by kernel_rfl) rfl rfl ?_; clear hst; intro w1 hst; simp only [List.set] at hst) | (refine wpL_store1S hst rfl rfl 0 rfl rfl rfl rfl (by kernel_rfl) rfl ?_; clear hst; intro w1 hst; simp only [List.set] at hst)))
        go_roundw
        case rel => exact ⟨j + 1, by omega, by go_num, by rw [HKT.out]; exact hst.dropN 1⟩
        case measure => simp [intOf]; omega
    · obtain rfl : j = n := by omega
      have j1 : ¬ (j : Int) < j := by omega
      go_wp2_with (first | ((with_reducible refine wpL_isStore rfl ?_); first | (refine wpL_store1S hst rfl rfl 0 rfl rfl rfl rfl (by kernel_rfl) rfl ?_; clear hst; intro w1 hst; simp only [List.set] at hst) | (refine wpL_store1S hst rfl rfl 1 rfl rfl rfl rfl (by kernel_rfl) rfl ?_; clear hst; intro w1 hst; simp only [List.set] at hst) | (refine wpL_store1S hst rfl rfl 2 rfl rfl rfl rfl (by kernel_rfl) rfl ?_; clear hst; intro w1 hst; simp only [List.set] at hst) | (refine wpL_store1S hst rfl rfl 3 rfl rfl rfl rfl (by kernel_rfl) rfl ?_; clear hst; intro w1 hst; simp only [List.set] at hst)))
      go_end0
      have hh := hst.blk 0 rfl
      refine ⟨rfl, hh, ?_, hst.only⟩
      have h2 := hst.blk 1 rfl
      rw [show loose.take j = loose from List.take_of_length_le (by omega)] at h2
      exact h2
end Go.Proofs.Ytmogkiacakkmbaa
