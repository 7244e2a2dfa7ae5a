/- Disks: all is made safe; the power comes. -/
import Derived.Test.YtmogkiacakkmbaaDskE
namespace Go.Proofs.Ytmogkiacakkmbaa
open Go.RowKit

theorem laid_take (l : List ByteArray) (ws : List (Nat × ByteArray)) (j : Nat) (h : j < ws.length) : laid l (ws.take (j + 1)) = (laid l (ws.take j)).set (ws.getD j (0, ⟨#[]⟩)).1 (ws.getD j (0, ⟨#[]⟩)).2 := by
  rw [← laid_snoc, List.take_succ_eq_append_getElem h, List.getD_eq_getElem?_getD, List.getElem?_eq_getElem h]
  rfl
/-- A disk's block and its sectors, both to be written. -/
theorem DiskOp.st {w : World} {d : Nat} {m : DM} {F : List Nat} {kv : Value} {gs cs : Nat} {rs : List Value} {lv : Value} {kb : List Nat} (h : DiskOp w d m F kv gs cs rs lv kb) :
    St w [d, gs] w [⟨d, [.bool m.away, .int .i64 m.fuse, kv, .slice (some ⟨gs, 0, none⟩) m.safe.length cs, lv, .int .i64 m.done], 135, true⟩, ⟨gs, scells m.safe ++ rs, 9, true⟩] :=
  ⟨Only.refl _ w, by
    intro x hx
    simp only [List.mem_cons, List.not_mem_nil, or_false] at hx
    rcases hx with rfl | rfl
    · exact ⟨h.hd, fun _ => .inl (by simp)⟩
    · exact ⟨h.hs, fun _ => .inl (by simp)⟩, by simpa using h.dg⟩

set_option maxRecDepth 100000 in
set_option maxHeartbeats 8000000 in
theorem dskSync_any (d : Nat) (m : DM) (F : List Nat) (w : World) (h : DiskAt w d m F) (h0 : 0 < m.len) (few : m.loose.length ≤ 1000000) :
    Calls Try.prog 17 #[.pointer (some ⟨d, 0, none⟩)] w fun e w' => ∃ F', e = .returned (.int .i64 m.syncE) ∧ DiskAt w' d m.sync F' ∧ Turn F F' w w' := by
  have hOK : m.Ok := h.1
  obtain ⟨kv, gs, cs, rs, lv, kb, ho⟩ := h.open h0
  cases hon : m.away
  · have US : Hid (∀ w, DiskAt w d m F → Calls Try.prog 81 #[.pointer (some ⟨d, 0, none⟩)] w fun e w' => ∃ F', e = .returned (.int .i64 m.useE) ∧ DiskAt w' d m.use F' ∧ Turn F F' w w') := fun w h => dskUse_any d m F w h h0 hon few
    have hd := ho.hd
    rw [hon] at hd
    have hst := St.with (S := []) hd
    have HH := Lib.hid h
    by_cases hf : m.fuse = 0
    · have hu : m.useE = 4 := by unfold DM.useE; rw [if_pos hf]
      have hu2 : m.use = m.cut m.keep := by unfold DM.use; rw [if_pos hf]
      have eE : m.syncE = 4 := by unfold DM.syncE; rw [hon, hu]; rfl
      have eW : m.sync = m.cut m.keep := by unfold DM.sync; rw [hon, if_pos hf]; rfl
      rw [hu, hu2] at US
      rw [eE, eW]
      clear hOK ho h eE eW hu hu2 hd
      go_enter Try.func17, Try.ntmps17
      go_wp2_with (first
        | ((with_reducible refine wpL_peel rfl ?_ ?_); focus (go_simp; done)) | ((with_reducible refine wpL_isLoad rfl ?_); first | (refine wpL_load1S hst rfl rfl 0 rfl rfl rfl (by kernel_rfl) ?_))
        | (go_at_call 81; (with_reducible refine (US.out _ (HH.out.keep hst.only (by simp))).mono ?_); rintro e1 w1 ⟨F1, rfl, hd1, ht1⟩))
      go_ret
      exact ⟨F1, rfl, hd1, (Turn.of_only hst.only).trans ht1⟩
    · have hu : m.useE = 0 := by unfold DM.useE; rw [if_neg hf]
      have hu2 : m.use = m.used := by unfold DM.use; rw [if_neg hf]
      have eE : m.syncE = 0 := by unfold DM.syncE; rw [hon, hu]; rfl
      have eW : m.sync = { m.used with safe := m.now, loose := [] } := by unfold DM.sync; rw [hon, if_neg hf]; rfl
      rw [hu, hu2] at US
      have hok2 := hOK.sync
      rw [eW] at hok2
      rw [eE, eW]
      have HOK := Lib.hid hok2
      have HL0 : Hid (0 < m.used.len) := h0
      have hwi := hOK.within
      clear hOK ho h eE eW hu hu2 hd hok2
      go_enter Try.func17, Try.ntmps17
      go_wp2_with (first
        | ((with_reducible refine wpL_peel rfl ?_ ?_); focus (go_simp; done)) | ((with_reducible refine wpL_isLoad rfl ?_); first | (refine wpL_load1S hst rfl rfl 0 rfl rfl rfl (by kernel_rfl) ?_) | (refine wpL_load1S hst rfl rfl 1 rfl rfl rfl (by kernel_rfl) ?_))
        | (go_at_call 81; (with_reducible refine (US.out _ (HH.out.keep hst.only (by simp))).mono ?_); rintro e1 w1 ⟨F1, rfl, hd1, ht1⟩; obtain ⟨kv2, gs2, cs2, rs2, lv2, kb2, ho⟩ := hd1.open HL0.out; have HT1 := Lib.hid ((Turn.of_only hst.only).trans ht1); clear hst hd1 ht1; have hst := ho.st; have HO := Lib.hid ho; have hl := ho.hl; have hlb := ho.lb; obtain ⟨al, cl, hlv⟩ := owns_slice0 ho.hl; clear ho; subst hlv))
      have hwi' : ∀ x ∈ m.used.loose, x.1 < m.used.safe.length := hwi
      have hfw : m.used.loose.length ≤ 1000000 := few
      clear hwi
      generalize hLO : m.used.loose = loose at *
      generalize hSA : m.used.safe = safe at *
      generalize hN : loose.length = n at *
      generalize hNS : safe.length = ns at *
      go_loopw [25] (fun i wr => ∃ j : Nat, j ≤ n ∧ i = .int .i64 (j : Int) ∧ St w1 [d, gs2] wr [⟨d, [.bool m.used.away, .int .i64 m.used.fuse, kv2, .slice (some ⟨gs2, 0, none⟩) ns cs2, .slice al n cl, .int .i64 m.used.done], 135, true⟩, ⟨gs2, scells (laid safe (loose.take j)) ++ rs2, 9, true⟩])
        (fun i _ => (n - intOf i).toNat)
      case atStart => exact ⟨0, by omega, rfl, by simpa [laid] using hst⟩
      case round =>
        obtain ⟨j, hj, rfl, hst⟩ := hrel
        by_cases hlt : j < n
        · have j1 : (j : Int) < n := by omega
          obtain ⟨p, q, epq⟩ : ∃ p q, loose.getD j (0, ⟨#[]⟩) = (p, q) := ⟨_, _, rfl⟩
          have hpq : (p, q) ∈ loose := by rw [← epq, List.getD_eq_getElem?_getD, List.getElem?_eq_getElem (by omega)]; exact List.getElem_mem _
          have hp : p < ns := by have := hwi' _ hpq; omega
          obtain ⟨gl, cl', hal⟩ : ∃ gl cl', Value.slice al n cl = .slice (some ⟨gl, 0, none⟩) n cl' := by
            rcases hl.2 with ⟨_, h0⟩ | ⟨g, cap, cur, e, _⟩
            · omega
            · exact ⟨g, cap, e⟩
          simp only [Value.slice.injEq] at hal
          obtain ⟨rfl, _, rfl⟩ := hal
          have hglb := hlb gl rfl
          have hlr := ownsRow_only hl hst.only (fun k hk => by simp [Value.ownBlock] at hk; subst hk; simp; exact hglb)
          have HW0 := wread_cells hlr hN j hlt
          rw [epq] at HW0
          have HW := Lib.hid HW0
          clear HW0 hlr
          have HKT := Lib.hid (laid_take safe loose j (by omega))
          rw [epq] at HKT
          have HLT : Hid (p < (scells (laid safe (loose.take j)) ++ rs2).length) := by show _ < _; rw [List.length_append, scells_length, laid_length]; omega
          have HSET : Hid ((scells (laid safe (loose.take j)) ++ rs2).set p (.string q) = scells (laid safe (loose.take (j + 1))) ++ rs2) := by
            show _ = _
            rw [HKT.out, List.set_append_left _ _ (by rw [scells_length, laid_length]; omega), scells_set]
          have p1 : (p : Int) < ns := by omega
          go_wp2_with (first | ((with_reducible refine wpL_isLoad rfl ?_); refine wpL_load_at rfl 137 _ rfl gl (j * 2) rfl [.int .i64 (p : Int), .string q] _ HW.out Try.underlying137 rfl (by kernel_rfl) rfl ?_) | ((with_reducible refine wpL_peel rfl ?_ ?_); focus (go_simp; done)) | ((with_reducible refine wpL_isLoad rfl ?_); first | (refine wpL_load1S hst rfl rfl 0 rfl rfl rfl (by kernel_rfl) ?_) | (refine wpL_load1S hst rfl rfl 1 rfl rfl rfl (by kernel_rfl) ?_)) | ((with_reducible refine wpL_isAlloc rfl ?_); refine wpL_allocS hst rfl 137 rfl (.agg #[.int .i64 0, .string ⟨#[]⟩]) [.int .i64 0, .string ⟨#[]⟩] (by kernel_rfl) rfl _ rfl ?_; clear hst; intro w1 b1 hb1 hst) | ((with_reducible refine wpL_isStore rfl ?_); first | (refine wpL_storeS hst rfl (ty := 137) rfl 0 rfl rfl rfl (by kernel_rfl) (by kernel_rfl) rfl rfl ?_; clear hst; intro w1 hst; simp only [List.set] at hst) | (refine wpL_store1S hst rfl rfl 0 rfl rfl rfl rfl (by kernel_rfl) rfl ?_; clear hst; intro w1 hst; simp only [List.set] at hst)))
          replace hst := hst.drew
          refine wp_region_text (by kernel_rfl) (by kernel_rfl) ?_
          generalize World.drew _ = W at *
          go_wp2_with (first | ((with_reducible refine wpL_peel rfl ?_ ?_); focus (go_simp; done)) | ((with_reducible refine wpL_isLoad rfl ?_); first | (refine wpL_load1S hst rfl rfl 0 rfl rfl rfl (by kernel_rfl) ?_) | (refine wpL_load1S hst rfl rfl 1 rfl rfl rfl (by kernel_rfl) ?_)) | ((with_reducible refine wpL_isStore rfl ?_); have hh := hst.blk 2 rfl; refine wpL_store1 rfl 9 _ _ rfl gs2 p (.string q) rfl rfl _ _ hh HLT.out (by kernel_rfl) rfl ?_; clear hh; intro w2 ho2 hx2 hb2; replace hst := hst.chg 2 rfl ho2 hb2; simp only [List.set] at hst; rw [HSET.out] at hst; clear ho2 hx2 hb2))
          refine TextQ.mk ?_ rfl
          go_wp2_with fail
          go_roundw
          case rel => exact ⟨j + 1, by omega, by go_num, hst.dropN 1⟩
          case measure => simp [intOf]; omega
        · obtain rfl : j = n := by omega
          have j1 : ¬ (j : Int) < j := by omega
          go_wp2_with (first | ((with_reducible refine wpL_isStore rfl ?_); first | (refine wpL_store1S hst rfl rfl 0 rfl rfl rfl rfl (by kernel_rfl) rfl ?_; clear hst; intro w1 hst; simp only [List.set] at hst)))
          go_ret
          have hh := hst.blk 0 rfl
          have h2 := hst.blk 1 rfl
          rw [show loose.take j = loose from List.take_of_length_le (by omega)] at h2
          have e1 : m.now = laid safe loose := by rw [← hSA, ← hLO]; rfl
          have hsz : ({ m.used with safe := m.now, loose := [] } : DM).safe.length = m.used.safe.length := DM.now_length m
          have hh' : Blk w1 d [.bool ({ m.used with safe := m.now, loose := [] } : DM).away, .int .i64 ({ m.used with safe := m.now, loose := [] } : DM).fuse, kv2, .slice (some ⟨gs2, 0, none⟩) m.used.safe.length cs2, .slice none 0 0, .int .i64 ({ m.used with safe := m.now, loose := [] } : DM).done] 135 := by
            rw [hSA, hNS]
            exact hh
          have h2' : Blk w1 gs2 (scells ({ m.used with safe := m.now, loose := [] } : DM).safe ++ rs2) 9 := by
            show Blk w1 gs2 (scells m.now ++ rs2) _
            rw [e1]
            exact h2
          have hfin := HO.out.turned0 (m' := { m.used with safe := m.now, loose := [] }) hst.only HOK.out rfl hsz rfl hh' h2'
          exact ⟨rfl, _, hfin.shut, HT1.out.trans (HO.out.turn hst.only).2⟩
  · have hst := Sd.withQ [] (diskQ d m F) h rfl
    have hd := ho.hd
    rw [hon] at hd
    have hst2 := St.with (S := []) hd
    have eE : m.syncE = 4 := by unfold DM.syncE; rw [hon]; rfl
    have eW : m.sync = m := by unfold DM.sync; rw [hon]; rfl
    rw [eE, eW]
    have HH := Lib.hid h
    clear hOK ho h eE eW hd hst
    have hst := hst2
    clear hst2
    go_enter Try.func17, Try.ntmps17
    go_wp2_with (first | ((with_reducible refine wpL_peel rfl ?_ ?_); focus (go_simp; done)) | ((with_reducible refine wpL_isLoad rfl ?_); first | (refine wpL_load1S hst rfl rfl 0 rfl rfl rfl (by kernel_rfl) ?_)))
    go_ret
    exact ⟨F, rfl, HH.out.keep hst.only (by simp), Turn.of_only hst.only⟩

set_option maxRecDepth 100000 in
set_option maxHeartbeats 4000000 in
theorem dskCome_any (d : Nat) (m : DM) (F : List Nat) (w : World) (h : DiskAt w d m F) (h0 : 0 < m.len) :
    Calls Try.prog 20 #[.pointer (some ⟨d, 0, none⟩)] w fun e w' => e = .returned (.tuple #[]) ∧ DiskAt w' d m.come F ∧ Turn F F w w' := by
  have hOK : m.Ok := h.1
  obtain ⟨kv, gs, cs, rs, lv, kb, ho⟩ := h.open h0
  have hst := ho.st
  have HO := Lib.hid ho
  have HH := Lib.hid h
  have HOK := Lib.hid hOK.come
  cases hon : m.away
  · rw [hon] at hst
    have eW : m.come = m := by unfold DM.come; rw [hon]; rfl
    rw [eW]
    clear hOK ho h eW
    go_enter Try.func20, Try.ntmps20
    go_wp2_with (first | ((with_reducible refine wpL_peel rfl ?_ ?_); focus (go_simp; done)) | ((with_reducible refine wpL_isLoad rfl ?_); first | (refine wpL_load1S hst rfl rfl 0 rfl rfl rfl (by kernel_rfl) ?_)))
    go_end0
    exact ⟨rfl, HH.out, Turn.refl _ _⟩
  · rw [hon] at hst
    have eW : m.come = { m with away := false, fuse := -1 } := by unfold DM.come; rw [hon]; rfl
    rw [eW] at HOK ⊢
    clear hOK ho h eW
    go_enter Try.func20, Try.ntmps20
    go_wp2_with (first | ((with_reducible refine wpL_peel rfl ?_ ?_); focus (go_simp; done)) | ((with_reducible refine wpL_isLoad rfl ?_); first | (refine wpL_load1S hst rfl rfl 0 rfl rfl rfl (by kernel_rfl) ?_)) | ((with_reducible refine wpL_isStore rfl ?_); first | (refine wpL_store1S hst rfl rfl 0 rfl rfl rfl rfl (by kernel_rfl) rfl ?_; clear hst; intro w1 hst; simp only [List.set] at hst)))
    go_end0
    have hh := hst.blk 0 rfl
    have h2 := hst.blk 1 rfl
    exact ⟨rfl, (HO.out.turned (m' := { m with away := false, fuse := -1 }) hst.only HOK.out rfl rfl rfl hh h2).shut, (HO.out.turn hst.only).1⟩
end Go.Proofs.Ytmogkiacakkmbaa
