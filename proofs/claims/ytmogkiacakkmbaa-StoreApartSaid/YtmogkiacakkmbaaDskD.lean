/- Disks: Cut, use, Come at a disk that lies somewhere. -/
import Derived.Test.YtmogkiacakkmbaaMix
import Derived.Test.YtmogkiacakkmbaaDskC
namespace Go.Proofs.Ytmogkiacakkmbaa
open Go.RowKit

/-- A disk of one sector or more, opened. -/
structure DiskOp (w : World) (d : Nat) (m : DM) (F : List Nat) (kv : Value) (gs cs : Nat) (rs : List Value) (lv : Value) (kb : List Nat) : Prop where
  ok : m.Ok
  hd : Blk w d [.bool m.away, .int .i64 m.fuse, kv, .slice (some ⟨gs, 0, none⟩) m.safe.length cs, lv, .int .i64 m.done] 135
  hs : Blk w gs (scells m.safe ++ rs) 9
  hl : w.ownsRow 0 137 2 lv m.loose.length (wcells m.loose)
  hB : Bools w kv m.keep kb
  hF : F = d :: gs :: (lv.ownBlock.toList ++ kb)
  nd : F.Nodup
  hc : m.safe.length ≤ cs
  hm : cs ≤ maxLen
  ht : (scells m.safe ++ rs).length = cs * 1
theorem DiskAt.open {w : World} {d : Nat} {m : DM} {F : List Nat} (h : DiskAt w d m F) (h0 : 0 < m.len) : ∃ kv gs cs rs lv kb, DiskOp w d m F kv gs cs rs lv kb := by
  obtain ⟨hok, kv, sv, lv, kb, ⟨h1, h2, h3, h4⟩, hF, hnd⟩ := h
  obtain ⟨g, cap, rest, rfl, _, hb, hc, hm, ht⟩ := ownsRow_open h2 (by unfold DM.len at h0; omega)
  exact ⟨kv, g, cap, rest, lv, kb, hok, h1, hb, h3, h4, by simpa [Value.ownBlock] using hF, hnd, hc, hm, ht⟩
theorem DiskOp.shut {w : World} {d : Nat} {m : DM} {F : List Nat} {kv : Value} {gs cs : Nat} {rs : List Value} {lv : Value} {kb : List Nat} (h : DiskOp w d m F kv gs cs rs lv kb) : DiskAt w d m F :=
  ⟨h.ok, kv, _, lv, kb, ⟨h.hd, ownsRow_shut h.hs (by rw [scells_length]; omega) (Nat.zero_le _) h.hc h.hm h.ht, h.hl, h.hB⟩, by simpa [Value.ownBlock] using h.hF, h.nd⟩

section
variable {w : World} {d : Nat} {m : DM} {F : List Nat} {kv : Value} {gs cs : Nat} {rs : List Value} {lv : Value} {kb : List Nat}
theorem DiskOp.dg (h : DiskOp w d m F kv gs cs rs lv kb) : d ≠ gs := by
  have := h.nd
  rw [h.hF] at this
  simp only [List.nodup_cons, List.mem_cons, not_or] at this
  exact this.1.1
theorem DiskOp.lb (h : DiskOp w d m F kv gs cs rs lv kb) : ∀ b, lv.ownBlock = some b → b ≠ d ∧ b ≠ gs := by
  intro b hb
  have := h.nd
  rw [h.hF, hb] at this
  simp only [List.nodup_cons, List.mem_cons, not_or, Option.toList_some, List.cons_append] at this
  exact ⟨fun e => this.1.2.1 e.symm, fun e => this.2.1.1 e.symm⟩
theorem DiskOp.kbs (h : DiskOp w d m F kv gs cs rs lv kb) : ∀ b ∈ kb, b ≠ d ∧ b ≠ gs := by
  intro b hb
  have := h.nd
  rw [h.hF] at this
  simp only [List.nodup_cons, List.mem_cons, not_or, List.mem_append] at this
  exact ⟨fun e => this.1.2.2 (e ▸ hb), fun e => this.2.1.2 (e ▸ hb)⟩
/-- What lies of a disk when its cells and its sectors alone are written. -/
theorem DiskOp.turned (h : DiskOp w d m F kv gs cs rs lv kb) {w' : World} {m' : DM} (ho : Only [d, gs] w w') (hok : m'.Ok) (hk : m'.keep = m.keep) (hsz : m'.safe.length = m.safe.length) (hlo : m'.loose = m.loose)
    (hd : Blk w' d [.bool m'.away, .int .i64 m'.fuse, kv, .slice (some ⟨gs, 0, none⟩) m.safe.length cs, lv, .int .i64 m'.done] 135) (hs : Blk w' gs (scells m'.safe ++ rs) 9) : DiskOp w' d m' F kv gs cs rs lv kb := by
  refine ⟨hok, by rw [hsz]; exact hd, hs, ?_, ?_, h.hF, h.nd, by rw [hsz]; exact h.hc, h.hm, ?_⟩
  · rw [hlo]
    exact ownsRow_only h.hl ho (fun k hk => by have := h.lb k hk; simp; exact this)
  · rw [hk]
    exact h.hB.only ho (fun b hb => by have := h.kbs b hb; simp; exact this)
  · have := h.ht
    rw [List.length_append, scells_length] at this ⊢
    rw [hsz]
    exact this
/-- .. and nothing is loose any more. -/
theorem DiskOp.turned0 (h : DiskOp w d m F kv gs cs rs lv kb) {w' : World} {m' : DM} (ho : Only [d, gs] w w') (hok : m'.Ok) (hk : m'.keep = m.keep) (hsz : m'.safe.length = m.safe.length) (hlo : m'.loose = [])
    (hd : Blk w' d [.bool m'.away, .int .i64 m'.fuse, kv, .slice (some ⟨gs, 0, none⟩) m.safe.length cs, .slice none 0 0, .int .i64 m'.done] 135) (hs : Blk w' gs (scells m'.safe ++ rs) 9) : DiskOp w' d m' (d :: gs :: kb) kv gs cs rs (.slice none 0 0) kb := by
  refine ⟨hok, by rw [hsz]; exact hd, hs, ?_, ?_, rfl, ?_, by rw [hsz]; exact h.hc, h.hm, ?_⟩
  · rw [hlo]
    exact World.ownsRow_nil _ _ _ _
  · rw [hk]
    exact h.hB.only ho (fun b hb => by have := h.kbs b hb; simp; exact this)
  · have := h.nd
    rw [h.hF] at this
    simp only [List.nodup_cons, List.mem_cons, not_or, List.mem_append, List.nodup_append] at this ⊢
    exact ⟨⟨this.1.1, this.1.2.2⟩, this.2.1.2, this.2.2.2.1⟩
  · have := h.ht
    rw [List.length_append, scells_length] at this ⊢
    rw [hsz]
    exact this
theorem DiskOp.turn (h : DiskOp w d m F kv gs cs rs lv kb) {w' : World} (ho : Only [d, gs] w w') : Turn F F w w' ∧ Turn F (d :: gs :: kb) w w' := by
  have h1 : Only F w w' := ho.mono (fun k hk _ => by rw [h.hF]; simp only [List.mem_cons, List.not_mem_nil, or_false] at hk; rcases hk with rfl | rfl <;> simp)
  exact ⟨⟨h1, fun _ hb => .inl hb⟩, h1, fun b hb => .inl (by rw [h.hF]; simp only [List.mem_cons, List.mem_append] at hb ⊢; rcases hb with h | h | h <;> simp [h])⟩
end

/-- The power goes. -/
theorem dskCut_open (d : Nat) (m : DM) (F : List Nat) (V : Value) (keep : List Bool) (kb2 : List Nat) (w : World) (kv : Value) (gs cs : Nat) (rs : List Value) (lv : Value) (kb : List Nat) (h : DiskOp w d m F kv gs cs rs lv kb) (hon : m.away = false) (hB : Bools w V keep kb2) (hk : ∀ b ∈ kb2, b ≠ d ∧ b ≠ gs) (few : m.loose.length ≤ 1000000) :
    Calls Try.prog 19 #[.pointer (some ⟨d, 0, none⟩), V] w fun e w' => ∃ F', e = .returned (.tuple #[]) ∧ DiskAt w' d (m.cut keep) F' ∧ Turn F F' w w' := by
  have hd := h.hd
  rw [hon] at hd
  refine (dskCut_core d m.fuse m.done kv V lv m.safe m.loose keep kb2 gs cs rs w hd h.hs h.hl hB h.ok.within few h.dg hk h.lb (fun w' hb => ?_)).mono ?_
  · exact dskIsOn_raw d false _ _ _ _ _ w' hb
  · rintro e w' ⟨rfl, h1, h2, h3⟩
    have hok := h.ok.cut keep
    have e1 : m.cut keep = { m with safe := laid m.safe (keptL keep m.loose), loose := [], away := true } := by unfold DM.cut; rw [hon]; rfl
    rw [e1] at hok ⊢
    exact ⟨_, rfl, (h.turned0 (m' := { m with safe := laid m.safe (keptL keep m.loose), loose := [], away := true }) h3 hok rfl (laid_length _ _) rfl h1 h2).shut, (h.turn h3).2⟩
/-- .. when it is away already. -/
theorem dskCut_away (d : Nat) (m : DM) (F : List Nat) (V : Value) (w : World) (h : DiskAt w d m F) (hon : m.away = true) :
    Calls Try.prog 19 #[.pointer (some ⟨d, 0, none⟩), V] w fun e w' => e = .returned (.tuple #[]) ∧ Only [] w w' := by
  have hst := Sd.withQ [] (diskQ d m F) h rfl
  have IO : Hid (∀ w, DiskAt w d m F → Calls Try.prog 55 #[.pointer (some ⟨d, 0, none⟩)] w fun e w' => e = .returned (.bool false) ∧ Only [] w w') := fun w h => by have := dskIsOn_any d m F w h; rw [hon] at this; exact this
  clear h
  go_enter Try.func19, Try.ntmps19
  go_wp2_with (first | (go_at_call 55; (with_reducible refine (IO.out _ (hst.rs 0 rfl)).mono ?_); rintro e1 w1 ⟨rfl, ho1⟩; replace hst := hst.keep ho1; clear ho1))
  refine bodyPost_ret (results_none rfl _ _ _) rfl ?_
  exact ⟨rfl, hst.only⟩
theorem dskCut_any (d : Nat) (m : DM) (F : List Nat) (V : Value) (keep : List Bool) (kb : List Nat) (w : World) (h : DiskAt w d m F) (h0 : 0 < m.len) (hB : Bools w V keep kb) (hk : ∀ b ∈ kb, b ∉ F) (few : m.loose.length ≤ 1000000) :
    Calls Try.prog 19 #[.pointer (some ⟨d, 0, none⟩), V] w fun e w' => ∃ F', e = .returned (.tuple #[]) ∧ DiskAt w' d (m.cut keep) F' ∧ Turn F F' w w' := by
  cases hon : m.away
  · obtain ⟨kv, gs, cs, rs, lv, kb', ho⟩ := h.open h0
    refine dskCut_open d m F V keep kb w kv gs cs rs lv kb' ho hon hB (fun b hb => ?_) few
    have := hk b hb
    rw [ho.hF] at this
    simp only [List.mem_cons, not_or] at this
    exact ⟨this.1, this.2.1⟩
  · refine (dskCut_away d m F V w h hon).mono ?_
    rintro e w' ⟨rfl, ho⟩
    refine ⟨F, rfl, ?_, .of_only ho⟩
    unfold DM.cut
    rw [hon]
    exact h.keep ho (by simp)

set_option maxRecDepth 100000 in
set_option maxHeartbeats 4000000 in
theorem dskUse_any (d : Nat) (m : DM) (F : List Nat) (w : World) (h : DiskAt w d m F) (h0 : 0 < m.len) (hon : m.away = false) (few : m.loose.length ≤ 1000000) :
    Calls Try.prog 81 #[.pointer (some ⟨d, 0, none⟩)] w fun e w' => ∃ F', e = .returned (.int .i64 m.useE) ∧ DiskAt w' d m.use F' ∧ Turn F F' w w' := by
  obtain ⟨kv, gs, cs, rs, lv, kb, ho⟩ := h.open h0
  have hd := ho.hd
  have hlm := ho.ok.most
  have hll := ho.ok.least
  unfold DM.use DM.useE
  by_cases hf : m.fuse = 0
  · rw [if_pos hf, if_pos hf]
    rw [hf] at hd
    have hst := St.withOwn (S := [d]) hd (by simp)
    have CU := Lib.hid (dskCut_open d m F kv m.keep kb w kv gs cs rs lv kb ho hon ho.hB ho.kbs few)
    clear hd ho h
    go_enter Try.func81, Try.ntmps81
    go_wp2_with (first | ((with_reducible refine wpL_peel rfl ?_ ?_); focus (go_simp; done)) | ((with_reducible refine wpL_isLoad rfl ?_); first | (refine wpL_load1S hst rfl rfl 0 rfl rfl rfl (by kernel_rfl) ?_)) | (go_at_call 19; (with_reducible refine CU.out.mono ?_); rintro e1 w1 ⟨F1, rfl, hd1, ht1⟩))
    go_ret
    exact ⟨F1, rfl, hd1, ht1⟩
  · rw [if_neg hf, if_neg hf]
    have hst := St.withOwn (S := [d]) hd (by simp)
    have hu : m.used.Ok := ⟨ho.ok.few, ho.ok.full, ho.ok.wide, ho.ok.within, by unfold DM.used; simp only; omega, by unfold DM.used; simp only; omega, ho.ok.kept⟩
    have HO := Lib.hid ho
    have HU := Lib.hid hu
    obtain ⟨f, ef⟩ : ∃ f, f = m.fuse := ⟨_, rfl⟩
    rw [← ef] at hst hf hlm hll
    have HF := Lib.hid ef
    clear hd ho h hu ef
    by_cases h1 : f = -1
    · subst h1
      go_enter Try.func81, Try.ntmps81
      go_wp2_with (first | ((with_reducible refine wpL_peel rfl ?_ ?_); focus (go_simp; done)) | ((with_reducible refine wpL_isLoad rfl ?_); first | (refine wpL_load1S hst rfl rfl 0 rfl rfl rfl (by kernel_rfl) ?_)) | ((with_reducible refine wpL_isStore rfl ?_); first | (refine wpL_store1S hst rfl rfl 0 rfl rfl rfl rfl (by kernel_rfl) rfl ?_; clear hst; intro w1 hst; simp only [List.set] at hst)))
      go_ret
      have hb := hst.blk 0 rfl
      have hf1 : m.used.fuse = -1 := by have := HF.out; unfold DM.used; simp only; omega
      have ht := HO.out.turn (hst.only.mono (fun k hk _ => by simp at hk; subst hk; simp))
      refine ⟨F, rfl, (HO.out.turned (m' := m.used) (hst.only.mono (fun k hk _ => by simp at hk; subst hk; simp)) HU.out rfl rfl rfl ?_ (HO.out.hs.only hst.only (by simpa using HO.out.dg.symm))).shut, ht.1⟩
      rw [hf1]
      exact hb
    · have h2 : 1 ≤ f := by omega
      go_enter Try.func81, Try.ntmps81
      go_wp2_with (first | ((with_reducible refine wpL_peel rfl ?_ ?_); focus (go_simp; done)) | ((with_reducible refine wpL_isLoad rfl ?_); first | (refine wpL_load1S hst rfl rfl 0 rfl rfl rfl (by kernel_rfl) ?_)) | ((with_reducible refine wpL_isStore rfl ?_); first | (refine wpL_store1S hst rfl rfl 0 rfl rfl rfl rfl (by kernel_rfl) rfl ?_; clear hst; intro w1 hst; simp only [List.set] at hst)))
      go_ret
      have hb := hst.blk 0 rfl
      have hf1 : m.used.fuse = max (f - 1) (-1) := by rw [HF.out]; rfl
      have ht := HO.out.turn (hst.only.mono (fun k hk _ => by simp at hk; subst hk; simp))
      refine ⟨F, rfl, (HO.out.turned (m' := m.used) (hst.only.mono (fun k hk _ => by simp at hk; subst hk; simp)) HU.out rfl rfl rfl ?_ (HO.out.hs.only hst.only (by simpa using HO.out.dg.symm))).shut, ht.1⟩
      rw [hf1]
      exact hb
end Go.Proofs.Ytmogkiacakkmbaa
