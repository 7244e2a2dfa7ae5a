/- Disks: all is made safe; the power comes. -/
import Derived.Test.YtmogkiacakkmbaaDskD
namespace Go.Proofs.Ytmogkiacakkmbaa
open Go.RowKit

theorem St.othersD {w0 : World} {S : List Nat} {w w' : World} {L : List Ent} (h : St w0 S w L) {T : List Nat} (ho : Only T w w') (hT : ∀ i ∈ T, i ∈ S ∨ w0.heap.size ≤ i) (hn : ∀ i ∈ T, Away L i) : St w0 S w' L :=
  ⟨h.only.step ho hT, fun x hx => ⟨(h.each x hx).1.only ho (fun hm => hn _ hm x hx rfl), (h.each x hx).2⟩, h.apart⟩
section
variable {w : World} {d : Nat} {m : DM} {F : List Nat} {kv : Value} {gs cs : Nat} {rs : List Value} {lv : Value} {kb : List Nat}
theorem DiskOp.wrote (h : DiskOp w d m F kv gs cs rs lv kb) {w' : World} {m' : DM} {lv' : Value} (ho : Only (d :: lv.ownBlock.toList) w w') (hok : m'.Ok) (hk : m'.keep = m.keep) (hs : m'.safe = m.safe)
    (hd : Blk w' d [.bool m'.away, .int .i64 m'.fuse, kv, .slice (some ⟨gs, 0, none⟩) m.safe.length cs, lv', .int .i64 m'.done] 135) (hl : w'.ownsRow 0 137 2 lv' m'.loose.length (wcells m'.loose))
    (hb : lv'.ownBlock = lv.ownBlock ∨ ∃ g, lv'.ownBlock = some g ∧ w.heap.size ≤ g) : DiskOp w' d m' (d :: gs :: (lv'.ownBlock.toList ++ kb)) kv gs cs rs lv' kb ∧ Turn F (d :: gs :: (lv'.ownBlock.toList ++ kb)) w w' := by
  have hnd := h.nd
  have hlt : ∀ b ∈ d :: gs :: (lv.ownBlock.toList ++ kb), b < w.heap.size := by
    intro b hb
    have := h.shut.lt b (by rw [h.hF]; exact hb)
    exact this
  rw [h.hF] at hnd
  have hgs : gs ∉ d :: lv.ownBlock.toList := by
    simp only [List.nodup_cons, List.mem_cons, not_or, List.mem_append] at hnd ⊢
    exact ⟨fun e => hnd.1.1 e.symm, hnd.2.1.1⟩
  have hkb : ∀ b ∈ kb, b ∉ d :: lv.ownBlock.toList := by
    intro b hb hm
    simp only [List.nodup_cons, List.mem_cons, not_or, List.mem_append, List.nodup_append] at hnd hm
    rcases hm with rfl | hm
    · exact hnd.1.2.2 hb
    · exact hnd.2.2.2.2 b hm b hb rfl
  refine ⟨⟨hok, by rw [hs]; exact hd, by rw [hs]; exact h.hs.only ho hgs, hl, by rw [hk]; exact h.hB.only ho hkb, rfl, ?_, by rw [hs]; exact h.hc, h.hm, by rw [hs]; exact h.ht⟩, ho.mono (fun k hk _ => ?_), fun b hb' => ?_⟩
  · rcases hb with e | ⟨g, e, hg⟩
    · rw [e]
      exact hnd
    · rw [e]
      have hn : ∀ b ∈ d :: gs :: (lv.ownBlock.toList ++ kb), b ≠ g := fun b hb e => by have := hlt b hb; omega
      simp only [List.nodup_cons, List.mem_cons, not_or, List.mem_append, List.nodup_append, Option.toList_some, List.not_mem_nil, or_false] at hnd ⊢
      refine ⟨⟨hnd.1.1, hn d (by simp), hnd.1.2.2⟩, ⟨hn gs (by simp), hnd.2.1.2⟩, ⟨by simp, by simp⟩, hnd.2.2.2.1, fun a ha b hb => ?_⟩
      subst ha
      exact fun e => hn b (by simp [hb]) e.symm
  · rw [h.hF]
    simp only [List.mem_cons, List.mem_append] at hk ⊢
    rcases hk with hk | hk <;> simp [hk]
  · rw [h.hF]
    rcases hb with e | ⟨g, e, hg⟩
    · rw [e] at hb'
      exact .inl hb'
    · rw [e] at hb'
      simp only [List.mem_cons, List.mem_append, Option.toList_some, List.not_mem_nil, or_false] at hb'
      rcases hb' with rfl | rfl | rfl | hb'
      · exact .inl (by simp)
      · exact .inl (by simp)
      · exact .inr hg
      · exact .inl (by simp [hb'])
end

theorem wrInfo : (Try.prog.info? 137).map (fun i => (i.zero, i.size, i.bytes)) = some (some (.agg #[.int .i64 0, .string ⟨#[]⟩]), 2, 24) := by kernel_rfl
theorem wrBuilt (p : Int) (s : ByteArray) : Try.prog.built 137 [(0, .int .i64 p), (1, .string s)] = some ([Value.int .i64 p, .string s]).toArray := by kernel_rfl
theorem wpL_isBuildD {P : Program} {w : World} {ops : Array Oper} {rest : List Oper} {o : Oper} {a : Act} {Q : Exit → Act → World → Prop} {t : TypeId} {x : Array (Nat × Operand)} (_h : o.op = .build t x) (h : wpList P ops Q (o :: rest) a w) : wpList P ops Q (o :: rest) a w := h
theorem wpL_isSliceD {P : Program} {w : World} {ops : Array Oper} {rest : List Oper} {o : Oper} {a : Act} {Q : Exit → Act → World → Prop} {t : TypeId} {n : Nat} {x : Array (Nat × Operand)} (_h : o.op = .buildSlice t n x) (h : wpList P ops Q (o :: rest) a w) : wpList P ops Q (o :: rest) a w := h
theorem wpL_isAppD {P : Program} {w : World} {ops : Array Oper} {rest : List Oper} {o : Oper} {a : Act} {Q : Exit → Act → World → Prop} {s x : Operand} {t u : TypeId} (_h : o.op = .call { callee := .builtin .append, args := #[s, x], argTypes := #[t, u] }) (h : wpList P ops Q (o :: rest) a w) : wpList P ops Q (o :: rest) a w := h

set_option maxRecDepth 100000 in
set_option maxHeartbeats 8000000 in
theorem dskWrite_any (d : Nat) (m : DM) (F : List Nat) (a : Int) (s : ByteArray) (w : World) (h : DiskAt w d m F) (h0 : 0 < m.len) (few : m.loose.length ≤ 1000000) :
    Calls Try.prog 102 #[.pointer (some ⟨d, 0, none⟩), .int .i64 a, .string s] w fun e w' => ∃ F', e = .returned (.int .i64 (m.writeE a s)) ∧ DiskAt w' d (m.write a s) F' ∧ Turn F F' w w' := by
  have hwok := (DiskAt.open h h0)
  have hOK : m.Ok := h.1
  have hst := Sd.withQ [] (diskQ d m F) h rfl
  have CK : Hid (∀ w, DiskAt w d m F → Calls Try.prog 143 #[.pointer (some ⟨d, 0, none⟩), .int .i64 a] w fun e w' => e = .returned (.int .i64 (m.check a)) ∧ Only [] w w') := fun w h => dskCheck_any d m F a w h
  by_cases hs : s.size = 32
  · have hs1 : ((s.size : Int) != 32) = false := by simp; omega
    have hs2 : ¬ s.size ≠ 32 := fun h => h hs
    by_cases hc : m.check a = 0
    · have hc2 : ¬ m.check a ≠ 0 := fun h => h hc
      rw [hc] at CK
      have hon : m.away = false := by
        unfold DM.check at hc
        split at hc
        · cases hc
        · cases hh : m.away
          · rfl
          · rw [hh] at hc; simp at hc
      have hrng : ¬ (a < 0 ∨ (m.len : Int) ≤ a) := fun h' => by unfold DM.check at hc; rw [if_pos h'] at hc; cases hc
      obtain ⟨p, rfl⟩ : ∃ p : Nat, a = (p : Int) := ⟨a.toNat, by omega⟩
      have US : Hid (∀ w, DiskAt w d m F → Calls Try.prog 81 #[.pointer (some ⟨d, 0, none⟩)] w fun e w' => ∃ F', e = .returned (.int .i64 m.useE) ∧ DiskAt w' d m.use F' ∧ Turn F F' w w') := fun w h => dskUse_any d m F w h h0 hon few
      have eE : m.writeE (p : Int) s = m.useE := by unfold DM.writeE; rw [if_neg hs2, if_neg hc2]
      rw [eE]
      by_cases hf : m.fuse = 0
      · have hu : m.useE = 4 := by unfold DM.useE; rw [if_pos hf]
        have hu2 : m.use = m.cut m.keep := by unfold DM.use; rw [if_pos hf]
        have eW : m.write (p : Int) s = m.cut m.keep := by unfold DM.write; rw [if_neg hs2, if_neg hc2, if_pos hf]
        rw [hu, hu2] at US
        rw [eW, hu]
        clear hOK hwok h eW hu hu2 eE
        go_enter Try.func102, Try.ntmps102
        go_wp2_with (first | (go_at_call 143; (with_reducible refine (CK.out _ (hst.rs 0 rfl)).mono ?_); rintro e1 w1 ⟨rfl, ho1⟩; replace hst := hst.keep ho1; clear ho1) | (go_at_call 81; (with_reducible refine (US.out _ (hst.rs 0 rfl)).mono ?_); rintro e1 w1 ⟨F1, rfl, hd1, ht1⟩))
        go_ret
        exact ⟨F1, rfl, hd1, (Turn.of_only hst.only).trans ht1⟩
      · have hu : m.useE = 0 := by unfold DM.useE; rw [if_neg hf]
        have hu2 : m.use = m.used := by unfold DM.use; rw [if_neg hf]
        have eW : m.write (p : Int) s = { m.used with loose := m.loose ++ [(p, s)] } := by unfold DM.write; rw [if_neg hs2, if_neg hc2, if_neg hf]; rfl
        rw [hu, hu2] at US
        have hok2 := hOK.write (p : Int) s
        rw [eW] at hok2
        rw [eW, hu]
        have HOK := Lib.hid hok2
        have HL0 : Hid (0 < m.used.len) := h0
        have HFW : Hid (m.used.loose.length ≤ 1000000) := few
        clear hOK hwok h eW hu hu2 eE hok2
        go_enter Try.func102, Try.ntmps102
        go_wp2_with (first
          | (go_at_call 143; (with_reducible refine (CK.out _ (hst.rs 0 rfl)).mono ?_); rintro e1 w1 ⟨rfl, ho1⟩; replace hst := hst.keep ho1; clear ho1)
          | (go_at_call 81; (with_reducible refine (US.out _ (hst.rs 0 rfl)).mono ?_); rintro e1 w1 ⟨F1, rfl, hd1, ht1⟩; obtain ⟨kv, gs, cs, rs, lv, kb, ho⟩ := hd1.open HL0.out; have HT1 := Lib.hid ((Turn.of_only hst.only).trans ht1); clear hst hd1 ht1; have hst := St.withOwn (S := d :: lv.ownBlock.toList) ho.hd (by simp); have HO := Lib.hid ho; have hown := ho.hl; have HLT := Lib.hid (owns_lt0 ho.hl); have HLB := Lib.hid ho.lb; obtain ⟨al, cl, hlv⟩ := owns_slice0 ho.hl; have HDL := Lib.hid ho.hd.lt; clear ho; subst hlv)
          | ((with_reducible refine wpL_peel rfl ?_ ?_); focus (go_simp; done)) | ((with_reducible refine wpL_isLoad rfl ?_); first | (refine wpL_load1S hst rfl rfl 0 rfl rfl rfl (by kernel_rfl) ?_) | (refine wpL_load1S hst rfl rfl 1 rfl rfl rfl (by kernel_rfl) ?_))
          | ((with_reducible refine wpL_isBuildD rfl ?_); refine wpL_build rfl 137 _ rfl [.int .i64 (p : Int), .string s] (wrBuilt _ _) ?_)
          | ((with_reducible refine wpL_isSliceD rfl ?_); refine wpL_slice_lit rfl 133 1 _ rfl Try.underlying133 wrInfo (by decide) (by decide) [.agg #[.int .i64 (p : Int), .string s]] rfl rfl (by simp [Value.cells]) ?_; intro w2 ho2 hs2 hB2; have HSZ := Lib.hid ho2.size; replace hown := ownsRow_only hown ho2 (by simp); replace hst := hst.new ho2 hB2 (Nat.le_refl _); clear ho2 hs2 hB2)
          | ((with_reducible refine wpL_isAppD rfl ?_); refine wpL_append rfl _ _ 133 rfl 0 137 Try.underlying133 wrInfo rfl (by decide) (.slice al m.used.loose.length cl) _ _ rfl hown ⟨_, 0, none⟩ 1 1 [.int .i64 (p : Int), .string s] rfl rfl (fun j u hu => by rw [addr_addD, Nat.zero_add]; exact (hst.blk 0 rfl).cell hu) (by simp [Value.oneCell']) (by have := HFW.out; unfold maxLen; omega) (by have := HFW.out; omega) (Nat.zero_le _) ?_; intro v3 w3 hown3 hg3 hv3 hiff3; have hgo := Only.of_grown hg3; obtain ⟨al3, cl3, hv3e⟩ := owns_slice0 hown3; subst hv3e; have HV3 := Lib.hid hv3;
              replace hst := hst.othersD hgo (fun i hi => .inl (by simp only [List.mem_cons]; exact .inr hi)) (fun i hi x hx => by
                have h1 := HLT.out i hi
                have h2 := HLB.out i (by simpa using hi)
                simp only [List.mem_cons, List.not_mem_nil, or_false] at hx
                rcases hx with rfl | rfl
                · simp only; omega
                · exact fun e => h2.1 e.symm); clear hg3 hgo hv3 hiff3 hown)
          | ((with_reducible refine wpL_isStore rfl ?_); have hh := hst.blk 1 rfl; refine wpL_store1 rfl 133 _ _ rfl d 4 (.slice al3 (m.used.loose.length + 1) cl3) rfl rfl _ _ hh (Nat.le_of_ble_eq_true rfl) (by kernel_rfl) rfl ?_; clear hh; intro w4 ho4 hs4 hb4; replace hst := hst.chg 1 rfl ho4 hb4; simp only [List.set] at hst;
              replace hown3 := ownsRow_only hown3 ho4 (fun k hk hm => by
                simp only [List.mem_singleton] at hm
                subst hm
                rcases HV3.out with e | e
                · rw [hk] at e
                  exact (HLB.out _ e.symm).1 rfl
                · rw [hk] at e
                  have h1 := HDL.out
                  have h2 := HSZ.out
                  simp only [Option.some.injEq] at e
                  omega); clear ho4 hs4 hb4))
        go_ret
        have hb := hst.blk 1 rfl
        have e1 : (m.loose ++ [(p, s)]).length = m.used.loose.length + 1 := by rw [List.length_append]; rfl
        have hw := HO.out.wrote (m' := { m.used with loose := m.loose ++ [(p, s)] }) hst.only HOK.out rfl rfl hb (by
          show World.ownsRow _ _ _ _ _ (m.loose ++ [(p, s)]).length (wcells (m.loose ++ [(p, s)]))
          rw [e1, wcells_snoc]
          exact hown3) (by
          rcases HV3.out with e | e
          · exact .inl e
          · exact .inr ⟨_, e, HSZ.out⟩)
        exact ⟨_, rfl, hw.1.shut, HT1.out.trans hw.2⟩
    · have hc2 : m.check a ≠ 0 := hc
      have hc3 : (m.check a != 0) = true := by simpa using hc
      have eE : m.writeE a s = m.check a := by unfold DM.writeE; rw [if_neg hs2, if_pos hc2]
      have eW : m.write a s = m := by unfold DM.write; rw [if_neg hs2, if_pos hc2]
      rw [eE, eW]
      generalize m.check a = ck at *
      clear hOK hwok h eE eW
      go_enter Try.func102, Try.ntmps102
      go_wp2_with (first | (go_at_call 143; (with_reducible refine (CK.out _ (hst.rs 0 rfl)).mono ?_); rintro e1 w1 ⟨rfl, ho1⟩; replace hst := hst.keep ho1; clear ho1))
      go_ret
      exact ⟨F, rfl, hst.rs 0 rfl, Turn.of_only hst.only⟩
  · have hs1 : ((s.size : Int) != 32) = true := by simp; omega
    have eE : m.writeE a s = 1 := by unfold DM.writeE; rw [if_pos hs]
    have eW : m.write a s = m := by unfold DM.write; rw [if_pos hs]
    rw [eE, eW]
    clear hOK hwok h eE eW
    go_enter Try.func102, Try.ntmps102
    go_wp2_with fail
    go_ret
    exact ⟨F, rfl, hst.rs 0 rfl, Turn.of_only hst.only⟩
end Go.Proofs.Ytmogkiacakkmbaa

namespace Go.Proofs.Ytmogkiacakkmbaa
open Go.RowKit

theorem laid_take (l : List ByteArray) (ws : List (Nat × ByteArray)) (j : Nat) (h : j < ws.length) : laid l (ws.take (j + 1)) = (laid l (ws.take j)).set (ws.getD j (0, ⟨#[]⟩)).1 (ws.getD j (0, ⟨#[]⟩)).2 := by
  rw [← laid_snoc, List.take_succ_eq_append_getElem h, List.getD_eq_getElem?_getD, List.getElem?_eq_getElem h]
  rfl
/-- A disk's block and its sectors, both to be written. -/
theorem DiskOp.st {w : World} {d : Nat} {m : DM} {F : List Nat} {kv : Value} {gs cs : Nat} {rs : List Value} {lv : Value} {kb : List Nat} (h : DiskOp w d m F kv gs cs rs lv kb) :
    St w [d, gs] w [⟨d, [.bool m.away, .int .i64 m.fuse, kv, .slice (some ⟨gs, 0, none⟩) m.safe.length cs, lv, .int .i64 m.done], 135, true⟩, ⟨gs, scells m.safe ++ rs, 9, true⟩] :=
  ⟨Only.refl _ w, by
    intro x hx
    simp only [List.mem_cons, List.not_mem_nil, or_false] at hx
    rcases hx with rfl | rfl
    · exact ⟨h.hd, fun _ => .inl (by simp)⟩
    · exact ⟨h.hs, fun _ => .inl (by simp)⟩, by simpa using h.dg⟩

set_option maxRecDepth 100000 in
set_option maxHeartbeats 8000000 in
theorem dskSync_any (d : Nat) (m : DM) (F : List Nat) (w : World) (h : DiskAt w d m F) (h0 : 0 < m.len) (few : m.loose.length ≤ 1000000) :
    Calls Try.prog 17 #[.pointer (some ⟨d, 0, none⟩)] w fun e w' => ∃ F', e = .returned (.int .i64 m.syncE) ∧ DiskAt w' d m.sync F' ∧ Turn F F' w w' := by
  have hOK : m.Ok := h.1
  obtain ⟨kv, gs, cs, rs, lv, kb, ho⟩ := h.open h0
  cases hon : m.away
  · have US : Hid (∀ w, DiskAt w d m F → Calls Try.prog 81 #[.pointer (some ⟨d, 0, none⟩)] w fun e w' => ∃ F', e = .returned (.int .i64 m.useE) ∧ DiskAt w' d m.use F' ∧ Turn F F' w w') := fun w h => dskUse_any d m F w h h0 hon few
    have hd := ho.hd
    rw [hon] at hd
    have hst := St.with (S := []) hd
    have HH := Lib.hid h
    by_cases hf : m.fuse = 0
    · have hu : m.useE = 4 := by unfold DM.useE; rw [if_pos hf]
      have hu2 : m.use = m.cut m.keep := by unfold DM.use; rw [if_pos hf]
      have eE : m.syncE = 4 := by unfold DM.syncE; rw [hon, hu]; rfl
      have eW : m.sync = m.cut m.keep := by unfold DM.sync; rw [hon, if_pos hf]; rfl
      rw [hu, hu2] at US
      rw [eE, eW]
      clear hOK ho h eE eW hu hu2 hd
      go_enter Try.func17, Try.ntmps17
      go_wp2_with (first
        | ((with_reducible refine wpL_peel rfl ?_ ?_); focus (go_simp; done)) | ((with_reducible refine wpL_isLoad rfl ?_); first | (refine wpL_load1S hst rfl rfl 0 rfl rfl rfl (by kernel_rfl) ?_))
        | (go_at_call 81; (with_reducible refine (US.out _ (HH.out.keep hst.only (by simp))).mono ?_); rintro e1 w1 ⟨F1, rfl, hd1, ht1⟩))
      go_ret
      exact ⟨F1, rfl, hd1, (Turn.of_only hst.only).trans ht1⟩
    · have hu : m.useE = 0 := by unfold DM.useE; rw [if_neg hf]
      have hu2 : m.use = m.used := by unfold DM.use; rw [if_neg hf]
      have eE : m.syncE = 0 := by unfold DM.syncE; rw [hon, hu]; rfl
      have eW : m.sync = { m.used with safe := m.now, loose := [] } := by unfold DM.sync; rw [hon, if_neg hf]; rfl
      rw [hu, hu2] at US
      have hok2 := hOK.sync
      rw [eW] at hok2
      rw [eE, eW]
      have HOK := Lib.hid hok2
      have HL0 : Hid (0 < m.used.len) := h0
      have hwi := hOK.within
      clear hOK ho h eE eW hu hu2 hd hok2
      go_enter Try.func17, Try.ntmps17
      go_wp2_with (first
        | ((with_reducible refine wpL_peel rfl ?_ ?_); focus (go_simp; done)) | ((with_reducible refine wpL_isLoad rfl ?_); first | (refine wpL_load1S hst rfl rfl 0 rfl rfl rfl (by kernel_rfl) ?_) | (refine wpL_load1S hst rfl rfl 1 rfl rfl rfl (by kernel_rfl) ?_))
        | (go_at_call 81; (with_reducible refine (US.out _ (HH.out.keep hst.only (by simp))).mono ?_); rintro e1 w1 ⟨F1, rfl, hd1, ht1⟩; obtain ⟨kv2, gs2, cs2, rs2, lv2, kb2, ho⟩ := hd1.open HL0.out; have HT1 := Lib.hid ((Turn.of_only hst.only).trans ht1); clear hst hd1 ht1; have hst := ho.st; have HO := Lib.hid ho; have hl := ho.hl; have hlb := ho.lb; obtain ⟨al, cl, hlv⟩ := owns_slice0 ho.hl; clear ho; subst hlv))
      have hwi' : ∀ x ∈ m.used.loose, x.1 < m.used.safe.length := hwi
      have hfw : m.used.loose.length ≤ 1000000 := few
      clear hwi
      generalize hLO : m.used.loose = loose at *
      generalize hSA : m.used.safe = safe at *
      generalize hN : loose.length = n at *
      generalize hNS : safe.length = ns at *
      go_loopw [25] (fun i wr => ∃ j : Nat, j ≤ n ∧ i = .int .i64 (j : Int) ∧ St w1 [d, gs2] wr [⟨d, [.bool m.used.away, .int .i64 m.used.fuse, kv2, .slice (some ⟨gs2, 0, none⟩) ns cs2, .slice al n cl, .int .i64 m.used.done], 135, true⟩, ⟨gs2, scells (laid safe (loose.take j)) ++ rs2, 9, true⟩])
        (fun i _ => (n - intOf i).toNat)
      case atStart => exact ⟨0, by omega, rfl, by simpa [laid] using hst⟩
      case round =>
        obtain ⟨j, hj, rfl, hst⟩ := hrel
        by_cases hlt : j < n
        · have j1 : (j : Int) < n := by omega
          obtain ⟨p, q, epq⟩ : ∃ p q, loose.getD j (0, ⟨#[]⟩) = (p, q) := ⟨_, _, rfl⟩
          have hpq : (p, q) ∈ loose := by rw [← epq, List.getD_eq_getElem?_getD, List.getElem?_eq_getElem (by omega)]; exact List.getElem_mem _
          have hp : p < ns := by have := hwi' _ hpq; omega
          obtain ⟨gl, cl', hal⟩ : ∃ gl cl', Value.slice al n cl = .slice (some ⟨gl, 0, none⟩) n cl' := by
            rcases hl.2 with ⟨_, h0⟩ | ⟨g, cap, cur, e, _⟩
            · omega
            · exact ⟨g, cap, e⟩
          simp only [Value.slice.injEq] at hal
          obtain ⟨rfl, _, rfl⟩ := hal
          have hglb := hlb gl rfl
          have hlr := ownsRow_only hl hst.only (fun k hk => by simp [Value.ownBlock] at hk; subst hk; simp; exact hglb)
          have HW0 := wread_cells hlr hN j hlt
          rw [epq] at HW0
          have HW := Lib.hid HW0
          clear HW0 hlr
          have HKT := Lib.hid (laid_take safe loose j (by omega))
          rw [epq] at HKT
          have HLT : Hid (p < (scells (laid safe (loose.take j)) ++ rs2).length) := by show _ < _; rw [List.length_append, scells_length, laid_length]; omega
          have HSET : Hid ((scells (laid safe (loose.take j)) ++ rs2).set p (.string q) = scells (laid safe (loose.take (j + 1))) ++ rs2) := by
            show _ = _
            rw [HKT.out, List.set_append_left _ _ (by rw [scells_length, laid_length]; omega), scells_set]
          have p1 : (p : Int) < ns := by omega
          go_wp2_with (first | ((with_reducible refine wpL_isLoad rfl ?_); refine wpL_load_at rfl 137 _ rfl gl (j * 2) rfl [.int .i64 (p : Int), .string q] _ HW.out Try.underlying137 rfl (by kernel_rfl) rfl ?_) | ((with_reducible refine wpL_peel rfl ?_ ?_); focus (go_simp; done)) | ((with_reducible refine wpL_isLoad rfl ?_); first | (refine wpL_load1S hst rfl rfl 0 rfl rfl rfl (by kernel_rfl) ?_) | (refine wpL_load1S hst rfl rfl 1 rfl rfl rfl (by kernel_rfl) ?_)) | ((with_reducible refine wpL_isAlloc rfl ?_); refine wpL_allocS hst rfl 137 rfl (.agg #[.int .i64 0, .string ⟨#[]⟩]) [.int .i64 0, .string ⟨#[]⟩] (by kernel_rfl) rfl _ rfl ?_; clear hst; intro w1 b1 hb1 hst) | ((with_reducible refine wpL_isStore rfl ?_); first | (refine wpL_storeS hst rfl (ty := 137) rfl 0 rfl rfl rfl (by kernel_rfl) (by kernel_rfl) rfl rfl ?_; clear hst; intro w1 hst; simp only [List.set] at hst) | (refine wpL_store1S hst rfl rfl 0 rfl rfl rfl rfl (by kernel_rfl) rfl ?_; clear hst; intro w1 hst; simp only [List.set] at hst)))
          replace hst := hst.drew
          refine wp_region_text (by kernel_rfl) (by kernel_rfl) ?_
          generalize World.drew _ = W at *
          go_wp2_with (first | ((with_reducible refine wpL_peel rfl ?_ ?_); focus (go_simp; done)) | ((with_reducible refine wpL_isLoad rfl ?_); first | (refine wpL_load1S hst rfl rfl 0 rfl rfl rfl (by kernel_rfl) ?_) | (refine wpL_load1S hst rfl rfl 1 rfl rfl rfl (by kernel_rfl) ?_)) | ((with_reducible refine wpL_isStore rfl ?_); have hh := hst.blk 2 rfl; refine wpL_store1 rfl 9 _ _ rfl gs2 p (.string q) rfl rfl _ _ hh HLT.out (by kernel_rfl) rfl ?_; clear hh; intro w2 ho2 hx2 hb2; replace hst := hst.chg 2 rfl ho2 hb2; simp only [List.set] at hst; rw [HSET.out] at hst; clear ho2 hx2 hb2))
          refine TextQ.mk ?_ rfl
          go_wp2_with fail
          go_roundw
          case rel => exact ⟨j + 1, by omega, by go_num, hst.dropN 1⟩
          case measure => simp [intOf]; omega
        · obtain rfl : j = n := by omega
          have j1 : ¬ (j : Int) < j := by omega
          go_wp2_with (first | ((with_reducible refine wpL_isStore rfl ?_); first | (refine wpL_store1S hst rfl rfl 0 rfl rfl rfl rfl (by kernel_rfl) rfl ?_; clear hst; intro w1 hst; simp only [List.set] at hst)))
          go_ret
          have hh := hst.blk 0 rfl
          have h2 := hst.blk 1 rfl
          rw [show loose.take j = loose from List.take_of_length_le (by omega)] at h2
          have e1 : m.now = laid safe loose := by rw [← hSA, ← hLO]; rfl
          have hsz : ({ m.used with safe := m.now, loose := [] } : DM).safe.length = m.used.safe.length := DM.now_length m
          have hh' : Blk w1 d [.bool ({ m.used with safe := m.now, loose := [] } : DM).away, .int .i64 ({ m.used with safe := m.now, loose := [] } : DM).fuse, kv2, .slice (some ⟨gs2, 0, none⟩) m.used.safe.length cs2, .slice none 0 0, .int .i64 ({ m.used with safe := m.now, loose := [] } : DM).done] 135 := by
            rw [hSA, hNS]
            exact hh
          have h2' : Blk w1 gs2 (scells ({ m.used with safe := m.now, loose := [] } : DM).safe ++ rs2) 9 := by
            show Blk w1 gs2 (scells m.now ++ rs2) _
            rw [e1]
            exact h2
          have hfin := HO.out.turned0 (m' := { m.used with safe := m.now, loose := [] }) hst.only HOK.out rfl hsz rfl hh' h2'
          exact ⟨rfl, _, hfin.shut, HT1.out.trans (HO.out.turn hst.only).2⟩
  · have hst := Sd.withQ [] (diskQ d m F) h rfl
    have hd := ho.hd
    rw [hon] at hd
    have hst2 := St.with (S := []) hd
    have eE : m.syncE = 4 := by unfold DM.syncE; rw [hon]; rfl
    have eW : m.sync = m := by unfold DM.sync; rw [hon]; rfl
    rw [eE, eW]
    have HH := Lib.hid h
    clear hOK ho h eE eW hd hst
    have hst := hst2
    clear hst2
    go_enter Try.func17, Try.ntmps17
    go_wp2_with (first | ((with_reducible refine wpL_peel rfl ?_ ?_); focus (go_simp; done)) | ((with_reducible refine wpL_isLoad rfl ?_); first | (refine wpL_load1S hst rfl rfl 0 rfl rfl rfl (by kernel_rfl) ?_)))
    go_ret
    exact ⟨F, rfl, HH.out.keep hst.only (by simp), Turn.of_only hst.only⟩

set_option maxRecDepth 100000 in
set_option maxHeartbeats 4000000 in
theorem dskCome_any (d : Nat) (m : DM) (F : List Nat) (w : World) (h : DiskAt w d m F) (h0 : 0 < m.len) :
    Calls Try.prog 20 #[.pointer (some ⟨d, 0, none⟩)] w fun e w' => e = .returned (.tuple #[]) ∧ DiskAt w' d m.come F ∧ Turn F F w w' := by
  have hOK : m.Ok := h.1
  obtain ⟨kv, gs, cs, rs, lv, kb, ho⟩ := h.open h0
  have hst := ho.st
  have HO := Lib.hid ho
  have HH := Lib.hid h
  have HOK := Lib.hid hOK.come
  cases hon : m.away
  · rw [hon] at hst
    have eW : m.come = m := by unfold DM.come; rw [hon]; rfl
    rw [eW]
    clear hOK ho h eW
    go_enter Try.func20, Try.ntmps20
    go_wp2_with (first | ((with_reducible refine wpL_peel rfl ?_ ?_); focus (go_simp; done)) | ((with_reducible refine wpL_isLoad rfl ?_); first | (refine wpL_load1S hst rfl rfl 0 rfl rfl rfl (by kernel_rfl) ?_)))
    go_end0
    exact ⟨rfl, HH.out, Turn.refl _ _⟩
  · rw [hon] at hst
    have eW : m.come = { m with away := false, fuse := -1 } := by unfold DM.come; rw [hon]; rfl
    rw [eW] at HOK ⊢
    clear hOK ho h eW
    go_enter Try.func20, Try.ntmps20
    go_wp2_with (first | ((with_reducible refine wpL_peel rfl ?_ ?_); focus (go_simp; done)) | ((with_reducible refine wpL_isLoad rfl ?_); first | (refine wpL_load1S hst rfl rfl 0 rfl rfl rfl (by kernel_rfl) ?_)) | ((with_reducible refine wpL_isStore rfl ?_); first | (refine wpL_store1S hst rfl rfl 0 rfl rfl rfl rfl (by kernel_rfl) rfl ?_; clear hst; intro w1 hst; simp only [List.set] at hst)))
    go_end0
    have hh := hst.blk 0 rfl
    have h2 := hst.blk 1 rfl
    exact ⟨rfl, (HO.out.turned (m' := { m with away := false, fuse := -1 }) hst.only HOK.out rfl rfl rfl hh h2).shut, (HO.out.turn hst.only).1⟩
end Go.Proofs.Ytmogkiacakkmbaa
