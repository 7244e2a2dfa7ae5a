/- Disks: a write; all is made safe; the power comes. -/
import Derived.Test.YtmogkiacakkmbaaDskD
namespace Go.Proofs.Ytmogkiacakkmbaa
open Go.RowKit

theorem St.othersD {w0 : World} {S : List Nat} {w w' : World} {L : List Ent} (h : St w0 S w L) {T : List Nat} (ho : Only T w w') (hT : ∀ i ∈ T, i ∈ S ∨ w0.heap.size ≤ i) (hn : ∀ i ∈ T, Away L i) : St w0 S w' L :=
  ⟨h.only.step ho hT, fun x hx => ⟨(h.each x hx).1.only ho (fun hm => hn _ hm x hx rfl), (h.each x hx).2⟩, h.apart⟩
section
variable {w : World} {d : Nat} {m : DM} {F : List Nat} {kv : Value} {gs cs : Nat} {rs : List Value} {lv : Value} {kb : List Nat}
theorem DiskOp.wrote (h : DiskOp w d m F kv gs cs rs lv kb) {w' : World} {m' : DM} {lv' : Value} (ho : Only (d :: lv.ownBlock.toList) w w') (hok : m'.Ok) (hk : m'.keep = m.keep) (hs : m'.safe = m.safe)
    (hd : Blk w' d [.bool m'.away, .int .i64 m'.fuse, kv, .slice (some ⟨gs, 0, none⟩) m.safe.length cs, lv', .int .i64 m'.done] 135) (hl : w'.ownsRow 0 137 2 lv' m'.loose.length (wcells m'.loose))
    (hb : lv'.ownBlock = lv.ownBlock ∨ ∃ g, lv'.ownBlock = some g ∧ w.heap.size ≤ g) : DiskOp w' d m' (d :: gs :: (lv'.ownBlock.toList ++ kb)) kv gs cs rs lv' kb ∧ Turn F (d :: gs :: (lv'.ownBlock.toList ++ kb)) w w' := by
  have hnd := h.nd
  have hlt : ∀ b ∈ d :: gs :: (lv.ownBlock.toList ++ kb), b < w.heap.size := by
    intro b hb
    have := h.shut.lt b (by rw [h.hF]; exact hb)
    exact this
  rw [h.hF] at hnd
  have hgs : gs ∉ d :: lv.ownBlock.toList := by
    simp only [List.nodup_cons, List.mem_cons, not_or, List.mem_append] at hnd ⊢
    exact ⟨fun e => hnd.1.1 e.symm, hnd.2.1.1⟩
  have hkb : ∀ b ∈ kb, b ∉ d :: lv.ownBlock.toList := by
    intro b hb hm
    simp only [List.nodup_cons, List.mem_cons, not_or, List.mem_append, List.nodup_append] at hnd hm
    rcases hm with rfl | hm
    · exact hnd.1.2.2 hb
    · exact hnd.2.2.2.2 b hm b hb rfl
  refine ⟨⟨hok, by rw [hs]; exact hd, by rw [hs]; exact h.hs.only ho hgs, hl, by rw [hk]; exact h.hB.only ho hkb, rfl, ?_, by rw [hs]; exact h.hc, h.hm, by rw [hs]; exact h.ht⟩, ho.mono (fun k hk _ => ?_), fun b hb' => ?_⟩
  · rcases hb with e | ⟨g, e, hg⟩
    · rw [e]
      exact hnd
    · rw [e]
      have hn : ∀ b ∈ d :: gs :: (lv.ownBlock.toList ++ kb), b ≠ g := fun b hb e => by have := hlt b hb; omega
      simp only [List.nodup_cons, List.mem_cons, not_or, List.mem_append, List.nodup_append, Option.toList_some, List.not_mem_nil, or_false] at hnd ⊢
      refine ⟨⟨hnd.1.1, hn d (by simp), hnd.1.2.2⟩, ⟨hn gs (by simp), hnd.2.1.2⟩, ⟨by simp, by simp⟩, hnd.2.2.2.1, fun a ha b hb => ?_⟩
      subst ha
      exact fun e => hn b (by simp [hb]) e.symm
  · rw [h.hF]
    simp only [List.mem_cons, List.mem_append] at hk ⊢
    rcases hk with hk | hk <;> simp [hk]
  · rw [h.hF]
    rcases hb with e | ⟨g, e, hg⟩
    · rw [e] at hb'
      exact .inl hb'
    · rw [e] at hb'
      simp only [List.mem_cons, List.mem_append, Option.toList_some, List.not_mem_nil, or_false] at hb'
      rcases hb' with rfl | rfl | rfl | hb'
      · exact .inl (by simp)
      · exact .inl (by simp)
      · exact .inr hg
      · exact .inl (by simp [hb'])
end

theorem wrInfo : (Try.prog.info? 137).map (fun i => (i.zero, i.size, i.bytes)) = some (some (.agg #[.int .i64 0, .string ⟨#[]⟩]), 2, 24) := by kernel_rfl
theorem wrBuilt (p : Int) (s : ByteArray) : Try.prog.built 137 [(0, .int .i64 p), (1, .string s)] = some ([Value.int .i64 p, .string s]).toArray := by kernel_rfl
theorem wpL_isBuildD {P : Program} {w : World} {ops : Array Oper} {rest : List Oper} {o : Oper} {a : Act} {Q : Exit → Act → World → Prop} {t : TypeId} {x : Array (Nat × Operand)} (_h : o.op = .build t x) (h : wpList P ops Q (o :: rest) a w) : wpList P ops Q (o :: rest) a w := h
theorem wpL_isSliceD {P : Program} {w : World} {ops : Array Oper} {rest : List Oper} {o : Oper} {a : Act} {Q : Exit → Act → World → Prop} {t : TypeId} {n : Nat} {x : Array (Nat × Operand)} (_h : o.op = .buildSlice t n x) (h : wpList P ops Q (o :: rest) a w) : wpList P ops Q (o :: rest) a w := h
theorem wpL_isAppD {P : Program} {w : World} {ops : Array Oper} {rest : List Oper} {o : Oper} {a : Act} {Q : Exit → Act → World → Prop} {s x : Operand} {t u : TypeId} (_h : o.op = .call { callee := .builtin .append, args := #[s, x], argTypes := #[t, u] }) (h : wpList P ops Q (o :: rest) a w) : wpList P ops Q (o :: rest) a w := h

set_option maxRecDepth 100000 in
set_option maxHeartbeats 8000000 in
theorem dskWrite_any (d : Nat) (m : DM) (F : List Nat) (a : Int) (s : ByteArray) (w : World) (h : DiskAt w d m F) (h0 : 0 < m.len) (few : m.loose.length ≤ 1000000) :
    Calls Try.prog 102 #[.pointer (some ⟨d, 0, none⟩), .int .i64 a, .string s] w fun e w' => ∃ F', e = .returned (.int .i64 (m.writeE a s)) ∧ DiskAt w' d (m.write a s) F' ∧ Turn F F' w w' := by
  have hwok := (DiskAt.open h h0)
  have hOK : m.Ok := h.1
  have hst := Sd.withQ [] (diskQ d m F) h rfl
  have CK : Hid (∀ w, DiskAt w d m F → Calls Try.prog 143 #[.pointer (some ⟨d, 0, none⟩), .int .i64 a] w fun e w' => e = .returned (.int .i64 (m.check a)) ∧ Only [] w w') := fun w h => dskCheck_any d m F a w h
  by_cases hs : s.size = 32
  · have hs1 : ((s.size : Int) != 32) = false := by simp; omega
    have hs2 : ¬ s.size ≠ 32 := fun h => h hs
    by_cases hc : m.check a = 0
    · have hc2 : ¬ m.check a ≠ 0 := fun h => h hc
      rw [hc] at CK
      have hon : m.away = false := by
        unfold DM.check at hc
        split at hc
        · cases hc
        · cases hh : m.away
          · rfl
          · rw [hh] at hc; simp at hc
      have hrng : ¬ (a < 0 ∨ (m.len : Int) ≤ a) := fun h' => by unfold DM.check at hc; rw [if_pos h'] at hc; cases hc
      obtain ⟨p, rfl⟩ : ∃ p : Nat, a = (p : Int) := ⟨a.toNat, by omega⟩
      have US : Hid (∀ w, DiskAt w d m F → Calls Try.prog 81 #[.pointer (some ⟨d, 0, none⟩)] w fun e w' => ∃ F', e = .returned (.int .i64 m.useE) ∧ DiskAt w' d m.use F' ∧ Turn F F' w w') := fun w h => dskUse_any d m F w h h0 hon few
      have eE : m.writeE (p : Int) s = m.useE := by unfold DM.writeE; rw [if_neg hs2, if_neg hc2]
      rw [eE]
      by_cases hf : m.fuse = 0
      · have hu : m.useE = 4 := by unfold DM.useE; rw [if_pos hf]
        have hu2 : m.use = m.cut m.keep := by unfold DM.use; rw [if_pos hf]
        have eW : m.write (p : Int) s = m.cut m.keep := by unfold DM.write; rw [if_neg hs2, if_neg hc2, if_pos hf]
        rw [hu, hu2] at US
        rw [eW, hu]
        clear hOK hwok h eW hu hu2 eE
        go_enter Try.func102, Try.ntmps102
        go_wp2_with (first | (go_at_call 143; (with_reducible refine (CK.out _ (hst.rs 0 rfl)).mono ?_); rintro e1 w1 ⟨rfl, ho1⟩; replace hst := hst.keep ho1; clear ho1) | (go_at_call 81; (with_reducible refine (US.out _ (hst.rs 0 rfl)).mono ?_); rintro e1 w1 ⟨F1, rfl, hd1, ht1⟩))
        go_ret
        exact ⟨F1, rfl, hd1, (Turn.of_only hst.only).trans ht1⟩
      · have hu : m.useE = 0 := by unfold DM.useE; rw [if_neg hf]
        have hu2 : m.use = m.used := by unfold DM.use; rw [if_neg hf]
        have eW : m.write (p : Int) s = { m.used with loose := m.loose ++ [(p, s)] } := by unfold DM.write; rw [if_neg hs2, if_neg hc2, if_neg hf]; rfl
        rw [hu, hu2] at US
        have hok2 := hOK.write (p : Int) s
        rw [eW] at hok2
        rw [eW, hu]
        have HOK := Lib.hid hok2
        have HL0 : Hid (0 < m.used.len) := h0
        have HFW : Hid (m.used.loose.length ≤ 1000000) := few
        clear hOK hwok h eW hu hu2 eE hok2
        go_enter Try.func102, Try.ntmps102
        go_wp2_with (first
          | (go_at_call 143; (with_reducible refine (CK.out _ (hst.rs 0 rfl)).mono ?_); rintro e1 w1 ⟨rfl, ho1⟩; replace hst := hst.keep ho1; clear ho1)
          | (go_at_call 81; (with_reducible refine (US.out _ (hst.rs 0 rfl)).mono ?_); rintro e1 w1 ⟨F1, rfl, hd1, ht1⟩; obtain ⟨kv, gs, cs, rs, lv, kb, ho⟩ := hd1.open HL0.out; have HT1 := Lib.hid ((Turn.of_only hst.only).trans ht1); clear hst hd1 ht1; have hst := St.withOwn (S := d :: lv.ownBlock.toList) ho.hd (by simp); have HO := Lib.hid ho; have hown := ho.hl; have HLT := Lib.hid (owns_lt0 ho.hl); have HLB := Lib.hid ho.lb; obtain ⟨al, cl, hlv⟩ := owns_slice0 ho.hl; have HDL := Lib.hid ho.hd.lt; clear ho; subst hlv)
          | ((with_reducible refine wpL_peel rfl ?_ ?_); focus (go_simp; done)) | ((with_reducible refine wpL_isLoad rfl ?_); first | (refine wpL_load1S hst rfl rfl 0 rfl rfl rfl (by kernel_rfl) ?_) | (refine wpL_load1S hst rfl rfl 1 rfl rfl rfl (by kernel_rfl) ?_))
          | ((with_reducible refine wpL_isBuildD rfl ?_); refine wpL_build rfl 137 _ rfl [.int .i64 (p : Int), .string s] (wrBuilt _ _) ?_)
          | ((with_reducible refine wpL_isSliceD rfl ?_); refine wpL_slice_lit rfl 133 1 _ rfl Try.underlying133 wrInfo (by decide) (by decide) [.agg #[.int .i64 (p : Int), .string s]] rfl rfl (by simp [Value.cells]) ?_; intro w2 ho2 hs2 hB2; have HSZ := Lib.hid ho2.size; replace hown := ownsRow_only hown ho2 (by simp); replace hst := hst.new ho2 hB2 (Nat.le_refl _); clear ho2 hs2 hB2)
          | ((with_reducible refine wpL_isAppD rfl ?_); refine wpL_append rfl _ _ 133 rfl 0 137 Try.underlying133 wrInfo rfl (by decide) (.slice al m.used.loose.length cl) _ _ rfl hown ⟨_, 0, none⟩ 1 1 [.int .i64 (p : Int), .string s] rfl rfl (fun j u hu => by rw [addr_addD, Nat.zero_add]; exact (hst.blk 0 rfl).cell hu) (by simp [Value.oneCell']) (by have := HFW.out; unfold maxLen; omega) (by have := HFW.out; omega) (Nat.zero_le _) ?_; intro v3 w3 hown3 hg3 hv3 hiff3; have hgo := Only.of_grown hg3; obtain ⟨al3, cl3, hv3e⟩ := owns_slice0 hown3; subst hv3e; have HV3 := Lib.hid hv3;
              replace hst := hst.othersD hgo (fun i hi => .inl (by simp only [List.mem_cons]; exact .inr hi)) (fun i hi x hx => by
                have h1 := HLT.out i hi
                have h2 := HLB.out i (by simpa using hi)
                simp only [List.mem_cons, List.not_mem_nil, or_false] at hx
                rcases hx with rfl | rfl
                · simp only; omega
                · exact fun e => h2.1 e.symm); clear hg3 hgo hv3 hiff3 hown)
          | ((with_reducible refine wpL_isStore rfl ?_); have hh := hst.blk 1 rfl; refine wpL_store1 rfl 133 _ _ rfl d 4 (.slice al3 (m.used.loose.length + 1) cl3) rfl rfl _ _ hh (Nat.le_of_ble_eq_true rfl) (by kernel_rfl) rfl ?_; clear hh; intro w4 ho4 hs4 hb4; replace hst := hst.chg 1 rfl ho4 hb4; simp only [List.set] at hst;
              replace hown3 := ownsRow_only hown3 ho4 (fun k hk hm => by
                simp only [List.mem_singleton] at hm
                subst hm
                rcases HV3.out with e | e
                · rw [hk] at e
                  exact (HLB.out _ e.symm).1 rfl
                · rw [hk] at e
                  have h1 := HDL.out
                  have h2 := HSZ.out
                  simp only [Option.some.injEq] at e
                  omega); clear ho4 hs4 hb4))
        go_ret
        have hb := hst.blk 1 rfl
        have e1 : (m.loose ++ [(p, s)]).length = m.used.loose.length + 1 := by rw [List.length_append]; rfl
        have hw := HO.out.wrote (m' := { m.used with loose := m.loose ++ [(p, s)] }) hst.only HOK.out rfl rfl hb (by
          show World.ownsRow _ _ _ _ _ (m.loose ++ [(p, s)]).length (wcells (m.loose ++ [(p, s)]))
          rw [e1, wcells_snoc]
          exact hown3) (by
          rcases HV3.out with e | e
          · exact .inl e
          · exact .inr ⟨_, e, HSZ.out⟩)
        exact ⟨_, rfl, hw.1.shut, HT1.out.trans hw.2⟩
    · have hc2 : m.check a ≠ 0 := hc
      have hc3 : (m.check a != 0) = true := by simpa using hc
      have eE : m.writeE a s = m.check a := by unfold DM.writeE; rw [if_neg hs2, if_pos hc2]
      have eW : m.write a s = m := by unfold DM.write; rw [if_neg hs2, if_pos hc2]
      rw [eE, eW]
      generalize m.check a = ck at *
      clear hOK hwok h eE eW
      go_enter Try.func102, Try.ntmps102
      go_wp2_with (first | (go_at_call 143; (with_reducible refine (CK.out _ (hst.rs 0 rfl)).mono ?_); rintro e1 w1 ⟨rfl, ho1⟩; replace hst := hst.keep ho1; clear ho1))
      go_ret
      exact ⟨F, rfl, hst.rs 0 rfl, Turn.of_only hst.only⟩
  · have hs1 : ((s.size : Int) != 32) = true := by simp; omega
    have eE : m.writeE a s = 1 := by unfold DM.writeE; rw [if_pos hs]
    have eW : m.write a s = m := by unfold DM.write; rw [if_pos hs]
    rw [eE, eW]
    clear hOK hwok h eE eW
    go_enter Try.func102, Try.ntmps102
    go_wp2_with fail
    go_ret
    exact ⟨F, rfl, hst.rs 0 rfl, Turn.of_only hst.only⟩
end Go.Proofs.Ytmogkiacakkmbaa
