/- Slots: those of a whole disk; awake09. -/
import Derived.Test.YtmogkiacakkmbaaSlotP
namespace Go.Proofs.Ytmogkiacakkmbaa
open Go.RowKit

set_option maxRecDepth 100000 in
set_option maxHeartbeats 4000000 in
theorem opened_yes (d size : Nat) (m : DM) (F : List Nat) (w : World) (h : DiskAt w d m F) (h1 : 1 ≤ size) (h2 : size ≤ 256) (hn : m.len ≤ 4096) (h3 : secsOf size ≤ m.len) :
    Calls Try.prog 44 #[.pointer (some ⟨d, 0, none⟩), .int .i64 (size : Int)] w fun e w' => ∃ z a, e = .returned (.tuple #[.pointer (some ⟨a, 0, none⟩), .int .i64 0]) ∧ w.heap.size ≤ z ∧ w.heap.size ≤ a ∧ a ≠ z ∧ Blk w' z (zcells d 0 m.len) 34 ∧ Blk w' a (slcells z size) 80 ∧ Only [] w w' := by
  have hst := Sd.withQ [] (diskQ d m F) h rfl
  have LN : Hid (∀ w, DiskAt w d m F → Calls Try.prog 27 #[.pointer (some ⟨d, 0, none⟩)] w fun e w' => e = .returned (.int .i64 (m.len : Int)) ∧ Only [] w w') := fun w h => dskLen_any d m F w h
  have h2' := secsOf_two size
  have ZN : Hid (∀ w, DiskAt w d m F → Calls Try.prog 15 #[.pointer (some ⟨d, 0, none⟩), .int .i64 0, .int .i64 (m.len : Int)] w fun e w' => ∃ z, e = .returned (.tuple #[.pointer (some ⟨z, 0, none⟩), .int .i64 0]) ∧ w.heap.size ≤ z ∧ Blk w' z (zcells d 0 m.len) 34 ∧ Only [] w w') := fun w h => zonNew_yes d 0 m.len _ F w h (by unfold partOk; simp; omega)
  have SN : Hid (∀ z w, Blk w z (zcells d 0 m.len) 34 → Calls Try.prog 106 #[.pointer (some ⟨z, 0, none⟩), .int .i64 (size : Int)] w fun e w' => ∃ a, e = .returned (.tuple #[.pointer (some ⟨a, 0, none⟩), .int .i64 0]) ∧ w.heap.size ≤ a ∧ Blk w' a (slcells z size) 80 ∧ Only [] w w') := fun z w h => slotNew_yes z d 0 m.len size w h h1 h2 h3
  generalize m.len = n at *
  clear h h1 h2 h3 h2' hn
  go_enter Try.func44, Try.ntmps44
  go_wp2_with (first
    | (go_at_call 27; (with_reducible refine (LN.out _ (hst.rs 0 rfl)).mono ?_); rintro e1 w1 ⟨rfl, ho1⟩; replace hst := hst.keep ho1; clear ho1)
    | (go_at_call 15; (with_reducible refine (ZN.out _ (hst.rs 0 rfl)).mono ?_); rintro e1 w1 ⟨z, rfl, hg1, hz1, ho1⟩; have HS1 : Hid (w.heap.size ≤ z) := Nat.le_trans hst.only.size hg1; replace hst := hst.new ho1 hz1 hg1; clear hg1 hz1 ho1)
    | (go_at_call 106; (with_reducible refine (SN.out _ _ (hst.blk 0 rfl)).mono ?_); rintro e1 w1 ⟨a, rfl, hg1, hz1, ho1⟩; have HS2 : Hid (w.heap.size ≤ a) := Nat.le_trans hst.only.size hg1; replace hst := hst.new ho1 hz1 hg1; clear hg1 hz1 ho1))
  go_ret2
  exact ⟨_, _, rfl, HS1.out, HS2.out, hst.st.neq 0 1 rfl rfl (by decide), hst.blk 1 rfl, hst.blk 0 rfl, hst.only⟩

/-- Two new blocks. -/
theorem Sd.new2 {w0 w w' : World} {S : List Nat} {L : List Ent} {R : List Rsc} (h : Sd w0 S w L R) (ho : Only [] w w') {z a : Nat} {cs cs' : List Value} {ty ty' : TypeId} (hz : Blk w' z cs ty) (ha : Blk w' a cs' ty') (hgz : w.heap.size ≤ z) (hga : w.heap.size ≤ a) (hne : a ≠ z) : Sd w0 S w' (⟨a, cs', ty', true⟩ :: ⟨z, cs, ty, true⟩ :: L) R := by
  have k := h.new ho hz hgz
  have hs := h.only.size
  refine ⟨⟨k.only, fun x hx => ?_, List.pairwise_cons.2 ⟨fun x hx => ?_, k.st.apart⟩⟩, k.res, k.rapart, fun x hx r hr => ?_⟩
  · rcases List.mem_cons.1 hx with rfl | hx
    · exact ⟨ha, fun _ => .inr (Nat.le_trans hs hga)⟩
    · exact k.st.each x hx
  · rcases List.mem_cons.1 hx with rfl | hx
    · exact hne
    · have := h.st.lt hx
      simp only
      omega
  · rcases List.mem_cons.1 hx with rfl | hx
    · intro hm
      have := r.lt (h.res r hr).1 _ hm
      simp only at this
      omega
    · exact k.cross x hx r hr

set_option maxRecDepth 100000 in
set_option maxHeartbeats 16000000 in
theorem awake09_any (w : World) : Calls Try.prog 43 #[] w fun e w' => e = .returned (.bool true) ∧ Only [] w w' := by
  have hst := Sd.start w []
  have C0 := Chk.fresh 8 2 4 (by decide) (by decide) (by decide)
  obtain ⟨p1, C1, dn, p3⟩ := C0.put 2 (by decide) 7 ⟨#[97, 98, 99]⟩ (by decide) (by decide)
  obtain ⟨M1, e1⟩ : ∃ M1, M1 = (putR (DM.fresh 8) 0 8 (((2 : Nat) : Int) * ((2 : Nat) : Int)) 7 ⟨#[97, 98, 99]⟩).1 := ⟨_, rfl⟩
  rw [← e1] at C1 p3
  have hlo : M1.loose.length ≤ 700000 := by
    rw [p3]
    simp [wsOf_length, DM.fresh]
    decide
  have g2 := slotG_some (size := 20) C1 2 7 ⟨#[97, 98, 99]⟩ (by decide) rfl (by decide)
  have gn : ∀ j : Nat, j < 4 → j ≠ 2 → slotG 20 (getR M1 0 8 ((j : Int) * ((2 : Nat) : Int))) = (⟨#[]⟩, 0, 5) := fun j hj h2 => slotG_none C1 j hj (if_neg h2)
  have s20 : secsOf 20 = 2 := by decide
  have ch4 : chunksN 8 20 = 4 := by decide
  have hsc : scanJ M1 0 8 20 7 4 4 = [false, false, true, false] := by
    have hl := scanJ_length M1 0 8 20 7 4 4
    have hq := scanJ_getD M1 0 8 20 7 4 4 (by decide)
    simp only [s20] at hq
    have q0 := hq 0 (by decide); have q1 := hq 1 (by decide); have q2 := hq 2 (by decide); have q3 := hq 3 (by decide)
    rw [gn 0 (by decide) (by decide)] at q0
    rw [gn 1 (by decide) (by decide)] at q1
    rw [g2] at q2
    rw [gn 3 (by decide) (by decide)] at q3
    generalize scanJ M1 0 8 20 7 4 4 = l at *
    match l, hl with
    | [a, b, c, d], _ =>
      simp at q0 q1 q2 q3
      rw [q0, q1, q2, q3]
  have hgo : gotJ M1 0 8 20 7 4 = none := gotJ_no M1 0 8 20 7 0 4 (by decide) (by rw [s20, gn 0 (by decide) (by decide)]; decide)
  have lenM : M1.len = 8 := by rw [e1]; exact putR_len _ _ _ _ _ _
  have DN : Hid (∀ w, Calls Try.prog 14 #[.int .i64 8] w fun e w' => ∃ d F, e = .returned (.pointer (some ⟨d, 0, none⟩)) ∧ DiskAt w' d (DM.fresh 8) F ∧ Only [] w w' ∧ (∀ b ∈ F, w.heap.size ≤ b)) := fun w => dskNew_any 8 w (by decide)
  have OP : Hid (∀ d F w, DiskAt w d (DM.fresh 8) F → Calls Try.prog 44 #[.pointer (some ⟨d, 0, none⟩), .int .i64 20] w fun e w' => ∃ z a, e = .returned (.tuple #[.pointer (some ⟨a, 0, none⟩), .int .i64 0]) ∧ w.heap.size ≤ z ∧ w.heap.size ≤ a ∧ a ≠ z ∧ Blk w' z (zcells d 0 8) 34 ∧ Blk w' a (slcells z 20) 80 ∧ Only [] w w') := fun d F w h => opened_yes d 20 (DM.fresh 8) F w h (by decide) (by decide) (by decide) (by decide)
  have PT : Hid (∀ a z d F w, Blk w a (slcells z 20) 80 → Blk w z (zcells d 0 8) 34 → DiskAt w d (DM.fresh 8) F → a ≠ z → a ∉ F → z ∉ F → Calls Try.prog 46 #[.pointer (some ⟨a, 0, none⟩), .int .i64 2, .int .i64 7, .string ⟨#[97, 98, 99]⟩] w fun e w' => ∃ F', e = .returned (.int .i64 0) ∧ DiskAt w' d M1 F' ∧ Turn F F' w w') := fun a z d F w h1 h2 h3 h4 h5 h6 => by
    have := slotPut_yes a z d 0 8 20 (DM.fresh 8) F w h1 h2 h3 h4 h5 h6 (by decide) (by decide) (by decide) (by decide) (by decide) 2 (by decide) 7 ⟨#[97, 98, 99]⟩ (by decide) (by decide)
    rw [s20, p1] at this
    rw [e1]
    exact this
  have GT : Hid (∀ a z d F w, Blk w a (slcells z 20) 80 → Blk w z (zcells d 0 8) 34 → DiskAt w d M1 F → a ≠ z → a ∉ F → z ∉ F → Calls Try.prog 51 #[.pointer (some ⟨a, 0, none⟩), .int .i64 2] w fun e w' => e = .returned (.tuple #[.string ⟨#[97, 98, 99]⟩, .int .i64 7, .int .i64 0]) ∧ Only [] w w') := fun a z d F w h1 h2 h3 h4 h5 h6 => by
    have := slotGet_yes a z d 0 8 20 M1 F w h1 h2 h3 h4 h5 h6 (by decide) (by decide) (by decide) (by decide) hlo 2 (by decide)
    rw [s20, g2] at this
    exact this
  have SC : Hid (∀ a z d F w, Blk w a (slcells z 20) 80 → Blk w z (zcells d 0 8) 34 → DiskAt w d M1 F → a ≠ z → a ∉ F → z ∉ F → Calls Try.prog 47 #[.pointer (some ⟨a, 0, none⟩), .int .i64 7, .int .i64 4] w fun e w' => ∃ b F', e = .returned (.tuple #[.pointer (some ⟨b, 0, none⟩), .int .i64 0]) ∧ SetAt w' b [false, false, true, false] F' ∧ (∀ k ∈ F', w.heap.size ≤ k) ∧ Only [] w w') := fun a z d F w h1 h2 h3 h4 h5 h6 => by
    have := slotScan_any a z d 0 8 20 M1 F w h1 h2 h3 h4 h5 h6 (by decide) (by decide) (by decide) (by decide) hlo C1.aw 4 (by decide) (by decide) 7
    rw [hsc] at this
    exact this
  have AL : Hid (∀ a z d F w, Blk w a (slcells z 20) 80 → Blk w z (zcells d 0 8) 34 → DiskAt w d M1 F → a ≠ z → a ∉ F → z ∉ F → Calls Try.prog 49 #[.pointer (some ⟨a, 0, none⟩), .int .i64 7, .int .i64 4] w fun e w' => e = .returned (.tuple #[.string ⟨#[]⟩, .int .i64 5]) ∧ Only [] w w') := fun a z d F w h1 h2 h3 h4 h5 h6 =>
    (slotAll_any a z d 0 8 20 M1 F w h1 h2 h3 h4 h5 h6 (by decide) (by decide) (by decide) (by decide) hlo C1.aw 4 (by decide) (by decide) 7).mono (fun e w' h => ⟨h.2.1 hgo, h.2.2⟩)
  have CH : Hid (∀ a z d w, Blk w a (slcells z 20) 80 → Blk w z (zcells d 0 8) 34 → a ≠ z → Calls Try.prog 45 #[.pointer (some ⟨a, 0, none⟩)] w fun e w' => e = .returned (.int .i64 4) ∧ Only [] w w') := fun a z d w h1 h2 h3 => by
    have := slotChunks_any a z d 0 8 20 w h1 h2 h3 (by decide) (by decide) (by decide)
    rw [ch4] at this
    exact this
  have PE : Hid (∀ w, Calls Try.prog 105 #[.int .i64 20] w fun e w' => e = .returned (.int .i64 2) ∧ Only [] w w') := fun w => slotPer_any 20 (by decide) (by decide) w
  have TX : Hid (∀ b F w, SetAt w b [false, false, true, false] F → Calls Try.prog 104 #[.pointer (some ⟨b, 0, none⟩)] w fun e w' => e = .returned (.string ⟨#[4]⟩) ∧ Only [] w w') := fun b F w h => setText_04 b F w h
  clear C0 p1 C1 p3 e1 hlo g2 gn s20 ch4 hsc hgo lenM
  go_enter Try.func43, Try.ntmps43
  go_wp2_with (first
    | ((with_reducible refine wpL_peel rfl ?_ ?_); focus (go_simp; done)) | (go_at_call 14; (with_reducible refine (DN.out _).mono ?_); rintro e1 w1 ⟨d, F, rfl, hd1, ho1, hg1⟩; replace hst := hst.add ho1 (r := diskR d _ F) hd1 hg1; clear hd1 ho1 hg1) | (go_at_call 44; (with_reducible refine (OP.out _ _ _ (hst.rs 0 rfl)).mono ?_); rintro e1 w1 ⟨z, a, rfl, hgz, hga, hne, hz1, ha1, ho1⟩; replace hst := hst.new2 ho1 hz1 ha1 hgz hga hne; clear hgz hga hne hz1 ha1 ho1)
    | (go_at_call 46; (with_reducible refine (PT.out _ _ _ _ _ (hst.blk 0 rfl) (hst.blk 1 rfl) (hst.rs 0 rfl) (hst.st.neq 0 1 rfl rfl (by decide)) (hst.away 0 0 rfl rfl) (hst.away 1 0 rfl rfl)).mono ?_); rintro e1 w1 ⟨F1, rfl, hd1, ht1⟩; replace hst := hst.act 0 rfl (diskR _ _ F1) rfl ht1 hd1; simp only [List.set] at hst; clear hd1 ht1)
    | (go_at_call 51; (with_reducible refine (GT.out _ _ _ _ _ (hst.blk 0 rfl) (hst.blk 1 rfl) (hst.rs 0 rfl) (hst.st.neq 0 1 rfl rfl (by decide)) (hst.away 0 0 rfl rfl) (hst.away 1 0 rfl rfl)).mono ?_); rintro e1 w1 ⟨rfl, ho1⟩; replace hst := hst.keep ho1; clear ho1)
    | (go_at_call 47; (with_reducible refine (SC.out _ _ _ _ _ (hst.blk 0 rfl) (hst.blk 1 rfl) (hst.rs 0 rfl) (hst.st.neq 0 1 rfl rfl (by decide)) (hst.away 0 0 rfl rfl) (hst.away 1 0 rfl rfl)).mono ?_); rintro e1 w1 ⟨b, Fb, rfl, hb1, hg1, ho1⟩; replace hst := hst.add ho1 (r := setR b _ Fb) hb1 hg1; clear hb1 hg1 ho1)
    | (go_at_call 49; (with_reducible refine (AL.out _ _ _ _ _ (hst.blk 0 rfl) (hst.blk 1 rfl) (hst.rs 1 rfl) (hst.st.neq 0 1 rfl rfl (by decide)) (hst.away 0 1 rfl rfl) (hst.away 1 1 rfl rfl)).mono ?_); rintro e1 w1 ⟨rfl, ho1⟩; replace hst := hst.keep ho1; clear ho1)
    | (go_at_call 45; (with_reducible refine (CH.out _ _ _ _ (hst.blk 0 rfl) (hst.blk 1 rfl) (hst.st.neq 0 1 rfl rfl (by decide))).mono ?_); rintro e1 w1 ⟨rfl, ho1⟩; replace hst := hst.keep ho1; clear ho1)
    | (go_at_call 105; (with_reducible refine (PE.out _).mono ?_); rintro e1 w1 ⟨rfl, ho1⟩; replace hst := hst.keep ho1; clear ho1)
    | (go_at_call 104; (with_reducible refine (TX.out _ _ _ (hst.rs 0 rfl)).mono ?_); rintro e1 w1 ⟨rfl, ho1⟩; replace hst := hst.keep ho1; clear ho1)
    | ((with_reducible refine wpL_isBin rfl ?_); refine wpL_eql_same rfl 9 _ _ _ rfl _ rfl rfl ?_))
  go_ret
  exact ⟨rfl, hst.only⟩
end Go.Proofs.Ytmogkiacakkmbaa
