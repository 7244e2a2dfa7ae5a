/- Disks: a fuse is laid. -/
import Derived.Test.YtmogkiacakkmbaaDskF
import Derived.Test.YtmogkiacakkmbaaGrow
import Derived.Lib.SliceRun
namespace Go.Proofs.Ytmogkiacakkmbaa
open Go.RowKit

theorem boolInfo : (Try.prog.info? 4).map (fun i => (i.zero, i.size, i.bytes)) = some (some (.bool false), 1, 1) := by kernel_rfl
theorem cell_only {w w' : World} {ad : Addr} {u : Value} (h : w.cell? ad = some u) (ho : Only [] w w') : w'.cell? ad = some u := by
  have hlt : ad.block < w.heap.size := by
    rcases Nat.lt_or_ge ad.block w.heap.size with hl | hl
    · exact hl
    · simp [World.cell?, Array.getElem?_eq_none hl] at h
  obtain ⟨b, o, sp⟩ := ad
  have := ho.block b hlt (by simp)
  unfold World.cell? at h ⊢
  rw [this]
  exact h
theorem own_empty {w : World} {base g : Nat} {e : TypeId} (hb : Blk w g [] e) (hg : base ≤ g) : w.ownsRow base e 1 (.slice (some ⟨g, 0, none⟩) 0 0) 0 [] :=
  ownsRow_shut (xs := []) (rest := []) hb rfl hg (Nat.le_refl _) (Nat.zero_le _) rfl
theorem eqlNil : ∀ (w : World) (a : Option Addr) (n c n' c' : Nat), (binOp .eql 22 (.slice a n c) (.slice none n' c')).run Try.prog w = .ok (.bool a.isNone) w := fun w a n c n' c' => Lib.run_eql_slice_nil w _ _ a n c n' c' Try.underlying22
section
variable {P : Program} {w : World} {ops : Array Oper} {rest : List Oper} {o : Oper} {a : Act} {Q : Exit → Act → World → Prop}
theorem wpL_isAppF {s x : Operand} {t : TypeId} (_h : o.op = .call { callee := .builtin .append, args := #[s, x], argTypes := #[t, t] }) (h : wpList P ops Q (o :: rest) a w) : wpList P ops Q (o :: rest) a w := h
end
set_option maxRecDepth 100000 in
set_option maxHeartbeats 4000000 in
theorem clone_some (ad : Addr) (n c : Nat) (news : List Value) (w : World) (hn : news.length = n) (hm : n ≤ 1000000) (hc : ∀ j u, news[j]? = some u → w.cell? (ad.add j) = some u) (h1 : ∀ u ∈ news, u.oneCell' = true) :
    Calls Try.prog 103 #[.slice (some ad) n c] w fun e w' => ∃ v', e = .returned v' ∧ w'.ownsRow w.heap.size 4 1 v' n news ∧ Only [] w w' := by
  have HC := Lib.hid hc
  have H1 := Lib.hid h1
  have HN := Lib.hid (show news.length = n * 1 by omega)
  have HB1 : Hid (0 + n ≤ maxLen) := by unfold maxLen; show _ ≤ _; omega
  have HB2 : Hid ((0 + n) * 1 ≤ 140737488355328) := by show _ ≤ _; omega
  clear hc h1 hn
  go_enter Try.func103, Try.ntmps103
  have q22 := eqlNil
  go_wp2_with (first
    | ((with_reducible refine wpL_isSliceD rfl ?_); refine wpL_slice0 rfl 22 rfl Try.underlying22 boolInfo ?_; intro w1 ho1 hB1; have HO1 := Lib.hid ho1; have HCC : Hid (∀ j u, news[j]? = some u → w1.cell? (ad.add j) = some u) := (fun j u hj => cell_only (HC.out j u hj) HO1.out); have HOW := Lib.hid (own_empty (base := w.heap.size) hB1 (Nat.le_refl _)); have HSZ := Lib.hid ho1.size; clear ho1 hB1)
    | ((with_reducible refine wpL_isAppF rfl ?_); refine wpL_append rfl _ _ _ rfl w.heap.size 4 Try.underlying22 boolInfo rfl (by decide) (.slice (some ⟨w.heap.size, 0, none⟩) 0 0) 0 [] rfl HOW.out ad n c news rfl HN.out HCC.out H1.out HB1.out HB2.out HSZ.out ?_; intro v2 w2 hown hgr hwh _; have HOWN := Lib.hid hown; have HGR := Lib.hid hgr; clear hown hgr hwh))
  go_ret
  refine ⟨_, rfl, ?_, ?_⟩
  · have := HOWN.out
    rw [Nat.zero_add, List.nil_append] at this
    exact this
  · exact HO1.out.step (Only.of_grown HGR.out) (fun k hk => .inr (by simp [Value.ownBlock] at hk; subst hk; exact Nat.le_refl _))

/-- A slice of bools, copied. -/
theorem clone_bools (V : Value) (keep : List Bool) (kb : List Nat) (w : World) (hB : Bools w V keep kb) (hm : keep.length ≤ 1000000) :
    Calls Try.prog 103 #[V] w fun e w' => ∃ v' kb', e = .returned v' ∧ Bools w' v' keep kb' ∧ (∀ b ∈ kb', w.heap.size ≤ b) ∧ kb'.Nodup ∧ Only [] w w' := by
  have hb1 : ∀ u ∈ bcells keep, u.oneCell' = true := fun u hu => by
    simp only [bcells, List.mem_map] at hu
    obtain ⟨b, _, rfl⟩ := hu
    rfl
  have fin : ∀ (v' : Value) (w' : World), w'.ownsRow w.heap.size 4 1 v' keep.length (bcells keep) → ∃ kb', Bools w' v' keep kb' ∧ (∀ b ∈ kb', w.heap.size ≤ b) ∧ kb'.Nodup := fun v' w' hown => by
    by_cases h0 : keep.length = 0
    · have hk : keep = [] := List.eq_nil_of_length_eq_zero h0
      refine ⟨[], .inl ⟨hk, rfl, ?_⟩, fun b hb => (by cases hb), List.nodup_nil⟩
      rcases hown.2 with ⟨h1, _⟩ | ⟨g, cap, cur, h1, _⟩
      · exact ⟨none, 0, h1⟩
      · exact ⟨_, cap, by rw [h1, h0]⟩
    · obtain ⟨g, cap, rest, rfl, hbase, hblk, hc, _, _⟩ := ownsRow_open hown h0
      refine ⟨[g], .inr ⟨g, 0, cap, rfl, rfl, hblk.lt, hc, fun j hj => ?_⟩, fun b hb => by simp only [List.mem_singleton] at hb; subst hb; exact hbase, by simp⟩
      rw [Nat.zero_add]
      refine hblk.cell ?_
      rw [List.getElem?_append_left (by rw [bcells_length]; exact hj)]
      simp [bcells, List.getElem?_map, List.getElem?_eq_getElem hj, List.getD_eq_getElem?_getD]
  rcases hB with ⟨rfl, rfl, a, c, rfl⟩ | ⟨g, o, c, rfl, rfl, h1, h2, h3⟩
  · cases a with
    | none =>
      refine (Try.slices_Clone_nil 0 c w).mono ?_
      rintro e w' ⟨rfl, rfl⟩
      exact ⟨_, [], rfl, .inl ⟨rfl, rfl, none, 0, rfl⟩, fun b hb => (by cases hb), List.nodup_nil, Only.refl _ _⟩
    | some ad =>
      refine (clone_some ad 0 c [] w rfl (by decide) (fun j u hj => by simp at hj) (fun u hu => by cases hu)).mono ?_
      rintro e w' ⟨v', rfl, hown, ho⟩
      obtain ⟨kb', b1, b2, b3⟩ := fin v' w' hown
      exact ⟨v', kb', rfl, b1, b2, b3, ho⟩
  · refine (clone_some ⟨g, o, none⟩ keep.length c (bcells keep) w (bcells_length _) hm (fun j u hj => ?_) hb1).mono ?_
    · have hj' : j < keep.length := by
        have := (List.getElem?_eq_some_iff.1 hj).1
        rw [bcells_length] at this
        exact this
      rw [addr_addD, h3 j hj']
      rw [← hj]
      simp [bcells, List.getElem?_map, List.getElem?_eq_getElem hj', List.getD_eq_getElem?_getD]
    · rintro e w' ⟨v', rfl, hown, ho⟩
      obtain ⟨kb', b1, b2, b3⟩ := fin v' w' hown
      exact ⟨v', kb', rfl, b1, b2, b3, ho⟩

/-- A slice of bools as a thing. -/
def boolsF (v : Value) (l : List Bool) (kb : List Nat) : Rsc := ⟨false, kb, fun w => Bools w v l kb, fun h ho hn => h.only ho hn, fun h => h.lt⟩
theorem bools_slice {w : World} {v : Value} {l : List Bool} {kb : List Nat} (h : Bools w v l kb) : ∃ a n c, v = .slice a n c := by
  rcases h with ⟨_, _, a, c, rfl⟩ | ⟨g, o, c, rfl, _⟩
  · exact ⟨a, 0, c, rfl⟩
  · exact ⟨_, _, c, rfl⟩

set_option maxRecDepth 100000 in
set_option maxHeartbeats 4000000 in
theorem dskFuse_any (d : Nat) (m : DM) (F : List Nat) (n : Int) (V : Value) (keep : List Bool) (kb0 : List Nat) (w : World) (h : DiskAt w d m F) (h0 : 0 < m.len) (haw : m.away = false) (hB : Bools w V keep kb0) (hk : ∀ b ∈ kb0, b ∉ F) (hkl : keep.length ≤ 1000000) (hn : n ≤ 9223372036854775807) :
    Calls Try.prog 41 #[.pointer (some ⟨d, 0, none⟩), .int .i64 n, V] w fun e w' => ∃ F', e = .returned (.tuple #[]) ∧ DiskAt w' d (m.fuseAt n keep) F' ∧ Turn F F' w w' := by
  have hOK : m.Ok := h.1
  obtain ⟨kv, gs, cs, rs, lv, kb, ho⟩ := h.open h0
  have hst := Sd.of ho.st
  have HO := Lib.hid ho
  have HOK := Lib.hid (hOK.fuseAt n keep hn hkl)
  have ION : Hid (∀ w, DiskAt w d m F → Calls Try.prog 55 #[.pointer (some ⟨d, 0, none⟩)] w fun e w' => e = .returned (.bool true) ∧ Only [] w w') := fun w h => by
    have := dskIsOn_any d m F w h
    rw [haw] at this
    exact this
  have CB : Hid (∀ w', Only [] w w' → Calls Try.prog 103 #[V] w' fun e w'' => ∃ v' kb', e = .returned v' ∧ Bools w'' v' keep kb' ∧ (∀ b ∈ kb', w'.heap.size ≤ b) ∧ kb'.Nodup ∧ Only [] w' w'') := fun w' ho => clone_bools V keep kb0 w' (hB.only ho (by simp)) hkl
  have HD := Lib.hid h
  have eW : m.fuseAt n keep = { m with fuse := max n (-1), keep := keep } := by unfold DM.fuseAt; rw [haw]; rfl
  rw [eW] at HOK ⊢
  have HAW := Lib.hid haw
  clear hOK ho h eW hB hk haw
  go_enter Try.func41, Try.ntmps41
  go_wp2_with (first
    | (go_at_call 55; (with_reducible refine (ION.out _ HD.out).mono ?_); rintro e1 w1 ⟨rfl, ho1⟩; replace hst := hst.keep ho1; have HO1 := Lib.hid ho1; clear ho1)
    | (go_at_call 103; (with_reducible refine (CB.out _ HO1.out).mono ?_); rintro e1 w2 ⟨vk, kb2, rfl, hB2, hg2, hd2, ho2⟩; obtain ⟨ak, nk, ck, rfl⟩ := bools_slice hB2; replace hst := hst.add ho2 (r := boolsF (.slice ak nk ck) keep kb2) hB2 hg2; have HG2 := Lib.hid hg2; have HND := Lib.hid hd2; have HS1 := Lib.hid HO1.out.size; clear ho2 hB2 hg2 hd2)
    | ((with_reducible refine wpL_peel rfl ?_ ?_); focus (go_simp; done)) | ((with_reducible refine wpL_isLoad rfl ?_); first | (refine wpL_load1S hst.st rfl rfl 0 rfl rfl rfl (by kernel_rfl) ?_)) | ((with_reducible refine wpL_isStore rfl ?_); first | (refine wpL_store1D hst rfl rfl 0 rfl rfl rfl rfl (by kernel_rfl) rfl ?_; clear hst; intro w1 hst; simp only [List.set] at hst)))
  go_end0
  have ho := HO.out
  have hon := hst.only
  have hg2 : ∀ b ∈ kb2, w.heap.size ≤ b := fun b hb => Nat.le_trans HS1.out (HG2.out b hb)
  have hlt : ∀ b ∈ d :: gs :: (lv.ownBlock.toList ++ kb), b < w.heap.size := fun b hb => HD.out.lt b (by rw [ho.hF]; exact hb)
  have hnd := ho.nd
  rw [ho.hF] at hnd
  refine ⟨rfl, d :: gs :: (lv.ownBlock.toList ++ kb2), DiskOp.shut (kv := .slice ak nk ck) (gs := gs) (cs := cs) (rs := rs) (lv := lv) (kb := kb2) ⟨HOK.out, hst.blk 0 rfl, hst.blk 1 rfl, ownsRow_only ho.hl hon (fun k hk => by have := ho.lb k hk; simp; exact this), hst.rs 0 rfl, rfl, ?_, ho.hc, ho.hm, ho.ht⟩, ?_, fun b hb => ?_⟩
  · simp only [List.nodup_cons, List.mem_cons, List.mem_append, not_or, List.nodup_append] at hnd ⊢
    have hd1 := hlt d (by simp)
    have hd2 := hlt gs (by simp)
    refine ⟨⟨hnd.1.1, hnd.1.2.1, fun hm => ?_⟩, ⟨hnd.2.1.1, fun hm => ?_⟩, hnd.2.2.1, HND.out, fun x hx y hy e => ?_⟩
    · have := hg2 d hm; omega
    · have := hg2 gs hm; omega
    · have h1 := hlt x (by simp [hx])
      have h2 := hg2 y hy
      omega
  · rw [ho.hF]
    exact hon.mono (fun k hk => by simp at hk ⊢; rcases hk with rfl | rfl <;> simp)
  · rw [ho.hF]
    simp only [List.mem_cons, List.mem_append] at hb ⊢
    rcases hb with rfl | rfl | hb | hb
    · exact .inl (.inl rfl)
    · exact .inl (.inr (.inl rfl))
    · exact .inl (.inr (.inr (.inl hb)))
    · exact .inr (hg2 b hb)
end Go.Proofs.Ytmogkiacakkmbaa
