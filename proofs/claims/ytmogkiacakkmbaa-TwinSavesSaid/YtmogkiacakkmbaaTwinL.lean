/- The law TwinSaves, walked. -/
import Derived.Test.YtmogkiacakkmbaaTwinK
import Derived.Test.YtmogkiacakkmbaaFuse
namespace Go.Proofs.Ytmogkiacakkmbaa
open Go.RowKit

/-- A slice of slices of texts, as it can be read. -/
def StrsS (w : World) (v : Value) (xss : List (List ByteArray)) : Prop :=
  ((∃ a c, v = .slice a 0 c) ∧ xss = []) ∨ ∃ bk o c, v = .slice (some ⟨bk, o, none⟩) xss.length c ∧ bk < w.heap.size ∧ xss.length ≤ c ∧ ∀ (j : Nat) l, xss[j]? = some l → ∃ V, w.cell? ⟨bk, o + j, none⟩ = some V ∧ Strs w V l
theorem cellL {w w' : World} {b k : Nat} {u : Value} (h : w.cell? ⟨b, k, none⟩ = some u) (ho : Only [] w w') : w'.cell? ⟨b, k, none⟩ = some u := by
  have hlt : b < w.heap.size := by
    rcases Nat.lt_or_ge b w.heap.size with hl | hl
    · exact hl
    · simp [World.cell?, Array.getElem?_eq_none hl] at h
  rw [ho.cellAt _ _ hlt (by simp)]
  exact h
theorem Sd.apartF {w0 w : World} {S : List Nat} {L : List Ent} {R : List Rsc} {d : Nat} {m : DM} {F : List Nat} {v : Value} {l : List Bool} {kb : List Nat} (h : Sd w0 S w L (diskR d m F :: boolsF v l kb :: R)) : ∀ b ∈ kb, b ∉ F := fun b hb hF =>
  (List.pairwise_cons.1 h.rapart).1 (boolsF v l kb) List.mem_cons_self b hF hb
theorem zwrite_ok {m : DM} (h : m.Ok) (f n : Nat) (a : Int) (s : ByteArray) : (zwrite m f n a s).Ok := by
  unfold zwrite
  split
  · exact h
  · split
    · exact h.write _ _
    · exact h
theorem putJ_ok {m : DM} (h : m.Ok) (f n : Nat) (a : Int) (l : List ByteArray) : ∀ j, (putJ m f n a l j).1.Ok
  | 0 => h
  | j + 1 => by
    have := putJ_ok h f n a l j
    unfold putJ
    split
    · exact this
    · exact zwrite_ok this _ _ _ _
theorem fillJ_ok {m : DM} (h : m.Ok) (f n : Nat) (s : ByteArray) : ∀ j, (fillJ m f n s j).1.Ok
  | 0 => h
  | j + 1 => by
    have := fillJ_ok h f n s j
    unfold fillJ
    split
    · exact this
    · split
      · exact this
      · split
        · exact this
        · exact zwrite_ok this _ _ _ _
theorem putR_ok {m : DM} (h : m.Ok) (f n : Nat) (a num : Int) (s : ByteArray) : (putR m f n a num s).1.Ok := by
  unfold putR
  split
  · exact h
  · split
    · exact h
    · exact putJ_ok h _ _ _ _ _
theorem layR_ok {m : DM} (h : m.Ok) (p k : Nat) (g : Int) (s : ByteArray) : (layR m p k g s).1.Ok := by
  have a : (layA m p k).1.Ok := fillJ_ok h _ _ _ _
  have c : (layC m p k g s).1.Ok := putR_ok a.sync _ _ _ _ _
  unfold layR
  split
  · exact a
  · split
    · exact a.sync
    · split
      · exact c
      · exact c.sync
/-- What a life's end leaves. -/
theorem Life.ended {m : DM} {tx : ByteArray} {g : Int} {κ : Nat} (L : Life m 2 7 tx g κ) : Life (m.cut []).come 2 7 tx g κ := by
  have e : (m.cut []).come = { m with fuse := -1, loose := [], safe := m.safe, away := false } := by
    unfold DM.cut
    rw [L.aw, L.lo]
    simp only [Bool.false_eq_true, if_false]
    unfold DM.come
    simp [keptL, laid]
  refine L.of ?_ (by rw [e]) (by rw [e]) (by rw [e])
  exact (L.ok.cut []).come

set_option maxRecDepth 100000 in
set_option maxHeartbeats 32000000 in
theorem twinSaves_walk (v : Value) (xss : List (List ByteArray)) (u : Value) (fs : List Int) (V : Value) (keep : List Bool) (kb : List Nat) (w : World) (h : StrsS w v xss) (hI : Ints w u fs) (hB : Bools w V keep kb) :
    Calls Try.prog 7 #[v, u, V] w fun e w' => e = .returned (.bool true) ∧ Only [] w w' := by
  have hst := Sd.withQ [] (boolsF V keep kb) hB rfl
  have HH := Lib.hid h
  have HU := Lib.hid hI
  obtain ⟨ad, cap, rfl⟩ : ∃ ad cap, v = .slice ad xss.length cap := by
    rcases h with ⟨⟨a, c, rfl⟩, rfl⟩ | ⟨bk, o, c, rfl, _⟩
    · exact ⟨a, c, rfl⟩
    · exact ⟨_, _, rfl⟩
  obtain ⟨au, cau, rfl⟩ : ∃ au cau, u = .slice au fs.length cau := by
    rcases hI with ⟨⟨a, c, rfl⟩, rfl⟩ | ⟨bk, o, c, rfl, _⟩
    · exact ⟨a, c, rfl⟩
    · exact ⟨_, _, rfl⟩
  obtain ⟨ak, ck, eV⟩ : ∃ ak ck, V = .slice ak keep.length ck := by
    rcases hB with ⟨rfl, _, a, c, rfl⟩ | ⟨g, o, c, rfl, _⟩
    · exact ⟨a, c, rfl⟩
    · exact ⟨_, c, rfl⟩
  clear h hI
  have AW := Lib.hid awake07_any
  by_cases hbig : 6 < (xss.length : Int) ∨ ((xss.length : Int) ≤ 6 ∧ 50 < (keep.length : Int))
  · subst eV
    rcases hbig with hb | ⟨hb, hb2⟩
    all_goals
      go_enter Try.func7, Try.ntmps7
      go_wp2_with (first | ((with_reducible refine wpL_peel rfl ?_ ?_); focus (go_simp; done)) | (go_at_call 31; (with_reducible refine (AW.out _).mono ?_); rintro e1 w1 ⟨rfl, ho1⟩; replace hst := hst.keep ho1; clear ho1))
      go_ret
      exact ⟨rfl, hst.only⟩
  have hx6 : (xss.length : Int) ≤ 6 := by omega
  have hk50 : (keep.length : Int) ≤ 50 := by omega
  clear hbig
  have r0 := Rest.fresh 20 (by decide)
  obtain ⟨a1, a2, a3, a4⟩ := fmt_quiet r0 2 14 ⟨#[98, 101, 103, 105, 110]⟩ (by decide) (by decide) (by decide)
  obtain ⟨M1, e1⟩ : ∃ M1, M1 = (fmtR (DM.fresh 20) 2 14 ⟨#[98, 101, 103, 105, 110]⟩).1 := ⟨_, rfl⟩
  rw [← e1] at a2 a3 a4
  have hL0 : Life M1 2 7 ⟨#[98, 101, 103, 105, 110]⟩ 1 0 := Life.fmt a2 2 7 ⟨#[98, 101, 103, 105, 110]⟩ (by rw [a3]; decide) (by decide) (by decide) (by decide) a4
  have A0 : Hid (Life M1 2 7 ⟨#[98, 101, 103, 105, 110]⟩ 1 0 ∧ M1.len = 20 ∧ (1 : Int) ≤ 1 + 5 * ((0 : Nat) : Int)) := ⟨hL0, by rw [a3]; rfl, by decide⟩
  have DN : Hid (∀ w, Calls Try.prog 14 #[.int .i64 20] w fun e w' => ∃ d F, e = .returned (.pointer (some ⟨d, 0, none⟩)) ∧ DiskAt w' d (DM.fresh 20) F ∧ Only [] w w' ∧ (∀ b ∈ F, w.heap.size ≤ b)) := fun w => dskNew_any 20 w (by decide)
  have ZN : Hid (∀ d F w, DiskAt w d (DM.fresh 20) F → Calls Try.prog 15 #[.pointer (some ⟨d, 0, none⟩), .int .i64 2, .int .i64 14] w fun e w' => ∃ z, e = .returned (.tuple #[.pointer (some ⟨z, 0, none⟩), .int .i64 0]) ∧ w.heap.size ≤ z ∧ Blk w' z (zcells d 2 14) 34 ∧ Only [] w w') := fun d F w h => zonNew_yes d 2 14 _ F w h (by decide)
  have FM : Hid (∀ z d F w, Blk w z (zcells d 2 14) 34 → DiskAt w d (DM.fresh 20) F → z ∉ F → Calls Try.prog 33 #[.pointer (some ⟨z, 0, none⟩), .string ⟨#[98, 101, 103, 105, 110]⟩] w fun e w' => ∃ t F', e = .returned (.tuple #[.pointer (some ⟨t, 0, none⟩), .int .i64 0]) ∧ w.heap.size ≤ t ∧ Blk w' t (tcells z ⟨#[98, 101, 103, 105, 110]⟩ 1 0 false) 98 ∧ DiskAt w' d M1 F' ∧ Turn F F' w w' ∧ t ∉ F') := fun z d F w h1 h2 h3 => by
    rw [e1]
    exact twinFormat_yes z d 2 14 _ F ⟨#[98, 101, 103, 105, 110]⟩ w h1 h2 h3 (by decide) (by decide) (by decide) (by decide) (by decide) (by decide) a1
  clear a1 a2 a3 a4 r0 e1 hL0 hB
  subst eV
  go_enter Try.func7, Try.ntmps7
  go_wp2_with (first | ((with_reducible refine wpL_peel rfl ?_ ?_); focus (go_simp; done)) | (go_at_call 31; (with_reducible refine (AW.out _).mono ?_); rintro e1 w1 ⟨rfl, ho1⟩; replace hst := hst.keep ho1; clear ho1) | (go_at_call 14; (with_reducible refine (DN.out _).mono ?_); rintro e1 w1 ⟨d, F, rfl, hd1, ho1, hg1⟩; replace hst := hst.add ho1 (r := diskR d _ F) hd1 hg1; clear hd1 ho1 hg1) | (go_at_call 15; (with_reducible refine (ZN.out _ _ _ (hst.rs 0 rfl)).mono ?_); rintro e1 w1 ⟨z, rfl, hg1, hz1, ho1⟩; replace hst := hst.new ho1 hz1 hg1; clear hg1 hz1 ho1) | (go_at_call 33; (with_reducible refine (FM.out _ _ _ _ (hst.blk 0 rfl) (hst.rs 0 rfl) (hst.away 0 0 rfl rfl)).mono ?_); rintro e1 w1 ⟨t, F1, rfl, hg1, ht1, hd1, hT1, hn1⟩; replace hst := hst.actNew 0 rfl (diskR _ _ F1) rfl hT1 hd1 ht1 hg1 hn1; simp only [List.set] at hst; clear hg1 ht1 hd1 hT1 hn1))
  obtain ⟨V, eV⟩ : ∃ V, V = Value.slice ak keep.length ck := ⟨_, rfl⟩
  rw [← eV] at hst
  go_loopw [10, 12, 13, 14] (fun tp su ge i wr => ∃ (k t : Nat) (m : DM) (tx : ByteArray) (g : Int) (κ : Nat) (F2 : List Nat), k ≤ xss.length ∧ tp = .pointer (some ⟨t, 0, none⟩) ∧ su = .string tx ∧ ge = .int .i64 g ∧ i = .int .i64 (k : Int) ∧ Hid (Life m 2 7 tx g κ ∧ m.len = 20 ∧ g ≤ 1 + 5 * (k : Int)) ∧
      Sd w [] wr [⟨t, tcells z tx g ((κ : Nat) : Int) false, 98, true⟩, ⟨z, zcells d 2 14, 34, true⟩] [diskR d m F2, boolsF V keep kb])
    (fun _ _ _ i _ => (xss.length - intOf i).toNat)
  case atStart => exact ⟨0, t, M1, ⟨#[98, 101, 103, 105, 110]⟩, 1, 0, F1, by omega, rfl, rfl, rfl, rfl, A0, hst⟩
  case round =>
    obtain ⟨k, t, m0, tx0, g0, κ0, F2, hk, rfl, rfl, rfl, rfl, H0, hst⟩ := hrel
    clear A0
    by_cases hlt : k < xss.length
    · have k1 : (k : Int) < xss.length := by omega
      have HK : Hid (k + 1 ≤ xss.length) := hlt
      obtain ⟨l, el⟩ : ∃ l, l = xss.getD k [] := ⟨_, rfl⟩
      obtain ⟨bk, o, al, cl, rfl, hcl, hls⟩ : ∃ bk o al cl, ad = some ⟨bk, o, none⟩ ∧ (∀ wr, Only [] w wr → wr.cell? ⟨bk, o + k, none⟩ = some (.slice al l.length cl)) ∧ Strs w (.slice al l.length cl) l := by
        rcases HH.out with ⟨_, e⟩ | ⟨bk, o, c, hv, h1, h2, h3⟩
        · rw [e] at hlt; simp at hlt
        · injection hv with e1 e2 e3
          obtain ⟨W, hW, hS⟩ := h3 k l (by rw [el, List.getD_eq_getElem?_getD, List.getElem?_eq_getElem hlt]; rfl)
          obtain ⟨al, cl, rfl⟩ : ∃ al cl, W = .slice al l.length cl := by
            rcases hS with ⟨⟨a, c, rfl⟩, e⟩ | ⟨bk, o, c, rfl, _⟩
            · exact ⟨a, c, by rw [e]; rfl⟩
            · exact ⟨_, _, rfl⟩
          exact ⟨bk, o, al, cl, e1, fun wr ho => cellL hW ho, hS⟩
      have HL := Lib.hid hcl
      have HLS := Lib.hid hls
      clear el hcl hls
      have SS : Hid (∀ s : ByteArray, decide (s = s) = true) := fun s => decide_eq_true rfl
      by_cases hfu : k < fs.length
      · have f1 : (k : Int) < fs.length := by omega
        obtain ⟨q, hq, hq2⟩ := rem_idx (fs.getD k 0) 20 (by decide)
        have hq : (IntKind.u64.wrap (fs.getD k 0)).tmod 20 = (q : Int) := hq
        obtain ⟨bf, of, rfl, hcf⟩ : ∃ bf of, au = some ⟨bf, of, none⟩ ∧ ∀ wr, Only [] w wr → wr.cell? ⟨bf, of + k, none⟩ = some (.int .i64 (fs.getD k 0)) := by
          rcases HU.out with ⟨_, e⟩ | ⟨bf, of, c, hv, h1, h2, h3⟩
          · rw [e] at hfu; simp at hfu
          · injection hv with e1 e2 e3
            exact ⟨bf, of, e1, fun wr ho => cellL (h1 k _ (by rw [List.getD_eq_getElem?_getD, List.getElem?_eq_getElem hfu]; rfl)) ho⟩
        have HF := Lib.hid hcf
        clear hcf
        generalize fs.getD k 0 = fk at *
        obtain ⟨m1, em1⟩ : ∃ m1, m1 = m0.fuseAt (q : Int) keep := ⟨_, rfl⟩
        have H1 : Hid (Life m1 2 7 tx0 g0 κ0 ∧ m1.len = 20 ∧ g0 ≤ 1 + 5 * (k : Int) + ((0 : Nat) : Int)) := by
          obtain ⟨L, hl, hg⟩ := H0.out
          have e : m0.fuseAt (q : Int) keep = { m0 with fuse := max (q : Int) (-1), keep := keep } := by unfold DM.fuseAt; rw [L.aw]; rfl
          refine ⟨L.of ?_ (by rw [em1, e]; exact L.aw) (by rw [em1, e]; exact L.lo) (by rw [em1, e]), by rw [em1, e]; exact hl, by omega⟩
          rw [em1]
          exact L.ok.fuseAt _ _ (by omega) (by omega)
        have FU : Hid (∀ F w, DiskAt w d m0 F → Bools w V keep kb → (∀ b ∈ kb, b ∉ F) → Calls Try.prog 41 #[.pointer (some ⟨d, 0, none⟩), .int .i64 (q : Int), .slice ak keep.length ck] w fun e w' => ∃ F', e = .returned (.tuple #[]) ∧ DiskAt w' d m1 F' ∧ Turn F F' w w') := fun F w h1 h2 h3 => by
          obtain ⟨L, hl, hg⟩ := H0.out
          rw [em1, ← eV]
          exact dskFuse_any d m0 F (q : Int) V keep kb w h1 (by omega) L.aw h2 h3 (by omega) (by omega)
        have EV := Lib.hid eV
        clear H0 em1 eV
        go_wp2_with (first | ((with_reducible refine wpL_peel rfl ?_ ?_); focus (go_simp; done)) | ((with_reducible refine wpL_isLoad rfl ?_); refine wpL_load1C rfl rfl rfl (HF.out _ hst.only) (by kernel_rfl) ?_) | (go_at_call 41; (with_reducible refine (FU.out _ _ (hst.rs 0 rfl) (hst.rs 1 rfl) (hst.apartF)).mono ?_); rintro e1 w1 ⟨F1, rfl, hd1, ht1⟩; replace hst := hst.act 0 rfl (diskR _ _ F1) rfl ht1 hd1; simp only [List.set] at hst; clear hd1 ht1))
        go_loopw [12, 13, 15, 16] (fun su ge nx i wr => ∃ (j : Nat) (m : DM) (tx : ByteArray) (g : Int) (κ : Nat) (F2 : List Nat), j ≤ l.length ∧ j ≤ 4 ∧ su = .string tx ∧ ge = .int .i64 g ∧ nx = .string tx ∧ i = .int .i64 (j : Int) ∧ Hid (Life m 2 7 tx g κ ∧ m.len = 20 ∧ g ≤ 1 + 5 * (k : Int) + (j : Int)) ∧
            Sd w [] wr [⟨t, tcells z tx g ((κ : Nat) : Int) false, 98, true⟩, ⟨z, zcells d 2 14, 34, true⟩] [diskR d m F2, boolsF V keep kb])
          (fun _ _ _ i _ => (4 - intOf i).toNat)
        case atStart => exact ⟨0, m1, tx0, g0, κ0, _, by omega, by omega, rfl, rfl, rfl, rfl, H1, hst⟩
        case round =>
          obtain ⟨j, m, tx, g, κ, F2, hj, hj4, rfl, rfl, rfl, rfl, HI, hst⟩ := hrel
          obtain ⟨L, hlen, hg5⟩ := HI.out
          have hgr := (canLay_iff.1 L.can).1
          have hg1 : 1 ≤ g := by unfold isNum at hgr; simp at hgr; omega
          have hg2 : g ≤ 100 := by omega
          clear hgr
          by_cases hcont : j < l.length ∧ j < 4
          · obtain ⟨hlt, hlt4⟩ := hcont
            have j1 : (j : Int) < l.length := by omega
            have j4 : (j : Int) < 4 := by omega
            have HJ : Hid (j + 1 ≤ l.length ∧ j + 1 ≤ 4) := ⟨hlt, hlt4⟩
            obtain ⟨b2, o2, rfl, hcell⟩ : ∃ b2 o2, al = some ⟨b2, o2, none⟩ ∧ ∀ wr, Only [] w wr → wr.cell? ⟨b2, o2 + j, none⟩ = some (.string (l.getD j ⟨#[]⟩)) := by
              rcases HLS.out with ⟨_, e⟩ | ⟨b2, o2, c, hv, h1, h2, h3⟩
              · rw [e] at hlt; simp at hlt
              · injection hv with e1 e2 e3
                exact ⟨b2, o2, e1, fun wr ho => cellL (h1 j _ (by rw [List.getD_eq_getElem?_getD, List.getElem?_eq_getElem hlt]; rfl)) ho⟩
            have HC := Lib.hid hcell
            clear hcell
            obtain ⟨s, es⟩ : ∃ s, s = l.getD j ⟨#[]⟩ := ⟨_, rfl⟩
            rw [← es] at HC
            clear es
            by_cases hsz : 60 < s.size
            · have hsz' : (60 : Int) < s.size := by omega
              clear L hlen HI
              go_wp2_with (first | ((with_reducible refine wpL_peel rfl ?_ ?_); focus (go_simp; done)) | ((with_reducible refine wpL_isLoad rfl ?_); first | (refine wpL_load1C rfl rfl rfl (HC.out _ hst.only) (by kernel_rfl) ?_) | (refine wpL_load1C rfl rfl rfl (HL.out _ hst.only) (by kernel_rfl) ?_)))
              go_ret
              exact ⟨rfl, hst.only⟩
            · have hsz' : ¬ (60 : Int) < s.size := by omega
              have hft : fits (14 / 2) s = true := fits_iff.2 ⟨by omega, by unfold secsOf; omega⟩
              have hcl : canLay (g + 1) s = true := canLay_iff.2 ⟨by unfold isNum; simp; omega, by omega⟩
              have hK7 : secsOf s.size ≤ 7 := (fits_iff.1 hft).2
              have hκ := L.side
              rcases L.save s hcl hK7 with ⟨s0, L'⟩ | ⟨s4, s5, s6, s7, s8⟩
              · obtain ⟨m', em⟩ : ∃ m', m' = (layR m (2 + (1 - κ) * 7) 7 g s).1 := ⟨_, rfl⟩
                rw [← em] at L'
                have hlen' : m'.len = 20 := by
                  rcases layR_on m (2 + (1 - κ) * 7) 7 g s L.aw L.ok.least L.ok.most (by have := L.len; rcases (by omega : κ = 0 ∨ κ = 1) with e | e <;> subst e <;> omega) hcl hK7 L.lo with ⟨_, _, S, _, _, _, h4, h5, _⟩ | ⟨_, h2, _⟩
                  · rw [em, h4]; exact h5.trans hlen
                  · rw [h2] at s0; cases s0
                have SV : Hid (∀ F w, (pairR t (tcells z tx g ((κ : Nat) : Int) false) 98 (diskR d m F)).p w → Blk w z (zcells d 2 14) 34 → t ≠ z → z ∉ F → Calls Try.prog 38 #[.pointer (some ⟨t, 0, none⟩), .string s] w fun e w' => ∃ F', e = .returned (.int .i64 0) ∧ (pairR t (tcells z s (g + 1) ((1 - κ : Nat) : Int) false) 98 (diskR d m' F')).p w' ∧ Turn (t :: F) (t :: F') w w') := fun F w h1 h2 h3 h4 => by
                  rw [em]
                  exact twinSave_yes t z d 2 14 m F tx g s w κ h1 h2 h3 h4 (by decide) (by decide) (by decide) (by omega) (by rw [L.lo]; exact Nat.zero_le _) hκ (by omega) (by omega) hft s0
                have NI : Hid (Life m' 2 7 s (g + 1) (1 - κ) ∧ m'.len = 20 ∧ g + 1 ≤ 1 + 5 * (k : Int) + ((j + 1 : Nat) : Int)) := ⟨L', hlen', by omega⟩
                clear L L' HI em s0 hft hcl hK7 hlen hlen' hκ
                go_wp2_with (first | ((with_reducible refine wpL_peel rfl ?_ ?_); focus (go_simp; done)) | ((with_reducible refine wpL_isLoad rfl ?_); first | (refine wpL_load1C rfl rfl rfl (HC.out _ hst.only) (by kernel_rfl) ?_) | (refine wpL_load1C rfl rfl rfl (HL.out _ hst.only) (by kernel_rfl) ?_)) | (go_at_call 38; (with_reducible refine (SV.out _ _ (pair_mk (hst.blk 0 rfl) (hst.rs 0 rfl) (hst.away 0 0 rfl rfl)) (hst.blk 1 rfl) (hst.neq 0 1 rfl rfl (by decide)) (hst.away 1 0 rfl rfl)).mono ?_); rintro e1 w1 ⟨F3, rfl, hp1, hT1⟩; replace hst := ((hst.join rfl).act 0 rfl (pairR _ _ _ (diskR _ _ F3)) rfl hT1 hp1); simp only [List.set] at hst; replace hst := hst.split; clear hp1 hT1))
                go_roundw
                case rel => exact ⟨j + 1, m', s, g + 1, 1 - κ, _, HJ.out.1, HJ.out.2, rfl, rfl, rfl, by go_num, NI, hst⟩
                case measure => simp [intOf]; omega
              · obtain ⟨m', em⟩ : ∃ m', m' = (layR m (2 + (1 - κ) * 7) 7 g s).1 := ⟨_, rfl⟩
                rw [← em] at s5 s6 s7 s8
                have SV : Hid (∀ F w, (pairR t (tcells z tx g ((κ : Nat) : Int) false) 98 (diskR d m F)).p w → Blk w z (zcells d 2 14) 34 → t ≠ z → z ∉ F → Calls Try.prog 38 #[.pointer (some ⟨t, 0, none⟩), .string s] w fun e w' => ∃ F', e = .returned (.int .i64 4) ∧ (pairR t (tcells z tx g ((κ : Nat) : Int) true) 98 (diskR d m' F')).p w' ∧ Turn (t :: F) (t :: F') w w') := fun F w h1 h2 h3 h4 => by
                  rw [em]
                  exact twinSave_broke t z d 2 14 m F tx g s w κ h1 h2 h3 h4 (by decide) (by decide) (by decide) (by omega) (by rw [L.lo]; exact Nat.zero_le _) hκ (by omega) (by omega) hft 4 s4 (by decide)
                have SN : Hid (∀ w, Blk w t (tcells z tx g ((κ : Nat) : Int) true) 98 → Blk w z (zcells d 2 14) 34 → t ≠ z → Calls Try.prog 38 #[.pointer (some ⟨t, 0, none⟩), .string s] w fun e w' => e = .returned (.int .i64 4) ∧ Only [] w w') := fun w h1 h2 h3 => twinSave_no t z d 2 14 tx g ((κ : Nat) : Int) s w true h1 h2 h3 (by decide) 4 (.inr (.inr ⟨hft, by omega, rfl, rfl⟩))
                have hlM : m'.len = 20 := by omega
                have hloM : m'.loose = [] := s6
                obtain ⟨MC, eMC⟩ : ∃ MC, MC = m'.cut [] := ⟨_, rfl⟩
                obtain ⟨ME, eME⟩ : ∃ ME, ME = MC.come := ⟨_, rfl⟩
                have eCut : MC = m' := by rw [eMC]; unfold DM.cut; rw [s5]; rfl
                have hME : ME.away = false ∧ ME.loose = [] ∧ ME.safe = m'.safe ∧ ME.len = 20 := by
                  rw [eME, eCut]
                  unfold DM.come
                  rw [s5]
                  exact ⟨rfl, s6, rfl, hlM⟩
                have hok : ME.Ok := by rw [eME, eMC, em]; exact ((layR_ok L.ok _ _ _ _).cut []).come
                rcases s8 ME hok hME.1 hME.2.1 hME.2.2.1 with LE | LE
                · have CU : Hid (∀ F w, DiskAt w d m' F → Calls Try.prog 19 #[.pointer (some ⟨d, 0, none⟩), .slice none 0 0] w fun e w' => ∃ F', e = .returned (.tuple #[]) ∧ DiskAt w' d MC F' ∧ Turn F F' w w') := fun F w h => by
                    rw [eMC]
                    exact dskCut_any d m' F _ [] [] w h (by omega) (.inl ⟨rfl, rfl, none, 0, rfl⟩) (fun b hb => by cases hb) (by rw [hloM]; exact Nat.zero_le _)
                  have CO : Hid (∀ F w, DiskAt w d MC F → Calls Try.prog 20 #[.pointer (some ⟨d, 0, none⟩)] w fun e w' => ∃ F', e = .returned (.tuple #[]) ∧ DiskAt w' d ME F' ∧ Turn F F' w w') := fun F w h => by
                    refine (dskCome_any d MC F w h (by rw [eMC, DM.cut_len]; omega)).mono ?_
                    rintro e w' ⟨h1, h2, h3⟩
                    exact ⟨F, h1, by rw [eME]; exact h2, h3⟩
                  have DO : Hid (∀ F w, DiskAt w d ME F → Calls Try.prog 42 #[.pointer (some ⟨d, 0, none⟩)] w fun e w' => e = .returned (.int .i64 ME.done) ∧ Only [] w w') := fun F w h => dskDone_any d ME F w h
                  have OP : Hid (∀ F w, Blk w z (zcells d 2 14) 34 → DiskAt w d ME F → z ∉ F → Calls Try.prog 32 #[.pointer (some ⟨z, 0, none⟩)] w fun e w' => ∃ u, e = .returned (.tuple #[.pointer (some ⟨u, 0, none⟩), .int .i64 0]) ∧ w.heap.size ≤ u ∧ Blk w' u (tcells z tx g ((κ : Nat) : Int) false) 98 ∧ Only [] w w') := fun F w h1 h2 h3 => by
                    refine (twinOpen_any z d 2 14 ME F w h1 h2 h3 (by decide) (by decide) (by rw [LE.lo]; exact Nat.zero_le _) LE.aw (by decide)).mono ?_
                    intro e w' h
                    rw [show openR ME 2 14 = _ from LE.opens] at h
                    rcases h with ⟨h, _⟩ | ⟨_, h⟩
                    · simp only at h; omega
                    · exact h
                  have TX : Hid (∀ u w, Blk w u (tcells z tx g ((κ : Nat) : Int) false) 98 → Calls Try.prog 35 #[.pointer (some ⟨u, 0, none⟩)] w fun e w' => e = .returned (.string tx) ∧ w = w') := fun u w h => twinText_any u z _ _ _ _ w h
                  have TG : Hid (∀ u w, Blk w u (tcells z tx g ((κ : Nat) : Int) false) 98 → Calls Try.prog 36 #[.pointer (some ⟨u, 0, none⟩)] w fun e w' => e = .returned (.int .i64 g) ∧ w = w') := fun u w h => twinGen_any u z _ _ _ _ w h
                  have NI : Hid (Life ME 2 7 tx g (κ) ∧ ME.len = 20 ∧ g ≤ 1 + 5 * ((k + 1 : Nat) : Int)) := ⟨LE, hME.2.2.2, by omega⟩
                  clear L LE HI em s4 s5 s6 s7 s8 hft hcl hK7 hlen hκ hlM hloM eMC eME eCut hME hok
                  go_wp2_with (first | ((with_reducible refine wpL_isLoad rfl ?_); first | (refine wpL_load1C rfl rfl rfl (HC.out _ hst.only) (by kernel_rfl) ?_) | (refine wpL_load1C rfl rfl rfl (HL.out _ hst.only) (by kernel_rfl) ?_)) | ((with_reducible refine wpL_peel rfl ?_ ?_); focus (go_simp; done)) | (go_at_call 19; (with_reducible refine (CU.out _ _ (hst.rs 0 rfl)).mono ?_); rintro e1 w1 ⟨F1, rfl, hd1, ht1⟩; replace hst := hst.act 0 rfl (diskR _ _ F1) rfl ht1 hd1; simp only [List.set] at hst; clear hd1 ht1) | (go_at_call 20; (with_reducible refine (CO.out _ _ (hst.rs 0 rfl)).mono ?_); rintro e1 w1 ⟨F1, rfl, hd1, ht1⟩; replace hst := hst.act 0 rfl (diskR _ _ F1) rfl ht1 hd1; simp only [List.set] at hst; clear hd1 ht1) | (go_at_call 42; (with_reducible refine (DO.out _ _ (hst.rs 0 rfl)).mono ?_); rintro e1 w1 ⟨rfl, ho1⟩; replace hst := hst.keep ho1; clear ho1) | (go_at_call 32; (with_reducible refine (OP.out _ _ (hst.blk 1 rfl) (hst.rs 0 rfl) (hst.away 1 0 rfl rfl)).mono ?_); rintro e1 w1 ⟨u, rfl, hg1, hu1, ho1⟩; replace hst := hst.new ho1 hu1 hg1; clear hg1 hu1 ho1) | (go_at_call 35; (with_reducible refine (TX.out _ _ (hst.blk 0 rfl)).mono ?_); rintro e1 w1 ⟨rfl, rfl⟩) | (go_at_call 36; (with_reducible refine (TG.out _ _ (hst.blk 0 rfl)).mono ?_); rintro e1 w1 ⟨rfl, rfl⟩) | (go_at_call 38; (with_reducible refine (SV.out _ _ (pair_mk (hst.blk 0 rfl) (hst.rs 0 rfl) (hst.away 0 0 rfl rfl)) (hst.blk 1 rfl) (hst.neq 0 1 rfl rfl (by decide)) (hst.away 1 0 rfl rfl)).mono ?_); rintro e1 w1 ⟨F3, rfl, hp1, hT1⟩; replace hst := ((hst.join rfl).act 0 rfl (pairR _ _ _ (diskR _ _ F3)) rfl hT1 hp1); simp only [List.set] at hst; replace hst := hst.split; clear hp1 hT1) | (go_at_call 38; (with_reducible refine (SN.out _ (hst.blk 0 rfl) (hst.blk 1 rfl) (hst.neq 0 1 rfl rfl (by decide))).mono ?_); rintro e1 w1 ⟨rfl, ho1⟩; replace hst := hst.keep ho1; clear ho1) | ((with_reducible refine wpL_isBin rfl ?_); first | (refine wpL_eql_same rfl 9 _ _ _ rfl _ rfl rfl ?_) | (refine wpL_neqStrT rfl rfl s s rfl rfl true SS.out ?_)))
                  go_roundw
                  case rel => exact ⟨k + 1, _, ME, tx, g, κ, _, HK.out, rfl, rfl, rfl, by go_num, NI, hst.weak (List.Sublist.cons_cons _ (List.Sublist.cons _ (List.Sublist.refl _)))⟩
                  case measure => simp [intOf]; omega
                · have CU : Hid (∀ F w, DiskAt w d m' F → Calls Try.prog 19 #[.pointer (some ⟨d, 0, none⟩), .slice none 0 0] w fun e w' => ∃ F', e = .returned (.tuple #[]) ∧ DiskAt w' d MC F' ∧ Turn F F' w w') := fun F w h => by
                    rw [eMC]
                    exact dskCut_any d m' F _ [] [] w h (by omega) (.inl ⟨rfl, rfl, none, 0, rfl⟩) (fun b hb => by cases hb) (by rw [hloM]; exact Nat.zero_le _)
                  have CO : Hid (∀ F w, DiskAt w d MC F → Calls Try.prog 20 #[.pointer (some ⟨d, 0, none⟩)] w fun e w' => ∃ F', e = .returned (.tuple #[]) ∧ DiskAt w' d ME F' ∧ Turn F F' w w') := fun F w h => by
                    refine (dskCome_any d MC F w h (by rw [eMC, DM.cut_len]; omega)).mono ?_
                    rintro e w' ⟨h1, h2, h3⟩
                    exact ⟨F, h1, by rw [eME]; exact h2, h3⟩
                  have DO : Hid (∀ F w, DiskAt w d ME F → Calls Try.prog 42 #[.pointer (some ⟨d, 0, none⟩)] w fun e w' => e = .returned (.int .i64 ME.done) ∧ Only [] w w') := fun F w h => dskDone_any d ME F w h
                  have OP : Hid (∀ F w, Blk w z (zcells d 2 14) 34 → DiskAt w d ME F → z ∉ F → Calls Try.prog 32 #[.pointer (some ⟨z, 0, none⟩)] w fun e w' => ∃ u, e = .returned (.tuple #[.pointer (some ⟨u, 0, none⟩), .int .i64 0]) ∧ w.heap.size ≤ u ∧ Blk w' u (tcells z s (g + 1) (((1 - κ) : Nat) : Int) false) 98 ∧ Only [] w w') := fun F w h1 h2 h3 => by
                    refine (twinOpen_any z d 2 14 ME F w h1 h2 h3 (by decide) (by decide) (by rw [LE.lo]; exact Nat.zero_le _) LE.aw (by decide)).mono ?_
                    intro e w' h
                    rw [show openR ME 2 14 = _ from LE.opens] at h
                    rcases h with ⟨h, _⟩ | ⟨_, h⟩
                    · simp only at h; omega
                    · exact h
                  have TX : Hid (∀ u w, Blk w u (tcells z s (g + 1) (((1 - κ) : Nat) : Int) false) 98 → Calls Try.prog 35 #[.pointer (some ⟨u, 0, none⟩)] w fun e w' => e = .returned (.string s) ∧ w = w') := fun u w h => twinText_any u z _ _ _ _ w h
                  have TG : Hid (∀ u w, Blk w u (tcells z s (g + 1) (((1 - κ) : Nat) : Int) false) 98 → Calls Try.prog 36 #[.pointer (some ⟨u, 0, none⟩)] w fun e w' => e = .returned (.int .i64 (g + 1)) ∧ w = w') := fun u w h => twinGen_any u z _ _ _ _ w h
                  have NI : Hid (Life ME 2 7 s (g + 1) ((1 - κ)) ∧ ME.len = 20 ∧ (g + 1) ≤ 1 + 5 * ((k + 1 : Nat) : Int)) := ⟨LE, hME.2.2.2, by omega⟩
                  clear L LE HI em s4 s5 s6 s7 s8 hft hcl hK7 hlen hκ hlM hloM eMC eME eCut hME hok
                  go_wp2_with (first | ((with_reducible refine wpL_isLoad rfl ?_); first | (refine wpL_load1C rfl rfl rfl (HC.out _ hst.only) (by kernel_rfl) ?_) | (refine wpL_load1C rfl rfl rfl (HL.out _ hst.only) (by kernel_rfl) ?_)) | ((with_reducible refine wpL_peel rfl ?_ ?_); focus (go_simp; done)) | (go_at_call 19; (with_reducible refine (CU.out _ _ (hst.rs 0 rfl)).mono ?_); rintro e1 w1 ⟨F1, rfl, hd1, ht1⟩; replace hst := hst.act 0 rfl (diskR _ _ F1) rfl ht1 hd1; simp only [List.set] at hst; clear hd1 ht1) | (go_at_call 20; (with_reducible refine (CO.out _ _ (hst.rs 0 rfl)).mono ?_); rintro e1 w1 ⟨F1, rfl, hd1, ht1⟩; replace hst := hst.act 0 rfl (diskR _ _ F1) rfl ht1 hd1; simp only [List.set] at hst; clear hd1 ht1) | (go_at_call 42; (with_reducible refine (DO.out _ _ (hst.rs 0 rfl)).mono ?_); rintro e1 w1 ⟨rfl, ho1⟩; replace hst := hst.keep ho1; clear ho1) | (go_at_call 32; (with_reducible refine (OP.out _ _ (hst.blk 1 rfl) (hst.rs 0 rfl) (hst.away 1 0 rfl rfl)).mono ?_); rintro e1 w1 ⟨u, rfl, hg1, hu1, ho1⟩; replace hst := hst.new ho1 hu1 hg1; clear hg1 hu1 ho1) | (go_at_call 35; (with_reducible refine (TX.out _ _ (hst.blk 0 rfl)).mono ?_); rintro e1 w1 ⟨rfl, rfl⟩) | (go_at_call 36; (with_reducible refine (TG.out _ _ (hst.blk 0 rfl)).mono ?_); rintro e1 w1 ⟨rfl, rfl⟩) | (go_at_call 38; (with_reducible refine (SV.out _ _ (pair_mk (hst.blk 0 rfl) (hst.rs 0 rfl) (hst.away 0 0 rfl rfl)) (hst.blk 1 rfl) (hst.neq 0 1 rfl rfl (by decide)) (hst.away 1 0 rfl rfl)).mono ?_); rintro e1 w1 ⟨F3, rfl, hp1, hT1⟩; replace hst := ((hst.join rfl).act 0 rfl (pairR _ _ _ (diskR _ _ F3)) rfl hT1 hp1); simp only [List.set] at hst; replace hst := hst.split; clear hp1 hT1) | (go_at_call 38; (with_reducible refine (SN.out _ (hst.blk 0 rfl) (hst.blk 1 rfl) (hst.neq 0 1 rfl rfl (by decide))).mono ?_); rintro e1 w1 ⟨rfl, ho1⟩; replace hst := hst.keep ho1; clear ho1) | ((with_reducible refine wpL_isBin rfl ?_); first | (refine wpL_eql_same rfl 9 _ _ _ rfl _ rfl rfl ?_) | (refine wpL_neqStrT rfl rfl s s rfl rfl true SS.out ?_)))
                  go_roundw
                  case rel => exact ⟨k + 1, _, ME, s, (g + 1), (1 - κ), _, HK.out, rfl, rfl, rfl, by go_num, NI, hst.weak (List.Sublist.cons_cons _ (List.Sublist.cons _ (List.Sublist.refl _)))⟩
                  case measure => simp [intOf]; omega
          · obtain ⟨MC, eMC⟩ : ∃ MC, MC = m.cut [] := ⟨_, rfl⟩
            obtain ⟨ME, eME⟩ : ∃ ME, ME = MC.come := ⟨_, rfl⟩
            have LE : Life ME 2 7 tx g κ := by rw [eME, eMC]; exact L.ended
            have hloM : m.loose = [] := L.lo
            have hlE : ME.len = 20 := by
              have : ME.safe = m.safe := by rw [eME, eMC]; unfold DM.cut; rw [L.aw, L.lo]; simp only [Bool.false_eq_true, if_false]; unfold DM.come; simp [keptL, laid]
              unfold DM.len at hlen ⊢
              rw [this]; exact hlen
            have CU : Hid (∀ F w, DiskAt w d m F → Calls Try.prog 19 #[.pointer (some ⟨d, 0, none⟩), .slice none 0 0] w fun e w' => ∃ F', e = .returned (.tuple #[]) ∧ DiskAt w' d MC F' ∧ Turn F F' w w') := fun F w h => by
              rw [eMC]
              exact dskCut_any d m F _ [] [] w h (by omega) (.inl ⟨rfl, rfl, none, 0, rfl⟩) (fun b hb => by cases hb) (by rw [hloM]; exact Nat.zero_le _)
            have CO : Hid (∀ F w, DiskAt w d MC F → Calls Try.prog 20 #[.pointer (some ⟨d, 0, none⟩)] w fun e w' => ∃ F', e = .returned (.tuple #[]) ∧ DiskAt w' d ME F' ∧ Turn F F' w w') := fun F w h => by
              refine (dskCome_any d MC F w h (by rw [eMC, DM.cut_len]; omega)).mono ?_
              rintro e w' ⟨h1, h2, h3⟩
              exact ⟨F, h1, by rw [eME]; exact h2, h3⟩
            have DO : Hid (∀ F w, DiskAt w d ME F → Calls Try.prog 42 #[.pointer (some ⟨d, 0, none⟩)] w fun e w' => e = .returned (.int .i64 ME.done) ∧ Only [] w w') := fun F w h => dskDone_any d ME F w h
            have OP : Hid (∀ F w, Blk w z (zcells d 2 14) 34 → DiskAt w d ME F → z ∉ F → Calls Try.prog 32 #[.pointer (some ⟨z, 0, none⟩)] w fun e w' => ∃ u, e = .returned (.tuple #[.pointer (some ⟨u, 0, none⟩), .int .i64 0]) ∧ w.heap.size ≤ u ∧ Blk w' u (tcells z tx g ((κ : Nat) : Int) false) 98 ∧ Only [] w w') := fun F w h1 h2 h3 => by
              refine (twinOpen_any z d 2 14 ME F w h1 h2 h3 (by decide) (by decide) (by rw [LE.lo]; exact Nat.zero_le _) LE.aw (by decide)).mono ?_
              intro e w' h
              rw [show openR ME 2 14 = _ from LE.opens] at h
              rcases h with ⟨h, _⟩ | ⟨_, h⟩
              · simp only at h; omega
              · exact h
            have TX : Hid (∀ u w, Blk w u (tcells z tx g ((κ : Nat) : Int) false) 98 → Calls Try.prog 35 #[.pointer (some ⟨u, 0, none⟩)] w fun e w' => e = .returned (.string tx) ∧ w = w') := fun u w h => twinText_any u z _ _ _ _ w h
            have TG : Hid (∀ u w, Blk w u (tcells z tx g ((κ : Nat) : Int) false) 98 → Calls Try.prog 36 #[.pointer (some ⟨u, 0, none⟩)] w fun e w' => e = .returned (.int .i64 g) ∧ w = w') := fun u w h => twinGen_any u z _ _ _ _ w h
            have NI : Hid (Life ME 2 7 tx g κ ∧ ME.len = 20 ∧ g ≤ 1 + 5 * ((k + 1 : Nat) : Int)) := ⟨LE, hlE, by omega⟩
            clear L LE HI hlen hloM eMC eME hlE
            by_cases hlt : j < l.length
            · obtain rfl : j = 4 := by omega
              have j1 : ((4 : Nat) : Int) < l.length := by omega
              go_wp2_with (first | ((with_reducible refine wpL_isLoad rfl ?_); refine wpL_load1C rfl rfl rfl (HL.out _ hst.only) (by kernel_rfl) ?_) | ((with_reducible refine wpL_peel rfl ?_ ?_); focus (go_simp; done)) | (go_at_call 19; (with_reducible refine (CU.out _ _ (hst.rs 0 rfl)).mono ?_); rintro e1 w1 ⟨F1, rfl, hd1, ht1⟩; replace hst := hst.act 0 rfl (diskR _ _ F1) rfl ht1 hd1; simp only [List.set] at hst; clear hd1 ht1) | (go_at_call 20; (with_reducible refine (CO.out _ _ (hst.rs 0 rfl)).mono ?_); rintro e1 w1 ⟨F1, rfl, hd1, ht1⟩; replace hst := hst.act 0 rfl (diskR _ _ F1) rfl ht1 hd1; simp only [List.set] at hst; clear hd1 ht1) | (go_at_call 42; (with_reducible refine (DO.out _ _ (hst.rs 0 rfl)).mono ?_); rintro e1 w1 ⟨rfl, ho1⟩; replace hst := hst.keep ho1; clear ho1) | (go_at_call 32; (with_reducible refine (OP.out _ _ (hst.blk 1 rfl) (hst.rs 0 rfl) (hst.away 1 0 rfl rfl)).mono ?_); rintro e1 w1 ⟨u, rfl, hg1, hu1, ho1⟩; replace hst := hst.new ho1 hu1 hg1; clear hg1 hu1 ho1) | (go_at_call 35; (with_reducible refine (TX.out _ _ (hst.blk 0 rfl)).mono ?_); rintro e1 w1 ⟨rfl, rfl⟩) | (go_at_call 36; (with_reducible refine (TG.out _ _ (hst.blk 0 rfl)).mono ?_); rintro e1 w1 ⟨rfl, rfl⟩) | ((with_reducible refine wpL_isBin rfl ?_); refine wpL_eql_same rfl 9 _ _ _ rfl _ rfl rfl ?_))
              go_roundw
              case rel => exact ⟨k + 1, _, ME, tx, g, κ, _, HK.out, rfl, rfl, rfl, by go_num, NI, hst.weak (List.Sublist.cons_cons _ (List.Sublist.cons _ (List.Sublist.refl _)))⟩
              case measure => simp [intOf]; omega
            · have j1 : ¬ (j : Int) < l.length := by omega
              go_wp2_with (first | ((with_reducible refine wpL_isLoad rfl ?_); refine wpL_load1C rfl rfl rfl (HL.out _ hst.only) (by kernel_rfl) ?_) | ((with_reducible refine wpL_peel rfl ?_ ?_); focus (go_simp; done)) | (go_at_call 19; (with_reducible refine (CU.out _ _ (hst.rs 0 rfl)).mono ?_); rintro e1 w1 ⟨F1, rfl, hd1, ht1⟩; replace hst := hst.act 0 rfl (diskR _ _ F1) rfl ht1 hd1; simp only [List.set] at hst; clear hd1 ht1) | (go_at_call 20; (with_reducible refine (CO.out _ _ (hst.rs 0 rfl)).mono ?_); rintro e1 w1 ⟨F1, rfl, hd1, ht1⟩; replace hst := hst.act 0 rfl (diskR _ _ F1) rfl ht1 hd1; simp only [List.set] at hst; clear hd1 ht1) | (go_at_call 42; (with_reducible refine (DO.out _ _ (hst.rs 0 rfl)).mono ?_); rintro e1 w1 ⟨rfl, ho1⟩; replace hst := hst.keep ho1; clear ho1) | (go_at_call 32; (with_reducible refine (OP.out _ _ (hst.blk 1 rfl) (hst.rs 0 rfl) (hst.away 1 0 rfl rfl)).mono ?_); rintro e1 w1 ⟨u, rfl, hg1, hu1, ho1⟩; replace hst := hst.new ho1 hu1 hg1; clear hg1 hu1 ho1) | (go_at_call 35; (with_reducible refine (TX.out _ _ (hst.blk 0 rfl)).mono ?_); rintro e1 w1 ⟨rfl, rfl⟩) | (go_at_call 36; (with_reducible refine (TG.out _ _ (hst.blk 0 rfl)).mono ?_); rintro e1 w1 ⟨rfl, rfl⟩) | ((with_reducible refine wpL_isBin rfl ?_); refine wpL_eql_same rfl 9 _ _ _ rfl _ rfl rfl ?_))
              go_roundw
              case rel => exact ⟨k + 1, _, ME, tx, g, κ, _, HK.out, rfl, rfl, rfl, by go_num, NI, hst.weak (List.Sublist.cons_cons _ (List.Sublist.cons _ (List.Sublist.refl _)))⟩
              case measure => simp [intOf]; omega
      · have f1 : ¬ (k : Int) < fs.length := by omega
        have H1 : Hid (Life m0 2 7 tx0 g0 κ0 ∧ m0.len = 20 ∧ g0 ≤ 1 + 5 * (k : Int) + ((0 : Nat) : Int)) := ⟨H0.out.1, H0.out.2.1, by have := H0.out.2.2; omega⟩
        clear H0 eV
        go_wp2_with (first | ((with_reducible refine wpL_peel rfl ?_ ?_); focus (go_simp; done)))
        go_loopw [12, 13, 15, 16] (fun su ge nx i wr => ∃ (j : Nat) (m : DM) (tx : ByteArray) (g : Int) (κ : Nat) (F2 : List Nat), j ≤ l.length ∧ j ≤ 4 ∧ su = .string tx ∧ ge = .int .i64 g ∧ nx = .string tx ∧ i = .int .i64 (j : Int) ∧ Hid (Life m 2 7 tx g κ ∧ m.len = 20 ∧ g ≤ 1 + 5 * (k : Int) + (j : Int)) ∧
            Sd w [] wr [⟨t, tcells z tx g ((κ : Nat) : Int) false, 98, true⟩, ⟨z, zcells d 2 14, 34, true⟩] [diskR d m F2, boolsF V keep kb])
          (fun _ _ _ i _ => (4 - intOf i).toNat)
        case atStart => exact ⟨0, m0, tx0, g0, κ0, _, by omega, by omega, rfl, rfl, rfl, rfl, H1, hst⟩
        case round =>
          obtain ⟨j, m, tx, g, κ, F2, hj, hj4, rfl, rfl, rfl, rfl, HI, hst⟩ := hrel
          obtain ⟨L, hlen, hg5⟩ := HI.out
          have hgr := (canLay_iff.1 L.can).1
          have hg1 : 1 ≤ g := by unfold isNum at hgr; simp at hgr; omega
          have hg2 : g ≤ 100 := by omega
          clear hgr
          by_cases hcont : j < l.length ∧ j < 4
          · obtain ⟨hlt, hlt4⟩ := hcont
            have j1 : (j : Int) < l.length := by omega
            have j4 : (j : Int) < 4 := by omega
            have HJ : Hid (j + 1 ≤ l.length ∧ j + 1 ≤ 4) := ⟨hlt, hlt4⟩
            obtain ⟨b2, o2, rfl, hcell⟩ : ∃ b2 o2, al = some ⟨b2, o2, none⟩ ∧ ∀ wr, Only [] w wr → wr.cell? ⟨b2, o2 + j, none⟩ = some (.string (l.getD j ⟨#[]⟩)) := by
              rcases HLS.out with ⟨_, e⟩ | ⟨b2, o2, c, hv, h1, h2, h3⟩
              · rw [e] at hlt; simp at hlt
              · injection hv with e1 e2 e3
                exact ⟨b2, o2, e1, fun wr ho => cellL (h1 j _ (by rw [List.getD_eq_getElem?_getD, List.getElem?_eq_getElem hlt]; rfl)) ho⟩
            have HC := Lib.hid hcell
            clear hcell
            obtain ⟨s, es⟩ : ∃ s, s = l.getD j ⟨#[]⟩ := ⟨_, rfl⟩
            rw [← es] at HC
            clear es
            by_cases hsz : 60 < s.size
            · have hsz' : (60 : Int) < s.size := by omega
              clear L hlen HI
              go_wp2_with (first | ((with_reducible refine wpL_peel rfl ?_ ?_); focus (go_simp; done)) | ((with_reducible refine wpL_isLoad rfl ?_); first | (refine wpL_load1C rfl rfl rfl (HC.out _ hst.only) (by kernel_rfl) ?_) | (refine wpL_load1C rfl rfl rfl (HL.out _ hst.only) (by kernel_rfl) ?_)))
              go_ret
              exact ⟨rfl, hst.only⟩
            · have hsz' : ¬ (60 : Int) < s.size := by omega
              have hft : fits (14 / 2) s = true := fits_iff.2 ⟨by omega, by unfold secsOf; omega⟩
              have hcl : canLay (g + 1) s = true := canLay_iff.2 ⟨by unfold isNum; simp; omega, by omega⟩
              have hK7 : secsOf s.size ≤ 7 := (fits_iff.1 hft).2
              have hκ := L.side
              rcases L.save s hcl hK7 with ⟨s0, L'⟩ | ⟨s4, s5, s6, s7, s8⟩
              · obtain ⟨m', em⟩ : ∃ m', m' = (layR m (2 + (1 - κ) * 7) 7 g s).1 := ⟨_, rfl⟩
                rw [← em] at L'
                have hlen' : m'.len = 20 := by
                  rcases layR_on m (2 + (1 - κ) * 7) 7 g s L.aw L.ok.least L.ok.most (by have := L.len; rcases (by omega : κ = 0 ∨ κ = 1) with e | e <;> subst e <;> omega) hcl hK7 L.lo with ⟨_, _, S, _, _, _, h4, h5, _⟩ | ⟨_, h2, _⟩
                  · rw [em, h4]; exact h5.trans hlen
                  · rw [h2] at s0; cases s0
                have SV : Hid (∀ F w, (pairR t (tcells z tx g ((κ : Nat) : Int) false) 98 (diskR d m F)).p w → Blk w z (zcells d 2 14) 34 → t ≠ z → z ∉ F → Calls Try.prog 38 #[.pointer (some ⟨t, 0, none⟩), .string s] w fun e w' => ∃ F', e = .returned (.int .i64 0) ∧ (pairR t (tcells z s (g + 1) ((1 - κ : Nat) : Int) false) 98 (diskR d m' F')).p w' ∧ Turn (t :: F) (t :: F') w w') := fun F w h1 h2 h3 h4 => by
                  rw [em]
                  exact twinSave_yes t z d 2 14 m F tx g s w κ h1 h2 h3 h4 (by decide) (by decide) (by decide) (by omega) (by rw [L.lo]; exact Nat.zero_le _) hκ (by omega) (by omega) hft s0
                have NI : Hid (Life m' 2 7 s (g + 1) (1 - κ) ∧ m'.len = 20 ∧ g + 1 ≤ 1 + 5 * (k : Int) + ((j + 1 : Nat) : Int)) := ⟨L', hlen', by omega⟩
                clear L L' HI em s0 hft hcl hK7 hlen hlen' hκ
                go_wp2_with (first | ((with_reducible refine wpL_peel rfl ?_ ?_); focus (go_simp; done)) | ((with_reducible refine wpL_isLoad rfl ?_); first | (refine wpL_load1C rfl rfl rfl (HC.out _ hst.only) (by kernel_rfl) ?_) | (refine wpL_load1C rfl rfl rfl (HL.out _ hst.only) (by kernel_rfl) ?_)) | (go_at_call 38; (with_reducible refine (SV.out _ _ (pair_mk (hst.blk 0 rfl) (hst.rs 0 rfl) (hst.away 0 0 rfl rfl)) (hst.blk 1 rfl) (hst.neq 0 1 rfl rfl (by decide)) (hst.away 1 0 rfl rfl)).mono ?_); rintro e1 w1 ⟨F3, rfl, hp1, hT1⟩; replace hst := ((hst.join rfl).act 0 rfl (pairR _ _ _ (diskR _ _ F3)) rfl hT1 hp1); simp only [List.set] at hst; replace hst := hst.split; clear hp1 hT1))
                go_roundw
                case rel => exact ⟨j + 1, m', s, g + 1, 1 - κ, _, HJ.out.1, HJ.out.2, rfl, rfl, rfl, by go_num, NI, hst⟩
                case measure => simp [intOf]; omega
              · obtain ⟨m', em⟩ : ∃ m', m' = (layR m (2 + (1 - κ) * 7) 7 g s).1 := ⟨_, rfl⟩
                rw [← em] at s5 s6 s7 s8
                have SV : Hid (∀ F w, (pairR t (tcells z tx g ((κ : Nat) : Int) false) 98 (diskR d m F)).p w → Blk w z (zcells d 2 14) 34 → t ≠ z → z ∉ F → Calls Try.prog 38 #[.pointer (some ⟨t, 0, none⟩), .string s] w fun e w' => ∃ F', e = .returned (.int .i64 4) ∧ (pairR t (tcells z tx g ((κ : Nat) : Int) true) 98 (diskR d m' F')).p w' ∧ Turn (t :: F) (t :: F') w w') := fun F w h1 h2 h3 h4 => by
                  rw [em]
                  exact twinSave_broke t z d 2 14 m F tx g s w κ h1 h2 h3 h4 (by decide) (by decide) (by decide) (by omega) (by rw [L.lo]; exact Nat.zero_le _) hκ (by omega) (by omega) hft 4 s4 (by decide)
                have SN : Hid (∀ w, Blk w t (tcells z tx g ((κ : Nat) : Int) true) 98 → Blk w z (zcells d 2 14) 34 → t ≠ z → Calls Try.prog 38 #[.pointer (some ⟨t, 0, none⟩), .string s] w fun e w' => e = .returned (.int .i64 4) ∧ Only [] w w') := fun w h1 h2 h3 => twinSave_no t z d 2 14 tx g ((κ : Nat) : Int) s w true h1 h2 h3 (by decide) 4 (.inr (.inr ⟨hft, by omega, rfl, rfl⟩))
                have hlM : m'.len = 20 := by omega
                have hloM : m'.loose = [] := s6
                obtain ⟨MC, eMC⟩ : ∃ MC, MC = m'.cut [] := ⟨_, rfl⟩
                obtain ⟨ME, eME⟩ : ∃ ME, ME = MC.come := ⟨_, rfl⟩
                have eCut : MC = m' := by rw [eMC]; unfold DM.cut; rw [s5]; rfl
                have hME : ME.away = false ∧ ME.loose = [] ∧ ME.safe = m'.safe ∧ ME.len = 20 := by
                  rw [eME, eCut]
                  unfold DM.come
                  rw [s5]
                  exact ⟨rfl, s6, rfl, hlM⟩
                have hok : ME.Ok := by rw [eME, eMC, em]; exact ((layR_ok L.ok _ _ _ _).cut []).come
                rcases s8 ME hok hME.1 hME.2.1 hME.2.2.1 with LE | LE
                · have CU : Hid (∀ F w, DiskAt w d m' F → Calls Try.prog 19 #[.pointer (some ⟨d, 0, none⟩), .slice none 0 0] w fun e w' => ∃ F', e = .returned (.tuple #[]) ∧ DiskAt w' d MC F' ∧ Turn F F' w w') := fun F w h => by
                    rw [eMC]
                    exact dskCut_any d m' F _ [] [] w h (by omega) (.inl ⟨rfl, rfl, none, 0, rfl⟩) (fun b hb => by cases hb) (by rw [hloM]; exact Nat.zero_le _)
                  have CO : Hid (∀ F w, DiskAt w d MC F → Calls Try.prog 20 #[.pointer (some ⟨d, 0, none⟩)] w fun e w' => ∃ F', e = .returned (.tuple #[]) ∧ DiskAt w' d ME F' ∧ Turn F F' w w') := fun F w h => by
                    refine (dskCome_any d MC F w h (by rw [eMC, DM.cut_len]; omega)).mono ?_
                    rintro e w' ⟨h1, h2, h3⟩
                    exact ⟨F, h1, by rw [eME]; exact h2, h3⟩
                  have DO : Hid (∀ F w, DiskAt w d ME F → Calls Try.prog 42 #[.pointer (some ⟨d, 0, none⟩)] w fun e w' => e = .returned (.int .i64 ME.done) ∧ Only [] w w') := fun F w h => dskDone_any d ME F w h
                  have OP : Hid (∀ F w, Blk w z (zcells d 2 14) 34 → DiskAt w d ME F → z ∉ F → Calls Try.prog 32 #[.pointer (some ⟨z, 0, none⟩)] w fun e w' => ∃ u, e = .returned (.tuple #[.pointer (some ⟨u, 0, none⟩), .int .i64 0]) ∧ w.heap.size ≤ u ∧ Blk w' u (tcells z tx g ((κ : Nat) : Int) false) 98 ∧ Only [] w w') := fun F w h1 h2 h3 => by
                    refine (twinOpen_any z d 2 14 ME F w h1 h2 h3 (by decide) (by decide) (by rw [LE.lo]; exact Nat.zero_le _) LE.aw (by decide)).mono ?_
                    intro e w' h
                    rw [show openR ME 2 14 = _ from LE.opens] at h
                    rcases h with ⟨h, _⟩ | ⟨_, h⟩
                    · simp only at h; omega
                    · exact h
                  have TX : Hid (∀ u w, Blk w u (tcells z tx g ((κ : Nat) : Int) false) 98 → Calls Try.prog 35 #[.pointer (some ⟨u, 0, none⟩)] w fun e w' => e = .returned (.string tx) ∧ w = w') := fun u w h => twinText_any u z _ _ _ _ w h
                  have TG : Hid (∀ u w, Blk w u (tcells z tx g ((κ : Nat) : Int) false) 98 → Calls Try.prog 36 #[.pointer (some ⟨u, 0, none⟩)] w fun e w' => e = .returned (.int .i64 g) ∧ w = w') := fun u w h => twinGen_any u z _ _ _ _ w h
                  have NI : Hid (Life ME 2 7 tx g (κ) ∧ ME.len = 20 ∧ g ≤ 1 + 5 * ((k + 1 : Nat) : Int)) := ⟨LE, hME.2.2.2, by omega⟩
                  clear L LE HI em s4 s5 s6 s7 s8 hft hcl hK7 hlen hκ hlM hloM eMC eME eCut hME hok
                  go_wp2_with (first | ((with_reducible refine wpL_isLoad rfl ?_); first | (refine wpL_load1C rfl rfl rfl (HC.out _ hst.only) (by kernel_rfl) ?_) | (refine wpL_load1C rfl rfl rfl (HL.out _ hst.only) (by kernel_rfl) ?_)) | ((with_reducible refine wpL_peel rfl ?_ ?_); focus (go_simp; done)) | (go_at_call 19; (with_reducible refine (CU.out _ _ (hst.rs 0 rfl)).mono ?_); rintro e1 w1 ⟨F1, rfl, hd1, ht1⟩; replace hst := hst.act 0 rfl (diskR _ _ F1) rfl ht1 hd1; simp only [List.set] at hst; clear hd1 ht1) | (go_at_call 20; (with_reducible refine (CO.out _ _ (hst.rs 0 rfl)).mono ?_); rintro e1 w1 ⟨F1, rfl, hd1, ht1⟩; replace hst := hst.act 0 rfl (diskR _ _ F1) rfl ht1 hd1; simp only [List.set] at hst; clear hd1 ht1) | (go_at_call 42; (with_reducible refine (DO.out _ _ (hst.rs 0 rfl)).mono ?_); rintro e1 w1 ⟨rfl, ho1⟩; replace hst := hst.keep ho1; clear ho1) | (go_at_call 32; (with_reducible refine (OP.out _ _ (hst.blk 1 rfl) (hst.rs 0 rfl) (hst.away 1 0 rfl rfl)).mono ?_); rintro e1 w1 ⟨u, rfl, hg1, hu1, ho1⟩; replace hst := hst.new ho1 hu1 hg1; clear hg1 hu1 ho1) | (go_at_call 35; (with_reducible refine (TX.out _ _ (hst.blk 0 rfl)).mono ?_); rintro e1 w1 ⟨rfl, rfl⟩) | (go_at_call 36; (with_reducible refine (TG.out _ _ (hst.blk 0 rfl)).mono ?_); rintro e1 w1 ⟨rfl, rfl⟩) | (go_at_call 38; (with_reducible refine (SV.out _ _ (pair_mk (hst.blk 0 rfl) (hst.rs 0 rfl) (hst.away 0 0 rfl rfl)) (hst.blk 1 rfl) (hst.neq 0 1 rfl rfl (by decide)) (hst.away 1 0 rfl rfl)).mono ?_); rintro e1 w1 ⟨F3, rfl, hp1, hT1⟩; replace hst := ((hst.join rfl).act 0 rfl (pairR _ _ _ (diskR _ _ F3)) rfl hT1 hp1); simp only [List.set] at hst; replace hst := hst.split; clear hp1 hT1) | (go_at_call 38; (with_reducible refine (SN.out _ (hst.blk 0 rfl) (hst.blk 1 rfl) (hst.neq 0 1 rfl rfl (by decide))).mono ?_); rintro e1 w1 ⟨rfl, ho1⟩; replace hst := hst.keep ho1; clear ho1) | ((with_reducible refine wpL_isBin rfl ?_); first | (refine wpL_eql_same rfl 9 _ _ _ rfl _ rfl rfl ?_) | (refine wpL_neqStrT rfl rfl s s rfl rfl true SS.out ?_)))
                  go_roundw
                  case rel => exact ⟨k + 1, _, ME, tx, g, κ, _, HK.out, rfl, rfl, rfl, by go_num, NI, hst.weak (List.Sublist.cons_cons _ (List.Sublist.cons _ (List.Sublist.refl _)))⟩
                  case measure => simp [intOf]; omega
                · have CU : Hid (∀ F w, DiskAt w d m' F → Calls Try.prog 19 #[.pointer (some ⟨d, 0, none⟩), .slice none 0 0] w fun e w' => ∃ F', e = .returned (.tuple #[]) ∧ DiskAt w' d MC F' ∧ Turn F F' w w') := fun F w h => by
                    rw [eMC]
                    exact dskCut_any d m' F _ [] [] w h (by omega) (.inl ⟨rfl, rfl, none, 0, rfl⟩) (fun b hb => by cases hb) (by rw [hloM]; exact Nat.zero_le _)
                  have CO : Hid (∀ F w, DiskAt w d MC F → Calls Try.prog 20 #[.pointer (some ⟨d, 0, none⟩)] w fun e w' => ∃ F', e = .returned (.tuple #[]) ∧ DiskAt w' d ME F' ∧ Turn F F' w w') := fun F w h => by
                    refine (dskCome_any d MC F w h (by rw [eMC, DM.cut_len]; omega)).mono ?_
                    rintro e w' ⟨h1, h2, h3⟩
                    exact ⟨F, h1, by rw [eME]; exact h2, h3⟩
                  have DO : Hid (∀ F w, DiskAt w d ME F → Calls Try.prog 42 #[.pointer (some ⟨d, 0, none⟩)] w fun e w' => e = .returned (.int .i64 ME.done) ∧ Only [] w w') := fun F w h => dskDone_any d ME F w h
                  have OP : Hid (∀ F w, Blk w z (zcells d 2 14) 34 → DiskAt w d ME F → z ∉ F → Calls Try.prog 32 #[.pointer (some ⟨z, 0, none⟩)] w fun e w' => ∃ u, e = .returned (.tuple #[.pointer (some ⟨u, 0, none⟩), .int .i64 0]) ∧ w.heap.size ≤ u ∧ Blk w' u (tcells z s (g + 1) (((1 - κ) : Nat) : Int) false) 98 ∧ Only [] w w') := fun F w h1 h2 h3 => by
                    refine (twinOpen_any z d 2 14 ME F w h1 h2 h3 (by decide) (by decide) (by rw [LE.lo]; exact Nat.zero_le _) LE.aw (by decide)).mono ?_
                    intro e w' h
                    rw [show openR ME 2 14 = _ from LE.opens] at h
                    rcases h with ⟨h, _⟩ | ⟨_, h⟩
                    · simp only at h; omega
                    · exact h
                  have TX : Hid (∀ u w, Blk w u (tcells z s (g + 1) (((1 - κ) : Nat) : Int) false) 98 → Calls Try.prog 35 #[.pointer (some ⟨u, 0, none⟩)] w fun e w' => e = .returned (.string s) ∧ w = w') := fun u w h => twinText_any u z _ _ _ _ w h
                  have TG : Hid (∀ u w, Blk w u (tcells z s (g + 1) (((1 - κ) : Nat) : Int) false) 98 → Calls Try.prog 36 #[.pointer (some ⟨u, 0, none⟩)] w fun e w' => e = .returned (.int .i64 (g + 1)) ∧ w = w') := fun u w h => twinGen_any u z _ _ _ _ w h
                  have NI : Hid (Life ME 2 7 s (g + 1) ((1 - κ)) ∧ ME.len = 20 ∧ (g + 1) ≤ 1 + 5 * ((k + 1 : Nat) : Int)) := ⟨LE, hME.2.2.2, by omega⟩
                  clear L LE HI em s4 s5 s6 s7 s8 hft hcl hK7 hlen hκ hlM hloM eMC eME eCut hME hok
                  go_wp2_with (first | ((with_reducible refine wpL_isLoad rfl ?_); first | (refine wpL_load1C rfl rfl rfl (HC.out _ hst.only) (by kernel_rfl) ?_) | (refine wpL_load1C rfl rfl rfl (HL.out _ hst.only) (by kernel_rfl) ?_)) | ((with_reducible refine wpL_peel rfl ?_ ?_); focus (go_simp; done)) | (go_at_call 19; (with_reducible refine (CU.out _ _ (hst.rs 0 rfl)).mono ?_); rintro e1 w1 ⟨F1, rfl, hd1, ht1⟩; replace hst := hst.act 0 rfl (diskR _ _ F1) rfl ht1 hd1; simp only [List.set] at hst; clear hd1 ht1) | (go_at_call 20; (with_reducible refine (CO.out _ _ (hst.rs 0 rfl)).mono ?_); rintro e1 w1 ⟨F1, rfl, hd1, ht1⟩; replace hst := hst.act 0 rfl (diskR _ _ F1) rfl ht1 hd1; simp only [List.set] at hst; clear hd1 ht1) | (go_at_call 42; (with_reducible refine (DO.out _ _ (hst.rs 0 rfl)).mono ?_); rintro e1 w1 ⟨rfl, ho1⟩; replace hst := hst.keep ho1; clear ho1) | (go_at_call 32; (with_reducible refine (OP.out _ _ (hst.blk 1 rfl) (hst.rs 0 rfl) (hst.away 1 0 rfl rfl)).mono ?_); rintro e1 w1 ⟨u, rfl, hg1, hu1, ho1⟩; replace hst := hst.new ho1 hu1 hg1; clear hg1 hu1 ho1) | (go_at_call 35; (with_reducible refine (TX.out _ _ (hst.blk 0 rfl)).mono ?_); rintro e1 w1 ⟨rfl, rfl⟩) | (go_at_call 36; (with_reducible refine (TG.out _ _ (hst.blk 0 rfl)).mono ?_); rintro e1 w1 ⟨rfl, rfl⟩) | (go_at_call 38; (with_reducible refine (SV.out _ _ (pair_mk (hst.blk 0 rfl) (hst.rs 0 rfl) (hst.away 0 0 rfl rfl)) (hst.blk 1 rfl) (hst.neq 0 1 rfl rfl (by decide)) (hst.away 1 0 rfl rfl)).mono ?_); rintro e1 w1 ⟨F3, rfl, hp1, hT1⟩; replace hst := ((hst.join rfl).act 0 rfl (pairR _ _ _ (diskR _ _ F3)) rfl hT1 hp1); simp only [List.set] at hst; replace hst := hst.split; clear hp1 hT1) | (go_at_call 38; (with_reducible refine (SN.out _ (hst.blk 0 rfl) (hst.blk 1 rfl) (hst.neq 0 1 rfl rfl (by decide))).mono ?_); rintro e1 w1 ⟨rfl, ho1⟩; replace hst := hst.keep ho1; clear ho1) | ((with_reducible refine wpL_isBin rfl ?_); first | (refine wpL_eql_same rfl 9 _ _ _ rfl _ rfl rfl ?_) | (refine wpL_neqStrT rfl rfl s s rfl rfl true SS.out ?_)))
                  go_roundw
                  case rel => exact ⟨k + 1, _, ME, s, (g + 1), (1 - κ), _, HK.out, rfl, rfl, rfl, by go_num, NI, hst.weak (List.Sublist.cons_cons _ (List.Sublist.cons _ (List.Sublist.refl _)))⟩
                  case measure => simp [intOf]; omega
          · obtain ⟨MC, eMC⟩ : ∃ MC, MC = m.cut [] := ⟨_, rfl⟩
            obtain ⟨ME, eME⟩ : ∃ ME, ME = MC.come := ⟨_, rfl⟩
            have LE : Life ME 2 7 tx g κ := by rw [eME, eMC]; exact L.ended
            have hloM : m.loose = [] := L.lo
            have hlE : ME.len = 20 := by
              have : ME.safe = m.safe := by rw [eME, eMC]; unfold DM.cut; rw [L.aw, L.lo]; simp only [Bool.false_eq_true, if_false]; unfold DM.come; simp [keptL, laid]
              unfold DM.len at hlen ⊢
              rw [this]; exact hlen
            have CU : Hid (∀ F w, DiskAt w d m F → Calls Try.prog 19 #[.pointer (some ⟨d, 0, none⟩), .slice none 0 0] w fun e w' => ∃ F', e = .returned (.tuple #[]) ∧ DiskAt w' d MC F' ∧ Turn F F' w w') := fun F w h => by
              rw [eMC]
              exact dskCut_any d m F _ [] [] w h (by omega) (.inl ⟨rfl, rfl, none, 0, rfl⟩) (fun b hb => by cases hb) (by rw [hloM]; exact Nat.zero_le _)
            have CO : Hid (∀ F w, DiskAt w d MC F → Calls Try.prog 20 #[.pointer (some ⟨d, 0, none⟩)] w fun e w' => ∃ F', e = .returned (.tuple #[]) ∧ DiskAt w' d ME F' ∧ Turn F F' w w') := fun F w h => by
              refine (dskCome_any d MC F w h (by rw [eMC, DM.cut_len]; omega)).mono ?_
              rintro e w' ⟨h1, h2, h3⟩
              exact ⟨F, h1, by rw [eME]; exact h2, h3⟩
            have DO : Hid (∀ F w, DiskAt w d ME F → Calls Try.prog 42 #[.pointer (some ⟨d, 0, none⟩)] w fun e w' => e = .returned (.int .i64 ME.done) ∧ Only [] w w') := fun F w h => dskDone_any d ME F w h
            have OP : Hid (∀ F w, Blk w z (zcells d 2 14) 34 → DiskAt w d ME F → z ∉ F → Calls Try.prog 32 #[.pointer (some ⟨z, 0, none⟩)] w fun e w' => ∃ u, e = .returned (.tuple #[.pointer (some ⟨u, 0, none⟩), .int .i64 0]) ∧ w.heap.size ≤ u ∧ Blk w' u (tcells z tx g ((κ : Nat) : Int) false) 98 ∧ Only [] w w') := fun F w h1 h2 h3 => by
              refine (twinOpen_any z d 2 14 ME F w h1 h2 h3 (by decide) (by decide) (by rw [LE.lo]; exact Nat.zero_le _) LE.aw (by decide)).mono ?_
              intro e w' h
              rw [show openR ME 2 14 = _ from LE.opens] at h
              rcases h with ⟨h, _⟩ | ⟨_, h⟩
              · simp only at h; omega
              · exact h
            have TX : Hid (∀ u w, Blk w u (tcells z tx g ((κ : Nat) : Int) false) 98 → Calls Try.prog 35 #[.pointer (some ⟨u, 0, none⟩)] w fun e w' => e = .returned (.string tx) ∧ w = w') := fun u w h => twinText_any u z _ _ _ _ w h
            have TG : Hid (∀ u w, Blk w u (tcells z tx g ((κ : Nat) : Int) false) 98 → Calls Try.prog 36 #[.pointer (some ⟨u, 0, none⟩)] w fun e w' => e = .returned (.int .i64 g) ∧ w = w') := fun u w h => twinGen_any u z _ _ _ _ w h
            have NI : Hid (Life ME 2 7 tx g κ ∧ ME.len = 20 ∧ g ≤ 1 + 5 * ((k + 1 : Nat) : Int)) := ⟨LE, hlE, by omega⟩
            clear L LE HI hlen hloM eMC eME hlE
            by_cases hlt : j < l.length
            · obtain rfl : j = 4 := by omega
              have j1 : ((4 : Nat) : Int) < l.length := by omega
              go_wp2_with (first | ((with_reducible refine wpL_isLoad rfl ?_); refine wpL_load1C rfl rfl rfl (HL.out _ hst.only) (by kernel_rfl) ?_) | ((with_reducible refine wpL_peel rfl ?_ ?_); focus (go_simp; done)) | (go_at_call 19; (with_reducible refine (CU.out _ _ (hst.rs 0 rfl)).mono ?_); rintro e1 w1 ⟨F1, rfl, hd1, ht1⟩; replace hst := hst.act 0 rfl (diskR _ _ F1) rfl ht1 hd1; simp only [List.set] at hst; clear hd1 ht1) | (go_at_call 20; (with_reducible refine (CO.out _ _ (hst.rs 0 rfl)).mono ?_); rintro e1 w1 ⟨F1, rfl, hd1, ht1⟩; replace hst := hst.act 0 rfl (diskR _ _ F1) rfl ht1 hd1; simp only [List.set] at hst; clear hd1 ht1) | (go_at_call 42; (with_reducible refine (DO.out _ _ (hst.rs 0 rfl)).mono ?_); rintro e1 w1 ⟨rfl, ho1⟩; replace hst := hst.keep ho1; clear ho1) | (go_at_call 32; (with_reducible refine (OP.out _ _ (hst.blk 1 rfl) (hst.rs 0 rfl) (hst.away 1 0 rfl rfl)).mono ?_); rintro e1 w1 ⟨u, rfl, hg1, hu1, ho1⟩; replace hst := hst.new ho1 hu1 hg1; clear hg1 hu1 ho1) | (go_at_call 35; (with_reducible refine (TX.out _ _ (hst.blk 0 rfl)).mono ?_); rintro e1 w1 ⟨rfl, rfl⟩) | (go_at_call 36; (with_reducible refine (TG.out _ _ (hst.blk 0 rfl)).mono ?_); rintro e1 w1 ⟨rfl, rfl⟩) | ((with_reducible refine wpL_isBin rfl ?_); refine wpL_eql_same rfl 9 _ _ _ rfl _ rfl rfl ?_))
              go_roundw
              case rel => exact ⟨k + 1, _, ME, tx, g, κ, _, HK.out, rfl, rfl, rfl, by go_num, NI, hst.weak (List.Sublist.cons_cons _ (List.Sublist.cons _ (List.Sublist.refl _)))⟩
              case measure => simp [intOf]; omega
            · have j1 : ¬ (j : Int) < l.length := by omega
              go_wp2_with (first | ((with_reducible refine wpL_isLoad rfl ?_); refine wpL_load1C rfl rfl rfl (HL.out _ hst.only) (by kernel_rfl) ?_) | ((with_reducible refine wpL_peel rfl ?_ ?_); focus (go_simp; done)) | (go_at_call 19; (with_reducible refine (CU.out _ _ (hst.rs 0 rfl)).mono ?_); rintro e1 w1 ⟨F1, rfl, hd1, ht1⟩; replace hst := hst.act 0 rfl (diskR _ _ F1) rfl ht1 hd1; simp only [List.set] at hst; clear hd1 ht1) | (go_at_call 20; (with_reducible refine (CO.out _ _ (hst.rs 0 rfl)).mono ?_); rintro e1 w1 ⟨F1, rfl, hd1, ht1⟩; replace hst := hst.act 0 rfl (diskR _ _ F1) rfl ht1 hd1; simp only [List.set] at hst; clear hd1 ht1) | (go_at_call 42; (with_reducible refine (DO.out _ _ (hst.rs 0 rfl)).mono ?_); rintro e1 w1 ⟨rfl, ho1⟩; replace hst := hst.keep ho1; clear ho1) | (go_at_call 32; (with_reducible refine (OP.out _ _ (hst.blk 1 rfl) (hst.rs 0 rfl) (hst.away 1 0 rfl rfl)).mono ?_); rintro e1 w1 ⟨u, rfl, hg1, hu1, ho1⟩; replace hst := hst.new ho1 hu1 hg1; clear hg1 hu1 ho1) | (go_at_call 35; (with_reducible refine (TX.out _ _ (hst.blk 0 rfl)).mono ?_); rintro e1 w1 ⟨rfl, rfl⟩) | (go_at_call 36; (with_reducible refine (TG.out _ _ (hst.blk 0 rfl)).mono ?_); rintro e1 w1 ⟨rfl, rfl⟩) | ((with_reducible refine wpL_isBin rfl ?_); refine wpL_eql_same rfl 9 _ _ _ rfl _ rfl rfl ?_))
              go_roundw
              case rel => exact ⟨k + 1, _, ME, tx, g, κ, _, HK.out, rfl, rfl, rfl, by go_num, NI, hst.weak (List.Sublist.cons_cons _ (List.Sublist.cons _ (List.Sublist.refl _)))⟩
              case measure => simp [intOf]; omega
    · obtain rfl : k = xss.length := by omega
      clear H0 eV
      go_wp2_with (first | ((with_reducible refine wpL_peel rfl ?_ ?_); focus (go_simp; done)))
      go_ret
      exact ⟨rfl, hst.only⟩
end Go.Proofs.Ytmogkiacakkmbaa
