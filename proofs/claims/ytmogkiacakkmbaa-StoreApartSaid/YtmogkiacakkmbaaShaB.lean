/- Walks: a block more of the sum. -/
import Derived.Test.YtmogkiacakkmbaaShaA
namespace Go.Proofs.Ytmogkiacakkmbaa
open Go.RowKit

theorem ch_tells (e f g : Nat) (he : e < 4294967296) (hf : f < 4294967296) (hg : g < 4294967296) :
    Go.bits .xor .u32 (Go.bits .and .u32 (e : Int) (f : Int)) (Go.bits .and .u32 (Go.bits .xor .u32 (if IntKind.u32.signed = true then -1 else IntKind.u32.max) (e : Int)) (g : Int)) = ((Sha.ch e f g : Nat) : Int) := by
  have em : (if IntKind.u32.signed = true then -1 else IntKind.u32.max) = ((4294967295 : Nat) : Int) := rfl
  rw [em, Go.u32_and_nat _ _ he hf, Go.u32_xor_nat _ _ (by decide) he, Go.u32_and_nat _ _ (Sha.xor_lt (by decide) he) hg, Go.u32_xor_nat _ _ (Sha.and_lt hf) (Sha.and_lt hg)]
  rfl
theorem maj_tells (a b c : Nat) (ha : a < 4294967296) (hb : b < 4294967296) (hc : c < 4294967296) :
    Go.bits .xor .u32 (Go.bits .xor .u32 (Go.bits .and .u32 (a : Int) (b : Int)) (Go.bits .and .u32 (a : Int) (c : Int))) (Go.bits .and .u32 (b : Int) (c : Int)) = ((Sha.maj a b c : Nat) : Int) := by
  rw [Go.u32_and_nat _ _ ha hb, Go.u32_and_nat _ _ ha hc, Go.u32_and_nat _ _ hb hc, Go.u32_xor_nat _ _ (Sha.and_lt hb) (Sha.and_lt hc), Go.u32_xor_nat _ _ (Sha.xor_lt (Sha.and_lt hb) (Sha.and_lt hc)) (Sha.and_lt hc)]
  rfl
theorem vint {k : IntKind} {a b : Int} (h : a = b) : Value.int k a = .int k b := by rw [h]

set_option maxRecDepth 100000 in
set_option maxHeartbeats 1000000 in
theorem add_any (p : Nat) (ty : TypeId) (h : List Nat) (s : ByteArray) (w : World) (hs : s.size ≤ 64) (hs2 : 64 ≤ s.size) (hp : Blk w p (u32s h) ty) (hh : h.length = 8) (hb : ∀ j, h.getD j 0 < 4294967296) :
    Calls Try.prog 152 #[.pointer (some ⟨p, 0, none⟩), .string s] w fun e w' => e = .returned (.tuple #[]) ∧ Only [p] w w' ∧ Blk w' p (u32s (Sha.block h (bl s))) ty := by
  obtain ⟨W, hW⟩ : ∃ W, W = Sha.sched (bl s) 48 := ⟨_, rfl⟩
  obtain ⟨K, hK⟩ : ∃ K, K = Sha.K := ⟨_, rfl⟩
  have HS : Hid (∀ w, Calls Try.prog 168 #[.string s] w fun e w' => e = .returned (.agg (u32s W).toArray) ∧ Only [] w w') := fun w => by rw [hW]; exact sched_any s w hs hs2
  have HC : Hid (∀ w, Calls Try.prog 169 #[] w fun e w' => e = .returned (.agg (u32s K).toArray) ∧ Only [] w w') := fun w => by rw [hK]; exact constants_any w
  have lW : (u32s W).length = 64 := by rw [u32s_length, hW, Sha.sched_length]
  have lK : (u32s K).length = 64 := by rw [u32s_length, hK]; rfl
  have HH := Lib.hid hh
  have HB := Lib.hid hb
  have HW := Lib.hid hW
  have HK := Lib.hid hK
  have HLW := Lib.hid lW
  have HLK := Lib.hid lK
  clear hb hh hW hK lW lK
  have hpl := hp.lt
  obtain ⟨h0, h1, h2, h3, h4, h5, h6, h7, rfl⟩ := Sha.eight HH.out
  have SM : Hid (Sha.Small (Sha.stOf [h0, h1, h2, h3, h4, h5, h6, h7])) := ⟨HB.out 0, HB.out 1, HB.out 2, HB.out 3, HB.out 4, HB.out 5, HB.out 6, HB.out 7⟩
  go_enter Try.func152, Try.ntmps152
  go_wp2_with (first
    | (go_at_call 168; refine (HS.out _).mono ?_; rintro e w1 ⟨rfl, ho1⟩)
    | (go_at_call 169; refine (HC.out _).mono ?_; rintro e w2 ⟨rfl, ho2⟩)
    | (refine wpL_alloc rfl 4 rfl _ rfl (.agg zeros64.toArray) zeros64 (by kernel_rfl) rfl ?_; intro w3 ho3 hs3 hb3)
    | (refine wpL_alloc rfl 5 rfl _ rfl (.agg zeros64.toArray) zeros64 (by kernel_rfl) rfl ?_; intro w4 ho4 hs4 hb4)
    | (refine wpL_store rfl _ _ _ rfl w2.heap.size (u32s W).toArray rfl rfl _ _ (hb3.keep ho4) (by kernel_rfl : (Try.prog.info? 229).map (·.size) = some 64) (by simpa using HLW.out) rfl (u32s_one _) ?_; intro w5 ho5 hs5 hb5)
    | (refine wpL_store rfl _ _ _ rfl w3.heap.size (u32s K).toArray rfl rfl _ _ (hb4.only ho5 (by have := hb3.lt; simp; omega)) (by kernel_rfl : (Try.prog.info? 229).map (·.size) = some 64) (by simpa using HLK.out) rfl (u32s_one _) ?_; intro w6 ho6 hs6 hb6))
  have hall : Only [] w w6 := (((((ho1.trans ho2).trans ho3).trans ho4).step ho5 (by have := ho1.size; have := ho2.size; simp; omega)).step ho6 (by have := ho1.size; have := ho2.size; have := ho3.size; simp; omega))
  have hp6 := hp.keep hall
  have hW6 := hb5.only ho6 (by have := hb3.lt; simp; omega)
  have c0 := hp6.cell (i := 0) rfl
  have c1 := hp6.cell (i := 1) rfl
  have c2 := hp6.cell (i := 2) rfl
  have c3 := hp6.cell (i := 3) rfl
  have c4 := hp6.cell (i := 4) rfl
  have c5 := hp6.cell (i := 5) rfl
  have c6 := hp6.cell (i := 6) rfl
  have c7 := hp6.cell (i := 7) rfl
  have hplt : p < w2.heap.size := by have := ho1.size; have := ho2.size; omega
  have HB6 := Lib.hid hb6
  clear hb3 hb4 hb5 hb6 hs3 hs4 hs5 hs6 ho1 ho2 ho3 ho4 ho5 ho6 hp HS HC
  go_quiet (fail)
  go_wp2
  clear c0 c1 c2 c3 c4 c5 c6 c7
  go_loopw [6, 7, 8, 9, 10, 11, 12, 13, 56] (fun a b c d e f g h i wr => ∃ (k : Nat) (st : Sha.St), k ≤ 64 ∧ i = .int .i64 k ∧ Hid (st = Sha.rounds W (Sha.stOf [h0, h1, h2, h3, h4, h5, h6, h7]) k) ∧ Sha.Small st ∧
    a = .int .u32 (st.a : Int) ∧ b = .int .u32 (st.b : Int) ∧ c = .int .u32 (st.c : Int) ∧ d = .int .u32 (st.d : Int) ∧ e = .int .u32 (st.e : Int) ∧ f = .int .u32 (st.f : Int) ∧ g = .int .u32 (st.g : Int) ∧ h = .int .u32 (st.h : Int) ∧
    Only [] w wr ∧ Blk wr w2.heap.size (u32s W) 229 ∧ Blk wr w3.heap.size (u32s K) 229 ∧ Blk wr p (u32s [h0, h1, h2, h3, h4, h5, h6, h7]) ty) (fun _ _ _ _ _ _ _ _ i _ => 64 - (intOf i).toNat)
  case atStart => exact ⟨0, _, by omega, rfl, rfl, SM.out, rfl, rfl, rfl, rfl, rfl, rfl, rfl, rfl, hall.drewN _, hW6.drewN _, HB6.out.drewN _, hp6.drewN _⟩
  case round =>
    obtain ⟨k, ⟨a, b, c, d, e, f, g, h⟩, hk, rfl, hst, ⟨sa, sb, sc, sd, se, sf, sg, sh⟩, rfl, rfl, rfl, rfl, rfl, rfl, rfl, rfl, hor, hWr, hKr, hpr⟩ := hrel
    simp only at sa sb sc sd se sf sg sh
    simp only
    by_cases hlt : k < 64
    · have lW : W.length = 64 := by have := HLW.out; rwa [u32s_length] at this
      have lK : K.length = 64 := by have := HLK.out; rwa [u32s_length] at this
      have hcw := hWr.cell (u32s_get _ k (by omega))
      have hck := hKr.cell (u32s_get _ k (by omega))
      clear lW lK
      obtain ⟨wk, ewk⟩ : ∃ x : Nat, x = W.getD k 0 := ⟨_, rfl⟩
      obtain ⟨kk, ekk⟩ : ∃ x : Nat, x = K.getD k 0 := ⟨_, rfl⟩
      have bwk : wk < 4294967296 := by rw [ewk, HW.out]; exact Sha.sched_lt _ _ _
      have bkk : kk < 4294967296 := by rw [ekk, HK.out]; exact Sha.K_lt _
      rw [← ewk] at hcw
      rw [← ekk] at hck
      have EW := Lib.hid ewk
      have EK := Lib.hid ekk
      clear ewk ekk
      have g1 := big1_tells e
      have g0 := big0_tells a
      have l1 := Sha.big1_lt e
      have l0 := Sha.big0_lt a
      go_wp2_with (go_at_call 170; refine (rot_at _ _ _ (by assumption) (by omega) (by omega)).mono ?_; rintro e w' ⟨rfl, rfl⟩)
      go_quiet (fail)
      go_wp2_with (go_at_call 170; refine (rot_at _ _ _ (by assumption) (by omega) (by omega)).mono ?_; rintro e w' ⟨rfl, rfl⟩)
      go_roundw
      case rel =>
        have C := ch_tells e f g se sf sg
        have M := maj_tells a b c sa sb sc
        have lc := Sha.ch_lt e f g sf sg
        have lm := Sha.maj_lt a b c sb sc
        rw [C, M]
        refine ⟨k + 1, Sha.round ⟨a, b, c, d, e, f, g, h⟩ kk wk, by omega, by go_num, ?_, Sha.Small.round ⟨sa, sb, sc, sd, se, sf, sg, sh⟩ _ _, ?_, rfl, rfl, rfl, ?_, rfl, rfl, rfl, hor.drewN _, hWr.drewN _, hKr.drewN _, hpr.drewN _⟩
        · show _ = Sha.round (Sha.rounds W _ k) (Sha.K.getD k 0) (W.getD k 0)
          rw [← hst.out, ← HK.out, EW.out, EK.out]
        · refine vint ?_
          simp only [Sha.round, Sha.t1, Sha.t2]
          omega
        · refine vint ?_
          simp only [Sha.round, Sha.t1]
          omega
      case measure => simp [intOf]; omega
    · have EK : Hid (k = 64) := by show k = 64; omega
      obtain ⟨V, eV⟩ : ∃ V, V = [a, b, c, d, e, f, g, h] := ⟨_, rfl⟩
      obtain ⟨H, eH⟩ : ∃ H, H = [h0, h1, h2, h3, h4, h5, h6, h7] := ⟨_, rfl⟩
      have HV := Lib.hid eV
      have HH' := Lib.hid eH
      rw [← eH] at hpr
      have hV : #[Value.int .u32 (a : Int), .int .u32 b, .int .u32 c, .int .u32 d, .int .u32 e, .int .u32 f, .int .u32 g, .int .u32 h] = (u32s V).toArray := by rw [eV]; rfl
      have HVa := Lib.hid hV
      have HVl : Hid (V.length = 8) := by show V.length = 8; rw [eV]; rfl
      have HVb : Hid (∀ j, j < 8 → V.getD j 0 < 4294967296) := by
        intro j hj
        rw [eV]
        match j, hj with
        | 0, _ => exact sa
        | 1, _ => exact sb
        | 2, _ => exact sc
        | 3, _ => exact sd
        | 4, _ => exact se
        | 5, _ => exact sf
        | 6, _ => exact sg
        | 7, _ => exact sh
      clear eV eH hV hp6 hW6
      go_wp2_with (refine wpL_build rfl _ _ rfl (u32s V) (by rw [← HVa.out]; kernel_rfl) ?_)
      go_loopw [130] (fun i wj => ∃ (j : Nat), j ≤ 8 ∧ i = .int .i64 j ∧ Only [p] w wj ∧ Blk wj p (u32s (Sha.addTo H V j)) ty) (fun i _ => 8 - (intOf i).toNat)
      case atStart => exact ⟨0, by omega, rfl, hor.mono (by simp), hpr⟩
      case round =>
        obtain ⟨j, hj, rfl, hoj, hpj⟩ := hrel
        by_cases hltj : j < 8
        · have lH : H.length = 8 := by rw [HH'.out]; rfl
          have l1 := Sha.addTo_length H V j
          have hcj := hpj.cell (u32s_get _ j (by omega))
          rw [Sha.addTo_rest _ _ _ _ (Nat.le_refl _)] at hcj
          have hfj := hpj.free j
          clear l1 lH
          obtain ⟨x, ex⟩ : ∃ x, x = H.getD j 0 := ⟨_, rfl⟩
          obtain ⟨y, ey⟩ : ∃ y, y = V.getD j 0 := ⟨_, rfl⟩
          have bx : x < 4294967296 := by rw [ex, HH'.out]; exact HB.out j
          have bY : y < 4294967296 := by rw [ey]; exact HVb.out j hltj
          rw [← ex] at hcj
          have EX := Lib.hid ex
          have EY := Lib.hid ey
          clear ex ey
          go_wp2_with (refine wpL_index rfl _ _ _ rfl _ rfl rfl Try.underlying205 Try.underlying204 rfl (by kernel_rfl : (Try.prog.info? 204).map (·.size) = some 1) (by omega) (by omega) (v := .int .u32 (y : Int)) (by rw [EY.out]; simpa using u32s_get V j (by rw [HVl.out]; omega)) ?_)
          go_region
          go_wp2
          go_roundw
          case rel =>
            refine ⟨j + 1, by omega, by go_num, (hoj.drew).set (by simp) _, ?_⟩
            refine hpj.drew.set32 j _ ?_
            rw [← EX.out, ← EY.out]
            omega
          case measure => simp [intOf]; omega
        · have EJ : Hid (j = 8) := by show j = 8; omega
          go_wp2
          go_end0
          refine ⟨rfl, hoj, ?_⟩
          rw [EJ.out, Sha.block_eq H (bl s) (by rw [HH'.out]; rfl) (by rw [HV.out, HH'.out, ← HW.out, ← EK.out, ← hst.out]; rfl), HH'.out] at hpj
          exact hpj

end Go.Proofs.Ytmogkiacakkmbaa
