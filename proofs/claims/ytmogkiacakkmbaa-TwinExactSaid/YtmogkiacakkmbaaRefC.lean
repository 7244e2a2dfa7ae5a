/- Walks: the reference's sum. -/
import Derived.Test.YtmogkiacakkmbaaRefB
import Derived.Test.YtmogkiacakkmbaaShaC
import Derived.Test.YtmogkiacakkmbaaRow
namespace Go.Proofs.Ytmogkiacakkmbaa
open Go.RowKit

section
variable {P : Program} {w : World} {ops : Array Oper} {rest : List Oper} {o : Oper} {a : Act} {Q : Exit → Act → World → Prop}
/-- 'string(b)' of bytes that lie in a row. -/
theorem wpL_text (hgd : o.guard = none) (src dst e : TypeId) (x : Operand) (ho : o.op = .convert src dst x) (ad : Addr) (d : List UInt8) (n cap : Nat) (hx : a.eval x = .slice (some ad) n cap) (hn : d.length = n)
    (hs : P.underlying src = some (.slice e)) (he : P.underlying e = some (.int .u8)) (hd : P.underlying dst = some .string) (hc : ∀ j, j < d.length → w.cell? (ad.add j) = some (.int .u8 ((d.getD j 0).toNat : Int)))
    (h : wpList P ops Q rest (a.put o.dst (.string ⟨d.toArray⟩)) w) : wpList P ops Q (o :: rest) a w := by
  subst hn
  refine wpL_run hgd (v := .string ⟨d.toArray⟩) ?_ h
  have hr := run_convert_bytes_back w src dst e ad cap d hs he hd fun j hj => by rw [hc j hj, List.getD_eq_getElem?_getD, List.getElem?_eq_getElem hj]; rfl
  unfold execOp
  simp only [ho, hx, Sem.run_bind, hr, Result.andThen_ok, Sem.run_pure]
end

theorem cell_alloc1 (w : World) (v : Value) (ty : TypeId) : (w.alloc (.cells #[v] ty)).cell? ⟨w.heap.size, 0, none⟩ = some v := by simp
theorem len8_byte (n k : Nat) : 8 * (n : Int) / 2 ^ k % 256 = ((UInt8.ofNat (n * 8 / 2 ^ k % 256)).toNat : Int) := by
  have e : ((UInt8.ofNat (n * 8 / 2 ^ k % 256)).toNat) = n * 8 / 2 ^ k % 256 := by
    rw [UInt8.toNat_ofNat']
    exact Nat.mod_eq_of_lt (Nat.mod_lt _ (by decide))
  rw [e, show 8 * (n : Int) = ((n * 8 : Nat) : Int) by omega, Int.natCast_emod, Int.natCast_ediv, Int.natCast_pow]
  rfl

set_option maxRecDepth 100000 in
set_option maxHeartbeats 2000000 in
theorem refOf_any (s : ByteArray) (w : World) (hs : s.size ≤ 1000000) :
    Calls Try.prog 93 #[.string s] w fun e w' => e = .returned (.agg (Lib.byteCells (Sha.sum (bl s))).toArray) ∧ Only [] w w' := by
  rw [← sum_cells]
  have hbl := bl_length s
  obtain ⟨L, eL⟩ : ∃ L, L = Sha.padded (bl s) := ⟨_, rfl⟩
  have HL := Lib.hid eL
  have HBL := Lib.hid hbl
  have hw : IntKind.u64.wrap (8 * (s.size : Int)) = 8 * (s.size : Int) := by
    rw [show ∀ z : Int, IntKind.u64.wrap z = z % 18446744073709551616 from fun _ => rfl]
    omega
  clear eL hbl
  go_enter Try.func93, Try.ntmps93
  go_wp2_with (first
    | (refine wpL_alloc rfl 2 rfl _ rfl (.agg zeros32.toArray) zeros32 (by kernel_rfl) rfl ?_; intro w1 ho1 hs1 hb1)
    | (refine wpL_bytes_row rfl _ _ _ rfl s rfl Try.underlying9 Try.underlying56 Try.underlying5 ?_; intro g2 cap2 w2 ho2 hr2)
    | (refine wpL_append1 rfl _ _ _ rfl Try.underlying56 byteInfo w1.heap.size (.slice (some ⟨g2, 0, none⟩) s.size cap2) (bl s) rfl (hr2.only ((Only.refl [] w2).alloc _) (by simp)) ⟨w2.heap.size, 0, none⟩ 1 rfl 128 128 (by simp) rfl (by have := HBL.out; omega) (by have := ho2.size; simp; omega) ?_; intro g3 cap3 w3 hr3 ho3))
  have hB1 : w1.heap.size ≤ w2.heap.size := ho2.size
  have hall3 : Only [] w1 w3 := ((ho2.alloc (.cells #[.int .u8 128] 5)).step ho3 (fun i hi => .inr (by
    have := (hr2.own i (by simpa using hi)).1
    omega)))
  rw [HBL.out] at hr3
  clear hr2 ho3 ho2 hB1
  have hz1 := hs1.out
  go_loopg [4] (Sha.zeros (bl s).length) (fun g v wr => ∃ l, g ≤ Sha.zeros (bl s).length ∧ Hid (l = bl s ++ [128] ++ List.replicate (Sha.zeros (bl s).length - g) 0) ∧ Row wr w1.heap.size v l ∧ Only [] w1 wr)
  case atStart => exact ⟨bl s ++ [128], Nat.le_refl _, by show _ = _; simp, hr3, hall3⟩
  case round =>
    obtain ⟨l, hg, hl, hrow, hor⟩ := hrel
    have hz := Sha.zeros_lt (bl s).length
    have hlen : l.length = (bl s).length + 1 + (Sha.zeros (bl s).length - gk) := by rw [hl.out]; simp; omega
    have hmod : ((bl s).length + 1 + Sha.zeros (bl s).length + 8) % 64 = 0 := by unfold Sha.zeros; omega
    have hbs := HBL.out
    have hown := hrow.own
    obtain ⟨g, cap, rfl, hcap⟩ := hrow.eq
    have hB : w1.heap.size ≤ wr.heap.size := hor.size
    by_cases h0 : gk = 0
    · have hT : (l.length : Int) % 64 = 56 := by omega
      have hB2 : l.length ≤ 1000100 := by omega
      have H0 := Lib.hid h0
      have HLN := Lib.hid hlen
      clear h0 hlen hmod hbs hz hg
      go_wp2_with fail
      clear hT
      have HLL : Hid (l.length ≤ 1000100) := hB2
      go_loopw [4, 5] (fun v i wj => ∃ (j : Nat), j ≤ 8 ∧ i = .int .i64 (7 - (j : Int)) ∧ Row wj w1.heap.size v (l ++ (Sha.len8 (bl s).length).take j) ∧ Only [] w1 wj) (fun _ i _ => (intOf i + 1).toNat)
      case atStart => exact ⟨0, by omega, rfl, by simpa using hrow, hor⟩
      case round =>
        obtain ⟨j, hj, rfl, hbj, hoj⟩ := hrel
        have hown := hbj.own
        obtain ⟨g, cap, rfl, hcap⟩ := hbj.eq
        have hB := hoj.size
        by_cases hltj : j < 8
        · have ht : ((Sha.len8 (bl s).length).take j).length = j := by simp [Sha.len8]; omega
          have hcount : (8 * (7 - (j : Int))).toNat = 8 * (7 - j) := by omega
          rw [List.length_append, ht] at hbj hcap hown
          rw [List.length_append, ht]
          have HT := Lib.hid ht
          clear ht
          go_wp2_with (refine wpL_append1 rfl _ _ _ rfl Try.underlying56 byteInfo w1.heap.size (.slice (some ⟨g, 0, none⟩) (l.length + j) cap) _ rfl (hbj.only ((Only.refl [] _).alloc _) (by simp)) ⟨_, 0, none⟩ 1 rfl _ (UInt8.ofNat ((bl s).length * 8 / 2 ^ (8 * (7 - j)) % 256)) (cell_alloc1 _ _ _) (by show _ = _; rw [HBL.out]; exact len8_byte _ _) (by rw [List.length_append, HT.out]; omega) (by simp; omega) ?_; intro g3 cap3 w3 hr3 ho3)
          go_roundw
          case rel =>
            refine ⟨j + 1, by omega, by go_num, ?_, (hoj.alloc _).step ho3 (fun i hi => .inr (by have := hown i (by simpa using hi); omega))⟩
            rw [Sha.len8_take _ _ hltj, ← List.append_assoc]
            rw [List.length_append, List.length_take] at hr3
            exact hr3
          case measure => simp [intOf]; omega
        · have hl8 : Hid (l ++ (Sha.len8 (bl s).length).take j = L) := by
            show _ = _
            obtain rfl : j = 8 := by omega
            rw [Sha.len8_all, hl.out, H0.out, HL.out]
            rfl
          rw [hl8.out] at hbj hcap hown
          rw [hl8.out]
          have n0 : ¬ (0 : Int) ≤ 7 - (j : Int) := by omega
          have hb1' : Blk _ w.heap.size zeros32 _ := hb1.keep hoj
          have hLm : Hid (L.length % 64 = 0) := by show _ = 0; rw [HL.out]; exact Sha.padded_mod _
          have hL0 : Hid (Sha.blocks Sha.H0 L = Sha.blocks Sha.H0 (Sha.padded (bl s))) := by show _ = _; rw [HL.out]
          have hLl : L.length ≤ 1000200 := by
            rw [← hl8.out, List.length_append]
            have : ((Sha.len8 (bl s).length).take j).length ≤ 8 := by simp [Sha.len8]; omega
            omega
          clear hl8 hl hrow hor hb1 hall3 hr3 n0
          go_wp2_with (first
            | (refine wpL_build rfl _ _ rfl (u64s Sha.H0) (by kernel_rfl) ?_)
            | (refine wpL_alloc rfl 6 rfl _ rfl (.agg zeros8w.toArray) zeros8w (by kernel_rfl) rfl ?_; intro w5 ho5 hs5 hb5)
            | (refine wpL_store rfl _ _ _ rfl _ (u64s Sha.H0).toArray rfl rfl _ _ hb5 (by kernel_rfl : (Try.prog.info? 196).map (·.size) = some 8) rfl rfl (u64s_one _) ?_; intro w6 ho6 hs6 hb6))
          have z5 := hs5.out
          have l6 : w.heap.size < wr.heap.size := by omega
          have hallw : Only [] w w6 := ((ho1.trans hoj).trans ho5).step ho6 (fun i hi => .inr (by simp at hi; omega))
          have hrw : Row w6 w1.heap.size (.slice (some ⟨g, 0, none⟩) L.length cap) L := (hbj.only ho5 (by simp)).only ho6 (fun k hk => by have := hown k hk; simp; omega)
          have hg6 : g ≠ wr.heap.size := by have := hown g rfl; omega
          have hz6 : Blk w6 w.heap.size zeros32 101 := (hb1'.keep ho5).only ho6 (by simp; omega)
          have h06 : w6.heap.size = wr.heap.size + 1 := by rw [hs6.out, z5]
          generalize wr.heap.size = B6 at *
          clear hb1' hown hB hbj hoj hb5 ho5 ho6 hs5 hs6 z5 hs1 hz1
          have EH : Hid (∀ j, Sha.H0.getD j 0 < 4294967296) := Sha.H0_lt
          obtain ⟨H0', eH0⟩ : ∃ H, H = Sha.H0 := ⟨_, rfl⟩
          rw [← eH0] at hb6 EH
          have l80 : H0'.length = 8 := by rw [eH0]; rfl
          have hL0' : Hid (Sha.blocks H0' (L.drop 0) = Sha.blocks Sha.H0 (Sha.padded (bl s))) := by show _ = _; rw [eH0]; exact hL0.out
          clear eH0 hL0
          go_wp2_with fail
          go_loopw [7] (fun i wj => ∃ (n : Nat) (H : List Nat), i = .int .i64 (n : Int) ∧ n ≤ L.length ∧ n % 64 = 0 ∧ Hid (Sha.blocks H (L.drop n) = Sha.blocks Sha.H0 (Sha.padded (bl s))) ∧ Hid (H.length = 8) ∧ Hid (∀ j, H.getD j 0 < 4294967296) ∧ Blk wj B6 (u64s H) 196 ∧ Only [B6] w6 wj) (fun i _ => L.length - (intOf i).toNat)
          case atStart => exact ⟨0, H0', rfl, by omega, rfl, hL0', l80, EH, hb6, Only.refl _ _⟩
          case round =>
            obtain ⟨n, H, rfl, hn, hn64, hT, hHl, hHb, hbr, hor⟩ := hrel
            have hl64 := hLm.out
            have hl8 : Hid ((u64s H).length = 8) := by show _ = 8; rw [u64s_length]; exact hHl.out
            by_cases hlt : n < L.length
            · have hn2 : n + 64 ≤ L.length := by omega
              have hrn := hrw.only hor (fun k hk => by simp [Value.ownBlock] at hk; simp; omega)
              have hdl : ((L.drop n).take 64).length = 64 := by simp; omega
              have hcells : Hid (∀ j, j < ((L.drop n).take 64).length → wr.cell? ((⟨g, n, none⟩ : Addr).add j) = some (.int .u8 ((((L.drop n).take 64).getD j 0).toNat : Int))) := by
                intro j hj
                rw [hdl] at hj
                rw [addr_at, hrn.cell (n + j) (by omega), List.getD_eq_getElem?_getD, List.getD_eq_getElem?_getD, List.getElem?_take_of_lt hj, List.getElem?_drop]
              obtain ⟨D, eD⟩ : ∃ D, D = (L.drop n).take 64 := ⟨_, rfl⟩
              rw [← eD] at hcells hdl
              have ED := Lib.hid eD
              have HD := Lib.hid hdl
              clear eD hdl hl64
              go_wp2_with fail
              refine wp_region_held_last [0] [6] (fun w' => Blk w' B6 (u64s H) 196) (by kernel_rfl) (by kernel_rfl) (by kernel_rfl) rfl rfl ?_ hbr.drew ?_
              · intro i hi
                simp only [List.mem_cons, List.not_mem_nil, or_false] at hi
                subst hi
                exact ⟨_, rfl, rfl, fun b w' n w1 hA hw hrun => held_const (fun w'' hw'' => held_load rfl (by simp) rfl (u64s H) _ (fun w' (hw' : Blk w' B6 (u64s H) 196) j u hu => by rw [Nat.zero_add]; exact hw'.cell hu) Try.underlying196 rfl (by kernel_rfl : (Try.prog.info? 196).map (·.size) = some 8) hl8.out b w'' hA hw'') hw hrun⟩
              simp only [List.dropLast_cons_cons, List.dropLast_singleton]
              refine Held.cut 7 rfl rfl rfl (by kernel_rfl) ?_
              simp only [List.take_succ_cons, List.take_zero, List.drop_succ_cons, List.drop_zero, List.length_cons, List.length_nil]
              go_wp2_with (first
                | (refine wpL_load rfl _ _ rfl B6 rfl _ _ _ hbr.drew Try.underlying196 rfl (by kernel_rfl : (Try.prog.info? 196).map (·.size) = some 8) hl8.out ?_)
                | (refine wpL_text rfl _ _ _ _ rfl ⟨g, n, none⟩ D (n + 64 - n) _ rfl (by have := HD.out; omega) Try.underlying56 Try.underlying5 Try.underlying9 hcells.out ?_))
              refine TextQ.mk ⟨hbr.drew, ?_⟩ rfl
              refine Held.cut 1 rfl rfl rfl (by kernel_rfl) ?_
              simp only [List.take_succ_cons, List.take_zero, List.drop_succ_cons, List.drop_zero, List.length_cons, List.length_nil]
              go_wp2_with (go_at_call 139; refine (block_any H ⟨D.toArray⟩ _ (Nat.le_of_eq HD.out) (Nat.le_of_eq HD.out.symm) hHl.out hHb.out).mono ?_; rintro e w7 ⟨rfl, ho7⟩)
              refine TextQ.mk ⟨hbr.drew.keep ho7, ?_⟩ rfl
              refine Held.last (by rfl) ?_
              go_wp2_with (refine wpL_store rfl _ _ _ rfl B6 (u64s (Sha.block H (bl ⟨D.toArray⟩))).toArray rfl rfl _ _ (hbr.drew.keep ho7) (by kernel_rfl : (Try.prog.info? 196).map (·.size) = some 8) (by rw [List.size_toArray, u64s_length, Sha.block_length _ _ hHl.out]) hl8.out (u64s_one _) ?_; intro w8 ho8 hs8 hb8)
              refine TextQ.mk ?_ rfl
              go_wp2_with fail
              go_roundw
              case rel =>
                refine ⟨n + 64, Sha.block H D, by go_num, hn2, by omega, ?_, Sha.block_length _ _ hHl.out, Sha.block_lt _ _, hb8, ((hor.drew).step ho7 (by simp)).trans ho8⟩
                show _ = _
                have := Sha.blocks_step H (L.drop n) (by simp; omega)
                rw [List.drop_drop, ← ED.out] at this
                rw [this]
                exact hT.out
              case measure => simp [intOf]; omega
            · have hTn : Hid (H = Sha.blocks Sha.H0 (Sha.padded (bl s))) := by
                have := hT.out
                rwa [List.drop_eq_nil_of_le (by omega), Sha.blocks_end _ _ (by decide)] at this
              have hz6' := hz6.only hor (by simp; omega)
              have hallr : Only [] w wr := hallw.step hor (by simp; omega)
              have hwr : w6.heap.size ≤ wr.heap.size := hor.size
              clear hz6 hrw hb6 hallw hT
              go_wp2_with (first
                | (refine wpL_build rfl _ _ rfl zeros32 (by kernel_rfl) ?_)
                | (refine wpL_alloc rfl 8 rfl _ rfl (.agg zeros32.toArray) zeros32 (by kernel_rfl) rfl ?_; intro w7 ho7 hs7 hb7)
                | (refine wpL_store rfl _ _ _ rfl wr.heap.size zeros32.toArray rfl rfl _ _ hb7 (by kernel_rfl : (Try.prog.info? 101).map (·.size) = some 32) rfl rfl (u8s_one (List.replicate 32 0)) ?_; intro w8 ho8 hs8 hb8))
              have hz8 := (hz6'.keep ho7).only ho8 (by simp; omega)
              have hbH := (hbr.keep ho7).only ho8 (by simp; omega)
              have hla8 := (hallr.trans ho7).step ho8 (by have := hallr.size; simp; omega)
              have hBw : B6 < wr.heap.size := by omega
              have hb8' : Blk w8 wr.heap.size (u8s (Sha.outTo H 0)) 101 := hb8
              have hww : w.heap.size < wr.heap.size := by omega
              clear hb8 hb7 hbr ho7 ho8 hs7 hs8 hor hallr hz6'
              generalize wr.heap.size = C at *
              go_loopw [9] (fun i wj => ∃ (j : Nat), j ≤ 32 ∧ i = .int .i64 j ∧ Blk wj C (u8s (Sha.outTo H j)) 101 ∧ Only [C] w8 wj) (fun i _ => 32 - (intOf i).toNat)
              case atStart => exact ⟨0, by omega, rfl, hb8', Only.refl _ _⟩
              case round =>
                obtain ⟨j, hj, rfl, hbj, hoj⟩ := hrel
                by_cases hltj : j < 32
                · have hHl' := hHl.out
                  have hcj := (hbH.only hoj (by simp; omega)).cell (u64s_get H (j / 4) (by omega))
                  have hcw := hbj.cell (u8s_get _ j (by rw [Sha.outTo_length]; exact hltj))
                  have hfw := hbj.free j
                  clear hHl'
                  obtain ⟨x, ex⟩ : ∃ x, x = H.getD (j / 4) 0 := ⟨_, rfl⟩
                  have bx : x < 4294967296 := by rw [ex]; exact hHb.out _
                  rw [← ex] at hcj
                  have EX := Lib.hid ex
                  clear ex
                  have hsh : (24 - 8 * ((j : Int) % 4)).toNat = 24 - 8 * (j % 4) := by omega
                  go_wp2_with fail
                  go_roundw
                  case rel =>
                    refine ⟨j + 1, by omega, by go_num, ?_, hoj.set (by simp) _⟩
                    refine hbj.set8 j _ ?_
                    unfold Sha.byteAt
                    rw [← EX.out]
                    norm_cast
                  case measure => simp [intOf]; omega
                · have HJ : Hid (j = 32) := by show j = 32; omega
                  have hlen : (u8s (Sha.outTo H j)).length = 32 := by rw [u8s_length, Sha.outTo_length]
                  have hrz := hz8.only hoj (by simp; omega)
                  have n32 : ¬ (j : Int) < 32 := by omega
                  go_wp2_with (first
                    | (refine wpL_load rfl _ _ rfl C rfl _ _ _ hbj Try.underlying101 rfl (by kernel_rfl : (Try.prog.info? 101).map (·.size) = some 32) hlen ?_)
                    | (refine wpL_store rfl _ _ _ rfl w.heap.size (u8s (Sha.outTo H j)).toArray rfl rfl _ _ hrz (by kernel_rfl : (Try.prog.info? 101).map (·.size) = some 32) (by simpa using hlen) rfl (u8s_one _) ?_; intro w9 ho9 hs9 hb9))
                  refine end_row (ty := 101) Try.results93 rfl hb9 Try.underlying101 rfl (by kernel_rfl : (Try.prog.info? _).map (·.size) = some 32) hlen rfl ⟨?_, (hla8.step hoj (by simp; omega)).step ho9 (by simp)⟩
                  rw [HJ.out, Sha.outTo_all, hTn.out]
                  rfl
    · have hT : ((l.length : Int) % 64 != 56) = true := by rw [bne_iff_ne]; omega
      have hB2 : l.length ≤ 1000100 := by omega
      have h0' : 0 < gk := by omega
      have HLN := Lib.hid hlen
      have HM := Lib.hid hmod
      clear h0 hlen hmod hbs hz
      go_wp2_with (refine wpL_append1 rfl _ _ _ rfl Try.underlying56 byteInfo w1.heap.size (.slice (some ⟨g, 0, none⟩) l.length cap) l rfl (hrow.only ((Only.refl [] wr).alloc _) (by simp)) ⟨wr.heap.size, 0, none⟩ 1 rfl 0 0 (cell_alloc1 _ _ _) rfl (by omega) (by simp; omega) ?_; intro g3 cap3 w3 hr3 ho3)
      go_roundg (gk - 1)
      case measure => omega
      case rel =>
        refine ⟨_, by omega, ?_, hr3, (hor.alloc _).step ho3 (fun i hi => .inr (by have := hown i (by simpa using hi); omega))⟩
        show _ = _
        rw [hl.out, show Sha.zeros (bl s).length - (gk - 1) = (Sha.zeros (bl s).length - gk) + 1 by omega, List.replicate_succ']
        simp

end Go.Proofs.Ytmogkiacakkmbaa
