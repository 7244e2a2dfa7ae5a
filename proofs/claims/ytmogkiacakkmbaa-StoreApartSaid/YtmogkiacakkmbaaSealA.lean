/- Seals: a text's bytes. -/
import Derived.Test.YtmogkiacakkmbaaMix
import Derived.Test.YtmogkiacakkmbaaSealP
import Derived.Test.YtmogkiacakkmbaaPenT
import Derived.Test.YtmogkiacakkmbaaShaC
import Derived.Test.YtmogkiacakkmbaaOrd2
import Derived.Test.YtmogkiacakkmbaaDskA
namespace Go.Proofs.Ytmogkiacakkmbaa
open Go.RowKit

section
variable {P : Program} {w : World} {ops : Array Oper} {rest : List Oper} {o : Oper} {a : Act} {Q : Exit → Act → World → Prop}
variable {w0 : World} {S : List Nat} {L : List Ent} {R : List Rsc}
theorem wpL_isMakeD {t : TypeId} {x y : Operand} (_h : o.op = .makeSlice t x y) (h : wpList P ops Q (o :: rest) a w) : wpList P ops Q (o :: rest) a w := h
theorem wpL_makeD (hst : Sd w0 S w L R) (hgd : o.guard = none) (t : TypeId) (x : Operand) (ho : o.op = .makeSlice t x x) {e : TypeId} (ht : P.underlying t = some (.slice e)) (z c0 : Value) (size bytes : Nat) (hzc : z.cells = (List.replicate size c0).toArray) (hs0 : 0 < size)
    (hi : (P.info? e).map (fun i => (i.zero, i.size, i.bytes)) = some (some z, size, bytes)) (n : Nat) (hx : a.eval x = .int .i64 (n : Int)) (hn : n ≤ 1024) (hsz : size ≤ 1024) (hby : bytes ≤ 1024)
    (h : ∀ w1 b, w.heap.size ≤ b → Sd w0 S w1 (⟨b, List.replicate (n * size) c0, e, true⟩ :: L) R → wpList P ops Q rest (a.put o.dst (.slice (some ⟨b, 0, none⟩) n n)) w1) : wpList P ops Q (o :: rest) a w := by
  obtain ⟨i, hi1, hi2, hi3, hi4⟩ : ∃ i, P.info? e = some i ∧ i.zero = some z ∧ i.size = size ∧ i.bytes = bytes := by
    cases hq : P.info? e with
    | none => simp [hq] at hi
    | some i => simp [hq] at hi; exact ⟨i, rfl, hi.1, hi.2.1, hi.2.2⟩
  have hm1 : n * bytes ≤ 1024 * 1024 := Nat.mul_le_mul hn hby
  have hm2 : n * size ≤ 1024 * 1024 := Nat.mul_le_mul hn hsz
  have hm3 : (bytes : Int) * (n : Int) ≤ 281474976710656 := by
    have e3 : ((n * bytes : Nat) : Int) = (bytes : Int) * n := by rw [Int.natCast_mul, Int.mul_comm]
    omega
  have hrun := run_make (P := P) w t e i _ ht hi1 hi2 .i64 .i64 n n (by omega) (Int.le_refl _) (by rw [hi4]; exact hm3) (by omega)
  have hc : madeCells z.cells ((n : Int).toNat * i.size) = (List.replicate (n * size) c0).toArray := by
    rw [hi3, Int.toNat_natCast, hzc]
    apply Array.ext'
    unfold madeCells
    apply List.ext_getElem?
    intro j
    simp [List.getElem?_replicate]
    by_cases hj : j < n * size
    · simp [hj]
      have : j % size < size := Nat.mod_lt _ hs0
      rw [getElem!_pos _ _ (by simpa using this)]
      simp
    · simp [hj]
  rw [hc, Int.toNat_natCast] at hrun
  refine wpList_plain hgd fun K hK => ?_
  unfold Oper.wp
  simp only [execOp, ho, hx, Sem.run_bind, hrun, Result.andThen_ok, Sem.run_pure]
  exact hK _ _ (h _ _ (Nat.le_refl _) (hst.new ((Only.refl _ w).alloc _) (Blk.new _ _ _) (Nat.le_refl _)))
end
/-- A new pen. -/
theorem wpL_allocPen {P : Program} {w : World} {ops : Array Oper} {rest : List Oper} {o : Oper} {a : Act} {Q : Exit → Act → World → Prop} {w0 : World} {S : List Nat} {L : List Ent} {R : List Rsc} (hst : Sd w0 S w L R) (hg : o.guard = none) (ho : o.op = .alloc 149) (hz : (P.info? 149).map (·.zero) = some (some (.agg #[.pointer none, .slice none 0 0, .bool false]))) (d : Tmp) (hd : o.dst = some d)
    (h : ∀ w1 b, w.heap.size ≤ b → Sd w0 S w1 L (penR b false [] [b] :: R) → wpList P ops Q rest (a.put o.dst (.pointer (some ⟨b, 0, none⟩))) w1) : wpList P ops Q (o :: rest) a w :=
  wpL_alloc hg d hd 149 ho _ [.pointer none, .slice none 0 0, .bool false] hz rfl fun w1 ho1 _ hb1 => h w1 _ (Nat.le_refl _) (hst.add ho1 (r := penR w.heap.size false [] [w.heap.size]) (PenAt.new hb1) (by intro b hb; simp only [penR, List.mem_singleton] at hb; omega))

set_option maxRecDepth 100000 in
set_option maxHeartbeats 2000000 in
theorem sectors_any (n : Nat) (w : World) (hn : n ≤ 1000000) : Calls Try.prog 82 #[.int .i64 (n : Int)] w fun e w' => e = .returned (.int .i64 (secsOf n : Int)) ∧ w = w' := by
  have e1 : ((n : Int) + 36 + 28 - 1) / 28 = (secsOf n : Int) := by unfold secsOf; omega
  have e2 : ((n : Int) + 36 + 28 - 1).tdiv 28 = (secsOf n : Int) := by rw [Int.tdiv_eq_ediv_of_nonneg (by omega)]; exact e1
  go_enter Try.func82, Try.ntmps82
  go_wp2_with fail
  go_ret
  refine ⟨?_, rfl⟩
  congr 2
set_option maxRecDepth 100000 in
set_option maxHeartbeats 2000000 in
theorem sealSize_any (s : ByteArray) (w : World) (hn : s.size ≤ 1000000) : Calls Try.prog 18 #[.string s] w fun e w' => e = .returned (.int .i64 (secsOf s.size : Int)) ∧ w = w' := by
  have SC : Hid (∀ w, Calls Try.prog 82 #[.int .i64 (s.size : Int)] w fun e w' => e = .returned (.int .i64 (secsOf s.size : Int)) ∧ w = w') := fun w => sectors_any s.size w hn
  go_enter Try.func18, Try.ntmps18
  go_wp2_with (first | (go_at_call 82; (with_reducible refine (SC.out _).mono ?_); rintro e1 w1 ⟨rfl, rfl⟩))
  go_ret
  exact ⟨rfl, rfl⟩
theorem strInfoT : (Try.prog.info? 9).map (fun i => (i.zero, i.size, i.bytes)) = some (some (.string ⟨#[]⟩), 1, 16) := by kernel_rfl
theorem u8InfoT : (Try.prog.info? 5).map (fun i => (i.zero, i.size, i.bytes)) = some (some (.int .u8 0), 1, 1) := by kernel_rfl
theorem of_oneT (b : Nat) (s : ByteArray) (w : World) (h : Blk w b [.string s] 9) (hs : s.size ≤ 1000000) : Calls Try.prog 121 #[.slice (some ⟨b, 0, none⟩) 1 1] w fun e w' => e = .returned (.agg (Lib.byteCells (Sha.sum (bl s))).toArray) ∧ Only [] w w' := by
  have hc : cat [s] = bl s := by unfold cat; simp
  have := of_any (.slice (some ⟨b, 0, none⟩) 1 1) [s] w (.inr ⟨b, 0, 1, rfl, fun j x hx => by
    match j, hx with
    | 0, hx => simp at hx; subst hx; exact h.cell rfl
    | j + 1, hx => simp at hx, h.lt, by simp⟩) (by simp) (by rw [hc, bl_length]; omega)
  rw [hc] at this
  exact this

set_option maxRecDepth 100000 in
set_option maxHeartbeats 8000000 in
theorem sealBytes_any (s : ByteArray) (w : World) (hs : s.size ≤ 1024) : Calls Try.prog 88 #[.string s] w fun e w' => e = .returned (.string ⟨(sealB s).toArray⟩) ∧ Only [] w w' := by
  have hst := Sd.start w []
  obtain ⟨K, eK⟩ : ∃ K, K = secsOf s.size := ⟨_, rfl⟩
  obtain ⟨N, eN⟩ : ∃ N, N = secsOf s.size * 28 - 36 - s.size := ⟨_, rfl⟩
  have hge := secsOf_ge s.size
  have hle := secsOf_le s.size
  have e3 : (K : Int) * 28 - 36 - (s.size : Int) = (N : Int) := by omega
  have hK : (K : Int) ≤ 100 := by omega
  have hN : N ≤ 27 := by omega
  have SZ : Hid (∀ w, Calls Try.prog 18 #[.string s] w fun e w' => e = .returned (.int .i64 (K : Int)) ∧ w = w') := fun w => by rw [eK]; exact sealSize_any s w (by omega)
  obtain ⟨l1, el1⟩ : ∃ l1, l1 = num4 (s.size : Int) ++ bl s := ⟨_, rfl⟩
  obtain ⟨B, eB⟩ : ∃ B, B = bodyB s := ⟨_, rfl⟩
  have hB : l1 ++ List.replicate N 0 = B := by rw [eB, el1, eN]; rfl
  have hB2 : B.length ≤ 2000 := by rw [eB, bodyB_length]; omega
  have TX : Hid (∀ b F g w, PenAt w b false [] F → Blk w g [.string s] 9 → g ∉ F → Calls Try.prog 136 #[.pointer (some ⟨b, 0, none⟩), .slice (some ⟨g, 0, none⟩) 1 1] w fun e w' => ∃ F', e = .returned (.tuple #[]) ∧ PenAt w' b false l1 F' ∧ Turn F F' w w') := fun b F g w h1 h2 h3 => by
    have := penTextT b [] F g s w h1 h2 h3 (by simp) (by omega)
    rw [el1]
    simpa using this
  have BY : Hid (∀ b F g w, PenAt w b false l1 F → Blk w g (List.replicate (N * 1) (.int .u8 0)) 5 → g ∉ F → Calls Try.prog 137 #[.pointer (some ⟨b, 0, none⟩), .slice (some ⟨g, 0, none⟩) N N] w fun e w' => ∃ F', e = .returned (.tuple #[]) ∧ PenAt w' b false B F' ∧ Turn F F' w w') := fun b F g w h1 h2 h3 => by
    have hl : l1.length ≤ 2000 := by rw [el1]; simp [num4_length, bl_length]; omega
    have := penByteT b false l1 (List.replicate N 0) F g 0 N w h1 h2.lt (fun j u hu => by
      rw [Nat.zero_add]
      refine h2.cell ?_
      rw [Nat.mul_one]
      simp only [Lib.byteCells, List.map_replicate] at hu
      simpa using hu) h3 (by simp; omega)
    rw [hB, List.length_replicate] at this
    exact this
  have BS : Hid (∀ b F w, PenFr w b false B F → Calls Try.prog 91 #[.pointer (some ⟨b, 0, none⟩)] w fun e w' => e = .returned (.string ⟨B.toArray⟩) ∧ PenFr w' b false B F ∧ Turn F F w w') := fun b F w h => penBytesT b false B F w h
  obtain ⟨D, eD⟩ : ∃ D, D = Sha.sum B := ⟨_, rfl⟩
  have hD : D.length = 32 := by rw [eD]; exact Sha.sum_length _
  have OF : Hid (∀ b w, Blk w b [.string ⟨B.toArray⟩] 9 → Calls Try.prog 121 #[.slice (some ⟨b, 0, none⟩) 1 1] w fun e w' => e = .returned (.agg (Lib.byteCells D).toArray) ∧ Only [] w w') := fun b w h => by
    have := of_oneT b ⟨B.toArray⟩ w h (by show B.toArray.size ≤ _; simp; omega)
    rw [bl_mk] at this
    rw [eD]
    exact this
  have hfin : (⟨D.toArray⟩ : ByteArray) ++ ⟨B.toArray⟩ = ⟨(sealB s).toArray⟩ := by
    rw [eD, eB]
    apply bl_ext
    simp [bl, sealB, ByteArray.data_append]
  have HF := Lib.hid hfin
  have HD := Lib.hid hD
  have HD1 := Lib.hid (digOne D)
  have HDL := Lib.hid (digLen D hD)
  have HB2 := Lib.hid hB2
  clear eK eN el1 eB hB eD hfin hD hge hle hB2 hs
  go_enter Try.func88, Try.ntmps88
  go_wp2_with (first
    | ((with_reducible refine wpL_isAlloc rfl ?_); refine wpL_allocPen hst rfl rfl (by kernel_rfl) 3 rfl ?_; clear hst; intro w1 b hb hst)
    | ((with_reducible refine wpL_isSliceT rfl ?_); refine wpL_sliceD hst rfl 40 1 _ rfl Try.underlying40 strInfoT (by decide) (by decide) [.string s] rfl rfl (by simp [Value.cells]) ?_; clear hst; intro w1 g hg hst)
    | (go_at_call 136; (with_reducible refine (TX.out _ _ _ _ (hst.rs 0 rfl) (hst.blk 0 rfl) (hst.away 0 0 rfl rfl)).mono ?_); rintro e1 w1 ⟨F1, rfl, hd1, ht1⟩; replace hst := hst.act 0 rfl (penR b false l1 F1) rfl ht1 hd1; simp only [List.set] at hst; clear ht1 hd1)
    | (go_at_call 18; (with_reducible refine (SZ.out _).mono ?_); rintro e1 w1 ⟨rfl, rfl⟩)
    | ((with_reducible refine wpL_isMakeD rfl ?_); refine wpL_makeD hst rfl 56 _ rfl Try.underlying56 (.int .u8 0) (.int .u8 0) 1 1 rfl (by decide) u8InfoT N rfl (by omega) (by decide) (by decide) ?_; clear hst; intro w1 g2 hg2 hst)
    | (go_at_call 137; (with_reducible refine (BY.out _ _ _ _ (hst.rs 0 rfl) (hst.blk 0 rfl) (hst.away 0 0 rfl rfl)).mono ?_); rintro e1 w1 ⟨F2, rfl, hd2, ht2⟩; replace hst := hst.act 0 rfl (penF b false B F2) rfl ht2 hd2.fr; simp only [List.set] at hst; clear ht2 hd2)
    | (go_at_call 91; (with_reducible refine (BS.out _ _ _ (hst.rs 0 rfl)).mono ?_); rintro e1 w1 ⟨rfl, hd3, ht3⟩; replace hst := hst.act 0 rfl (penF b false B F2) rfl ht3 hd3; simp only [List.set] at hst; clear ht3 hd3)
    | ((with_reducible refine wpL_isSliceT rfl ?_); refine wpL_sliceD hst rfl 40 1 _ rfl Try.underlying40 strInfoT (by decide) (by decide) [.string ⟨B.toArray⟩] rfl rfl (by simp [Value.cells]) ?_; clear hst; intro w1 g3 hg3 hst)
    | (go_at_call 121; (with_reducible refine (OF.out _ _ (hst.blk 0 rfl)).mono ?_); rintro e1 w1 ⟨rfl, ho1⟩; replace hst := hst.keep ho1; clear ho1)
    | ((with_reducible refine wpL_isAlloc rfl ?_); refine wpL_allocD hst rfl 102 rfl (.agg zeros32.toArray) zeros32 (by kernel_rfl) rfl 4 rfl ?_; clear hst; intro w1 X hX hst)
    | ((with_reducible refine wpL_isStore rfl ?_); refine wpL_storeD hst rfl (ty := 102) rfl 0 rfl rfl (D := Lib.byteCells D) rfl (by kernel_rfl) (by kernel_rfl) HDL.out HD1.out ?_; clear hst; intro w1 hst; simp only [List.set] at hst))
  go_wp2_with fail
  replace hst := hst.drew
  refine wp_region_ord2 [] [0] [1] 2 [3, 4] (by kernel_rfl) (by kernel_rfl) (by kernel_rfl) ?_
  generalize World.drew _ = W at *
  refine Ord.cut 1 0 rfl rfl rfl rfl (by kernel_rfl) (by kernel_rfl) ?_; simp only [List.take_succ_cons, List.take_zero, List.drop_succ_cons, List.drop_zero, List.filterMap_cons, List.filterMap_nil, List.getElem?_cons_zero]; go_wp2_with fail; refine TextQ.mk ⟨fun h => by simp at h, ?_⟩ rfl
  refine Ord.done ?_
  refine And.intro ?_ ?_
  · show Ord _ _ _ _ [2, 1, 3, 4] _ _
    refine Ord.cut 1 2 rfl rfl rfl rfl (by kernel_rfl) (by kernel_rfl) ?_; simp only [List.take_succ_cons, List.take_zero, List.drop_succ_cons, List.drop_zero, List.filterMap_cons, List.filterMap_nil, List.getElem?_cons_succ, List.getElem?_cons_zero]
    go_wp2_with (go_at_call 91; (with_reducible refine (BS.out _ _ _ (hst.rs 0 rfl)).mono ?_); rintro e1 w2 ⟨rfl, hd3, ht3⟩)
    refine TextQ.mk ⟨fun h => by simp at h, ?_⟩ rfl
    replace hst := hst.act 0 rfl (penF b false B F2) rfl ht3 hd3
    simp only [List.set] at hst
    clear ht3 hd3
    refine Ord.cut 1 1 rfl rfl rfl rfl (by kernel_rfl) (by kernel_rfl) ?_; simp only [List.take_succ_cons, List.take_zero, List.drop_succ_cons, List.drop_zero, List.filterMap_cons, List.filterMap_nil, List.getElem?_cons_succ, List.getElem?_cons_zero]
    refine wpL_str rfl 56 9 5 _ rfl ⟨X, 0, none⟩ D 32 32 rfl HD.out Try.underlying56 Try.underlying5 Try.underlying9 (fun q hq => by rw [addr_addD, Nat.zero_add]; exact (hst.blk 0 rfl).cell (by simp only [Lib.byteCells, List.getElem?_map]; rw [List.getElem?_eq_getElem hq, List.getD_eq_getElem?_getD, List.getElem?_eq_getElem hq]; rfl)) ?_
    refine TextQ.mk ⟨fun h => by simp at h, ?_⟩ rfl
    refine Ord.cut 1 3 rfl rfl rfl rfl (by kernel_rfl) (by kernel_rfl) ?_; simp only [List.take_succ_cons, List.take_zero, List.drop_succ_cons, List.drop_zero, List.filterMap_cons, List.filterMap_nil, List.getElem?_cons_succ, List.getElem?_cons_zero]
    refine wpL_catS rfl rfl _ _ _ rfl rfl HF.out (by have := HB2.out; have := HD.out; simp [ByteArray.size]; omega) ?_
    refine TextQ.mk ⟨fun h => by simp at h, ?_⟩ rfl
    refine Ord.cut 1 4 rfl rfl rfl rfl (by kernel_rfl) (by kernel_rfl) ?_; simp only [List.take_succ_cons, List.take_zero, List.drop_succ_cons, List.drop_zero, List.filterMap_cons, List.filterMap_nil, List.getElem?_cons_succ, List.getElem?_cons_zero]; go_wp2_with fail; refine TextQ.mk ⟨fun h => by simp at h, ?_⟩ rfl
    refine Ord.done ?_
    go_wp2_with fail
    go_ret
    exact ⟨rfl, hst.only⟩
  · show Ord _ _ _ _ [1] _ _
    refine Ord.cut 1 1 rfl rfl rfl rfl (by kernel_rfl) (by kernel_rfl) ?_; simp only [List.take_succ_cons, List.take_zero, List.drop_succ_cons, List.drop_zero, List.filterMap_cons, List.filterMap_nil, List.getElem?_cons_succ, List.getElem?_cons_zero]
    refine wpL_str rfl 56 9 5 _ rfl ⟨X, 0, none⟩ D 32 32 rfl HD.out Try.underlying56 Try.underlying5 Try.underlying9 (fun q hq => by rw [addr_addD, Nat.zero_add]; exact (hst.blk 0 rfl).cell (by simp only [Lib.byteCells, List.getElem?_map]; rw [List.getElem?_eq_getElem hq, List.getD_eq_getElem?_getD, List.getElem?_eq_getElem hq]; rfl)) ?_
    refine TextQ.mk ⟨fun h => by simp at h, ?_⟩ rfl
    refine Ord.done ?_
    show Ord _ _ _ _ [2, 3, 4] _ _
    refine Ord.cut 1 2 rfl rfl rfl rfl (by kernel_rfl) (by kernel_rfl) ?_; simp only [List.take_succ_cons, List.take_zero, List.drop_succ_cons, List.drop_zero, List.filterMap_cons, List.filterMap_nil, List.getElem?_cons_succ, List.getElem?_cons_zero]
    go_wp2_with (go_at_call 91; (with_reducible refine (BS.out _ _ _ (hst.rs 0 rfl)).mono ?_); rintro e1 w2 ⟨rfl, hd3, ht3⟩)
    refine TextQ.mk ⟨fun h => by simp at h, ?_⟩ rfl
    replace hst := hst.act 0 rfl (penF b false B F2) rfl ht3 hd3
    simp only [List.set] at hst
    clear ht3 hd3
    refine Ord.cut 1 3 rfl rfl rfl rfl (by kernel_rfl) (by kernel_rfl) ?_; simp only [List.take_succ_cons, List.take_zero, List.drop_succ_cons, List.drop_zero, List.filterMap_cons, List.filterMap_nil, List.getElem?_cons_succ, List.getElem?_cons_zero]
    refine wpL_catS rfl rfl _ _ _ rfl rfl HF.out (by have := HB2.out; have := HD.out; simp [ByteArray.size]; omega) ?_
    refine TextQ.mk ⟨fun h => by simp at h, ?_⟩ rfl
    refine Ord.cut 1 4 rfl rfl rfl rfl (by kernel_rfl) (by kernel_rfl) ?_; simp only [List.take_succ_cons, List.take_zero, List.drop_succ_cons, List.drop_zero, List.filterMap_cons, List.filterMap_nil, List.getElem?_cons_succ, List.getElem?_cons_zero]; go_wp2_with fail; refine TextQ.mk ⟨fun h => by simp at h, ?_⟩ rfl
    refine Ord.done ?_
    go_wp2_with fail
    go_ret
    exact ⟨rfl, hst.only⟩
end Go.Proofs.Ytmogkiacakkmbaa
