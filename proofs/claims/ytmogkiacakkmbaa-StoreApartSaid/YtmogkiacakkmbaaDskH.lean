/- Disks: all bytes; a new disk. -/
import Derived.Test.YtmogkiacakkmbaaDskF
import Derived.Test.YtmogkiacakkmbaaOrd
import Derived.Test.YtmogkiacakkmbaaShelf
namespace Go.Proofs.Ytmogkiacakkmbaa
open Go.RowKit

def restD (s : ByteArray) (j : Nat) : ByteArray := s.extract (32 * j) s.size
def secD (s : ByteArray) (j : Nat) : ByteArray := (restD s j).extract 0 32
def secsN (s : ByteArray) : Nat := min (s.size / 32) 4096
def secsD (s : ByteArray) (j : Nat) : List ByteArray := (List.range j).map (secD s)
/-- The disk that an image makes. -/
def DM.of (s : ByteArray) : DM := ⟨false, -1, [], secsD s (secsN s), [], 0⟩
theorem restD_size (s : ByteArray) (j : Nat) : (restD s j).size = s.size - 32 * j := by
  unfold restD
  rw [← bl_length, bl_extract]
  simp [bl_length]
theorem secD_size (s : ByteArray) (j : Nat) (h : 32 * j + 32 ≤ s.size) : (secD s j).size = 32 := by
  unfold secD
  rw [← bl_length, bl_extract]
  simp [bl_length, restD_size]
  omega
theorem restD_next (s : ByteArray) (j : Nat) : (restD s j).extract 32 (restD s j).size = restD s (j + 1) := by
  apply bl_ext
  rw [bl_extract, List.take_of_length_le (by rw [bl_length]; exact Nat.le_refl _)]
  unfold restD
  rw [bl_extract, bl_extract, List.drop_drop, show 32 * j + 32 = 32 * (j + 1) by omega]
theorem secsD_length (s : ByteArray) (j : Nat) : (secsD s j).length = j := by simp [secsD]
theorem secsD_succ (s : ByteArray) (j : Nat) : secsD s (j + 1) = secsD s j ++ [secD s j] := by
  unfold secsD
  rw [List.range_succ, List.map_append]
  rfl
theorem DM.of_ok (s : ByteArray) : (DM.of s).Ok := by
  refine ⟨?_, ?_, fun x hx => by simp [DM.of] at hx, fun x hx => by simp [DM.of] at hx, by simp [DM.of], by simp [DM.of], by simp [DM.of]⟩
  · show (secsD s (secsN s)).length ≤ 4096
    rw [secsD_length]
    unfold secsN
    omega
  · intro x hx
    simp only [DM.of, secsD, List.mem_map, List.mem_range] at hx
    obtain ⟨j, hj, rfl⟩ := hx
    unfold secsN at hj
    exact secD_size s j (by omega)

theorem owns_low {w : World} {base base' : Nat} {e : TypeId} {size : Nat} {v : Value} {n : Nat} {xs : List Value} (h : w.ownsRow base e size v n xs) (hb : base' ≤ base) : w.ownsRow base' e size v n xs :=
  ⟨h.1, h.2.imp id fun ⟨g, cap, cur, e, h1, r⟩ => ⟨g, cap, cur, e, Nat.le_trans hb h1, r⟩⟩
theorem powBuilt : Try.prog.built 132 [(1, .int .i64 (-1))] = some ([Value.bool false, .int .i64 (-1), .slice none 0 0]).toArray := by kernel_rfl
theorem dskBuilt : Try.prog.built 135 [(0, .agg ([Value.bool false, .int .i64 (-1), .slice none 0 0]).toArray)] = some ([Value.bool false, .int .i64 (-1), .slice none 0 0, .slice none 0 0, .slice none 0 0, .int .i64 0]).toArray := by kernel_rfl
theorem strInfoD : (Try.prog.info? 9).map (fun i => (i.zero, i.size, i.bytes)) = some (some (.string ⟨#[]⟩), 1, 16) := by kernel_rfl
section
variable {P : Program} {w : World} {ops : Array Oper} {rest : List Oper} {o : Oper} {a : Act} {Q : Exit → Act → World → Prop}
variable {w0 : World} {S : List Nat} {L : List Ent} {R : List Rsc}
theorem wpL_isBoxD {t : TypeId} {x : Operand} (_h : o.op = .box t x) (h : wpList P ops Q (o :: rest) a w) : wpList P ops Q (o :: rest) a w := h
/-- A new block that holds a row. -/
theorem wpL_boxD (hst : Sd w0 S w L R) (hg : o.guard = none) (t : TypeId) {x : Operand} (ho : o.op = .box t x) {cs : List Value} (hx : a.eval x = .agg cs.toArray)
    (h : ∀ w1 b, w.heap.size ≤ b → Sd w0 S w1 (⟨b, cs, t, true⟩ :: L) R → wpList P ops Q rest (a.put o.dst (.pointer (some ⟨b, 0, none⟩))) w1) : wpList P ops Q (o :: rest) a w := by
  refine wpL_run hg (v := .pointer (some ⟨w.heap.size, 0, none⟩)) (w1 := w.alloc (.cells cs.toArray t)) ?_ (h _ _ (Nat.le_refl _) (hst.box cs t))
  unfold execOp
  simp [ho, hx, Instr.box, newVar, newRow, Value.cells]
end

set_option maxRecDepth 100000 in
set_option maxHeartbeats 8000000 in
theorem dskOf_any (s : ByteArray) (w : World) (_hs : s.size ≤ 1000000) :
    Calls Try.prog 26 #[.string s] w fun e w' => ∃ d F, e = .returned (.pointer (some ⟨d, 0, none⟩)) ∧ DiskAt w' d (DM.of s) F ∧ Only [] w w' ∧ (∀ b ∈ F, w.heap.size ≤ b) := by
  have hst := St.start w []
  go_enter Try.func26, Try.ntmps26
  go_wp2_with (first
    | ((with_reducible refine wpL_isBuildD rfl ?_); first | (refine wpL_build rfl 132 _ rfl _ powBuilt ?_) | (refine wpL_build rfl 135 _ rfl _ dskBuilt ?_))
    | ((with_reducible refine wpL_isBoxD rfl ?_); refine wpL_boxD (Sd.of hst) rfl 135 rfl rfl ?_; clear hst; intro w1 d hd hst; replace hst := hst.st))
  have hdl := (hst.blk 0 rfl).lt
  simp only at hdl
  have hown0 := World.ownsRow_nil w1 w1.heap.size 9 1
  obtain ⟨B, eB⟩ : ∃ B, B = w1.heap.size := ⟨_, rfl⟩
  rw [← eB] at hdl hown0
  have hwl : w.heap.size ≤ B := by rw [eB]; exact hst.only.size
  have hBw : Hid (B ≤ w1.heap.size) := Nat.le_of_eq eB
  clear eB
  obtain ⟨N, eN⟩ : ∃ N, N = secsN s := ⟨_, rfl⟩
  go_loopw [0] (fun i wr => ∃ (j : Nat) (V : Value), j ≤ N ∧ i = .string (restD s j) ∧ St w [] wr [⟨d, [.bool false, .int .i64 (-1), .slice none 0 0, V, .slice none 0 0, .int .i64 0], 135, true⟩] ∧ wr.ownsRow B 9 1 V j (scells (secsD s j)) ∧ Hid (B ≤ wr.heap.size))
    (fun i _ => match i with | .string t => t.size | _ => 0)
  case atStart => exact ⟨0, _, by omega, by unfold restD; congr 1; apply bl_ext; rw [bl_extract]; simp [← bl_length], hst, hown0, hBw⟩
  case round =>
    obtain ⟨j, V, hj, rfl, hst, hown, hBr⟩ := hrel
    obtain ⟨ad, cp, rfl⟩ := owns_slice0 hown
    have hsz := restD_size s j
    have hNN : N ≤ s.size / 32 ∧ N ≤ 4096 := by rw [eN]; unfold secsN; omega
    by_cases hlt : j < N
    · have j1 : (32 : Int) ≤ ((restD s j).size : Int) := by omega
      have j2 : (j : Int) < 4096 := by omega
      go_wp2_with (first | ((with_reducible refine wpL_peel rfl ?_ ?_); focus (go_simp; done)) | ((with_reducible refine wpL_isLoad rfl ?_); first | (refine wpL_load1S hst rfl rfl 0 rfl rfl rfl (by kernel_rfl) ?_)))
      have HSD : Hid ((restD s j).extract 0 32 = secD s j) := rfl
      have HRN := Lib.hid (restD_next s j)
      have HSS : Hid (scells (secsD s (j + 1)) = scells (secsD s j) ++ [.string (secD s j)]) := by show _ = _; rw [secsD_succ]; simp [scells]
      have HJ : Hid (j + 1 ≤ 4096) := by show _ ≤ _; omega
      have HM : Hid (32 ≤ s.size - 32 * j) := by show _ ≤ _; omega
      replace hst := hst.drew
      replace hown := ownsRow_only hown (Only.refl [] wr).drew (by simp)
      have hBd : Hid (B ≤ wr.drew.heap.size) := hBr
      clear hBr
      refine wp_region_ord [7] [0, 1, 2, 3, 4, 5, 6, 7, 8, 9, 10, 11] (by kernel_rfl) (by kernel_rfl) ?_
      generalize World.drew _ = W at *
      refine Ord.cut 4 3 rfl rfl rfl rfl (by kernel_rfl) (by kernel_rfl) ?_; simp only [List.take_succ_cons, List.take_zero, List.drop_succ_cons, List.drop_zero, List.filterMap_cons, List.filterMap_nil, List.getElem?_cons_succ, List.getElem?_cons_zero]; go_wp2_with fail; refine TextQ.mk ⟨fun h => by simp at h, ?_⟩ rfl
      refine Ord.cut 1 4 rfl rfl rfl rfl (by kernel_rfl) (by kernel_rfl) ?_; simp only [List.take_succ_cons, List.take_zero, List.drop_succ_cons, List.drop_zero, List.filterMap_cons, List.filterMap_nil, List.getElem?_cons_succ, List.getElem?_cons_zero]; (try refine wpL_peel rfl rfl ?_); (first | (refine wpL_load1S hst rfl rfl 0 rfl rfl rfl (by kernel_rfl) ?_) | (refine wpL_load1S hst rfl rfl 1 rfl rfl rfl (by kernel_rfl) ?_) | (refine wpL_load1S hst rfl rfl 2 rfl rfl rfl (by kernel_rfl) ?_) | (refine wpL_load1S hst rfl rfl 3 rfl rfl rfl (by kernel_rfl) ?_)); refine TextQ.mk ⟨fun h => by simp at h, ?_⟩ rfl
      refine Ord.cut 2 6 rfl rfl rfl rfl (by kernel_rfl) (by kernel_rfl) ?_; simp only [List.take_succ_cons, List.take_zero, List.drop_succ_cons, List.drop_zero, List.filterMap_cons, List.filterMap_nil, List.getElem?_cons_succ, List.getElem?_cons_zero]; go_wp2_with fail; refine TextQ.mk ⟨fun h => by simp at h, ?_⟩ rfl
      refine Ord.cut 1 7 rfl rfl rfl rfl (by kernel_rfl) (by kernel_rfl) ?_; simp only [List.take_succ_cons, List.take_zero, List.drop_succ_cons, List.drop_zero, List.filterMap_cons, List.filterMap_nil, List.getElem?_cons_succ, List.getElem?_cons_zero]
      refine wpL_slice_lit rfl 40 1 _ rfl Try.underlying40 strInfoD (by decide) (by decide) [.string (secD s j)] rfl rfl (by simp [Value.cells]) ?_
      intro w3 ho3 hs3 hB3
      have hB3' : Blk w3 W.heap.size [.string (secD s j)] 9 := by simpa [Value.cells] using hB3
      go_wp2_with fail
      refine TextQ.mk ⟨ho3, ?_⟩ rfl
      replace hst := hst.keep ho3
      replace hown := ownsRow_only hown ho3 (by simp)
      have hB4 : Hid (B ≤ w3.heap.size) := Nat.le_trans hBd.out ho3.size
      clear ho3 hs3 hB3 hBd
      refine Ord.cut 1 8 rfl rfl rfl rfl (by kernel_rfl) (by kernel_rfl) ?_; simp only [List.take_succ_cons, List.take_zero, List.drop_succ_cons, List.drop_zero, List.filterMap_cons, List.filterMap_nil, List.getElem?_cons_succ, List.getElem?_cons_zero]
      refine wpL_append rfl _ _ 40 rfl B 9 Try.underlying40 strInfoD rfl (by decide) (.slice ad j cp) j (scells (secsD s j)) rfl hown ⟨W.heap.size, 0, none⟩ 1 1 [.string (secD s j)] rfl rfl (fun j u hu => by rw [addr_addD, Nat.zero_add]; exact hB3'.cell hu) (by simp [Value.oneCell']) (by have := HJ.out; unfold maxLen; omega) (by have := HJ.out; omega) hB4.out ?_
      intro V' w5 hown5 hg5 hv5 hiff5
      obtain ⟨ad5, cp5, rfl⟩ := owns_slice0 hown5
      go_wp2_with fail
      refine TextQ.mk ?_ rfl
      have hgo := Only.of_grown hg5
      have hlo : ∀ i, i ∈ (Value.slice ad j cp).ownBlock.toList → B ≤ i := fun i hi => (World.ownsRow.lt hown i (by simpa using hi)).1
      replace hst := hst.othersD hgo (fun i hi => .inr (Nat.le_trans hwl (hlo i hi))) (fun i hi x hx => by
        have := hlo i hi
        simp only [List.mem_cons, List.not_mem_nil, or_false] at hx
        rcases hx with rfl
        simp only
        omega)
      have hB5 : Hid (B ≤ w5.heap.size) := Nat.le_trans hB4.out hgo.size
      rw [← HSS.out] at hown5
      clear hgo hlo hg5 hv5 hiff5 hown hB4 hB3'
      refine Ord.cut 2 10 rfl rfl rfl rfl (by kernel_rfl) (by kernel_rfl) ?_; simp only [List.take_succ_cons, List.take_zero, List.drop_succ_cons, List.drop_zero, List.filterMap_cons, List.filterMap_nil, List.getElem?_cons_succ, List.getElem?_cons_zero]; go_wp2_with fail; refine TextQ.mk ⟨fun h => by simp at h, ?_⟩ rfl
      refine Ord.cut 1 11 rfl rfl rfl rfl (by kernel_rfl) (by kernel_rfl) ?_; simp only [List.take_succ_cons, List.take_zero, List.drop_succ_cons, List.drop_zero, List.filterMap_cons, List.filterMap_nil, List.getElem?_cons_succ, List.getElem?_cons_zero]
      refine wpL_store1 rfl 40 _ _ rfl d 3 (.slice ad5 (j + 1) cp5) rfl rfl _ _ (hst.blk 0 rfl) (Nat.le_of_ble_eq_true rfl) (by kernel_rfl) rfl ?_
      intro w6 ho6 hs6 hb6
      go_wp2_with fail
      refine TextQ.mk ?_ rfl
      replace hst := hst.chg 0 rfl ho6 hb6
      simp only [List.set] at hst
      replace hown5 := ownsRow_only hown5 ho6 (fun i hi => by have := (World.ownsRow.lt hown5 i hi).1; simp; omega)
      have hB6 : Hid (B ≤ w6.heap.size) := Nat.le_trans hB5.out ho6.size
      clear ho6 hb6 hs6 hB5
      refine Ord.done ?_
      go_wp2_with fail
      go_roundw
      case rel => exact ⟨j + 1, _, by omega, by rw [← HRN.out, hsz], hst, hown5, hB6⟩
      case measure =>
        have := HM.out
        simp
        omega
    · obtain rfl : j = N := by omega
      have HEN := Lib.hid eN
      have hj2 : (32 : Int) ≤ ((restD s j).size : Int) → (4096 : Int) ≤ (j : Int) := fun h => by unfold secsN at eN; omega
      clear eN
      have fin : ∀ (W : World) (V : Value), St w [] W [⟨d, [.bool false, .int .i64 (-1), .slice none 0 0, V, .slice none 0 0, .int .i64 0], 135, true⟩] → W.ownsRow B 9 1 V j (scells (secsD s j)) → ∃ F, DiskAt W d (DM.of s) F ∧ Only [] w W ∧ ∀ b ∈ F, w.heap.size ≤ b := fun W V hst hown => by
        have hsf : (DM.of s).safe = secsD s j := by rw [HEN.out]; rfl
        refine ⟨d :: (V.ownBlock.toList ++ (Value.slice none 0 0).ownBlock.toList ++ []), ⟨DM.of_ok s, .slice none 0 0, V, .slice none 0 0, [], ⟨?_, ?_, World.ownsRow_nil _ _ _ _, .inl ⟨rfl, rfl, _, _, rfl⟩⟩, rfl, ?_⟩, hst.only, fun b hb => ?_⟩
        · exact hst.blk 0 rfl
        · rw [hsf, secsD_length]
          exact owns_low hown (Nat.zero_le _)
        · have e : (Value.slice none 0 0).ownBlock.toList = [] := rfl
          rw [e, List.append_nil, List.append_nil, List.nodup_cons]
          refine ⟨fun hm => ?_, ?_⟩
          · have := (World.ownsRow.lt hown d (by simpa using hm)).1
            omega
          · cases V.ownBlock <;> simp
        · have e : (Value.slice none 0 0).ownBlock.toList = [] := rfl
          rw [e, List.append_nil, List.append_nil, List.mem_cons] at hb
          rcases hb with rfl | hb
          · exact hd
          · have := (World.ownsRow.lt hown b (by simpa using hb)).1
            omega
      have FIN := Lib.hid fin
      clear fin
      by_cases j1 : (32 : Int) ≤ ((restD s j).size : Int)
      · have j2 := hj2 j1
        go_wp2_with (first | ((with_reducible refine wpL_peel rfl ?_ ?_); focus (go_simp; done)) | ((with_reducible refine wpL_isLoad rfl ?_); first | (refine wpL_load1S hst rfl rfl 0 rfl rfl rfl (by kernel_rfl) ?_)))
        go_ret
        obtain ⟨F, h1⟩ := FIN.out _ _ hst hown
        first | exact ⟨d, rfl, F, h1⟩ | exact ⟨d, F, rfl, h1⟩
      · have j2 : ((restD s j).size : Int) < 32 := by omega
        go_wp2_with (first | ((with_reducible refine wpL_peel rfl ?_ ?_); focus (go_simp; done)) | ((with_reducible refine wpL_isLoad rfl ?_); first | (refine wpL_load1S hst rfl rfl 0 rfl rfl rfl (by kernel_rfl) ?_)))
        go_ret
        obtain ⟨F, h1⟩ := FIN.out _ _ hst hown
        first | exact ⟨d, rfl, F, h1⟩ | exact ⟨d, F, rfl, h1⟩
end Go.Proofs.Ytmogkiacakkmbaa

namespace Go.Proofs.Ytmogkiacakkmbaa
open Go.RowKit

/-- All bytes of texts, one behind the other. -/
def joinB (l : List ByteArray) : ByteArray := ⟨(cat l).toArray⟩
theorem join_nil (xs : List (List UInt8)) : Lib.join xs [] = xs.flatten := by
  show List.intercalate [] xs = _
  unfold List.intercalate
  induction xs with
  | nil => rfl
  | cons x xs ih =>
    cases xs with
    | nil => simp
    | cons y ys => simp at ih ⊢; exact ih
theorem cat_length (l : List ByteArray) (h : ∀ s ∈ l, s.size = 32) : (cat l).length = 32 * l.length := by
  unfold cat
  induction l with
  | nil => rfl
  | cons x xs ih =>
    simp only [List.map_cons, List.flatten_cons, List.length_append, List.length_cons]
    rw [ih (fun s hs => h s (by simp [hs])), bl_length, h x (by simp)]
    omega

set_option maxRecDepth 100000 in
set_option maxHeartbeats 4000000 in
theorem dskImage_any (d : Nat) (m : DM) (F : List Nat) (w : World) (h : DiskAt w d m F) :
    Calls Try.prog 29 #[.pointer (some ⟨d, 0, none⟩)] w fun e w' => e = .returned (.string (joinB m.safe)) ∧ Only [] w w' := by
  obtain ⟨hok, kv, sv, lv, kb, ⟨h1, h2, h3, h4⟩, rfl, hnd⟩ := h
  have JN : Hid (∀ w', Only [] w w' → Calls Try.prog 96 #[sv, .string ⟨#[]⟩] w' fun e w'' => e = .returned (.string (joinB m.safe)) ∧ Only [] w' w'') := fun w' ho => by
    by_cases hn : m.safe.length = 0
    · have e0 : m.safe = [] := List.eq_nil_of_length_eq_zero hn
      rw [hn] at h2
      obtain ⟨ad, cp, rfl⟩ := owns_slice0 h2
      rw [e0]
      refine (Try.strings_Join_none ad cp ⟨#[]⟩ w').mono ?_
      rintro e w'' ⟨rfl, rfl⟩
      exact ⟨rfl, Only.refl _ _⟩
    · obtain ⟨g, cap, rest, rfl, _, hb, hc, hm, ht⟩ := ownsRow_open h2 hn
      have hb' := hb.keep ho
      have hj : Lib.join (m.safe.map (·.data.toList)) [] = cat m.safe := join_nil _
      have hl := cat_length m.safe hok.full
      have hf := hok.few
      have := Try.strings_Join g 0 cap m.safe ⟨#[]⟩ w' (fun j x hx => by
        rw [Nat.zero_add]
        refine hb'.cell ?_
        rw [List.getElem?_append_left (by rw [scells_length]; exact (List.getElem?_eq_some_iff.1 hx).1)]
        simp [scells, hx]) hb'.lt (by omega) hc (by
        show (Lib.join (m.safe.map (·.data.toList)) []).length ≤ _
        rw [hj, hl]
        omega)
      refine this.mono ?_
      rintro e w'' ⟨rfl, ho'⟩
      refine ⟨?_, Only.of_below ho'⟩
      show Ending.returned (.string ⟨(Lib.join (m.safe.map (·.data.toList)) []).toArray⟩) = _
      rw [hj]
      rfl
  unfold dcells at h1
  have hst := St.with (S := []) h1
  have h1v : ∃ ad cp, sv = .slice ad m.safe.length cp := owns_slice0 h2
  obtain ⟨ad, cp, rfl⟩ := h1v
  clear h1 h2 h3 h4 hok hnd
  go_enter Try.func29, Try.ntmps29
  go_wp2_with (first
    | ((with_reducible refine wpL_peel rfl ?_ ?_); focus (go_simp; done)) | ((with_reducible refine wpL_isLoad rfl ?_); first | (refine wpL_load1S hst rfl rfl 0 rfl rfl rfl (by kernel_rfl) ?_))
    | (go_at_call 96; (with_reducible refine (JN.out _ hst.only).mono ?_); rintro e1 w1 ⟨rfl, ho1⟩; replace hst := hst.keep ho1; clear ho1))
  go_ret
  exact ⟨rfl, hst.only⟩

/-- A disk of zeros. -/
def zeroS (n : Nat) : ByteArray := ⟨(List.replicate n (0 : UInt8)).toArray⟩
theorem zeroS_size (n : Nat) : (zeroS n).size = n := by simp [zeroS, ByteArray.size]
def DM.fresh (n : Nat) : DM := ⟨false, -1, [], List.replicate n (zeroS 32), [], 0⟩
theorem bl_zeroS (n : Nat) : bl (zeroS n) = List.replicate n 0 := rfl
theorem secD_zero (n j : Nat) (h : 32 * j + 32 ≤ n) : secD (zeroS n) j = zeroS 32 := by
  apply bl_ext
  unfold secD restD
  rw [bl_extract, bl_extract, bl_zeroS, bl_zeroS, zeroS_size]
  simp only [List.take_replicate, List.drop_replicate]
  congr 1
  omega
theorem repeat_zero (c : Nat) : Lib.repeatL [0] c = List.replicate c (0 : UInt8) := by
  induction c with
  | zero => rfl
  | succ c ih => rw [Lib.repeatL, ih]; rfl
theorem DM.of_zero (n : Nat) (h : n ≤ 4096) : DM.of (zeroS (32 * n)) = DM.fresh n := by
  unfold DM.of DM.fresh
  congr 1
  unfold secsD secsN
  rw [zeroS_size, show min (32 * n / 32) 4096 = n by omega]
  apply List.ext_getElem
  · simp
  · intro i h1 h2
    simp at h2
    simp
    exact secD_zero _ _ (by omega)

set_option maxRecDepth 100000 in
set_option maxHeartbeats 4000000 in
theorem dskNew_any (n : Nat) (w : World) (hn : n ≤ 4096) :
    Calls Try.prog 14 #[.int .i64 (n : Int)] w fun e w' => ∃ d F, e = .returned (.pointer (some ⟨d, 0, none⟩)) ∧ DiskAt w' d (DM.fresh n) F ∧ Only [] w w' ∧ (∀ b ∈ F, w.heap.size ≤ b) := by
  have RP : Hid (∀ w, Calls Try.prog 78 #[.string ⟨#[0]⟩, .int .i64 ((n * 32 : Nat) : Int)] w fun e w' => e = .returned (.string (zeroS (32 * n))) ∧ Only [] w w') := fun w => by
    refine (Try.strings_Repeat ⟨#[0]⟩ (n * 32) w (by omega) (by show 1 * (n * 32) ≤ _; omega)).mono ?_
    rintro e w' ⟨rfl, ho⟩
    refine ⟨?_, Only.of_below ho⟩
    have e : Lib.repeatL ((⟨#[0]⟩ : ByteArray).data.toList) (n * 32) = List.replicate (n * 32) 0 := repeat_zero _
    rw [e, Nat.mul_comm]
    rfl
  have OF : Hid (∀ w, Calls Try.prog 26 #[.string (zeroS (32 * n))] w fun e w' => ∃ d F, e = .returned (.pointer (some ⟨d, 0, none⟩)) ∧ DiskAt w' d (DM.fresh n) F ∧ Only [] w w' ∧ (∀ b ∈ F, w.heap.size ≤ b)) := fun w => by
    rw [← DM.of_zero n hn]
    exact dskOf_any _ w (by rw [zeroS_size]; omega)
  have hst := St.start w []
  have h1 : (n : Int) ≤ 4096 := by omega
  have h2 : (0 : Int) ≤ n := by omega
  have e1 : ((n * 32 : Nat) : Int) = (n : Int) * 32 := by omega
  rw [e1] at RP
  have hmx : max (n : Int) 0 = n := by omega
  have hmn : min (n : Int) 4096 = n := by omega
  go_enter Try.func14, Try.ntmps14
  go_wp2_with (first
    | (go_at_call 78; (with_reducible refine (RP.out _).mono ?_); rintro e1 w1 ⟨rfl, ho1⟩; replace hst := hst.keep ho1; clear ho1)
    | (go_at_call 26; (with_reducible refine (OF.out _).mono ?_); rintro e1 w1 ⟨d, F, rfl, hd1, ho1, hF1⟩))
  go_ret
  exact ⟨d, F, rfl, hd1, hst.only.trans ho1, fun b hb => Nat.le_trans hst.only.size (hF1 b hb)⟩
end Go.Proofs.Ytmogkiacakkmbaa
