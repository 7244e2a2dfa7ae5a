/- Pens: rows of bytes and sums written. -/
import Derived.Test.YtmogkiacakkmbaaManF
import Derived.Test.YtmogkiacakkmbaaPen
namespace Go.Proofs.Ytmogkiacakkmbaa
open Go.RowKit

set_option maxHeartbeats 1000000 in
set_option maxRecDepth 100000 in
theorem writeBytes_any (b : Nat) (tail : List Value) (ty : TypeId) (v : Value) (l d : List UInt8) (ab o c : Nat) (w : World) (h : Bld w b tail ty v l) (hl : Lies ty (tail.length + 2)) (hlen : l.length + d.length ≤ 140737488355328) (hab : ab ≠ b)
    (hlt : ab < w.heap.size) (hc : ∀ j u, (Lib.byteCells d)[j]? = some u → w.cell? ⟨ab, o + j, none⟩ = some u) :
    Calls Try.prog 162 #[.pointer (some ⟨b, 0, none⟩), .slice (some ⟨ab, o, none⟩) d.length c] w fun e w' => e = .returned (.tuple #[.int .i64 (d.length : Int), .nilIface]) ∧ ∃ v', Bld w' b tail ty v' (l ++ d) ∧ Wrote w w' b v v' := by
  have h' := h
  obtain ⟨p, hp, hbk, hr, hne, hnil⟩ := h'
  have HC := Lib.hid hc
  clear hc
  go_enter Try.func162, Try.ntmps162
  go_wp2_with (go_at_call 146; refine (copyCheck_any b tail ty v l _ h hl).mono ?_)
  rintro e w1 ⟨rfl, ho1, hb1⟩
  have hr1 := ownsRow_only hr ho1 (fun k hk e => hne (by rw [hk]; simp at e; rw [e]))
  have c1 := hb1.cell (i := 1) rfl
  have f1 := hb1.free 1
  have hlt1 := hb1.lt
  have HC1 : Hid (∀ j u, (Lib.byteCells d)[j]? = some u → w1.cell? ((⟨ab, o, none⟩ : Addr).add j) = some u) := fun j u hu => by
    rw [show (⟨ab, o, none⟩ : Addr).add j = ⟨ab, o + j, none⟩ by unfold Addr.add; split <;> simp_all, ho1.cellAt _ _ hlt (by simp; exact hab)]
    exact HC.out j u hu
  go_wp2_with (refine wpL_append rfl _ _ _ rfl 0 5 Try.underlying56 byteInfo rfl (by decide) v l.length (Lib.byteCells l) rfl hr1 ⟨ab, o, none⟩ d.length c (Lib.byteCells d) rfl (by rw [byteCells_length]; omega) HC1.out (byteCells_ones d) ?c3 ?c4 (Nat.zero_le _) ?_)
  case c3 => unfold maxLen; omega
  case c4 => omega
  intro v' w2 hown' hgrow hwhere hiff
  have hb2 : Blk w2 b (.pointer (some ⟨b, 0, none⟩) :: v :: tail) ty := hb1.only (Only.of_grown hgrow) (fun hm => hne (by simpa using hm))
  have d1 := hb2.cell (i := 1) rfl
  have g1 := hb2.free 1
  obtain ⟨ao, n', cap, rfl⟩ : ∃ ao n' cap, v' = .slice ao n' cap := by
    rcases hown'.2 with ⟨hv, _⟩ | ⟨g, cap, cur, hv, _⟩
    · exact ⟨_, _, _, hv⟩
    · exact ⟨_, _, _, hv⟩
  have Hown := Lib.hid hown'
  have Hwh := Lib.hid hwhere
  have Hiff := Lib.hid hiff
  have Hnil := Lib.hid hnil
  clear hown' hwhere c1 hiff hnil HC HC1
  go_wp2
  go_ret2
  refine ⟨rfl, .slice ao n' cap, ?_⟩
  have e1 : Lib.byteCells l ++ Lib.byteCells d = Lib.byteCells (l ++ d) := by simp [Lib.byteCells]
  refine Bld.put hne hb1 ho1 ?_ hgrow ?_ ?_
  · have := Hown.out
    rw [e1, ← List.length_append] at this
    exact this
  · rcases Hwh.out with h | h
    · exact .inl h
    · exact .inr fun k hk => by rw [h] at hk; injection hk with hk; omega
  · intro h0
    have h1 := List.append_eq_nil_iff.1 h0
    exact Hiff.out.2 ⟨Hnil.out h1.1, by simp [h1.2]⟩

set_option maxHeartbeats 1000000 in
set_option maxRecDepth 100000 in
theorem penByte_any (b : Nat) (bad : Bool) (v : Value) (l d : List UInt8) (ab o c : Nat) (w : World) (h : Bld w b [.bool bad] 149 v l) (hlen : l.length + d.length ≤ 140737488355328) (hab : ab ≠ b)
    (hlt : ab < w.heap.size) (hc : ∀ j u, (Lib.byteCells d)[j]? = some u → w.cell? ⟨ab, o + j, none⟩ = some u) :
    Calls Try.prog 137 #[.pointer (some ⟨b, 0, none⟩), .slice (some ⟨ab, o, none⟩) d.length c] w fun e w' => e = .returned (.tuple #[]) ∧ ∃ v', Bld w' b [.bool bad] 149 v' (l ++ d) ∧ Wrote w w' b v v' := by
  have WB := Lib.hid (writeBytes_any b [.bool bad] 149 v l d ab o c w h lies_pen hlen hab hlt hc)
  clear h hlen hab hlt hc
  go_enter Try.func137, Try.ntmps137
  go_wp2_with (go_at_call 162; refine WB.out.mono ?_)
  rintro e w1 ⟨rfl, v1, hb1, hw1⟩
  go_wp2_with fail
  go_end0
  exact ⟨rfl, v1, hb1, hw1⟩

set_option maxHeartbeats 4000000 in
set_option maxRecDepth 100000 in
theorem penDigest_any (b : Nat) (bad : Bool) (v : Value) (l : List UInt8) (bk o c : Nat) (ds : List (List UInt8)) (w : World) (h : Bld w b [.bool bad] 149 v l) (hw : Wide ds) (hn : ds.length ≤ 1000) (hl : l.length ≤ 1000000)
    (hb1 : bk ≠ b) (hb2 : v.ownBlock ≠ some bk) (hlt : bk < w.heap.size) (hc : ∀ j u, (digCells ds)[j]? = some u → w.cell? ⟨bk, o + j, none⟩ = some u) (hcp : ds.length ≤ c) :
    Calls Try.prog 128 #[.pointer (some ⟨b, 0, none⟩), .slice (some ⟨bk, o, none⟩) ds.length c] w fun e w' => e = .returned (.tuple #[]) ∧ ∃ v', Bld w' b [.bool bad] 149 v' (l ++ ds.flatten) ∧ Wrote w w' b v v' := by
  have HC := Lib.hid hc
  have HW := Lib.hid hw
  obtain ⟨n, en⟩ : ∃ n, n = ds.length := ⟨_, rfl⟩
  have EN := Lib.hid en
  have HLEN : Hid (∀ k, k ≤ n → (ds.take k).flatten.length = 32 * k) := fun k hk => by
    have hk2 : k ≤ ds.length := by omega
    clear hk
    induction k with
    | zero => simp
    | succ k ih =>
      rw [List.take_succ_eq_append_getElem (by omega), List.flatten_append, List.length_append, ih (by omega)]
      simp [hw _ (List.getElem_mem (by omega : k < ds.length))]
      omega
  rw [← en] at hn hcp ⊢
  have hcI : (n : Int) ≤ c := by omega
  have hnI : (n : Int) ≤ 1000 := by omega
  have hbw := h.lt
  clear hc hw en
  go_enter Try.func128, Try.ntmps128
  go_wp2_with fail
  go_loopw [8] (fun i wr => ∃ (k : Nat) (v' : Value), k ≤ n ∧ i = .int .i64 k ∧ Bld wr b [.bool bad] 149 v' (l ++ (ds.take k).flatten) ∧ Wrote w wr b v v') (fun i _ => n - (intOf i).toNat)
  case atStart => exact ⟨0, v, by omega, rfl, by simpa using h, Wrote.refl _ _ _⟩
  case round =>
    obtain ⟨k, v', hk, rfl, hb, hwr⟩ := hrel
    by_cases hltk : k < n
    · have k64 : (k : Int) < n := by omega
      have k0 : (0 : Int) ≤ k := by omega
      have hkd : k < ds.length := by rw [← EN.out]; exact hltk
      obtain ⟨d, ed⟩ : ∃ d, d = ds.getD k [] := ⟨_, rfl⟩
      have hgd : ds.getD k [] = ds[k] := by rw [List.getD_eq_getElem?_getD, List.getElem?_eq_getElem hkd]; rfl
      have hd32 : d.length = 32 := by rw [ed, hgd]; exact HW.out _ (List.getElem_mem hkd)
      have HD32 : Hid ((Lib.byteCells d).length = 32) := digLen _ hd32
      have HD1 := Lib.hid (digOne d)
      have HD := Lib.hid hd32
      have HT : Hid (l ++ (ds.take k).flatten ++ d = l ++ (ds.take (k + 1)).flatten) := by
        show _ = _
        rw [List.take_succ_eq_append_getElem hkd, List.flatten_append, ed, hgd, List.append_assoc]
        simp
      have hlen2 : (l ++ (ds.take k).flatten).length + d.length ≤ 140737488355328 := by rw [List.length_append, HLEN.out k (by omega), hd32]; omega
      have HCK : Hid (∀ j u, (Lib.byteCells d)[j]? = some u → wr.cell? ⟨bk, o + k * 32 + j, none⟩ = some u) := fun j u hu => by
        rw [hwr.1.cellAt _ _ hlt (by simp only [List.mem_cons, Option.mem_toList, not_or]; exact ⟨hb1, hb2⟩)]
        rw [ed] at hu
        exact digCells_atM HW.out hkd HC.out j u hu
      have HLN := Lib.hid hlen2
      have hbl := hb.lt
      have HB := Lib.hid hb
      clear ed hgd hlen2 hd32 hb
      go_wp2_with (first
        | ((with_reducible refine wpL_isLoad rfl ?_); refine wpL_load_at rfl 102 _ rfl bk (o + k * 32) rfl (Lib.byteCells d) _ HCK.out Try.underlying102 rfl digInfo HD32.out ?_)
        | ((with_reducible refine wpL_isAlloc rfl ?_); refine wpL_alloc rfl 5 rfl 102 rfl (.agg zeros32.toArray) zeros32 (by kernel_rfl) rfl ?_))
      intro w1 ho1 hs1 hB1
      refine wpL_store rfl 102 _ _ rfl wr.heap.size (Lib.byteCells d).toArray rfl rfl _ _ hB1 digInfo (by simpa using HD32.out) rfl (by simpa using HD1.out) ?_
      intro w2 ho2 hs2 hB2
      have hOl : Only [] wr w2 := ho1.step ho2 (fun i hi => .inr (by simp at hi; omega))
      have hb2' := HB.out.keep hOl
      have PB := Lib.hid (penByte_any b bad v' _ d wr.heap.size 0 32 w2 hb2' HLN.out (by omega) hB2.lt (fun j u hu => hB2.cell (by rw [Nat.zero_add]; simpa using hu)))
      rw [HD.out] at PB
      clear ho1 hs1 hB1 ho2 hs2 hB2 HCK
      go_wp2_with (go_at_call 137; refine PB.out.mono ?_)
      rintro e w3 ⟨rfl, v3, hb3, hw3⟩
      go_wp2_with fail
      go_roundw
      case rel =>
        rw [HT.out] at hb3
        exact ⟨k + 1, v3, by omega, by go_num, hb3, (hwr.post hOl).trans hw3⟩
      case measure => simp [intOf]; omega
    · obtain rfl : k = n := by omega
      have k64 : ¬ (k : Int) < k := by omega
      have HF : Hid ((ds.take k).flatten = ds.flatten) := by show _ = _; rw [EN.out, List.take_length]
      rw [HF.out] at hb
      go_wp2_with fail
      go_end0
      exact ⟨rfl, v', hb, hwr⟩

end Go.Proofs.Ytmogkiacakkmbaa
