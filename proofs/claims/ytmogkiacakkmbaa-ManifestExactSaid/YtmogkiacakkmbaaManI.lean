/- Eyes: sums read. -/
import Derived.Test.YtmogkiacakkmbaaManH
import Derived.Test.YtmogkiacakkmbaaPenR
import Derived.Lib.BufferWrite
namespace Go.Proofs.Ytmogkiacakkmbaa
open Go.RowKit

section
variable {P : Program} {w : World} {ops : Array Oper} {rest : List Oper} {o : Oper} {a : Act} {Q : Exit → Act → World → Prop}
variable {w0 : World} {S : List Nat} {L : List Ent}
/-- A text copied over a whole row. -/
theorem wpL_copyS (hst : St w0 S w L) (hgd : o.guard = none) (d s : Operand) (dT sT : TypeId) (ho : o.op = .call { callee := .builtin .copy, args := #[d, s], argTypes := #[dT, sT] }) (i : Nat) {b n cp : Nat} {cs : List Value} {t e : TypeId} (hL : L[i]? = some ⟨b, cs, t, true⟩)
    (hd : a.eval d = .slice (some ⟨b, 0, none⟩) n cp) {str : ByteArray} (hs : a.eval s = .string str) (hu : P.underlying dT = some (.slice e)) (hz : (P.info? e).map (·.size) = some 1) (hn : str.size = n) (hcs : cs.length = n)
    (h : ∀ w1, St w0 S w1 (L.set i ⟨b, Lib.byteCells (bl str), t, true⟩) → wpList P ops Q rest (a.put o.dst (goInt n)) w1) : wpList P ops Q (o :: rest) a w := by
  have hb := hst.blk i hL
  have hr := Lib.run_copy_row_string (P := P) w dT sT o.type e b 0 n cp str cs.toArray t hu hz hb (by omega) (by simp; omega)
  have hl : (bl str).length = n := by rw [bl_length, hn]
  have hrow : (cs.toArray.toList.take 0 ++ Lib.byteCells str.data.toList ++ cs.toArray.toList.drop (0 + str.size)).toArray = (Lib.byteCells (bl str)).toArray := by
    rw [List.take_zero, List.nil_append, List.drop_eq_nil_of_le (by simp; omega), List.append_nil]
    rfl
  rw [hrow, hn] at hr
  refine wpList_plain hgd fun K hK => ?_
  unfold Oper.wp execOp
  simp only [ho, resolve, invoke, builtin, Sem.run_bind, Sem.run_pure, Result.andThen_ok, List.map_toArray, List.map_cons, List.map_nil, hs, hd, hr]
  refine hK _ _ (h _ (hst.chg i hL ?_ ?_))
  · exact ⟨rfl, rfl, rfl, by simp, fun k hk hn => setRow_other w b k _ (by simpa using hn)⟩
  · unfold Blk
    rw [setRow_heap w b cs.toArray _ t (0, 0) hb]
theorem wpL_isCopy {d s : Operand} {dT sT : TypeId} (_h : o.op = .call { callee := .builtin .copy, args := #[d, s], argTypes := #[dT, sT] }) (h : wpList P ops Q (o :: rest) a w) : wpList P ops Q (o :: rest) a w := h
end

set_option maxRecDepth 100000 in
set_option maxHeartbeats 4000000 in
theorem eyeDigest_yes (b : Nat) (s : ByteArray) (w : World) (h : Blk w b [.string s, .bool false] 190) (hn : 32 ≤ s.size) :
    Calls Try.prog 154 #[.pointer (some ⟨b, 0, none⟩)] w fun e w' => e = .returned (.agg (Lib.byteCells (bl (s.extract 0 32))).toArray) ∧ Blk w' b [.string (s.extract 32 s.size), .bool false] 190 ∧ Only [b] w w' := by
  have hst := St.withOwn (S := [b]) h (by simp)
  have TK : Hid (∀ w, Blk w b [.string s, .bool false] 190 → Calls Try.prog 134 #[.pointer (some ⟨b, 0, none⟩), .int .i64 32] w fun e w' => e = .returned (.tuple #[.string (s.extract 0 32), .bool true]) ∧ Blk w' b [.string (s.extract 32 s.size), .bool false] 190 ∧ Only [b] w w') := fun w hb => penTake_yes b s 32 w hb hn
  have hsz : (s.extract 0 32).size = 32 := by rw [← bl_length, bl_extract, List.length_drop, List.length_take, bl_length]; omega
  obtain ⟨x, ex⟩ : ∃ x, x = s.extract 0 32 := ⟨_, rfl⟩
  rw [← ex] at hsz TK ⊢
  have HX := Lib.hid hsz
  have HXL : Hid ((Lib.byteCells (bl x)).length = 32) := digLen _ (by rw [bl_length, hsz])
  have HX0 : Hid (((Lib.byteCells (bl x)).drop 0).take 32 = Lib.byteCells (bl x)) := List.take_of_length_le (by simpa using Nat.le_of_eq HXL.out)
  have HX1 := Lib.hid (digOne (bl x))
  have HXZ : Hid ((Lib.byteCells (bl x)).length = zeros32.length) := by show _ = _; rw [HXL.out]; rfl
  obtain ⟨R, eR⟩ : ∃ R, R = Lib.byteCells (bl x) := ⟨_, rfl⟩
  rw [← eR] at HXL HX0 HX1 HXZ ⊢
  have ER := Lib.hid eR
  generalize s.extract 32 s.size = y at *
  clear h hn hsz ex eR
  go_enter Try.func154, Try.ntmps154
  go_wp2_with (first
    | ((with_reducible refine wpL_isAlloc rfl ?_); refine wpL_allocS hst rfl 102 rfl (.agg zeros32.toArray) zeros32 (by kernel_rfl) rfl _ rfl ?_; clear hst; intro w1 b1 hb1 hst)
    | ((with_reducible refine wpL_isLoad rfl ?_); refine wpL_loadAtS hst rfl (ty := 102) rfl 0 rfl rfl (by kernel_rfl) 32 (by kernel_rfl) _ HX0.out HXL.out ?_)
    | (go_at_call 134; refine (TK.out _ (hst.blk 2 rfl)).mono ?_; rintro e1 w1 ⟨rfl, hB, ho⟩; replace hst := hst.chg 2 rfl ho hB; simp only [List.set] at hst; clear ho hB)
    | ((with_reducible refine wpL_isCopy rfl ?_); refine wpL_copyS hst rfl _ _ _ _ rfl 0 rfl rfl rfl Try.underlying56 byteSize HX.out rfl ?_; clear hst; intro w1 hst; simp only [List.set] at hst; rw [← ER.out] at hst)
    | ((with_reducible refine wpL_isStore rfl ?_); refine wpL_storeS hst rfl (ty := 102) rfl 1 rfl rfl (D := R) rfl (by kernel_rfl) (by kernel_rfl) HXZ.out HX1.out ?_; clear hst; intro w1 hst; simp only [List.set] at hst))
  refine end_row Try.results154 rfl (hst.blk 1 rfl) Try.underlying102 rfl digInfo HXL.out rfl ⟨rfl, hst.blk 2 rfl, hst.only⟩

end Go.Proofs.Ytmogkiacakkmbaa
