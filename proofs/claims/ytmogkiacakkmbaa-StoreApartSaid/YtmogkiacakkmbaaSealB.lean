/- Seals: a text's sectors. -/
import Derived.Test.YtmogkiacakkmbaaMix
import Derived.Test.YtmogkiacakkmbaaPenT
import Derived.Test.YtmogkiacakkmbaaDskA
import Derived.Test.YtmogkiacakkmbaaSealA
namespace Go.Proofs.Ytmogkiacakkmbaa
open Go.RowKit

/-- A row of one's own, made by appending. -/
def rowR (V : Value) (e : TypeId) (size n : Nat) (xs : List Value) : Rsc := ⟨true, V.ownBlock.toList, fun w => w.ownsRow 0 e size V n xs, fun h ho hn => ownsRow_only h ho (fun k hk => hn k (by simp [hk])), fun h b hb => owns_lt0 h b hb⟩
section
variable {w0 : World} {S : List Nat} {w : World} {L : List Ent} {R : List Rsc}
/-- A row of nothing. -/
theorem Sd.row (h : Sd w0 S w L R) (e : TypeId) (size : Nat) : Sd w0 S w L (rowR (.slice none 0 0) e size 0 [] :: R) :=
  h.add (Only.refl _ _) (r := rowR (.slice none 0 0) e size 0 []) (World.ownsRow_nil _ _ _ _) (by intro b hb; simp [rowR, Value.ownBlock] at hb)
variable {P : Program} {ops : Array Oper} {rest : List Oper} {o : Oper} {a : Act} {Q : Exit → Act → World → Prop}
/-- Append of what lies in a block onto a row of one's own. -/
theorem wpL_appendD (hst : Sd w0 S w L R) (hgd : o.guard = none) (s x : Operand) (t : TypeId) (ho : o.op = .call { callee := .builtin .append, args := #[s, x], argTypes := #[t, t] }) (i k : Nat)
    (e : TypeId) {z : Value} {size bytes : Nat} (ht : P.underlying t = some (.slice e)) (hinfo : (P.info? e).map (fun i => (i.zero, i.size, i.bytes)) = some (some z, size, bytes)) (hzs : z.cells.size = size) (hsz : 0 < size)
    (V : Value) (n : Nat) (xs : List Value) (hR : R[i]? = some (rowR V e size n xs)) (hs : a.eval s = V)
    (g m c : Nat) (news : List Value) {ty : TypeId} {own : Bool} (hL : L[k]? = some ⟨g, news, ty, own⟩) (hx : a.eval x = .slice (some ⟨g, 0, none⟩) m c) (hl : news.length = m * size) (h1 : ∀ u ∈ news, u.oneCell' = true)
    (h63 : n + m ≤ 1000000000) (hbytes : bytes ≤ 100000)
    (h : ∀ ad cp w', Sd w0 S w' L (R.set i (rowR (.slice ad (n + m) cp) e size (n + m) (xs ++ news))) → wpList P ops Q rest (a.put o.dst (.slice ad (n + m) cp)) w') : wpList P ops Q (o :: rest) a w := by
  have hb := hst.blk k hL
  have hm : (n + m) * bytes ≤ 1000000000 * 100000 := Nat.mul_le_mul h63 hbytes
  refine wpL_append hgd s x t ho 0 e ht hinfo hzs hsz V n xs hs (hst.rs i hR) ⟨g, 0, none⟩ m c news hx hl (fun j u hu => by rw [addr_addD, Nat.zero_add]; exact hb.cell hu) h1 (by unfold maxLen; omega) (by omega) (Nat.zero_le _) ?_
  intro V' w' hown hg hv _
  obtain ⟨ad, cp, rfl⟩ : ∃ ad cp, V' = .slice ad (n + m) cp := by
    rcases hown.2 with ⟨rfl, h0⟩ | ⟨g, cap, cur, rfl, _⟩
    · exact ⟨_, _, by rw [h0]⟩
    · exact ⟨_, _, rfl⟩
  refine h ad cp w' (hst.act i hR (rowR (.slice ad (n + m) cp) e size (n + m) (xs ++ news)) rfl ⟨Only.of_grown hg, fun b hb => ?_⟩ hown)
  rcases hv with e1 | e1
  · left
    simp only [rowR] at hb ⊢
    rw [← e1]
    exact hb
  · right
    simp only [rowR, e1, Option.toList_some, List.mem_singleton] at hb
    omega
end
end Go.Proofs.Ytmogkiacakkmbaa

namespace Go.Proofs.Ytmogkiacakkmbaa
open Go.RowKit

theorem wpL_isAppT {P : Program} {w : World} {ops : Array Oper} {rest : List Oper} {o : Oper} {a : Act} {Q : Exit → Act → World → Prop} {s x : Operand} {t u : TypeId} (_h : o.op = .call { callee := .builtin .append, args := #[s, x], argTypes := #[t, u] }) (h : wpList P ops Q (o :: rest) a w) : wpList P ops Q (o :: rest) a w := h
def isNum (n : Int) : Bool := decide (1 ≤ n) && decide (n ≤ 2147483647)
set_option maxRecDepth 100000 in
set_option maxHeartbeats 2000000 in
theorem isNumber_any (n : Int) (w : World) : Calls Try.prog 89 #[.int .i64 n] w fun e w' => e = .returned (.bool (isNum n)) ∧ w = w' := by
  unfold isNum
  by_cases c1 : 1 ≤ n
  · rw [decide_eq_true c1]
    obtain ⟨β, eβ⟩ : ∃ β, decide (n ≤ 2147483647) = β := ⟨_, rfl⟩
    rw [eβ]
    have HB := Lib.hid eβ
    clear eβ
    go_enter Try.func89, Try.ntmps89
    go_wp2_with (first
      | ((with_reducible refine wpL_peel rfl ?_ ?_); focus (go_simp; done))
      | ((with_reducible refine wpL_isBin rfl ?_); refine wpL_leqB rfl rfl rfl rfl β HB.out ?_))
    go_ret
    exact ⟨rfl, rfl⟩
  · rw [decide_eq_false c1]
    go_enter Try.func89, Try.ntmps89
    go_wp2_with fail
    go_ret
    exact ⟨rfl, rfl⟩
/-- Whether a text can be sealed with a number. -/
def canLay (n : Int) (s : ByteArray) : Bool := isNum n && decide (s.size ≤ 1024)
theorem isNum_told {n : Int} (h : isNum n = true) : told n = true := by
  unfold isNum at h
  simp at h
  unfold told
  simp
  omega

set_option maxRecDepth 100000 in
set_option maxHeartbeats 2000000 in
theorem sealLay_no (n : Int) (s : ByteArray) (w : World) (h : canLay n s = false) : Calls Try.prog 22 #[.int .i64 n, .string s] w fun e w' => e = .returned (.tuple #[.slice none 0 0, .int .i64 1]) ∧ Only [] w w' := by
  have hst := Sd.start w []
  have IN : Hid (∀ w, Calls Try.prog 89 #[.int .i64 n] w fun e w' => e = .returned (.bool (isNum n)) ∧ w = w') := fun w => isNumber_any n w
  unfold canLay at h
  cases hn : isNum n
  · rw [hn] at IN
    go_enter Try.func22, Try.ntmps22
    go_wp2_with (first | (go_at_call 89; (with_reducible refine (IN.out _).mono ?_); rintro e1 w1 ⟨rfl, rfl⟩))
    go_ret2
    exact ⟨rfl, hst.only⟩
  · rw [hn] at IN h
    have h2 : 1024 < (s.size : Int) := by simp at h; omega
    clear h
    go_enter Try.func22, Try.ntmps22
    go_wp2_with (first | (go_at_call 89; (with_reducible refine (IN.out _).mono ?_); rintro e1 w1 ⟨rfl, rfl⟩))
    go_ret2
    exact ⟨rfl, hst.only⟩

def restS (s : ByteArray) (j : Nat) : ByteArray := ⟨((sealB s).drop (28 * j)).toArray⟩
theorem restS_size (s : ByteArray) (j : Nat) : (restS s j).size = secsOf s.size * 28 - 28 * j := by
  rw [← bl_length]
  unfold restS
  rw [bl_mk, List.length_drop, sealB_length]
theorem restS_next (s : ByteArray) (j : Nat) : (restS s j).extract 28 (restS s j).size = restS s (j + 1) := by
  apply bl_ext
  rw [bl_extract, List.take_of_length_le (by rw [bl_length]; exact Nat.le_refl _)]
  unfold restS
  rw [bl_mk, bl_mk, List.drop_drop, show 28 * j + 28 = 28 * (j + 1) by omega]
theorem restS_head (n : Int) (s : ByteArray) (j : Nat) : (restS s j).extract 0 28 ++ ⟨(num4 n).toArray⟩ = laySec n s j := by
  apply bl_ext
  have : bl ((restS s j).extract 0 28 ++ ⟨(num4 n).toArray⟩) = bl ((restS s j).extract 0 28) ++ num4 n := by simp [bl, ByteArray.data_append]
  rw [this, bl_extract]
  unfold restS laySec
  rw [bl_mk, bl_mk, List.drop_zero]

set_option maxRecDepth 100000 in
set_option maxHeartbeats 8000000 in
theorem sealLay_yes (n : Int) (s : ByteArray) (w : World) (h : canLay n s = true) : Calls Try.prog 22 #[.int .i64 n, .string s] w fun e w' => ∃ ad cp, e = .returned (.tuple #[.slice ad (secsOf s.size) cp, .int .i64 0]) ∧ w'.ownsRow 0 9 1 (.slice ad (secsOf s.size) cp) (secsOf s.size) (scells (layS n s (secsOf s.size))) ∧ (∀ b ∈ (Value.slice ad (secsOf s.size) cp).ownBlock.toList, w.heap.size ≤ b) ∧ Only [] w w' := by
  unfold canLay at h
  simp only [Bool.and_eq_true, decide_eq_true_eq] at h
  obtain ⟨hn, hs⟩ := h
  have hst := Sd.start w []
  have IN : Hid (∀ w, Calls Try.prog 89 #[.int .i64 n] w fun e w' => e = .returned (.bool true) ∧ w = w') := fun w => by have := isNumber_any n w; rw [hn] at this; exact this
  have htold := isNum_told hn
  have h2 : (s.size : Int) ≤ 1024 := by omega
  obtain ⟨K, eK⟩ : ∃ K, K = secsOf s.size := ⟨_, rfl⟩
  have hge := secsOf_ge s.size
  have hle := secsOf_le s.size
  have hK : K ≤ 100 := by omega
  obtain ⟨N4, e4⟩ : ∃ N4, N4 = num4 n := ⟨_, rfl⟩
  have NN : Hid (∀ b F g w, PenAt w b false [] F → Blk w g [.int .i64 n] 3 → g ∉ F → Calls Try.prog 90 #[.pointer (some ⟨b, 0, none⟩), .slice (some ⟨g, 0, none⟩) 1 1] w fun e w' => ∃ F', e = .returned (.tuple #[]) ∧ PenAt w' b false N4 F' ∧ Turn F F' w w') := fun b F g w h1 h2 h3 => by
    have := penNumT b false [] F g n w h1 h2 h3 (by simp)
    rw [htold] at this
    rw [e4]
    simpa using this
  have BS : Hid (∀ b F w, PenFr w b false N4 F → Calls Try.prog 91 #[.pointer (some ⟨b, 0, none⟩)] w fun e w' => e = .returned (.string ⟨N4.toArray⟩) ∧ PenFr w' b false N4 F ∧ Turn F F w w') := fun b F w h => penBytesT b false N4 F w h
  have SB : Hid (∀ w, Calls Try.prog 88 #[.string s] w fun e w' => e = .returned (.string (restS s 0)) ∧ Only [] w w') := fun w => sealBytes_any s w hs
  have HRN := Lib.hid (restS_next s)
  have HRH := Lib.hid (restS_head n s)
  have HLS := Lib.hid (layS_succ n s)
  rw [← e4] at HRH
  have hszs : ∀ j, (restS s j).size = K * 28 - 28 * j := fun j => by rw [eK]; exact restS_size s j
  have HSZ := Lib.hid hszs
  rw [← eK]
  clear hn htold e4 hszs hge hle hs eK
  go_enter Try.func22, Try.ntmps22
  go_wp2_with (first
    | (go_at_call 89; (with_reducible refine (IN.out _).mono ?_); rintro e1 w1 ⟨rfl, rfl⟩)
    | ((with_reducible refine wpL_isAlloc rfl ?_); refine wpL_allocPen hst rfl rfl (by kernel_rfl) 6 rfl ?_; clear hst; intro w1 b hb hst)
    | ((with_reducible refine wpL_isSliceT rfl ?_); refine wpL_sliceD hst rfl 63 1 _ rfl Try.underlying63 intInfoT (by decide) (by decide) [.int .i64 n] rfl rfl (by simp [Value.cells]) ?_; clear hst; intro w1 g hg hst)
    | (go_at_call 90; (with_reducible refine (NN.out _ _ _ _ (hst.rs 0 rfl) (hst.blk 0 rfl) (hst.away 0 0 rfl rfl)).mono ?_); rintro e1 w1 ⟨F1, rfl, hd1, ht1⟩; replace hst := hst.act 0 rfl (penF b false N4 F1) rfl ht1 hd1.fr; simp only [List.set] at hst; clear ht1 hd1)
    | (go_at_call 88; (with_reducible refine (SB.out _).mono ?_); rintro e1 w1 ⟨rfl, ho1⟩; replace hst := hst.keep ho1; clear ho1))
  have hst0 := (hst.dropN 1).row 9 1
  simp only [List.drop_succ_cons, List.drop_zero] at hst0
  clear hst
  go_loopw [7, 8] (fun v t wr => ∃ (j : Nat) (ad : Option Addr) (cp : Nat), j ≤ K ∧ v = .slice ad j cp ∧ t = .string (restS s j) ∧ Sd w [] wr [] [rowR (.slice ad j cp) 9 1 j (scells (layS n s j)), penF b false N4 F1])
    (fun _ t _ => match t with | .string t => t.size | _ => 0)
  case atStart => exact ⟨0, none, 0, by omega, rfl, rfl, hst0⟩
  case round =>
    obtain ⟨j, ad, cp, hj, rfl, rfl, hst⟩ := hrel
    have hsz := HSZ.out j
    by_cases hlt : j < K
    · have hne : (restS s j).toList.isEmpty = false := str_ne (by omega)
      have h28 : (28 : Int) ≤ ((restS s j).size : Int) := by omega
      have HH := Lib.hid (HRH.out j)
      have HSS : Hid (scells (layS n s (j + 1)) = scells (layS n s j) ++ [.string (laySec n s j)]) := by show _ = _; rw [HLS.out]; simp [scells]
      have HE : Hid (((restS s j).extract 0 28).size + (⟨N4.toArray⟩ : ByteArray).size ≤ 9223372036854775807) := by
        have h1 : (laySec n s j).size = ((restS s j).extract 0 28).size + (⟨N4.toArray⟩ : ByteArray).size := by rw [← HH.out]; exact ByteArray.size_append
        show _ ≤ _
        rw [← h1, ← bl_length]
        unfold laySec
        rw [bl_mk]
        simp [num4_length]
        omega
      go_wp2_with fail
      replace hst := hst.drew
      refine wp_region_text (by kernel_rfl) (by kernel_rfl) ?_
      generalize World.drew _ = W at *
      go_wp2_with (first
        | (go_at_call 91; (with_reducible refine (BS.out _ _ _ (hst.rs 1 rfl)).mono ?_); rintro e1 w2 ⟨rfl, hd3, ht3⟩; replace hst := hst.act 1 rfl (penF b false N4 F1) rfl ht3 hd3; simp only [List.set] at hst; clear ht3 hd3)
        | ((with_reducible refine wpL_isBin rfl ?_); refine wpL_catS rfl rfl _ _ _ rfl rfl HH.out HE.out ?_)
        | ((with_reducible refine wpL_isSliceT rfl ?_); refine wpL_sliceD hst rfl 40 1 _ rfl Try.underlying40 strInfoT (by decide) (by decide) [.string (laySec n s j)] rfl rfl (by simp [Value.cells]) ?_; clear hst; intro w3 g3 hg3 hst)
        | ((with_reducible refine wpL_isAppT rfl ?_); refine wpL_appendD hst rfl _ _ 40 rfl 0 0 9 Try.underlying40 strInfoT rfl (by decide) (.slice ad j cp) j (scells (layS n s j)) rfl rfl g3 1 1 [.string (laySec n s j)] rfl rfl rfl (by simp [Value.oneCell']) (by omega) (by decide) ?_; clear hst; intro ad2 cp2 w4 hst; simp only [List.set] at hst; rw [← HSS.out] at hst))
      refine TextQ.mk ?_ rfl
      go_wp2_with fail
      go_roundw
      case rel => exact ⟨j + 1, ad2, cp2, by omega, rfl, by rw [← HRN.out, hsz], hst.dropN 1⟩
      case measure =>
        simp
        omega
    · obtain rfl : j = K := by omega
      have hne : (restS s j).toList.isEmpty = true := by
        have : restS s j = ⟨#[]⟩ := by
          apply bl_ext
          apply List.eq_nil_of_length_eq_zero
          rw [bl_length, hsz]
          omega
        rw [this, ← decide_eq_emptyBytes]
        exact decide_eq_true rfl
      go_wp2_with fail
      go_ret2
      have hown := hst.rs 0 rfl
      have hres := (hst.res _ (List.mem_of_getElem? (show _ = some _ from rfl : [rowR (.slice ad j cp) 9 1 j (scells (layS n s j)), penF b false N4 F1][0]? = _))).2 rfl
      refine ⟨ad, cp, rfl, hown, fun x hx => ?_, hst.only⟩
      rcases hres x hx with h | h
      · cases h
      · exact h
end Go.Proofs.Ytmogkiacakkmbaa
