/- Manifests: the law of raw ones, walked. -/
import Derived.Test.YtmogkiacakkmbaaMrI
import Derived.Test.YtmogkiacakkmbaaMrC
namespace Go.Proofs.Ytmogkiacakkmbaa
open Go.RowKit

/-- Blocks that lie there. -/
def Has (E : List Ent) (w : World) : Prop := ∀ x ∈ E, Blk w x.b x.cs x.ty
theorem St.hasN {w0 : World} {S : List Nat} {w : World} {L : List Ent} (h : St w0 S w L) (j : Nat) {E : List Ent} (hE : L.drop j = E) : Has E w := fun x hx => (h.each x (List.mem_of_mem_drop (hE ▸ hx))).1
/-- New blocks, behind those that are known. -/
theorem St.bottom {w0 : World} {S : List Nat} {w w' : World} {L : List Ent} (h : St w0 S w L) (ho : Only [] w w') {E : List Ent} (hE : ∀ x ∈ E, Blk w' x.b x.cs x.ty ∧ w.heap.size ≤ x.b) (hp : E.Pairwise (fun x y => x.b ≠ y.b)) : St w0 S w' (L ++ E) := by
  have k := h.keep ho
  refine ⟨k.only, fun x hx => ?_, List.pairwise_append.2 ⟨h.apart, hp, fun x hx y hy => ?_⟩⟩
  · rcases List.mem_append.1 hx with hx | hx
    · exact k.each x hx
    · exact ⟨(hE x hx).1, fun _ => .inr (Nat.le_trans h.only.size (hE x hx).2)⟩
  · have := h.lt hx
    have := (hE y hy).2
    omega

theorem form_has (b v z k : Int) (ad : Option Addr) (n cp : Nat) (ds : List (List UInt8)) (r : List UInt8) (w : World) (hr : r.length = 32) (hw : Wide ds) (hn : ds.length = n) (hn1 : n ≤ 1000) (hD : ds ≠ [] → Digs w (.slice ad n cp) ds) :
    Calls Try.prog 60 #[.agg (Value.int .i64 b :: .int .i64 v :: .int .i64 z :: .int .i64 k :: .slice ad n cp :: Lib.byteCells r).toArray] w fun e w' => ∃ ad2 cp2 E, e = .returned (.agg (Value.int .i64 b :: .int .i64 v :: .int .i64 z :: .int .i64 k :: .slice ad2 n cp2 :: Lib.byteCells r).toArray) ∧ Only [] w w' ∧
      (∀ x ∈ E, Blk w' x.b x.cs x.ty ∧ w.heap.size ≤ x.b) ∧ E.Pairwise (fun x y => x.b ≠ y.b) ∧ Hid (∀ w3, Has E w3 → ds ≠ [] → Digs w3 (.slice ad2 n cp2) ds) := by
  refine (manForm_any b v z k ad n cp ds r w hr hw hn hn1 hD).mono ?_
  rintro e w' ⟨V, rfl, ho, hon⟩
  by_cases h0 : n = 0
  · obtain ⟨ad2, cp2, rfl⟩ := owns_slice ho
    exact ⟨ad2, cp2, [], rfl, hon, by simp, .nil, fun w3 _ hne => absurd (List.eq_nil_of_length_eq_zero (by omega)) hne⟩
  · obtain ⟨g, cap, rest, rfl, hcap, hg, hb⟩ := ownsRow_blk ho h0
    refine ⟨some ⟨g, 0, none⟩, cap, [⟨g, digCells ds ++ rest, 101, false⟩], rfl, hon, fun x hx => ?_, List.pairwise_singleton _ _, fun w3 h3 _ => ?_⟩
    · simp only [List.mem_singleton] at hx
      subst hx
      exact ⟨hb, hg⟩
    · have hb3 := h3 _ (List.mem_singleton.2 rfl)
      exact ⟨g, 0, cap, by rw [hn], by omega, hb3.lt, fun i u hu => hb3.cell (by rw [Nat.zero_add, List.getElem?_append_left (List.getElem?_eq_some_iff.1 hu).1]; exact hu)⟩

set_option maxRecDepth 100000 in
set_option maxHeartbeats 32000000 in
theorem exactLaw_near (b v z k : Int) (ad : Option Addr) (n cp : Nat) (r : List UInt8) (ds : List (List UInt8)) (a : Int) (s t : ByteArray) (w : World) (hr : r.length = 32) (hw : Wide ds) (hn : ds.length = n) (hD : ds ≠ [] → Digs w (.slice ad n cp) ds)
    (d1 : ¬ 70 < (n : Int)) (d2 : ¬ 8192 < (s.size : Int)) (d3 : ¬ 512 < (t.size : Int)) :
    Calls Try.prog 12 #[.agg (Value.int .i64 b :: .int .i64 v :: .int .i64 z :: .int .i64 k :: .slice ad n cp :: Lib.byteCells r).toArray, .int .i64 a, .string s, .string t] w fun e w' => e = .returned (.bool true) ∧ Only [] w w' := by
  have hn1 : n ≤ 1000 := by omega
  have hcb := cnt_bounds' b v z k n
  have AW := Lib.hid awake20_any
  have hRL := digLen r hr
  have HR1 := Lib.hid (digOne r)
  have HSZ : Hid (s.size ≤ 1000000) := by show _ ≤ _; omega
  have HTZ : Hid (t.size ≤ 1000000) := by show _ ≤ _; omega
  have D1 : Hid (∀ w', Only [] w w' → ds ≠ [] → Digs w' (.slice ad n cp) ds) := fun w' ho hne => (hD hne).keep ho
  have HWD := Lib.hid hw
  have HNN := Lib.hid hn
  have HN1 := Lib.hid hn1
  have HRR := Lib.hid hr
  have HRL' : Hid ((Lib.byteCells r).length = 32) := hRL
  have FM : Hid (∀ w1, Only [] w w1 → Calls Try.prog 60 #[.agg (Value.int .i64 b :: .int .i64 v :: .int .i64 z :: .int .i64 k :: .slice ad n cp :: Lib.byteCells r).toArray] w1 fun e w' => ∃ ad2 cp2 E, e = .returned (.agg (Value.int .i64 b :: .int .i64 v :: .int .i64 z :: .int .i64 k :: .slice ad2 n cp2 :: Lib.byteCells r).toArray) ∧ Only [] w1 w' ∧
      (∀ x ∈ E, Blk w' x.b x.cs x.ty ∧ w1.heap.size ≤ x.b) ∧ E.Pairwise (fun x y => x.b ≠ y.b) ∧ Hid (∀ w3, Has E w3 → ds ≠ [] → Digs w3 (.slice ad2 n cp2) ds)) := fun w1 h1 => form_has b v z k ad n cp ds r w1 hr hw hn hn1 (D1.out w1 h1)
  obtain ⟨c, ec⟩ : ∃ c, c = cnt b v z k n := ⟨_, rfl⟩
  rw [← ec] at hcb
  obtain ⟨l, el⟩ : ∃ l, l = lenM b v z k n a := ⟨_, rfl⟩
  obtain ⟨pt, ept⟩ : ∃ pt, pt = partM b v z k n a s := ⟨_, rfl⟩
  obtain ⟨ck, eck⟩ : ∃ ck, ck = checkM b v z k n ds a t := ⟨_, rfl⟩
  obtain ⟨tr, etr⟩ : ∃ tr, tr = Sha.tree ds := ⟨_, rfl⟩
  have HTR : Hid (tr.length = 32) := by rw [etr]; exact tree_wide _ ds (Nat.le_refl _) hw
  obtain ⟨β, eβ⟩ : ∃ β, decide (0 < c) = β := ⟨_, rfl⟩
  have HB := Lib.hid eβ
  have GD : Hid (∀ w, Calls Try.prog 62 #[.agg (Value.int .i64 b :: .int .i64 v :: .int .i64 z :: .int .i64 k :: .slice ad n cp :: Lib.byteCells r).toArray] w fun e w' => e = .returned (.bool β) ∧ Only [] w w') := fun w => by rw [← eβ, ec]; exact manGood_any b v z k ad n cp _ hRL w
  have RC0 : Hid (∀ ad2 cp2 w, Calls Try.prog 61 #[.agg (Value.int .i64 b :: .int .i64 v :: .int .i64 z :: .int .i64 k :: .slice ad2 n cp2 :: Lib.byteCells r).toArray] w fun e w' => e = .returned (.int .i64 c) ∧ Only [] w w') := fun ad2 cp2 w => by rw [ec]; exact rmanCount_any b v z k ad2 n cp2 _ hRL w
  have MC : Hid (∀ w, Calls Try.prog 63 #[.agg (Value.int .i64 b :: .int .i64 v :: .int .i64 z :: .int .i64 k :: .slice ad n cp :: Lib.byteCells r).toArray] w fun e w' => e = .returned (.int .i64 c) ∧ Only [] w w') := fun w => by rw [ec]; exact manCount_any b v z k ad n cp _ hRL w
  have LE : Hid (∀ w, Calls Try.prog 64 #[.agg (Value.int .i64 b :: .int .i64 v :: .int .i64 z :: .int .i64 k :: .slice ad n cp :: Lib.byteCells r).toArray, .int .i64 a] w fun e w' => e = .returned (.int .i64 l) ∧ Only [] w w') := fun w => by rw [el]; exact manLength_any b v z k ad n cp _ hRL a w
  have RLE : Hid (∀ ad2 cp2 w, Calls Try.prog 65 #[.agg (Value.int .i64 b :: .int .i64 v :: .int .i64 z :: .int .i64 k :: .slice ad2 n cp2 :: Lib.byteCells r).toArray, .int .i64 a] w fun e w' => e = .returned (.int .i64 l) ∧ Only [] w w') := fun ad2 cp2 w => by rw [el]; exact rmanLength_any b v z k ad2 n cp2 _ hRL a w
  have PA : Hid (∀ w, Calls Try.prog 66 #[.agg (Value.int .i64 b :: .int .i64 v :: .int .i64 z :: .int .i64 k :: .slice ad n cp :: Lib.byteCells r).toArray, .int .i64 a, .string s] w fun e w' => e = .returned (.string pt) ∧ Only [] w w') := fun w => by rw [ept]; exact manPart_any b v z k ad n cp _ hRL a s w
  have RPA : Hid (∀ ad2 cp2 w, Calls Try.prog 67 #[.agg (Value.int .i64 b :: .int .i64 v :: .int .i64 z :: .int .i64 k :: .slice ad2 n cp2 :: Lib.byteCells r).toArray, .int .i64 a, .string s] w fun e w' => e = .returned (.string pt) ∧ Only [] w w') := fun ad2 cp2 w => by rw [ept]; exact rmanPart_any b v z k ad2 n cp2 _ hRL a s w
  have CK : Hid (∀ w', Only [] w w' → Calls Try.prog 68 #[.agg (Value.int .i64 b :: .int .i64 v :: .int .i64 z :: .int .i64 k :: .slice ad n cp :: Lib.byteCells r).toArray, .int .i64 a, .string t] w' fun e w'' => e = .returned (.int .i64 ck) ∧ Only [] w' w'') := fun w' ho => by rw [eck]; exact manCheck_any b v z k ad n cp _ ds hRL a t w' HTZ.out hw hn hn1 (D1.out w' ho)
  have RCK : Hid (∀ ad2 cp2 w', (ds ≠ [] → Digs w' (.slice ad2 n cp2) ds) → Calls Try.prog 69 #[.agg (Value.int .i64 b :: .int .i64 v :: .int .i64 z :: .int .i64 k :: .slice ad2 n cp2 :: Lib.byteCells r).toArray, .int .i64 a, .string t] w' fun e w'' => e = .returned (.int .i64 ck) ∧ Only [] w' w'') := fun ad2 cp2 w' hd => by rw [eck]; exact rmanCheck_any b v z k ad2 n cp2 _ ds hRL a t w' HTZ.out hw hn hn1 hd
  have RT : Hid (∀ w', Only [] w w' → Calls Try.prog 70 #[.agg (Value.int .i64 b :: .int .i64 v :: .int .i64 z :: .int .i64 k :: .slice ad n cp :: Lib.byteCells r).toArray] w' fun e w'' => e = .returned (.agg (Lib.byteCells tr).toArray) ∧ Only [] w' w'') := fun w' ho => by rw [etr]; exact manRoot_all b v z k ad n cp _ ds w' hw hn hn1 (D1.out w' ho)
  have TR : Hid (∀ ad2 cp2 w', (ds ≠ [] → Digs w' (.slice ad2 n cp2) ds) → Calls Try.prog 71 #[.slice ad2 n cp2] w' fun e w'' => e = .returned (.agg (Lib.byteCells tr).toArray) ∧ Only [] w' w'') := fun ad2 cp2 w' hd => by rw [etr]; exact refTree_all ad2 n cp2 ds w' hw hn hn1 hd
  have SM : Hid (∀ w', Only [] w w' → Calls Try.prog 72 #[.agg (Value.int .i64 b :: .int .i64 v :: .int .i64 z :: .int .i64 k :: .slice ad n cp :: Lib.byteCells r).toArray, .agg (Value.int .i64 b :: .int .i64 v :: .int .i64 z :: .int .i64 k :: .slice ad n cp :: Lib.byteCells r).toArray] w' fun e w'' => e = .returned (.bool true) ∧ Only [] w' w'') := fun w' ho => manSame_all b v z k ad n cp r ds w' hr hw hn hn1 (D1.out w' ho)
  have BN : ¬ 0 < c → Hid (∀ w, Calls Try.prog 73 #[.agg (Value.int .i64 b :: .int .i64 v :: .int .i64 z :: .int .i64 k :: .slice ad n cp :: Lib.byteCells r).toArray] w fun e w' => e = .returned (.tuple #[.string ⟨#[]⟩, .int .i64 1]) ∧ Only [] w w') := fun h w => manBytes_no b v z k ad n cp _ hRL w (by rw [← ec]; exact h)
  have HNE : Hid (0 < c → ds ≠ []) := fun h e => by
    rw [ec] at h
    have := (cnt_pos h).2.2.1
    rw [e] at hn
    simp at hn
    omega
  obtain ⟨M0, eM⟩ : ∃ M : ByteArray, M = ⟨(manB b v z k ds r).toArray⟩ := ⟨_, rfl⟩
  have BY : 0 < c → Hid (∀ w', Only [] w w' → Calls Try.prog 73 #[.agg (Value.int .i64 b :: .int .i64 v :: .int .i64 z :: .int .i64 k :: .slice ad n cp :: Lib.byteCells r).toArray] w' fun e w'' => e = .returned (.tuple #[.string M0, .int .i64 0]) ∧ Only [] w' w'') := fun h w' ho => by rw [eM]; exact manBytes_all b v z k ad n cp r ds w' hr hw hn (by rw [← ec]; exact h) (D1.out w' ho (HNE.out h))
  have RBY : 0 < c → Hid (∀ ad2 cp2 w', (ds ≠ [] → Digs w' (.slice ad2 n cp2) ds) → Calls Try.prog 74 #[.agg (Value.int .i64 b :: .int .i64 v :: .int .i64 z :: .int .i64 k :: .slice ad2 n cp2 :: Lib.byteCells r).toArray] w' fun e w'' => e = .returned (.string M0) ∧ Only [] w' w'') := fun h ad2 cp2 w' hd => by rw [eM]; exact rmanBytes_all b v z k ad2 n cp2 r ds w' hr hw hn hn1 (HNE.out h) (cnt_pos (by rw [← ec]; exact h)).1 (hd (HNE.out h))
  have MN : ¬ HeadOk b v (s.size : Int) k → Hid (∀ w, Calls Try.prog 75 #[.int .i64 b, .int .i64 v, .int .i64 k, .string s, .agg (Lib.byteCells r).toArray] w fun e w' => e = .returned (.tuple #[.agg mfZ.toArray, .int .i64 1]) ∧ Only [] w w') := fun h w => manMake_no b v k s r w hr h
  have RMN : ¬ HeadOk b v (s.size : Int) k → Hid (∀ w, Calls Try.prog 76 #[.int .i64 b, .int .i64 v, .int .i64 k, .string s, .agg (Lib.byteCells r).toArray] w fun e w' => e = .returned (.tuple #[.agg mfZ.toArray, .bool false]) ∧ Only [] w w') := fun h w => rmanMake_no b v k s r w hr h
  obtain ⟨n2, hn2⟩ : ∃ n2 : Nat, nch b v (s.size : Int) k = (n2 : Int) := ⟨(nch b v (s.size : Int) k).toNat, by have := nch_bounds b v (s.size : Int) k; omega⟩
  have hn2b := nch_bounds b v (s.size : Int) k
  obtain ⟨d2s, ed2⟩ : ∃ d2s, d2s = dsOf b v (s.size : Int) k n2 s n2 := ⟨_, rfl⟩
  have hd2w : Wide d2s := by rw [ed2]; exact dsOf_wide _ _ _ _ _ _ _
  have hd2l : d2s.length = n2 := by rw [ed2]; exact dsOf_length _ _ _ _ _ _ _
  have MY : HeadOk b v (s.size : Int) k → Hid (∀ w, Calls Try.prog 75 #[.int .i64 b, .int .i64 v, .int .i64 k, .string s, .agg (Lib.byteCells r).toArray] w fun e w' => ∃ g, e = .returned (.tuple #[.agg (Value.int .i64 b :: .int .i64 v :: .int .i64 (s.size : Int) :: .int .i64 k :: .slice (some ⟨g, 0, none⟩) n2 n2 :: Lib.byteCells r).toArray, .int .i64 0]) ∧ w.heap.size ≤ g ∧ Blk w' g (digCells d2s) 102 ∧ Only [] w w') := fun h w => by rw [ed2]; exact manMake_yes b v k s r n2 w hr h hn2
  have RMY : HeadOk b v (s.size : Int) k → Hid (∀ w, Calls Try.prog 76 #[.int .i64 b, .int .i64 v, .int .i64 k, .string s, .agg (Lib.byteCells r).toArray] w fun e w' => ∃ g cp3 rest, e = .returned (.tuple #[.agg (Value.int .i64 b :: .int .i64 v :: .int .i64 (s.size : Int) :: .int .i64 k :: .slice (some ⟨g, 0, none⟩) n2 cp3 :: Lib.byteCells r).toArray, .bool true]) ∧ n2 ≤ cp3 ∧ w.heap.size ≤ g ∧ Blk w' g (digCells d2s ++ rest) 101 ∧ Only [] w w') := fun h w => by
    obtain ⟨K, rfl⟩ : ∃ K : Nat, k = (K : Int) := ⟨k.toNat, by unfold HeadOk at h; omega⟩
    refine (rmanMake_yes b v K s r n2 w hr h hn2).mono ?_
    rintro e w' ⟨V, rfl, hown, ho⟩
    obtain ⟨g, cap, rest, rfl, h1, h2, h3⟩ := ownsRow_blk hown (by
      have := nch_yes h
      unfold HeadOk at h
      have := div_pos' (s.size : Int) (K : Int) (by omega) (by omega)
      omega)
    rw [← ed2] at h3
    exact ⟨g, cap, rest, rfl, h1, h2, h3, ho⟩
  have AL : Hid (∀ g1 g2 c2 rest w, n2 ≤ c2 → Blk w g1 (digCells d2s) 102 → Blk w g2 (digCells d2s ++ rest) 101 → Calls Try.prog 77 #[.agg (Value.int .i64 b :: .int .i64 v :: .int .i64 (s.size : Int) :: .int .i64 k :: .slice (some ⟨g1, 0, none⟩) n2 n2 :: Lib.byteCells r).toArray, .agg (Value.int .i64 b :: .int .i64 v :: .int .i64 (s.size : Int) :: .int .i64 k :: .slice (some ⟨g2, 0, none⟩) n2 c2 :: Lib.byteCells r).toArray] w fun e w' => e = .returned (.bool true) ∧ Only [] w w') := fun g1 g2 c2 rest w hc h1 h2 =>
    manAlike_same b v (s.size : Int) k (some ⟨g1, 0, none⟩) (some ⟨g2, 0, none⟩) n2 n2 c2 d2s r w hr hd2w hd2l (by omega) (fun _ => Digs.of_blk h1 hd2l (Nat.le_refl _))
      (fun _ => ⟨g2, 0, c2, by rw [hd2l], by omega, h2.lt, fun i u hu => h2.cell (by rw [Nat.zero_add, List.getElem?_append_left (List.getElem?_eq_some_iff.1 hu).1]; exact hu)⟩)
  have AZ := Lib.hid manAlike_zero
  clear ec el ept eck etr eM ed2 hd2w hd2l hn2 hn2b hw hn hn1 hr hD
  obtain ⟨RC, eRC⟩ : ∃ RC, RC = Lib.byteCells r := ⟨_, rfl⟩
  have hst := (St.start w []).box (Value.int .i64 b :: .int .i64 v :: .int .i64 z :: .int .i64 k :: .slice ad n cp :: RC) 104
  rw [← eRC] at HRL' HR1 FM GD RC0 MC LE RLE PA RPA CK RCK RT SM BN BY RBY MN RMN MY RMY AL ⊢
  clear eRC hRL
  have HT := Lib.hid (fun z V => mfTake b v z k V RC HRL'.out)
  have HL := Lib.hid (fun z V => mfLen b v z k V RC HRL'.out)
  have H1L : Hid (∀ z ad n c, (Value.int .i64 b :: .int .i64 v :: .int .i64 z :: .int .i64 k :: .slice ad n c :: RC).all (·.oneCell') = true) := fun z ad n c => by simp only [List.all_cons, HR1.out]; rfl
  have HLK : Hid (∀ z V, (Value.int .i64 b :: .int .i64 v :: .int .i64 z :: .int .i64 k :: V :: RC).length = mfZ.length) := fun z V => by rw [HL.out]; rfl
  have HRT : Hid (∀ V, ((Value.int .i64 b :: .int .i64 v :: .int .i64 z :: .int .i64 k :: V :: RC).drop 5).take 32 = RC) := fun V => by show List.take 32 RC = RC; exact List.take_of_length_le (by rw [HRL'.out]; exact Nat.le_refl _)
  have HZ1 : Hid (mfZ.all (·.oneCell') = true) := by show _ = _; rfl
  have HTZ' : Hid ((mfZ.drop 0).take 37 = mfZ) := by show _ = _; rfl
  have HLZ : Hid (mfZ.length = 37) := by show _ = _; rfl
  go_enter Try.func12, Try.ntmps12
  go_wp2_with (first
    | (go_at_call 59; (with_reducible refine (AW.out _).mono ?_); rintro e1 w1 ⟨rfl, ho1⟩; replace hst := hst.keep ho1; clear ho1)
    | (go_at_call 60; (with_reducible refine (FM.out _ hst.only).mono ?_); rintro e1 w1 ⟨ad2, cp2, E, rfl, ho1, hE, hEp, HD2⟩; replace hst := hst.bottom ho1 hE hEp; simp only [List.cons_append, List.nil_append] at hst; clear ho1 hE hEp)
    | ((with_reducible refine wpL_isAlloc rfl ?_); refine wpL_allocS hst rfl 107 rfl (.agg mfZ.toArray) mfZ (by kernel_rfl) rfl 9 rfl ?_; clear hst; intro w1 b1 hb1 hst)
    | ((with_reducible refine wpL_isStore rfl ?_); refine wpL_storeS hst rfl (ty := 107) rfl 0 rfl rfl rfl (by kernel_rfl) (by kernel_rfl) (HLK.out _ _) (H1L.out _ _ _ _) ?_; clear hst; intro w1 hst; simp only [List.set] at hst)
    | ((with_reducible refine wpL_isLoad rfl ?_); first | (refine wpL_loadAtS hst rfl (ty := 104) rfl 0 rfl rfl (by kernel_rfl) 37 (by kernel_rfl) _ (HT.out _ _) (HL.out _ _) ?_) | (refine wpL_loadAtS hst rfl (ty := 107) rfl 0 rfl rfl (by kernel_rfl) 37 (by kernel_rfl) _ (HT.out _ _) (HL.out _ _) ?_))
    | ((with_reducible refine wpL_peel rfl ?_ ?_); focus (go_simp; done)) | ((with_reducible refine wpL_isLoad rfl ?_); first | (refine wpL_load1S hst rfl rfl 0 rfl rfl rfl (by kernel_rfl) ?_))
    | (go_at_call 61; (with_reducible refine (RC0.out _ _ _).mono ?_); rintro e1 w1 ⟨rfl, ho1⟩; replace hst := hst.keep ho1; clear ho1))
  replace hst := hst.drew
  refine wp_region_ord [1, 7, 14, 17, 24, 28, 35, 39, 44, 47, 53] [0, 1, 2, 3, 4, 5, 6, 7, 8, 9, 10, 11, 12, 13, 15, 16, 14, 17, 18, 19, 20, 21, 22, 23, 25, 26, 27, 24, 28, 29, 30, 31, 32, 33, 34, 36, 37, 38, 35, 39, 40, 41, 42, 43, 45, 46, 44, 47, 48, 49, 50, 51, 52, 53, 54, 55] (by kernel_rfl) (by kernel_rfl) ?_
  generalize World.drew _ = W at *
  refine Ord.cut 1 0 rfl rfl rfl rfl (by kernel_rfl) (by kernel_rfl) ?_; simp only [List.take_succ_cons, List.take_zero, List.drop_succ_cons, List.drop_zero, List.filterMap_cons, List.filterMap_nil, List.getElem?_cons_succ, List.getElem?_cons_zero]
  refine wpL_loadAtS hst rfl (ty := 104) rfl 1 rfl rfl (by kernel_rfl) 37 (by kernel_rfl) _ (HT.out _ _) (HL.out _ _) ?_
  refine TextQ.mk ⟨fun h => by simp at h, ?_⟩ rfl
  refine Ord.cut 1 1 rfl rfl rfl rfl (by kernel_rfl) (by kernel_rfl) ?_; simp only [List.take_succ_cons, List.take_zero, List.drop_succ_cons, List.drop_zero, List.filterMap_cons, List.filterMap_nil, List.getElem?_cons_succ, List.getElem?_cons_zero]
  go_wp2_with (go_at_call 62; refine (GD.out _).mono ?_; rintro e1 w1 ⟨rfl, ho1⟩)
  refine TextQ.mk ⟨fun _ => ho1, ?_⟩ rfl
  replace hst := hst.keep ho1
  clear ho1
  refine Ord.cut 1 2 rfl rfl rfl rfl (by kernel_rfl) (by kernel_rfl) ?_; simp only [List.take_succ_cons, List.take_zero, List.drop_succ_cons, List.drop_zero, List.filterMap_cons, List.filterMap_nil, List.getElem?_cons_succ, List.getElem?_cons_zero]; go_wp2_with fail; refine TextQ.mk ⟨fun h => by simp at h, ?_⟩ rfl
  refine Ord.cut 1 3 rfl rfl rfl rfl (by kernel_rfl) (by kernel_rfl) ?_; simp only [List.take_succ_cons, List.take_zero, List.drop_succ_cons, List.drop_zero, List.filterMap_cons, List.filterMap_nil, List.getElem?_cons_succ, List.getElem?_cons_zero]
  refine wpL_gtrB rfl rfl rfl rfl β HB.out ?_
  refine TextQ.mk ⟨fun h => by simp at h, ?_⟩ rfl
  refine Ord.cut 2 5 rfl rfl rfl rfl (by kernel_rfl) (by kernel_rfl) ?_; simp only [List.take_succ_cons, List.take_zero, List.drop_succ_cons, List.drop_zero, List.filterMap_cons, List.filterMap_nil, List.getElem?_cons_succ, List.getElem?_cons_zero]; go_wp2_with fail; refine TextQ.mk ⟨fun h => by simp at h, ?_⟩ rfl
  refine Ord.cut 1 6 rfl rfl rfl rfl (by kernel_rfl) (by kernel_rfl) ?_; simp only [List.take_succ_cons, List.take_zero, List.drop_succ_cons, List.drop_zero, List.filterMap_cons, List.filterMap_nil, List.getElem?_cons_succ, List.getElem?_cons_zero]
  refine wpL_peel rfl rfl ?_
  refine wpL_loadAtS hst rfl (ty := 104) rfl 1 rfl rfl (by kernel_rfl) 37 (by kernel_rfl) _ (HT.out _ _) (HL.out _ _) ?_
  refine TextQ.mk ⟨fun h => by simp at h, ?_⟩ rfl
  refine Ord.cut 1 7 rfl rfl rfl rfl (by kernel_rfl) (by kernel_rfl) ?_; simp only [List.take_succ_cons, List.take_zero, List.drop_succ_cons, List.drop_zero, List.filterMap_cons, List.filterMap_nil, List.getElem?_cons_succ, List.getElem?_cons_zero]
  go_wp2_with (go_at_call 63; refine (MC.out _).mono ?_; rintro e1 w1 ⟨rfl, ho1⟩)
  refine TextQ.mk ⟨fun _ => ho1, ?_⟩ rfl
  replace hst := hst.keep ho1
  clear ho1
  refine Ord.cut 3 10 rfl rfl rfl rfl (by kernel_rfl) (by kernel_rfl) ?_; simp only [List.take_succ_cons, List.take_zero, List.drop_succ_cons, List.drop_zero, List.filterMap_cons, List.filterMap_nil, List.getElem?_cons_succ, List.getElem?_cons_zero]; go_wp2_with fail; refine TextQ.mk ⟨fun h => by simp at h, ?_⟩ rfl
  refine Ord.cut 1 11 rfl rfl rfl rfl (by kernel_rfl) (by kernel_rfl) ?_; simp only [List.take_succ_cons, List.take_zero, List.drop_succ_cons, List.drop_zero, List.filterMap_cons, List.filterMap_nil, List.getElem?_cons_succ, List.getElem?_cons_zero]; go_wp2_with fail; refine TextQ.mk ⟨fun h => by simp at h, ?_⟩ rfl
  refine Ord.cut 1 12 rfl rfl rfl rfl (by kernel_rfl) (by kernel_rfl) ?_; simp only [List.take_succ_cons, List.take_zero, List.drop_succ_cons, List.drop_zero, List.filterMap_cons, List.filterMap_nil, List.getElem?_cons_succ, List.getElem?_cons_zero]
  refine wpL_peel rfl rfl ?_
  refine wpL_loadAtS hst rfl (ty := 104) rfl 1 rfl rfl (by kernel_rfl) 37 (by kernel_rfl) _ (HT.out _ _) (HL.out _ _) ?_
  refine TextQ.mk ⟨fun h => by simp at h, ?_⟩ rfl
  refine Ord.cut 1 13 rfl rfl rfl rfl (by kernel_rfl) (by kernel_rfl) ?_; simp only [List.take_succ_cons, List.take_zero, List.drop_succ_cons, List.drop_zero, List.filterMap_cons, List.filterMap_nil, List.getElem?_cons_succ, List.getElem?_cons_zero]; go_wp2_with fail; refine TextQ.mk ⟨fun h => by simp at h, ?_⟩ rfl
  refine Ord.cut 1 15 rfl rfl rfl rfl (by kernel_rfl) (by kernel_rfl) ?_; simp only [List.take_succ_cons, List.take_zero, List.drop_succ_cons, List.drop_zero, List.filterMap_cons, List.filterMap_nil, List.getElem?_cons_succ, List.getElem?_cons_zero]
  refine wpL_peel rfl rfl ?_
  refine wpL_loadAtS hst rfl (ty := 107) rfl 0 rfl rfl (by kernel_rfl) 37 (by kernel_rfl) _ (HT.out _ _) (HL.out _ _) ?_
  refine TextQ.mk ⟨fun h => by simp at h, ?_⟩ rfl
  refine Ord.cut 1 16 rfl rfl rfl rfl (by kernel_rfl) (by kernel_rfl) ?_; simp only [List.take_succ_cons, List.take_zero, List.drop_succ_cons, List.drop_zero, List.filterMap_cons, List.filterMap_nil, List.getElem?_cons_succ, List.getElem?_cons_zero]; go_wp2_with fail; refine TextQ.mk ⟨fun h => by simp at h, ?_⟩ rfl
  refine Ord.cut 1 14 rfl rfl rfl rfl (by kernel_rfl) (by kernel_rfl) ?_; simp only [List.take_succ_cons, List.take_zero, List.drop_succ_cons, List.drop_zero, List.filterMap_cons, List.filterMap_nil, List.getElem?_cons_succ, List.getElem?_cons_zero]
  go_wp2_with (go_at_call 64; refine (LE.out _).mono ?_; rintro e1 w1 ⟨rfl, ho1⟩)
  refine TextQ.mk ⟨fun _ => ho1, ?_⟩ rfl
  replace hst := hst.keep ho1
  clear ho1
  refine Ord.cut 1 17 rfl rfl rfl rfl (by kernel_rfl) (by kernel_rfl) ?_; simp only [List.take_succ_cons, List.take_zero, List.drop_succ_cons, List.drop_zero, List.filterMap_cons, List.filterMap_nil, List.getElem?_cons_succ, List.getElem?_cons_zero]
  go_wp2_with (go_at_call 65; refine (RLE.out _ _ _).mono ?_; rintro e1 w1 ⟨rfl, ho1⟩)
  refine TextQ.mk ⟨fun _ => ho1, ?_⟩ rfl
  replace hst := hst.keep ho1
  clear ho1
  refine Ord.cut 3 20 rfl rfl rfl rfl (by kernel_rfl) (by kernel_rfl) ?_; simp only [List.take_succ_cons, List.take_zero, List.drop_succ_cons, List.drop_zero, List.filterMap_cons, List.filterMap_nil, List.getElem?_cons_succ, List.getElem?_cons_zero]; go_wp2_with fail; refine TextQ.mk ⟨fun h => by simp at h, ?_⟩ rfl
  refine Ord.cut 1 21 rfl rfl rfl rfl (by kernel_rfl) (by kernel_rfl) ?_; simp only [List.take_succ_cons, List.take_zero, List.drop_succ_cons, List.drop_zero, List.filterMap_cons, List.filterMap_nil, List.getElem?_cons_succ, List.getElem?_cons_zero]
  refine wpL_peel rfl rfl ?_
  refine wpL_loadAtS hst rfl (ty := 104) rfl 1 rfl rfl (by kernel_rfl) 37 (by kernel_rfl) _ (HT.out _ _) (HL.out _ _) ?_
  refine TextQ.mk ⟨fun h => by simp at h, ?_⟩ rfl
  refine Ord.cut 2 23 rfl rfl rfl rfl (by kernel_rfl) (by kernel_rfl) ?_; simp only [List.take_succ_cons, List.take_zero, List.drop_succ_cons, List.drop_zero, List.filterMap_cons, List.filterMap_nil, List.getElem?_cons_succ, List.getElem?_cons_zero]; go_wp2_with fail; refine TextQ.mk ⟨fun h => by simp at h, ?_⟩ rfl
  refine Ord.cut 1 25 rfl rfl rfl rfl (by kernel_rfl) (by kernel_rfl) ?_; simp only [List.take_succ_cons, List.take_zero, List.drop_succ_cons, List.drop_zero, List.filterMap_cons, List.filterMap_nil, List.getElem?_cons_succ, List.getElem?_cons_zero]
  refine wpL_peel rfl rfl ?_
  refine wpL_loadAtS hst rfl (ty := 107) rfl 0 rfl rfl (by kernel_rfl) 37 (by kernel_rfl) _ (HT.out _ _) (HL.out _ _) ?_
  refine TextQ.mk ⟨fun h => by simp at h, ?_⟩ rfl
  refine Ord.cut 2 27 rfl rfl rfl rfl (by kernel_rfl) (by kernel_rfl) ?_; simp only [List.take_succ_cons, List.take_zero, List.drop_succ_cons, List.drop_zero, List.filterMap_cons, List.filterMap_nil, List.getElem?_cons_succ, List.getElem?_cons_zero]; go_wp2_with fail; refine TextQ.mk ⟨fun h => by simp at h, ?_⟩ rfl
  refine Ord.cut 1 24 rfl rfl rfl rfl (by kernel_rfl) (by kernel_rfl) ?_; simp only [List.take_succ_cons, List.take_zero, List.drop_succ_cons, List.drop_zero, List.filterMap_cons, List.filterMap_nil, List.getElem?_cons_succ, List.getElem?_cons_zero]
  go_wp2_with (go_at_call 66; refine (PA.out _).mono ?_; rintro e1 w1 ⟨rfl, ho1⟩)
  refine TextQ.mk ⟨fun _ => ho1, ?_⟩ rfl
  replace hst := hst.keep ho1
  clear ho1
  refine Ord.cut 1 28 rfl rfl rfl rfl (by kernel_rfl) (by kernel_rfl) ?_; simp only [List.take_succ_cons, List.take_zero, List.drop_succ_cons, List.drop_zero, List.filterMap_cons, List.filterMap_nil, List.getElem?_cons_succ, List.getElem?_cons_zero]
  go_wp2_with (go_at_call 67; refine (RPA.out _ _ _).mono ?_; rintro e1 w1 ⟨rfl, ho1⟩)
  refine TextQ.mk ⟨fun _ => ho1, ?_⟩ rfl
  replace hst := hst.keep ho1
  clear ho1
  refine Ord.cut 1 29 rfl rfl rfl rfl (by kernel_rfl) (by kernel_rfl) ?_; simp only [List.take_succ_cons, List.take_zero, List.drop_succ_cons, List.drop_zero, List.filterMap_cons, List.filterMap_nil, List.getElem?_cons_succ, List.getElem?_cons_zero]
  refine wpL_peel rfl rfl ?_
  refine wpL_neqStr rfl rfl pt pt rfl rfl true (decide_eq_true rfl) ?_
  refine TextQ.mk ⟨fun h => by simp at h, ?_⟩ rfl
  refine Ord.cut 2 31 rfl rfl rfl rfl (by kernel_rfl) (by kernel_rfl) ?_; simp only [List.take_succ_cons, List.take_zero, List.drop_succ_cons, List.drop_zero, List.filterMap_cons, List.filterMap_nil, List.getElem?_cons_succ, List.getElem?_cons_zero]; go_wp2_with fail; refine TextQ.mk ⟨fun h => by simp at h, ?_⟩ rfl
  refine Ord.cut 1 32 rfl rfl rfl rfl (by kernel_rfl) (by kernel_rfl) ?_; simp only [List.take_succ_cons, List.take_zero, List.drop_succ_cons, List.drop_zero, List.filterMap_cons, List.filterMap_nil, List.getElem?_cons_succ, List.getElem?_cons_zero]
  refine wpL_peel rfl rfl ?_
  refine wpL_loadAtS hst rfl (ty := 104) rfl 1 rfl rfl (by kernel_rfl) 37 (by kernel_rfl) _ (HT.out _ _) (HL.out _ _) ?_
  refine TextQ.mk ⟨fun h => by simp at h, ?_⟩ rfl
  refine Ord.cut 2 34 rfl rfl rfl rfl (by kernel_rfl) (by kernel_rfl) ?_; simp only [List.take_succ_cons, List.take_zero, List.drop_succ_cons, List.drop_zero, List.filterMap_cons, List.filterMap_nil, List.getElem?_cons_succ, List.getElem?_cons_zero]; go_wp2_with fail; refine TextQ.mk ⟨fun h => by simp at h, ?_⟩ rfl
  refine Ord.cut 1 36 rfl rfl rfl rfl (by kernel_rfl) (by kernel_rfl) ?_; simp only [List.take_succ_cons, List.take_zero, List.drop_succ_cons, List.drop_zero, List.filterMap_cons, List.filterMap_nil, List.getElem?_cons_succ, List.getElem?_cons_zero]
  refine wpL_peel rfl rfl ?_
  refine wpL_loadAtS hst rfl (ty := 107) rfl 0 rfl rfl (by kernel_rfl) 37 (by kernel_rfl) _ (HT.out _ _) (HL.out _ _) ?_
  refine TextQ.mk ⟨fun h => by simp at h, ?_⟩ rfl
  refine Ord.cut 2 38 rfl rfl rfl rfl (by kernel_rfl) (by kernel_rfl) ?_; simp only [List.take_succ_cons, List.take_zero, List.drop_succ_cons, List.drop_zero, List.filterMap_cons, List.filterMap_nil, List.getElem?_cons_succ, List.getElem?_cons_zero]; go_wp2_with fail; refine TextQ.mk ⟨fun h => by simp at h, ?_⟩ rfl
  refine Ord.cut 1 35 rfl rfl rfl rfl (by kernel_rfl) (by kernel_rfl) ?_; simp only [List.take_succ_cons, List.take_zero, List.drop_succ_cons, List.drop_zero, List.filterMap_cons, List.filterMap_nil, List.getElem?_cons_succ, List.getElem?_cons_zero]
  go_wp2_with (go_at_call 68; refine (CK.out _ hst.only).mono ?_; rintro e1 w1 ⟨rfl, ho1⟩)
  refine TextQ.mk ⟨fun _ => ho1, ?_⟩ rfl
  replace hst := hst.keep ho1
  clear ho1
  refine Ord.cut 1 39 rfl rfl rfl rfl (by kernel_rfl) (by kernel_rfl) ?_; simp only [List.take_succ_cons, List.take_zero, List.drop_succ_cons, List.drop_zero, List.filterMap_cons, List.filterMap_nil, List.getElem?_cons_succ, List.getElem?_cons_zero]
  go_wp2_with (go_at_call 69; refine (RCK.out _ _ _ (HD2.out _ (hst.hasN 2 rfl))).mono ?_; rintro e1 w1 ⟨rfl, ho1⟩)
  refine TextQ.mk ⟨fun _ => ho1, ?_⟩ rfl
  replace hst := hst.keep ho1
  clear ho1
  refine Ord.cut 3 42 rfl rfl rfl rfl (by kernel_rfl) (by kernel_rfl) ?_; simp only [List.take_succ_cons, List.take_zero, List.drop_succ_cons, List.drop_zero, List.filterMap_cons, List.filterMap_nil, List.getElem?_cons_succ, List.getElem?_cons_zero]; go_wp2_with fail; refine TextQ.mk ⟨fun h => by simp at h, ?_⟩ rfl
  refine Ord.cut 1 43 rfl rfl rfl rfl (by kernel_rfl) (by kernel_rfl) ?_; simp only [List.take_succ_cons, List.take_zero, List.drop_succ_cons, List.drop_zero, List.filterMap_cons, List.filterMap_nil, List.getElem?_cons_succ, List.getElem?_cons_zero]
  refine wpL_peel rfl rfl ?_
  refine wpL_loadAtS hst rfl (ty := 104) rfl 1 rfl rfl (by kernel_rfl) 37 (by kernel_rfl) _ (HT.out _ _) (HL.out _ _) ?_
  refine TextQ.mk ⟨fun h => by simp at h, ?_⟩ rfl
  refine Ord.cut 1 45 rfl rfl rfl rfl (by kernel_rfl) (by kernel_rfl) ?_; simp only [List.take_succ_cons, List.take_zero, List.drop_succ_cons, List.drop_zero, List.filterMap_cons, List.filterMap_nil, List.getElem?_cons_succ, List.getElem?_cons_zero]; go_wp2_with fail; refine TextQ.mk ⟨fun h => by simp at h, ?_⟩ rfl
  refine Ord.cut 1 46 rfl rfl rfl rfl (by kernel_rfl) (by kernel_rfl) ?_; simp only [List.take_succ_cons, List.take_zero, List.drop_succ_cons, List.drop_zero, List.filterMap_cons, List.filterMap_nil, List.getElem?_cons_succ, List.getElem?_cons_zero]
  refine wpL_peel rfl rfl ?_
  refine wpL_load1S hst rfl rfl 0 rfl rfl rfl (by kernel_rfl) ?_
  refine TextQ.mk ⟨fun h => by simp at h, ?_⟩ rfl
  refine Ord.cut 1 44 rfl rfl rfl rfl (by kernel_rfl) (by kernel_rfl) ?_; simp only [List.take_succ_cons, List.take_zero, List.drop_succ_cons, List.drop_zero, List.filterMap_cons, List.filterMap_nil, List.getElem?_cons_succ, List.getElem?_cons_zero]
  go_wp2_with (go_at_call 70; refine (RT.out _ hst.only).mono ?_; rintro e1 w1 ⟨rfl, ho1⟩)
  refine TextQ.mk ⟨fun _ => ho1, ?_⟩ rfl
  replace hst := hst.keep ho1
  clear ho1
  refine Ord.cut 1 47 rfl rfl rfl rfl (by kernel_rfl) (by kernel_rfl) ?_; simp only [List.take_succ_cons, List.take_zero, List.drop_succ_cons, List.drop_zero, List.filterMap_cons, List.filterMap_nil, List.getElem?_cons_succ, List.getElem?_cons_zero]
  go_wp2_with (go_at_call 71; refine (TR.out _ _ _ (HD2.out _ (hst.hasN 2 rfl))).mono ?_; rintro e1 w1 ⟨rfl, ho1⟩)
  refine TextQ.mk ⟨fun _ => ho1, ?_⟩ rfl
  replace hst := hst.keep ho1
  clear ho1
  refine Ord.cut 1 48 rfl rfl rfl rfl (by kernel_rfl) (by kernel_rfl) ?_; simp only [List.take_succ_cons, List.take_zero, List.drop_succ_cons, List.drop_zero, List.filterMap_cons, List.filterMap_nil, List.getElem?_cons_succ, List.getElem?_cons_zero]
  refine wpL_peel rfl rfl ?_
  refine wpL_neqB rfl 102 _ _ _ rfl 5 32 Try.underlying102 Try.underlying5 (by kernel_rfl) (by kernel_rfl) tr tr rfl rfl HTR.out HTR.out true (by simp) ?_
  refine TextQ.mk ⟨fun h => by simp at h, ?_⟩ ?_
  case refine_2 => repeat' (first | exact rfl | exact fine_bytes rfl rfl rfl | refine fine_cons ?_ ?_)
  refine Ord.cut 2 50 rfl rfl rfl rfl (by kernel_rfl) (by kernel_rfl) ?_; simp only [List.take_succ_cons, List.take_zero, List.drop_succ_cons, List.drop_zero, List.filterMap_cons, List.filterMap_nil, List.getElem?_cons_succ, List.getElem?_cons_zero]; go_wp2_with fail; refine TextQ.mk ⟨fun h => by simp at h, ?_⟩ rfl
  refine Ord.cut 1 51 rfl rfl rfl rfl (by kernel_rfl) (by kernel_rfl) ?_; simp only [List.take_succ_cons, List.take_zero, List.drop_succ_cons, List.drop_zero, List.filterMap_cons, List.filterMap_nil, List.getElem?_cons_succ, List.getElem?_cons_zero]
  refine wpL_peel rfl rfl ?_
  refine wpL_loadAtS hst rfl (ty := 104) rfl 1 rfl rfl (by kernel_rfl) 37 (by kernel_rfl) _ (HT.out _ _) (HL.out _ _) ?_
  refine TextQ.mk ⟨fun h => by simp at h, ?_⟩ rfl
  refine Ord.cut 1 52 rfl rfl rfl rfl (by kernel_rfl) (by kernel_rfl) ?_; simp only [List.take_succ_cons, List.take_zero, List.drop_succ_cons, List.drop_zero, List.filterMap_cons, List.filterMap_nil, List.getElem?_cons_succ, List.getElem?_cons_zero]
  refine wpL_peel rfl rfl ?_
  refine wpL_loadAtS hst rfl (ty := 104) rfl 1 rfl rfl (by kernel_rfl) 37 (by kernel_rfl) _ (HT.out _ _) (HL.out _ _) ?_
  refine TextQ.mk ⟨fun h => by simp at h, ?_⟩ rfl
  refine Ord.cut 1 53 rfl rfl rfl rfl (by kernel_rfl) (by kernel_rfl) ?_; simp only [List.take_succ_cons, List.take_zero, List.drop_succ_cons, List.drop_zero, List.filterMap_cons, List.filterMap_nil, List.getElem?_cons_succ, List.getElem?_cons_zero]
  go_wp2_with (go_at_call 72; refine (SM.out _ hst.only).mono ?_; rintro e1 w1 ⟨rfl, ho1⟩)
  refine TextQ.mk ⟨fun _ => ho1, ?_⟩ rfl
  replace hst := hst.keep ho1
  clear ho1
  refine Ord.cut 2 55 rfl rfl rfl rfl (by kernel_rfl) (by kernel_rfl) ?_; simp only [List.take_succ_cons, List.take_zero, List.drop_succ_cons, List.drop_zero, List.filterMap_cons, List.filterMap_nil, List.getElem?_cons_succ, List.getElem?_cons_zero]; go_wp2_with fail; refine TextQ.mk ⟨fun h => by simp at h, ?_⟩ rfl
  refine Ord.done ?_
  clear GD RC0 MC LE RLE PA RPA CK RCK RT TR SM FM AW D1
  by_cases hc : 0 < c
  · obtain rfl : β = true := by rw [← eβ]; exact decide_eq_true hc
    have BY' := BY hc
    have RBY' := RBY hc
    have hc0 : (c == 0) = false := by simp; omega
    clear BY RBY BN
    by_cases hh : HeadOk b v (s.size : Int) k
    · have MY' := MY hh
      have RMY' := RMY hh
      clear MY RMY MN RMN
      go_wp2_with (first
        | ((with_reducible refine wpL_peel rfl ?_ ?_); focus (go_simp; done))
        | ((with_reducible refine wpL_isBin rfl ?_); first | (refine wpL_gtrB rfl rfl rfl rfl true HB.out ?_) | (refine wpL_neqStr rfl rfl M0 M0 rfl rfl true (decide_eq_true rfl) ?_))
        | (go_at_call 73; (with_reducible refine (BY'.out _ hst.only).mono ?_); rintro e1 w1 ⟨rfl, ho1⟩; replace hst := hst.keep ho1; clear ho1)
        | (go_at_call 74; (with_reducible refine (RBY'.out _ _ _ (HD2.out _ (hst.hasN 2 rfl))).mono ?_); rintro e1 w1 ⟨rfl, ho1⟩; replace hst := hst.keep ho1; clear ho1)
        | (go_at_call 75; (with_reducible refine (MY'.out _).mono ?_); rintro e1 w1 ⟨g3, rfl, hg3, hB3, ho3⟩; replace hst := hst.new ho3 hB3 hg3; clear ho3 hB3)
        | (go_at_call 76; (with_reducible refine (RMY'.out _).mono ?_); rintro e1 w1 ⟨g4, cp4, rest4, rfl, hc4, hg4, hB4, ho4⟩; have HC4 := Lib.hid hc4; replace hst := hst.new ho4 hB4 hg4; clear ho4 hB4 hc4)
        | (go_at_call 77; (with_reducible refine (AL.out _ _ _ _ _ HC4.out (hst.blk 3 rfl) (hst.blk 1 rfl)).mono ?_); rintro e1 w1 ⟨rfl, ho1⟩; replace hst := hst.keep ho1; clear ho1)
        | ((with_reducible refine wpL_isAlloc rfl ?_); refine wpL_allocS hst rfl 104 rfl (.agg mfZ.toArray) mfZ (by kernel_rfl) rfl 13 rfl ?_; clear hst; intro w1 b1 hb1 hst)
        | ((with_reducible refine wpL_isStore rfl ?_); refine wpL_storeS hst rfl (ty := 104) rfl 0 rfl rfl rfl (by kernel_rfl) (by kernel_rfl) (HLK.out _ _) (H1L.out _ _ _ _) ?_; clear hst; intro w1 hst; simp only [List.set] at hst)
        | ((with_reducible refine wpL_isAlloc rfl ?_); refine wpL_allocS hst rfl 107 rfl (.agg mfZ.toArray) mfZ (by kernel_rfl) rfl 15 rfl ?_; clear hst; intro w1 b1 hb1 hst)
        | ((with_reducible refine wpL_isStore rfl ?_); refine wpL_storeS hst rfl (ty := 107) rfl 0 rfl rfl rfl (by kernel_rfl) (by kernel_rfl) (HLK.out _ _) (H1L.out _ _ _ _) ?_; clear hst; intro w1 hst; simp only [List.set] at hst)
        | ((with_reducible refine wpL_isLoad rfl ?_); first | (refine wpL_loadAtS hst rfl (ty := 104) rfl 0 rfl rfl (by kernel_rfl) 37 (by kernel_rfl) _ (HT.out _ _) (HL.out _ _) ?_) | (refine wpL_loadAtS hst rfl (ty := 104) rfl 0 rfl rfl (by kernel_rfl) 37 (by kernel_rfl) _ HTZ'.out HLZ.out ?_) | (refine wpL_loadAtS hst rfl (ty := 107) rfl 0 rfl rfl (by kernel_rfl) 37 (by kernel_rfl) _ (HT.out _ _) (HL.out _ _) ?_) | (refine wpL_loadAtS hst rfl (ty := 107) rfl 0 rfl rfl (by kernel_rfl) 37 (by kernel_rfl) _ HTZ'.out HLZ.out ?_) | (refine wpL_loadAtS hst rfl (ty := 102) rfl 0 rfl rfl (by kernel_rfl) 32 (by kernel_rfl) _ (HRT.out _) HRL'.out ?_) | (refine wpL_loadAtS hst rfl (ty := 101) rfl 0 rfl rfl (by kernel_rfl) 32 (by kernel_rfl) _ (HRT.out _) HRL'.out ?_) | (refine wpL_loadAtS hst rfl (ty := 104) rfl 1 rfl rfl (by kernel_rfl) 37 (by kernel_rfl) _ (HT.out _ _) (HL.out _ _) ?_) | (refine wpL_loadAtS hst rfl (ty := 104) rfl 1 rfl rfl (by kernel_rfl) 37 (by kernel_rfl) _ HTZ'.out HLZ.out ?_) | (refine wpL_loadAtS hst rfl (ty := 107) rfl 1 rfl rfl (by kernel_rfl) 37 (by kernel_rfl) _ (HT.out _ _) (HL.out _ _) ?_) | (refine wpL_loadAtS hst rfl (ty := 107) rfl 1 rfl rfl (by kernel_rfl) 37 (by kernel_rfl) _ HTZ'.out HLZ.out ?_) | (refine wpL_loadAtS hst rfl (ty := 102) rfl 1 rfl rfl (by kernel_rfl) 32 (by kernel_rfl) _ (HRT.out _) HRL'.out ?_) | (refine wpL_loadAtS hst rfl (ty := 101) rfl 1 rfl rfl (by kernel_rfl) 32 (by kernel_rfl) _ (HRT.out _) HRL'.out ?_) | (refine wpL_loadAtS hst rfl (ty := 104) rfl 2 rfl rfl (by kernel_rfl) 37 (by kernel_rfl) _ (HT.out _ _) (HL.out _ _) ?_) | (refine wpL_loadAtS hst rfl (ty := 104) rfl 2 rfl rfl (by kernel_rfl) 37 (by kernel_rfl) _ HTZ'.out HLZ.out ?_) | (refine wpL_loadAtS hst rfl (ty := 107) rfl 2 rfl rfl (by kernel_rfl) 37 (by kernel_rfl) _ (HT.out _ _) (HL.out _ _) ?_) | (refine wpL_loadAtS hst rfl (ty := 107) rfl 2 rfl rfl (by kernel_rfl) 37 (by kernel_rfl) _ HTZ'.out HLZ.out ?_) | (refine wpL_loadAtS hst rfl (ty := 102) rfl 2 rfl rfl (by kernel_rfl) 32 (by kernel_rfl) _ (HRT.out _) HRL'.out ?_) | (refine wpL_loadAtS hst rfl (ty := 101) rfl 2 rfl rfl (by kernel_rfl) 32 (by kernel_rfl) _ (HRT.out _) HRL'.out ?_) | (refine wpL_loadAtS hst rfl (ty := 104) rfl 3 rfl rfl (by kernel_rfl) 37 (by kernel_rfl) _ (HT.out _ _) (HL.out _ _) ?_) | (refine wpL_loadAtS hst rfl (ty := 104) rfl 3 rfl rfl (by kernel_rfl) 37 (by kernel_rfl) _ HTZ'.out HLZ.out ?_) | (refine wpL_loadAtS hst rfl (ty := 107) rfl 3 rfl rfl (by kernel_rfl) 37 (by kernel_rfl) _ (HT.out _ _) (HL.out _ _) ?_) | (refine wpL_loadAtS hst rfl (ty := 107) rfl 3 rfl rfl (by kernel_rfl) 37 (by kernel_rfl) _ HTZ'.out HLZ.out ?_) | (refine wpL_loadAtS hst rfl (ty := 102) rfl 3 rfl rfl (by kernel_rfl) 32 (by kernel_rfl) _ (HRT.out _) HRL'.out ?_) | (refine wpL_loadAtS hst rfl (ty := 101) rfl 3 rfl rfl (by kernel_rfl) 32 (by kernel_rfl) _ (HRT.out _) HRL'.out ?_) | (refine wpL_loadAtS hst rfl (ty := 104) rfl 4 rfl rfl (by kernel_rfl) 37 (by kernel_rfl) _ (HT.out _ _) (HL.out _ _) ?_) | (refine wpL_loadAtS hst rfl (ty := 104) rfl 4 rfl rfl (by kernel_rfl) 37 (by kernel_rfl) _ HTZ'.out HLZ.out ?_) | (refine wpL_loadAtS hst rfl (ty := 107) rfl 4 rfl rfl (by kernel_rfl) 37 (by kernel_rfl) _ (HT.out _ _) (HL.out _ _) ?_) | (refine wpL_loadAtS hst rfl (ty := 107) rfl 4 rfl rfl (by kernel_rfl) 37 (by kernel_rfl) _ HTZ'.out HLZ.out ?_) | (refine wpL_loadAtS hst rfl (ty := 102) rfl 4 rfl rfl (by kernel_rfl) 32 (by kernel_rfl) _ (HRT.out _) HRL'.out ?_) | (refine wpL_loadAtS hst rfl (ty := 101) rfl 4 rfl rfl (by kernel_rfl) 32 (by kernel_rfl) _ (HRT.out _) HRL'.out ?_))
        | ((with_reducible refine wpL_peel rfl ?_ ?_); focus (go_simp; done)) | ((with_reducible refine wpL_isLoad rfl ?_); first | (refine wpL_load1S hst rfl rfl 0 rfl rfl rfl (by kernel_rfl) ?_) | (refine wpL_load1S hst rfl rfl 1 rfl rfl rfl (by kernel_rfl) ?_) | (refine wpL_load1S hst rfl rfl 2 rfl rfl rfl (by kernel_rfl) ?_) | (refine wpL_load1S hst rfl rfl 3 rfl rfl rfl (by kernel_rfl) ?_) | (refine wpL_load1S hst rfl rfl 4 rfl rfl rfl (by kernel_rfl) ?_)))
      go_ret
      exact ⟨rfl, hst.only⟩
    · have MN' := MN hh
      have RMN' := RMN hh
      clear MY RMY MN RMN
      go_wp2_with (first
        | ((with_reducible refine wpL_peel rfl ?_ ?_); focus (go_simp; done))
        | ((with_reducible refine wpL_isBin rfl ?_); first | (refine wpL_gtrB rfl rfl rfl rfl true HB.out ?_) | (refine wpL_neqStr rfl rfl M0 M0 rfl rfl true (decide_eq_true rfl) ?_))
        | (go_at_call 73; (with_reducible refine (BY'.out _ hst.only).mono ?_); rintro e1 w1 ⟨rfl, ho1⟩; replace hst := hst.keep ho1; clear ho1)
        | (go_at_call 74; (with_reducible refine (RBY'.out _ _ _ (HD2.out _ (hst.hasN 2 rfl))).mono ?_); rintro e1 w1 ⟨rfl, ho1⟩; replace hst := hst.keep ho1; clear ho1)
        | (go_at_call 75; (with_reducible refine (MN'.out _).mono ?_); rintro e1 w1 ⟨rfl, ho1⟩; replace hst := hst.keep ho1; clear ho1)
        | (go_at_call 76; (with_reducible refine (RMN'.out _).mono ?_); rintro e1 w1 ⟨rfl, ho1⟩; replace hst := hst.keep ho1; clear ho1)
        | (go_at_call 77; (with_reducible refine (AZ.out _).mono ?_); rintro e1 w1 ⟨rfl, ho1⟩; replace hst := hst.keep ho1; clear ho1)
        | ((with_reducible refine wpL_isAlloc rfl ?_); refine wpL_allocS hst rfl 104 rfl (.agg mfZ.toArray) mfZ (by kernel_rfl) rfl 13 rfl ?_; clear hst; intro w1 b1 hb1 hst)
        | ((with_reducible refine wpL_isStore rfl ?_); refine wpL_storeS hst rfl (ty := 104) rfl 0 rfl rfl (D := mfZ) rfl (by kernel_rfl) (by kernel_rfl) rfl HZ1.out ?_; clear hst; intro w1 hst; simp only [List.set] at hst)
        | ((with_reducible refine wpL_isAlloc rfl ?_); refine wpL_allocS hst rfl 107 rfl (.agg mfZ.toArray) mfZ (by kernel_rfl) rfl 15 rfl ?_; clear hst; intro w1 b1 hb1 hst)
        | ((with_reducible refine wpL_isStore rfl ?_); refine wpL_storeS hst rfl (ty := 107) rfl 0 rfl rfl (D := mfZ) rfl (by kernel_rfl) (by kernel_rfl) rfl HZ1.out ?_; clear hst; intro w1 hst; simp only [List.set] at hst)
        | ((with_reducible refine wpL_isLoad rfl ?_); first | (refine wpL_loadAtS hst rfl (ty := 104) rfl 0 rfl rfl (by kernel_rfl) 37 (by kernel_rfl) _ (HT.out _ _) (HL.out _ _) ?_) | (refine wpL_loadAtS hst rfl (ty := 104) rfl 0 rfl rfl (by kernel_rfl) 37 (by kernel_rfl) _ HTZ'.out HLZ.out ?_) | (refine wpL_loadAtS hst rfl (ty := 107) rfl 0 rfl rfl (by kernel_rfl) 37 (by kernel_rfl) _ (HT.out _ _) (HL.out _ _) ?_) | (refine wpL_loadAtS hst rfl (ty := 107) rfl 0 rfl rfl (by kernel_rfl) 37 (by kernel_rfl) _ HTZ'.out HLZ.out ?_) | (refine wpL_loadAtS hst rfl (ty := 102) rfl 0 rfl rfl (by kernel_rfl) 32 (by kernel_rfl) _ (HRT.out _) HRL'.out ?_) | (refine wpL_loadAtS hst rfl (ty := 101) rfl 0 rfl rfl (by kernel_rfl) 32 (by kernel_rfl) _ (HRT.out _) HRL'.out ?_) | (refine wpL_loadAtS hst rfl (ty := 104) rfl 1 rfl rfl (by kernel_rfl) 37 (by kernel_rfl) _ (HT.out _ _) (HL.out _ _) ?_) | (refine wpL_loadAtS hst rfl (ty := 104) rfl 1 rfl rfl (by kernel_rfl) 37 (by kernel_rfl) _ HTZ'.out HLZ.out ?_) | (refine wpL_loadAtS hst rfl (ty := 107) rfl 1 rfl rfl (by kernel_rfl) 37 (by kernel_rfl) _ (HT.out _ _) (HL.out _ _) ?_) | (refine wpL_loadAtS hst rfl (ty := 107) rfl 1 rfl rfl (by kernel_rfl) 37 (by kernel_rfl) _ HTZ'.out HLZ.out ?_) | (refine wpL_loadAtS hst rfl (ty := 102) rfl 1 rfl rfl (by kernel_rfl) 32 (by kernel_rfl) _ (HRT.out _) HRL'.out ?_) | (refine wpL_loadAtS hst rfl (ty := 101) rfl 1 rfl rfl (by kernel_rfl) 32 (by kernel_rfl) _ (HRT.out _) HRL'.out ?_) | (refine wpL_loadAtS hst rfl (ty := 104) rfl 2 rfl rfl (by kernel_rfl) 37 (by kernel_rfl) _ (HT.out _ _) (HL.out _ _) ?_) | (refine wpL_loadAtS hst rfl (ty := 104) rfl 2 rfl rfl (by kernel_rfl) 37 (by kernel_rfl) _ HTZ'.out HLZ.out ?_) | (refine wpL_loadAtS hst rfl (ty := 107) rfl 2 rfl rfl (by kernel_rfl) 37 (by kernel_rfl) _ (HT.out _ _) (HL.out _ _) ?_) | (refine wpL_loadAtS hst rfl (ty := 107) rfl 2 rfl rfl (by kernel_rfl) 37 (by kernel_rfl) _ HTZ'.out HLZ.out ?_) | (refine wpL_loadAtS hst rfl (ty := 102) rfl 2 rfl rfl (by kernel_rfl) 32 (by kernel_rfl) _ (HRT.out _) HRL'.out ?_) | (refine wpL_loadAtS hst rfl (ty := 101) rfl 2 rfl rfl (by kernel_rfl) 32 (by kernel_rfl) _ (HRT.out _) HRL'.out ?_) | (refine wpL_loadAtS hst rfl (ty := 104) rfl 3 rfl rfl (by kernel_rfl) 37 (by kernel_rfl) _ (HT.out _ _) (HL.out _ _) ?_) | (refine wpL_loadAtS hst rfl (ty := 104) rfl 3 rfl rfl (by kernel_rfl) 37 (by kernel_rfl) _ HTZ'.out HLZ.out ?_) | (refine wpL_loadAtS hst rfl (ty := 107) rfl 3 rfl rfl (by kernel_rfl) 37 (by kernel_rfl) _ (HT.out _ _) (HL.out _ _) ?_) | (refine wpL_loadAtS hst rfl (ty := 107) rfl 3 rfl rfl (by kernel_rfl) 37 (by kernel_rfl) _ HTZ'.out HLZ.out ?_) | (refine wpL_loadAtS hst rfl (ty := 102) rfl 3 rfl rfl (by kernel_rfl) 32 (by kernel_rfl) _ (HRT.out _) HRL'.out ?_) | (refine wpL_loadAtS hst rfl (ty := 101) rfl 3 rfl rfl (by kernel_rfl) 32 (by kernel_rfl) _ (HRT.out _) HRL'.out ?_) | (refine wpL_loadAtS hst rfl (ty := 104) rfl 4 rfl rfl (by kernel_rfl) 37 (by kernel_rfl) _ (HT.out _ _) (HL.out _ _) ?_) | (refine wpL_loadAtS hst rfl (ty := 104) rfl 4 rfl rfl (by kernel_rfl) 37 (by kernel_rfl) _ HTZ'.out HLZ.out ?_) | (refine wpL_loadAtS hst rfl (ty := 107) rfl 4 rfl rfl (by kernel_rfl) 37 (by kernel_rfl) _ (HT.out _ _) (HL.out _ _) ?_) | (refine wpL_loadAtS hst rfl (ty := 107) rfl 4 rfl rfl (by kernel_rfl) 37 (by kernel_rfl) _ HTZ'.out HLZ.out ?_) | (refine wpL_loadAtS hst rfl (ty := 102) rfl 4 rfl rfl (by kernel_rfl) 32 (by kernel_rfl) _ (HRT.out _) HRL'.out ?_) | (refine wpL_loadAtS hst rfl (ty := 101) rfl 4 rfl rfl (by kernel_rfl) 32 (by kernel_rfl) _ (HRT.out _) HRL'.out ?_))
        | ((with_reducible refine wpL_peel rfl ?_ ?_); focus (go_simp; done)) | ((with_reducible refine wpL_isLoad rfl ?_); first | (refine wpL_load1S hst rfl rfl 0 rfl rfl rfl (by kernel_rfl) ?_) | (refine wpL_load1S hst rfl rfl 1 rfl rfl rfl (by kernel_rfl) ?_) | (refine wpL_load1S hst rfl rfl 2 rfl rfl rfl (by kernel_rfl) ?_) | (refine wpL_load1S hst rfl rfl 3 rfl rfl rfl (by kernel_rfl) ?_) | (refine wpL_load1S hst rfl rfl 4 rfl rfl rfl (by kernel_rfl) ?_)))
      go_ret
      exact ⟨rfl, hst.only⟩
  · obtain rfl : β = false := by rw [← eβ]; exact decide_eq_false hc
    have BN' := BN (by omega)
    have hc0 : (c == 0) = true := by simp; omega
    clear BY RBY BN
    by_cases hh : HeadOk b v (s.size : Int) k
    · have MY' := MY hh
      have RMY' := RMY hh
      clear MY RMY MN RMN
      go_wp2_with (first
        | ((with_reducible refine wpL_peel rfl ?_ ?_); focus (go_simp; done))
        | ((with_reducible refine wpL_isBin rfl ?_); first | (refine wpL_gtrB rfl rfl rfl rfl false HB.out ?_) | (refine wpL_neqStr rfl rfl M0 M0 rfl rfl true (decide_eq_true rfl) ?_))
        | (go_at_call 73; (with_reducible refine (BN'.out _).mono ?_); rintro e1 w1 ⟨rfl, ho1⟩; replace hst := hst.keep ho1; clear ho1)
        | (go_at_call 75; (with_reducible refine (MY'.out _).mono ?_); rintro e1 w1 ⟨g3, rfl, hg3, hB3, ho3⟩; replace hst := hst.new ho3 hB3 hg3; clear ho3 hB3)
        | (go_at_call 76; (with_reducible refine (RMY'.out _).mono ?_); rintro e1 w1 ⟨g4, cp4, rest4, rfl, hc4, hg4, hB4, ho4⟩; have HC4 := Lib.hid hc4; replace hst := hst.new ho4 hB4 hg4; clear ho4 hB4 hc4)
        | (go_at_call 77; (with_reducible refine (AL.out _ _ _ _ _ HC4.out (hst.blk 3 rfl) (hst.blk 1 rfl)).mono ?_); rintro e1 w1 ⟨rfl, ho1⟩; replace hst := hst.keep ho1; clear ho1)
        | ((with_reducible refine wpL_isAlloc rfl ?_); refine wpL_allocS hst rfl 104 rfl (.agg mfZ.toArray) mfZ (by kernel_rfl) rfl 13 rfl ?_; clear hst; intro w1 b1 hb1 hst)
        | ((with_reducible refine wpL_isStore rfl ?_); refine wpL_storeS hst rfl (ty := 104) rfl 0 rfl rfl rfl (by kernel_rfl) (by kernel_rfl) (HLK.out _ _) (H1L.out _ _ _ _) ?_; clear hst; intro w1 hst; simp only [List.set] at hst)
        | ((with_reducible refine wpL_isAlloc rfl ?_); refine wpL_allocS hst rfl 107 rfl (.agg mfZ.toArray) mfZ (by kernel_rfl) rfl 15 rfl ?_; clear hst; intro w1 b1 hb1 hst)
        | ((with_reducible refine wpL_isStore rfl ?_); refine wpL_storeS hst rfl (ty := 107) rfl 0 rfl rfl rfl (by kernel_rfl) (by kernel_rfl) (HLK.out _ _) (H1L.out _ _ _ _) ?_; clear hst; intro w1 hst; simp only [List.set] at hst)
        | ((with_reducible refine wpL_isLoad rfl ?_); first | (refine wpL_loadAtS hst rfl (ty := 104) rfl 0 rfl rfl (by kernel_rfl) 37 (by kernel_rfl) _ (HT.out _ _) (HL.out _ _) ?_) | (refine wpL_loadAtS hst rfl (ty := 104) rfl 0 rfl rfl (by kernel_rfl) 37 (by kernel_rfl) _ HTZ'.out HLZ.out ?_) | (refine wpL_loadAtS hst rfl (ty := 107) rfl 0 rfl rfl (by kernel_rfl) 37 (by kernel_rfl) _ (HT.out _ _) (HL.out _ _) ?_) | (refine wpL_loadAtS hst rfl (ty := 107) rfl 0 rfl rfl (by kernel_rfl) 37 (by kernel_rfl) _ HTZ'.out HLZ.out ?_) | (refine wpL_loadAtS hst rfl (ty := 102) rfl 0 rfl rfl (by kernel_rfl) 32 (by kernel_rfl) _ (HRT.out _) HRL'.out ?_) | (refine wpL_loadAtS hst rfl (ty := 101) rfl 0 rfl rfl (by kernel_rfl) 32 (by kernel_rfl) _ (HRT.out _) HRL'.out ?_) | (refine wpL_loadAtS hst rfl (ty := 104) rfl 1 rfl rfl (by kernel_rfl) 37 (by kernel_rfl) _ (HT.out _ _) (HL.out _ _) ?_) | (refine wpL_loadAtS hst rfl (ty := 104) rfl 1 rfl rfl (by kernel_rfl) 37 (by kernel_rfl) _ HTZ'.out HLZ.out ?_) | (refine wpL_loadAtS hst rfl (ty := 107) rfl 1 rfl rfl (by kernel_rfl) 37 (by kernel_rfl) _ (HT.out _ _) (HL.out _ _) ?_) | (refine wpL_loadAtS hst rfl (ty := 107) rfl 1 rfl rfl (by kernel_rfl) 37 (by kernel_rfl) _ HTZ'.out HLZ.out ?_) | (refine wpL_loadAtS hst rfl (ty := 102) rfl 1 rfl rfl (by kernel_rfl) 32 (by kernel_rfl) _ (HRT.out _) HRL'.out ?_) | (refine wpL_loadAtS hst rfl (ty := 101) rfl 1 rfl rfl (by kernel_rfl) 32 (by kernel_rfl) _ (HRT.out _) HRL'.out ?_) | (refine wpL_loadAtS hst rfl (ty := 104) rfl 2 rfl rfl (by kernel_rfl) 37 (by kernel_rfl) _ (HT.out _ _) (HL.out _ _) ?_) | (refine wpL_loadAtS hst rfl (ty := 104) rfl 2 rfl rfl (by kernel_rfl) 37 (by kernel_rfl) _ HTZ'.out HLZ.out ?_) | (refine wpL_loadAtS hst rfl (ty := 107) rfl 2 rfl rfl (by kernel_rfl) 37 (by kernel_rfl) _ (HT.out _ _) (HL.out _ _) ?_) | (refine wpL_loadAtS hst rfl (ty := 107) rfl 2 rfl rfl (by kernel_rfl) 37 (by kernel_rfl) _ HTZ'.out HLZ.out ?_) | (refine wpL_loadAtS hst rfl (ty := 102) rfl 2 rfl rfl (by kernel_rfl) 32 (by kernel_rfl) _ (HRT.out _) HRL'.out ?_) | (refine wpL_loadAtS hst rfl (ty := 101) rfl 2 rfl rfl (by kernel_rfl) 32 (by kernel_rfl) _ (HRT.out _) HRL'.out ?_) | (refine wpL_loadAtS hst rfl (ty := 104) rfl 3 rfl rfl (by kernel_rfl) 37 (by kernel_rfl) _ (HT.out _ _) (HL.out _ _) ?_) | (refine wpL_loadAtS hst rfl (ty := 104) rfl 3 rfl rfl (by kernel_rfl) 37 (by kernel_rfl) _ HTZ'.out HLZ.out ?_) | (refine wpL_loadAtS hst rfl (ty := 107) rfl 3 rfl rfl (by kernel_rfl) 37 (by kernel_rfl) _ (HT.out _ _) (HL.out _ _) ?_) | (refine wpL_loadAtS hst rfl (ty := 107) rfl 3 rfl rfl (by kernel_rfl) 37 (by kernel_rfl) _ HTZ'.out HLZ.out ?_) | (refine wpL_loadAtS hst rfl (ty := 102) rfl 3 rfl rfl (by kernel_rfl) 32 (by kernel_rfl) _ (HRT.out _) HRL'.out ?_) | (refine wpL_loadAtS hst rfl (ty := 101) rfl 3 rfl rfl (by kernel_rfl) 32 (by kernel_rfl) _ (HRT.out _) HRL'.out ?_) | (refine wpL_loadAtS hst rfl (ty := 104) rfl 4 rfl rfl (by kernel_rfl) 37 (by kernel_rfl) _ (HT.out _ _) (HL.out _ _) ?_) | (refine wpL_loadAtS hst rfl (ty := 104) rfl 4 rfl rfl (by kernel_rfl) 37 (by kernel_rfl) _ HTZ'.out HLZ.out ?_) | (refine wpL_loadAtS hst rfl (ty := 107) rfl 4 rfl rfl (by kernel_rfl) 37 (by kernel_rfl) _ (HT.out _ _) (HL.out _ _) ?_) | (refine wpL_loadAtS hst rfl (ty := 107) rfl 4 rfl rfl (by kernel_rfl) 37 (by kernel_rfl) _ HTZ'.out HLZ.out ?_) | (refine wpL_loadAtS hst rfl (ty := 102) rfl 4 rfl rfl (by kernel_rfl) 32 (by kernel_rfl) _ (HRT.out _) HRL'.out ?_) | (refine wpL_loadAtS hst rfl (ty := 101) rfl 4 rfl rfl (by kernel_rfl) 32 (by kernel_rfl) _ (HRT.out _) HRL'.out ?_))
        | ((with_reducible refine wpL_peel rfl ?_ ?_); focus (go_simp; done)) | ((with_reducible refine wpL_isLoad rfl ?_); first | (refine wpL_load1S hst rfl rfl 0 rfl rfl rfl (by kernel_rfl) ?_) | (refine wpL_load1S hst rfl rfl 1 rfl rfl rfl (by kernel_rfl) ?_) | (refine wpL_load1S hst rfl rfl 2 rfl rfl rfl (by kernel_rfl) ?_) | (refine wpL_load1S hst rfl rfl 3 rfl rfl rfl (by kernel_rfl) ?_) | (refine wpL_load1S hst rfl rfl 4 rfl rfl rfl (by kernel_rfl) ?_)))
      go_ret
      exact ⟨rfl, hst.only⟩
    · have MN' := MN hh
      have RMN' := RMN hh
      clear MY RMY MN RMN
      go_wp2_with (first
        | ((with_reducible refine wpL_peel rfl ?_ ?_); focus (go_simp; done))
        | ((with_reducible refine wpL_isBin rfl ?_); first | (refine wpL_gtrB rfl rfl rfl rfl false HB.out ?_) | (refine wpL_neqStr rfl rfl M0 M0 rfl rfl true (decide_eq_true rfl) ?_))
        | (go_at_call 73; (with_reducible refine (BN'.out _).mono ?_); rintro e1 w1 ⟨rfl, ho1⟩; replace hst := hst.keep ho1; clear ho1)
        | (go_at_call 75; (with_reducible refine (MN'.out _).mono ?_); rintro e1 w1 ⟨rfl, ho1⟩; replace hst := hst.keep ho1; clear ho1)
        | (go_at_call 76; (with_reducible refine (RMN'.out _).mono ?_); rintro e1 w1 ⟨rfl, ho1⟩; replace hst := hst.keep ho1; clear ho1)
        | (go_at_call 77; (with_reducible refine (AZ.out _).mono ?_); rintro e1 w1 ⟨rfl, ho1⟩; replace hst := hst.keep ho1; clear ho1)
        | ((with_reducible refine wpL_isAlloc rfl ?_); refine wpL_allocS hst rfl 104 rfl (.agg mfZ.toArray) mfZ (by kernel_rfl) rfl 13 rfl ?_; clear hst; intro w1 b1 hb1 hst)
        | ((with_reducible refine wpL_isStore rfl ?_); refine wpL_storeS hst rfl (ty := 104) rfl 0 rfl rfl (D := mfZ) rfl (by kernel_rfl) (by kernel_rfl) rfl HZ1.out ?_; clear hst; intro w1 hst; simp only [List.set] at hst)
        | ((with_reducible refine wpL_isAlloc rfl ?_); refine wpL_allocS hst rfl 107 rfl (.agg mfZ.toArray) mfZ (by kernel_rfl) rfl 15 rfl ?_; clear hst; intro w1 b1 hb1 hst)
        | ((with_reducible refine wpL_isStore rfl ?_); refine wpL_storeS hst rfl (ty := 107) rfl 0 rfl rfl (D := mfZ) rfl (by kernel_rfl) (by kernel_rfl) rfl HZ1.out ?_; clear hst; intro w1 hst; simp only [List.set] at hst)
        | ((with_reducible refine wpL_isLoad rfl ?_); first | (refine wpL_loadAtS hst rfl (ty := 104) rfl 0 rfl rfl (by kernel_rfl) 37 (by kernel_rfl) _ (HT.out _ _) (HL.out _ _) ?_) | (refine wpL_loadAtS hst rfl (ty := 104) rfl 0 rfl rfl (by kernel_rfl) 37 (by kernel_rfl) _ HTZ'.out HLZ.out ?_) | (refine wpL_loadAtS hst rfl (ty := 107) rfl 0 rfl rfl (by kernel_rfl) 37 (by kernel_rfl) _ (HT.out _ _) (HL.out _ _) ?_) | (refine wpL_loadAtS hst rfl (ty := 107) rfl 0 rfl rfl (by kernel_rfl) 37 (by kernel_rfl) _ HTZ'.out HLZ.out ?_) | (refine wpL_loadAtS hst rfl (ty := 102) rfl 0 rfl rfl (by kernel_rfl) 32 (by kernel_rfl) _ (HRT.out _) HRL'.out ?_) | (refine wpL_loadAtS hst rfl (ty := 101) rfl 0 rfl rfl (by kernel_rfl) 32 (by kernel_rfl) _ (HRT.out _) HRL'.out ?_) | (refine wpL_loadAtS hst rfl (ty := 104) rfl 1 rfl rfl (by kernel_rfl) 37 (by kernel_rfl) _ (HT.out _ _) (HL.out _ _) ?_) | (refine wpL_loadAtS hst rfl (ty := 104) rfl 1 rfl rfl (by kernel_rfl) 37 (by kernel_rfl) _ HTZ'.out HLZ.out ?_) | (refine wpL_loadAtS hst rfl (ty := 107) rfl 1 rfl rfl (by kernel_rfl) 37 (by kernel_rfl) _ (HT.out _ _) (HL.out _ _) ?_) | (refine wpL_loadAtS hst rfl (ty := 107) rfl 1 rfl rfl (by kernel_rfl) 37 (by kernel_rfl) _ HTZ'.out HLZ.out ?_) | (refine wpL_loadAtS hst rfl (ty := 102) rfl 1 rfl rfl (by kernel_rfl) 32 (by kernel_rfl) _ (HRT.out _) HRL'.out ?_) | (refine wpL_loadAtS hst rfl (ty := 101) rfl 1 rfl rfl (by kernel_rfl) 32 (by kernel_rfl) _ (HRT.out _) HRL'.out ?_) | (refine wpL_loadAtS hst rfl (ty := 104) rfl 2 rfl rfl (by kernel_rfl) 37 (by kernel_rfl) _ (HT.out _ _) (HL.out _ _) ?_) | (refine wpL_loadAtS hst rfl (ty := 104) rfl 2 rfl rfl (by kernel_rfl) 37 (by kernel_rfl) _ HTZ'.out HLZ.out ?_) | (refine wpL_loadAtS hst rfl (ty := 107) rfl 2 rfl rfl (by kernel_rfl) 37 (by kernel_rfl) _ (HT.out _ _) (HL.out _ _) ?_) | (refine wpL_loadAtS hst rfl (ty := 107) rfl 2 rfl rfl (by kernel_rfl) 37 (by kernel_rfl) _ HTZ'.out HLZ.out ?_) | (refine wpL_loadAtS hst rfl (ty := 102) rfl 2 rfl rfl (by kernel_rfl) 32 (by kernel_rfl) _ (HRT.out _) HRL'.out ?_) | (refine wpL_loadAtS hst rfl (ty := 101) rfl 2 rfl rfl (by kernel_rfl) 32 (by kernel_rfl) _ (HRT.out _) HRL'.out ?_) | (refine wpL_loadAtS hst rfl (ty := 104) rfl 3 rfl rfl (by kernel_rfl) 37 (by kernel_rfl) _ (HT.out _ _) (HL.out _ _) ?_) | (refine wpL_loadAtS hst rfl (ty := 104) rfl 3 rfl rfl (by kernel_rfl) 37 (by kernel_rfl) _ HTZ'.out HLZ.out ?_) | (refine wpL_loadAtS hst rfl (ty := 107) rfl 3 rfl rfl (by kernel_rfl) 37 (by kernel_rfl) _ (HT.out _ _) (HL.out _ _) ?_) | (refine wpL_loadAtS hst rfl (ty := 107) rfl 3 rfl rfl (by kernel_rfl) 37 (by kernel_rfl) _ HTZ'.out HLZ.out ?_) | (refine wpL_loadAtS hst rfl (ty := 102) rfl 3 rfl rfl (by kernel_rfl) 32 (by kernel_rfl) _ (HRT.out _) HRL'.out ?_) | (refine wpL_loadAtS hst rfl (ty := 101) rfl 3 rfl rfl (by kernel_rfl) 32 (by kernel_rfl) _ (HRT.out _) HRL'.out ?_) | (refine wpL_loadAtS hst rfl (ty := 104) rfl 4 rfl rfl (by kernel_rfl) 37 (by kernel_rfl) _ (HT.out _ _) (HL.out _ _) ?_) | (refine wpL_loadAtS hst rfl (ty := 104) rfl 4 rfl rfl (by kernel_rfl) 37 (by kernel_rfl) _ HTZ'.out HLZ.out ?_) | (refine wpL_loadAtS hst rfl (ty := 107) rfl 4 rfl rfl (by kernel_rfl) 37 (by kernel_rfl) _ (HT.out _ _) (HL.out _ _) ?_) | (refine wpL_loadAtS hst rfl (ty := 107) rfl 4 rfl rfl (by kernel_rfl) 37 (by kernel_rfl) _ HTZ'.out HLZ.out ?_) | (refine wpL_loadAtS hst rfl (ty := 102) rfl 4 rfl rfl (by kernel_rfl) 32 (by kernel_rfl) _ (HRT.out _) HRL'.out ?_) | (refine wpL_loadAtS hst rfl (ty := 101) rfl 4 rfl rfl (by kernel_rfl) 32 (by kernel_rfl) _ (HRT.out _) HRL'.out ?_))
        | ((with_reducible refine wpL_peel rfl ?_ ?_); focus (go_simp; done)) | ((with_reducible refine wpL_isLoad rfl ?_); first | (refine wpL_load1S hst rfl rfl 0 rfl rfl rfl (by kernel_rfl) ?_) | (refine wpL_load1S hst rfl rfl 1 rfl rfl rfl (by kernel_rfl) ?_) | (refine wpL_load1S hst rfl rfl 2 rfl rfl rfl (by kernel_rfl) ?_) | (refine wpL_load1S hst rfl rfl 3 rfl rfl rfl (by kernel_rfl) ?_) | (refine wpL_load1S hst rfl rfl 4 rfl rfl rfl (by kernel_rfl) ?_)))
      go_ret
      exact ⟨rfl, hst.only⟩
end Go.Proofs.Ytmogkiacakkmbaa
