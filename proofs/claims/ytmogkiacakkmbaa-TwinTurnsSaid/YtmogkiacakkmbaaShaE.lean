/- Walks: the tree of sums. -/
import Derived.Test.YtmogkiacakkmbaaShaD
namespace Go.Proofs.Ytmogkiacakkmbaa
open Go.RowKit

/-- The cells of sums, one behind the other. -/
def digCells (ds : List (List UInt8)) : List Value := (ds.map Lib.byteCells).flatten
/-- All of them have 32 bytes. -/
def Wide (ds : List (List UInt8)) : Prop := ∀ d ∈ ds, d.length = 32
theorem Wide.drop {ds : List (List UInt8)} (h : Wide ds) (k : Nat) : Wide (ds.drop k) := fun d hd => h d (List.mem_of_mem_drop hd)
theorem Wide.take {ds : List (List UInt8)} (h : Wide ds) (k : Nat) : Wide (ds.take k) := fun d hd => h d (List.mem_of_mem_take hd)
theorem digCells_length (ds : List (List UInt8)) (h : Wide ds) : (digCells ds).length = ds.length * 32 := by
  induction ds with
  | nil => rfl
  | cons d r ih =>
    have h1 := h d (by simp)
    have h2 := ih fun x hx => h x (by simp [hx])
    unfold digCells at h2 ⊢
    rw [List.map_cons, List.flatten_cons, List.length_append, h2, byteCells_length, h1, List.length_cons]
    omega
theorem digCells_append (a b : List (List UInt8)) : digCells (a ++ b) = digCells a ++ digCells b := by simp [digCells]
theorem digCells_drop (ds : List (List UInt8)) (h : Wide ds) (k : Nat) : digCells (ds.drop k) = (digCells ds).drop (k * 32) := by
  induction k generalizing ds with
  | zero => simp
  | succ k ih =>
    cases ds with
    | nil => simp [digCells]
    | cons d r =>
      have h1 := h d (by simp)
      rw [List.drop_succ_cons, ih r fun x hx => h x (by simp [hx])]
      show _ = (Lib.byteCells d ++ digCells r).drop _
      rw [show (k + 1) * 32 = (Lib.byteCells d).length + k * 32 by rw [byteCells_length, h1]; omega, List.drop_append]
      simp
theorem digCells_one (ds : List (List UInt8)) : ∀ u ∈ digCells ds, u.oneCell' = true := by
  intro u hu
  simp only [digCells, List.mem_flatten, List.mem_map] at hu
  obtain ⟨l, ⟨d, _, rfl⟩, hu⟩ := hu
  simp only [Lib.byteCells, List.mem_map] at hu
  obtain ⟨c, _, rfl⟩ := hu
  rfl

theorem addr_add (b i j : Nat) : (⟨b, i, none⟩ : Addr).add j = ⟨b, i + j, none⟩ := by unfold Addr.add; split <;> simp_all
theorem byteCells_ones (d : List UInt8) : ∀ u ∈ Lib.byteCells d, u.oneCell' = true := by
  intro u hu
  simp only [Lib.byteCells, List.mem_map] at hu
  obtain ⟨c, _, rfl⟩ := hu
  rfl
/-- A slice of sums that lies in memory, as it can be read. -/
def Digs (w : World) (v : Value) (ds : List (List UInt8)) : Prop :=
  ∃ bk o c, v = .slice (some ⟨bk, o, none⟩) ds.length c ∧ ds.length ≤ c ∧ bk < w.heap.size ∧ ∀ j u, (digCells ds)[j]? = some u → w.cell? ⟨bk, o + j, none⟩ = some u
theorem Digs.only {S : List Nat} {w w' : World} {v : Value} {ds : List (List UInt8)} (h : Digs w v ds) (ho : Only S w w') (hn : ∀ a n c, v = .slice (some a) n c → a.block ∉ S) : Digs w' v ds := by
  obtain ⟨bk, o, c, rfl, h1, h2, h3⟩ := h
  refine ⟨bk, o, c, rfl, h1, Nat.lt_of_lt_of_le h2 ho.size, fun j u hu => ?_⟩
  rw [ho.cellAt _ _ h2 (hn _ _ _ rfl)]
  exact h3 j u hu
theorem Digs.keep {w w' : World} {v : Value} {ds : List (List UInt8)} (h : Digs w v ds) (ho : Only [] w w') : Digs w' v ds := h.only ho (by simp)
/-- The first sum's cells. -/
theorem dig_head {d : List UInt8} {r : List (List UInt8)} {w : World} {bk o : Nat} (h : ∀ j u, (digCells (d :: r))[j]? = some u → w.cell? ⟨bk, o + j, none⟩ = some u) : ∀ j u, (Lib.byteCells d)[j]? = some u → w.cell? ⟨bk, o + j, none⟩ = some u := by
  intro j u hu
  refine h j u ?_
  show (Lib.byteCells d ++ digCells r)[j]? = _
  rw [List.getElem?_append_left (List.getElem?_eq_some_iff.1 hu).1]
  exact hu
theorem dig_tail {d : List UInt8} {r : List (List UInt8)} {w : World} {bk o : Nat} (hd : d.length = 32) (h : ∀ j u, (digCells (d :: r))[j]? = some u → w.cell? ⟨bk, o + j, none⟩ = some u) : ∀ j u, (digCells r)[j]? = some u → w.cell? ⟨bk, o + 32 + j, none⟩ = some u := by
  intro j u hu
  have := h (32 + j) u (by
    show (Lib.byteCells d ++ digCells r)[32 + j]? = _
    rw [List.getElem?_append_right (by rw [byteCells_length]; omega), byteCells_length, hd, show 32 + j - 32 = j by omega]
    exact hu)
  rw [Nat.add_assoc]
  exact this

set_option maxRecDepth 100000 in
set_option maxHeartbeats 1000000 in
theorem tree_none (a : Option Addr) (c : Nat) (w : World) : Calls Try.prog 125 #[.slice a 0 c] w fun e w' => e = .returned (.agg (Lib.byteCells (Sha.sum [])).toArray) ∧ Only [] w w' := by
  have HO : Hid (∀ w, Calls Try.prog 121 #[.slice none 0 0] w fun e w' => e = .returned (.agg (Lib.byteCells (Sha.sum [])).toArray) ∧ Only [] w w') := fun w => of_any (.slice none 0 0) [] w (.inl ⟨⟨none, 0, rfl⟩, rfl⟩) (by simp) (by simp [cat])
  go_enter Try.func125, Try.ntmps125
  go_wp2_with (first
    | (refine wpL_alloc rfl 2 rfl _ rfl (.agg zeros32.toArray) zeros32 (by kernel_rfl) rfl ?_; intro w1 ho1 hs1 hb1)
    | (go_at_call 121; refine (HO.out _).mono ?_; rintro e w2 ⟨rfl, ho2⟩)
    | (refine wpL_store rfl _ _ _ rfl w.heap.size _ rfl rfl _ _ (hb1.keep ho2) digInfo (by simp [byteCells_length, Sha.sum_length]) rfl (byteCells_one _) ?_; intro w3 ho3 hs3 hb3))
  refine end_row (ty := 102) Try.results125 rfl hb3 Try.underlying102 rfl digInfo (by simp [byteCells_length, Sha.sum_length]) rfl ⟨rfl, (ho1.trans ho2).step ho3 (by simp)⟩

set_option maxRecDepth 100000 in
set_option maxHeartbeats 1000000 in
theorem tree_one (d : List UInt8) (v : Value) (w : World) (hd : d.length = 32) (h : Digs w v [d]) : Calls Try.prog 125 #[v] w fun e w' => e = .returned (.agg (Lib.byteCells d).toArray) ∧ Only [] w w' := by
  obtain ⟨bk, o, c, rfl, h1, h2, h3⟩ := h
  have hc := dig_head h3
  have HD := Lib.hid hd
  have HC := Lib.hid hc
  clear hd hc h3 h1
  go_enter Try.func125, Try.ntmps125
  go_wp2_with (first
    | (refine wpL_alloc rfl 2 rfl _ rfl (.agg zeros32.toArray) zeros32 (by kernel_rfl) rfl ?_; intro w1 ho1 hs1 hb1)
    | (refine wpL_load_at rfl _ _ rfl bk o rfl (Lib.byteCells d) _ (fun j u hu => by rw [ho1.cellAt _ _ h2 (by simp)]; exact HC.out j u hu) Try.underlying102 rfl digInfo (by rw [byteCells_length, HD.out]) ?_)
    | (refine wpL_store rfl _ _ _ rfl w.heap.size _ rfl rfl _ _ hb1 digInfo (by simp [byteCells_length, HD.out]) rfl (byteCells_one _) ?_; intro w3 ho3 hs3 hb3))
  refine end_row (ty := 102) Try.results125 rfl hb3 Try.underlying102 rfl digInfo (by simp [byteCells_length, HD.out]) rfl ⟨rfl, ho1.step ho3 (by simp)⟩

theorem wide_pairs (ds : List (List UInt8)) (k : Nat) : Wide (Sha.pairs ds k) := by
  induction k with
  | zero => intro d hd; simp [Sha.pairs] at hd
  | succ k ih =>
    intro d hd
    rw [Sha.pairs, List.mem_append] at hd
    rcases hd with hd | hd
    · exact ih d hd
    · simp at hd
      subst hd
      exact Sha.sum_length _
theorem wide_level (ds : List (List UInt8)) (h : Wide ds) : Wide (Sha.level ds) := by
  rw [Sha.level_pairs]
  intro d hd
  rw [List.mem_append] at hd
  rcases hd with hd | hd
  · exact wide_pairs _ _ d hd
  · exact h d (List.mem_of_mem_drop hd)

theorem tree_wide (n : Nat) : ∀ ds : List (List UInt8), ds.length ≤ n → Wide ds → (Sha.tree ds).length = 32 := by
  induction n with
  | zero =>
    intro ds h _
    obtain rfl := List.eq_nil_of_length_eq_zero (Nat.le_zero.1 h)
    exact Sha.sum_length []
  | succ n ih =>
    intro ds h hw
    rcases Nat.lt_or_ge ds.length 2 with h2 | h2
    · match ds with
      | [] => exact Sha.sum_length []
      | [d] => exact hw d (by simp)
      | _ :: _ :: _ => exact absurd h2 (by simp)
    · rw [Sha.tree_level ds h2]
      exact ih _ (by rw [Sha.level_length]; omega) (wide_level ds hw)

theorem digInfo3 : (Try.prog.info? 102).map (fun i => (i.zero, i.size, i.bytes)) = some (some (.agg zeros32.toArray), 32, 32) := by kernel_rfl

/-- A row of sums that the call owns, as it can be read. -/
theorem Digs.of_owned {w : World} {base : Nat} {v : Value} {ds : List (List UInt8)} {e : TypeId} (h : w.ownsRow base e 32 v ds.length (digCells ds)) (h0 : ds ≠ []) : Digs w v ds := by
  have hn0 : ds.length ≠ 0 := by simpa using h0
  rcases h.2 with ⟨_, hz⟩ | ⟨g, cap, cur, rfl, hb, hg, h1, _⟩
  · exact absurd hz hn0
  · refine ⟨g, 0, cap, rfl, h1, (Array.getElem?_eq_some_iff.1 hg).1, fun j u hu => ?_⟩
    have := h.cells (g := g) rfl j u hu
    rwa [show (⟨g, 0, none⟩ : Addr).add j = ⟨g, 0 + j, none⟩ by unfold Addr.add; split <;> simp_all] at this

set_option maxRecDepth 100000 in
set_option maxHeartbeats 1000000 in
theorem tree_many (N : Nat) (ih : ∀ (v : Value) (ds : List (List UInt8)) (w : World), ds.length ≤ N → Wide ds → ds ≠ [] → ds.length ≤ 1099511627776 → Digs w v ds → Calls Try.prog 125 #[v] w fun e w' => e = .returned (.agg (Lib.byteCells (Sha.tree ds)).toArray) ∧ Only [] w w')
    (v : Value) (ds : List (List UInt8)) (w : World) (hN : ds.length ≤ N + 1) (hw : Wide ds) (h2 : 2 ≤ ds.length) (hmax : ds.length ≤ 1099511627776) (h : Digs w v ds) :
    Calls Try.prog 125 #[v] w fun e w' => e = .returned (.agg (Lib.byteCells (Sha.tree ds)).toArray) ∧ Only [] w w' := by
  have HI := Lib.hid ih
  have HW := Lib.hid hw
  clear ih hw
  have h' := h
  obtain ⟨bk, o, c, rfl, hc1, hbk, hcells⟩ := h'
  have HCL := Lib.hid hcells
  clear hcells
  have HD := Lib.hid h
  clear h
  have hne0 : ((ds.length : Int) == 0) = false := by rw [beq_eq_false_iff_ne]; omega
  have hne1 : ((ds.length : Int) == 1) = false := by rw [beq_eq_false_iff_ne]; omega
  go_enter Try.func125, Try.ntmps125
  go_wp2_with (refine wpL_alloc rfl 2 rfl _ rfl (.agg zeros32.toArray) zeros32 (by kernel_rfl) rfl ?_; intro w1 ho1 hs1 hb1)
  have hbk1 : bk < w1.heap.size := Nat.lt_of_lt_of_le hbk ho1.size
  go_loopw [0, 3] (fun x nx wr => ∃ (k o' c' : Nat), 2 * k ≤ ds.length ∧ x = .slice (some ⟨bk, o', none⟩) (ds.length - 2 * k) c' ∧ ds.length - 2 * k ≤ c' ∧
    Hid (∀ j u, (digCells (ds.drop (2 * k)))[j]? = some u → w.cell? ⟨bk, o' + j, none⟩ = some u) ∧ wr.ownsRow (w.heap.size + 1) 102 32 nx k (digCells (Sha.pairs ds k)) ∧ Only [] w1 wr) (fun x _ _ => match x with | .slice _ n _ => n | _ => 0)
  case atStart => exact ⟨0, o, c, by omega, rfl, by omega, HCL.out, World.ownsRow_nil _ _ _ _, Only.refl _ _⟩
  case round =>
    obtain ⟨k, o', c', hk, rfl, hc', hcl, hown, hor⟩ := hrel
    by_cases hlt : 2 * k + 1 < ds.length
    · have ht1 : 1 < ds.length - 2 * k := by omega
      have e0 : ds.drop (2 * k) = ds.getD (2 * k) [] :: ds.drop (2 * k + 1) := by rw [List.drop_eq_getElem_cons (by omega), List.getD_eq_getElem?_getD, List.getElem?_eq_getElem (by omega)]; rfl
      have e1 : ds.drop (2 * k + 1) = ds.getD (2 * k + 1) [] :: ds.drop (2 * k + 2) := by rw [List.drop_eq_getElem_cons (by omega), List.getD_eq_getElem?_getD, List.getElem?_eq_getElem (by omega)]; rfl
      obtain ⟨d0, hd0⟩ : ∃ d, d = ds.getD (2 * k) [] := ⟨_, rfl⟩
      obtain ⟨d1, hd1⟩ : ∃ d, d = ds.getD (2 * k + 1) [] := ⟨_, rfl⟩
      rw [← hd0] at e0
      rw [← hd1] at e1
      have w0 : d0.length = 32 := (HW.out.drop (2 * k)) d0 (by rw [e0]; simp)
      have w1' : d1.length = 32 := (HW.out.drop (2 * k + 1)) d1 (by rw [e1]; simp)
      have hcl0 := hcl.out
      rw [e0] at hcl0
      have C0 := dig_head hcl0
      have hcl1 := dig_tail w0 hcl0
      rw [e1] at hcl1
      have C1 := dig_head hcl1
      have hcl2 := dig_tail w1' hcl1
      have hcell : ∀ o j, wr.drew.cell? ⟨bk, o + j, none⟩ = w.cell? ⟨bk, o + j, none⟩ := fun o j => by
        show wr.cell? _ = _
        rw [hor.cellAt _ _ hbk1 (by simp), ho1.cellAt _ _ hbk (by simp)]
      have K0 : Hid (∀ j u, (Lib.byteCells d0)[j]? = some u → wr.drew.cell? ⟨bk, o' + j, none⟩ = some u) := fun j u hu => by rw [hcell]; exact C0 j u hu
      have K1 : Hid (∀ j u, (Lib.byteCells d1)[j]? = some u → wr.drew.cell? ⟨bk, o' + 32 + j, none⟩ = some u) := fun j u hu => by rw [hcell]; exact C1 j u hu
      have K2 := Lib.hid hcl2
      have D0 := Lib.hid hd0
      have D1 := Lib.hid hd1
      have W0 := Lib.hid w0
      have W1 := Lib.hid w1'
      obtain ⟨pd, hpd⟩ : ∃ pd, pd = Sha.pair d0 d1 := ⟨_, rfl⟩
      have PL : Hid (pd.length = 32) := by subst hpd; exact Sha.sum_length (d0 ++ d1)
      have HPR : Hid (∀ w, Calls Try.prog 156 #[.agg (Lib.byteCells d0).toArray, .agg (Lib.byteCells d1).toArray] w fun e w' => e = .returned (.agg (Lib.byteCells pd).toArray) ∧ Only [] w w') := fun w => by subst hpd; exact pair_any d0 d1 w W0.out W1.out
      have PD := Lib.hid hpd
      clear hpd
      clear e0 e1 hd0 hd1 w0 w1' hcl0 hcl1 hcl2 C0 C1 hcell
      go_wp2_with fail
      refine wp_region_text (by kernel_rfl) (by kernel_rfl) ?_
      go_wp2_with (first
        | (refine wpL_load_at rfl _ _ rfl bk o' rfl (Lib.byteCells d0) _ K0.out Try.underlying102 rfl digInfo (by rw [byteCells_length, W0.out]) ?_)
        | (refine wpL_load_at rfl _ _ rfl bk (o' + 32) rfl (Lib.byteCells d1) _ K1.out Try.underlying102 rfl digInfo (by rw [byteCells_length, W1.out]) ?_)
        | (go_at_call 156; refine (HPR.out _).mono ?_))
      rintro e w2 ⟨rfl, ho2⟩
      have hor2 : Only [] wr w2 := (Only.refl _ _).drew.trans ho2
      have hown2 := ownsRow_only hown hor2 (by simp)
      have hb2 : w.heap.size + 1 ≤ w2.heap.size := Nat.le_trans (by rw [← hs1.out]; exact hor.size) hor2.size
      have hk1 := Lib.hid (hmax)
      rename_i hK
      refine hK _ _ ?_
      refine wpL_slice_lit rfl 100 1 _ rfl Try.underlying100 digInfo3 (by decide) (by decide) [.agg (Lib.byteCells pd).toArray] ?hv rfl (by simp [byteCells_length, PL.out, Value.cells]) ?_
      case hv => rfl
      intro w3 ho3 hs3 hb3
      have hb3' : Blk w3 w2.heap.size (Lib.byteCells pd) 102 := by simpa [Value.cells] using hb3
      refine wpL_append rfl (.tmp 19) (.tmp 27) 100 rfl (w.heap.size + 1) 102 Try.underlying100 digInfo3 rfl (by decide) u3 k (digCells (Sha.pairs ds k)) rfl (ownsRow_only hown2 ho3 (by simp)) ⟨w2.heap.size, 0, none⟩ 1 1 (Lib.byteCells pd) rfl (by rw [byteCells_length, PL.out]) ?hn ?h1 ?h63 ?hby ?hba ?_
      case hn => exact fun j u hu => by rw [addr_add, Nat.zero_add]; exact hb3'.cell hu
      case h1 => exact byteCells_ones _
      case h63 => unfold maxLen; have := hk1.out; omega
      case hby => have := hk1.out; omega
      case hba => exact Nat.le_trans hb2 ho3.size
      intro v' w4 hown4 hg4 hv4 hiff4
      go_wp2_with fail
      refine TextQ.mk ?_ rfl
      go_wp2_with fail
      refine ⟨⟨k + 1, if c' = 2 then o' else o' + 64, c' - 2, by omega, ?_, by omega, ?_, ?_, ?_⟩, ?_⟩
      · by_cases hc2 : c' = 2
        · rw [if_pos hc2, if_pos hc2]; congr 1
        · rw [if_neg hc2, if_neg hc2]; congr 1
      · intro j u hu
        by_cases hc2 : c' = 2
        · rw [List.drop_eq_nil_of_le (by omega)] at hu
          simp [digCells] at hu
        · rw [if_neg hc2]
          exact K2.out j u (by rwa [show 2 * (k + 1) = 2 * k + 2 by omega] at hu)
      · rw [Sha.pairs, digCells_append, ← D0.out, ← D1.out, ← PD.out]
        simpa [digCells] using hown4
      · refine (((hor.trans hor2).trans ho3).step (Only.of_grown hg4) fun i hi => .inr ?_)
        rw [hs1.out]
        simp only [Option.mem_toList] at hi
        exact (World.ownsRow.lt hown i hi).1
      · show ds.length - 2 * k - 2 < ds.length - 2 * k
        omega
    · have hkk : k = ds.length / 2 := by omega
      have hg0 : ¬ 1 < ds.length - 2 * k := by omega
      obtain ⟨n, hn⟩ : ∃ n, n = ds.length - 2 * k := ⟨_, rfl⟩
      obtain ⟨rest, hrest⟩ : ∃ r, r = ds.drop (2 * k) := ⟨_, rfl⟩
      have hlen : (digCells rest).length = n * 32 := by rw [hrest, digCells_length _ (HW.out.drop _), List.length_drop, hn]
      obtain ⟨nd, hnd⟩ : ∃ nd, nd = Sha.level ds := ⟨_, rfl⟩
      have hlev : nd = Sha.pairs ds k ++ rest := by rw [hnd, hrest, hkk]; exact Sha.level_pairs ds
      have hll : nd.length = k + n := by rw [hnd, Sha.level_length, hn]; omega
      have hcells0 : ∀ j u, (digCells rest)[j]? = some u → wr.drew.cell? ⟨bk, o' + j, none⟩ = some u := fun j u hu => by
        show wr.cell? _ = _
        rw [hor.cellAt _ _ hbk1 (by simp), ho1.cellAt _ _ hbk (by simp)]
        exact hcl.out j u (by rwa [hrest] at hu)
      have HCEL := Lib.hid hcells0
      have HLEN := Lib.hid hlen
      have HLEV := Lib.hid hlev
      have HND := Lib.hid hnd
      have HLL := Lib.hid hll
      have HKK := Lib.hid hkk
      have HREST := Lib.hid hrest
      have hown0 : wr.drew.ownsRow (w.heap.size + 1) 102 32 u3 k (digCells (Sha.pairs ds k)) := ownsRow_only hown (Only.refl [] wr).drew (by simp)
      have hsz1 : w.heap.size + 1 ≤ wr.drew.heap.size := by rw [← hs1.out]; exact hor.size
      have HK1 := Lib.hid (show k + n ≤ 1099511627776 by omega)
      clear hcells0 hlen hlev hnd hll hkk hrest
      rw [← hn] at hg0 hc' ⊢
      go_wp2_with (first
        | (refine wpL_append rfl (.tmp 29) (.tmp 30) 100 rfl (w.heap.size + 1) 102 Try.underlying100 digInfo3 rfl (by decide) u3 k (digCells (Sha.pairs ds k)) rfl hown0 ⟨bk, o', none⟩ n _ (digCells rest) rfl HLEN.out ?hn ?h1 ?h63 ?hby hsz1 ?_)
        )
      case hn => exact fun j u hu => by rw [addr_add]; exact HCEL.out j u hu
      case h1 => exact digCells_one _
      case h63 => unfold maxLen; have := HK1.out; omega
      case hby => have := HK1.out; omega
      rw [← hn]
      intro v' w4 hown4 hg4 hv4 hiff4
      rw [← digCells_append, ← HLEV.out, ← HLL.out] at hown4
      have hnw : Wide nd := by rw [HND.out]; exact wide_level _ HW.out
      have hnl : nd.length = (ds.length + 1) / 2 := by rw [HND.out, Sha.level_length]
      have hnn : nd ≠ [] := fun h => by rw [h] at hnl; simp at hnl; omega
      have HT := Lib.hid (HI.out v' nd w4 (by omega) hnw hnn (by omega) (Digs.of_owned hown4 hnn))
      have ho4 : Only [] w1 w4 := hor.step (Only.of_grown hg4) fun i hi => .inr (by
        rw [hs1.out]
        simp only [Option.mem_toList] at hi
        exact (World.ownsRow.lt hown0 i hi).1)
      obtain ⟨td, htd⟩ : ∃ td, td = Sha.tree nd := ⟨_, rfl⟩
      have TL : Hid (td.length = 32) := by subst htd; exact tree_wide _ nd (Nat.le_refl _) hnw
      have TE : Hid (td = Sha.tree ds) := by subst htd; rw [HND.out]; exact (Sha.tree_level ds h2).symm
      rw [← htd] at HT
      clear htd hnw hnl hnn hn
      go_wp2_with (first
        | (go_at_call 125; refine HT.out.mono ?_; rintro e w5 ⟨rfl, ho5⟩)
        | (refine wpL_store rfl _ _ _ rfl w.heap.size _ rfl rfl _ _ ((hb1.keep ho4).keep ho5) digInfo (by simp [byteCells_length, TL.out]) rfl (byteCells_one _) ?_; intro w6 ho6 hs6 hb6))
      rw [← TE.out]
      refine end_row (ty := 102) Try.results125 rfl hb6 Try.underlying102 rfl digInfo (by simp [byteCells_length, TL.out]) rfl ⟨rfl, ((ho1.trans ho4).trans ho5).step ho6 (by simp)⟩

theorem tree_many' (N : Nat) : ∀ (v : Value) (ds : List (List UInt8)) (w : World), ds.length ≤ N → Wide ds → ds ≠ [] → ds.length ≤ 1099511627776 → Digs w v ds → Calls Try.prog 125 #[v] w fun e w' => e = .returned (.agg (Lib.byteCells (Sha.tree ds)).toArray) ∧ Only [] w w' := by
  induction N with
  | zero => intro v ds w h0 _ hne; exact absurd (List.eq_nil_of_length_eq_zero (by omega)) hne
  | succ N ih =>
    intro v ds w hN hw hne hmax hd
    rcases Nat.lt_or_ge ds.length 2 with h | h
    · match ds, hne with
      | [d], _ => exact tree_one d v w (hw d (by simp)) hd
      | _ :: _ :: _, _ => exact absurd h (by simp)
    · exact tree_many N ih v ds w hN hw h hmax hd

/-- sha.Tree: the tree of sums. -/
theorem tree_any (v : Value) (ds : List (List UInt8)) (w : World) (hw : Wide ds) (hmax : ds.length ≤ 1099511627776) (hd : (ds = [] ∧ ∃ a c, v = .slice a 0 c) ∨ ds ≠ [] ∧ Digs w v ds) :
    Calls Try.prog 125 #[v] w fun e w' => e = .returned (.agg (Lib.byteCells (Sha.tree ds)).toArray) ∧ Only [] w w' := by
  rcases hd with ⟨rfl, a, c, rfl⟩ | ⟨hne, hd⟩
  · exact tree_none a c w
  · exact tree_many' _ v ds w (Nat.le_refl _) hw hne hmax hd

end Go.Proofs.Ytmogkiacakkmbaa
