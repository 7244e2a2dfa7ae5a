/- Walks: buckets, on both sides. -/
import Derived.Test.YtlciphmjkbihkaaRefD
import Derived.Test.YtlciphmjkbihkaaPen
namespace Go.Proofs.Ytlciphmjkbihkaa
open Go.RowKit

/-- A request's bucket. -/
def bucket (n : Int) : Nat := (((Sha.sum (num4 n)).getD 0 0).toNat + 256 * ((Sha.sum (num4 n)).getD 1 0).toNat) % 100
theorem bucket_lt (n : Int) : bucket n < 100 := Nat.mod_lt _ (by decide)

theorem penInfo : (Try.prog.info? 126).map (·.zero) = some (some (.agg #[.pointer none, .slice none 0 0, .bool false])) := by kernel_rfl

set_option maxRecDepth 100000 in
set_option maxHeartbeats 1000000 in
theorem penBytes_any (b : Nat) (x : Value) (v : Value) (l : List UInt8) (w : World) (h : BldF w b [x] 126 v l) :
    Calls Try.prog 76 #[.pointer (some ⟨b, 0, none⟩)] w fun e w' => e = .returned (.string ⟨l.toArray⟩) ∧ BldF w' b [x] 126 v l ∧ Only v.ownBlock.toList w w' := by
  go_enter Try.func76, Try.ntmps76
  go_wp2_with (go_at_call 80; refine (string_any _ _ _ _ _ _ h).mono ?_; rintro e w' ⟨rfl, hb, ho⟩)
  go_ret
  exact ⟨rfl, hb, ho⟩

set_option maxRecDepth 100000 in
set_option maxHeartbeats 1000000 in
theorem bucket_any (n : Int) (w : World) : Calls Try.prog 46 #[.int .i64 n] w fun e w' => e = .returned (.int .i64 (bucket n : Int)) ∧ Only [] w w' := by
  obtain ⟨d, ed⟩ : ∃ d, d = Sha.sum (num4 n) := ⟨_, rfl⟩
  have D32 : Hid (d.length = 32) := by rw [ed]; exact Sha.sum_length _
  obtain ⟨c0, ec0⟩ : ∃ c : Nat, c = (d.getD 0 0).toNat := ⟨_, rfl⟩
  obtain ⟨c1, ec1⟩ : ∃ c : Nat, c = (d.getD 1 0).toNat := ⟨_, rfl⟩
  have l0 : c0 < 256 := by rw [ec0]; exact (d.getD 0 0).toNat_lt
  have l1 : c1 < 256 := by rw [ec1]; exact (d.getD 1 0).toNat_lt
  have HB : Hid (bucket n = (c0 + 256 * c1) % 100) := by show _ = _; rw [ec0, ec1, ed]; rfl
  have E0 := Lib.hid ec0
  have E1 := Lib.hid ec1
  clear ec0 ec1
  have O1 : Hid (∀ w : World, Calls Try.prog 33 #[.slice (some ⟨w.heap.size, 0, none⟩) 1 1] (w.alloc (.cells #[.string ⟨(num4 n).toArray⟩] 9)) fun e w' => e = .returned (.agg (Lib.byteCells d).toArray) ∧ Only [] (w.alloc (.cells #[.string ⟨(num4 n).toArray⟩] 9)) w') := fun w => by
    have := of_any _ [⟨(num4 n).toArray⟩] _ (Strs.made w [⟨(num4 n).toArray⟩] 9) (by simp) (by simp [cat, bl_mk, num4_length])
    rwa [show cat [⟨(num4 n).toArray⟩] = num4 n by simp [cat, bl_mk], ← ed] at this
  clear ed
  go_enter Try.func46, Try.ntmps46
  go_wp2_with (first
    | (refine wpL_alloc rfl 3 rfl _ rfl (.agg #[.pointer none, .slice none 0 0, .bool false]) [.pointer none, .slice none 0 0, .bool false] penInfo rfl ?_; intro w1 ho1 hs1 hb1)
    | (go_at_call 75; refine (penNum_any w.heap.size false (.slice none 0 0) [] _ [n] _ ((Bld.new hb1).keep ((Only.refl [] _).alloc _)) (Ints.made w1 [n] 3) (by intro a n' c hh; injection hh with e1; injection e1 with e1; subst e1; have := hs1.out; simp [Value.ownBlock]; omega) (by simp) (by simp)).mono ?_))
  rintro e w2 ⟨rfl, v2, hb2, hw2⟩
  have hm2 := (Made.start (ho1.alloc (.cells ([n].map (Value.int .i64)).toArray 3)) (Nat.le_refl _)).wrote hw2
  have hb2' : BldF w2 w.heap.size [.bool (false || [n].any (fun n => !told n))] 126 v2 (num4 n) := by
    have := hb2.F
    simpa using this
  go_wp2_with (go_at_call 76; refine (penBytes_any _ _ _ _ _ hb2').mono ?_)
  rintro e w3 ⟨rfl, _, ho3⟩
  have hm3 := (hm2.told ho3).1
  go_wp2_with (first
    | (go_at_call 33; refine (O1.out _).mono ?_; rintro e w4 ⟨rfl, ho4⟩)
    | (refine wpL_alloc rfl 4 rfl _ rfl (.agg zeros32.toArray) zeros32 (by kernel_rfl) rfl ?_; intro w5 ho5 hs5 hb5)
    | (refine wpL_store rfl _ _ _ rfl w4.heap.size (Lib.byteCells d).toArray rfl rfl _ _ hb5 digInfo (by simp [byteCells_length, D32.out]) rfl (byteCells_one _) ?_; intro w6 ho6 hs6 hb6
       have k0 := hb6.cell (byteCells_get d 0 (by rw [D32.out]; decide))
       have k1 := hb6.cell (byteCells_get d 1 (by rw [D32.out]; decide))
       rw [← E0.out] at k0
       rw [← E1.out] at k1))
  go_ret
  refine ⟨ret_int (by rw [HB.out]; omega), ?_⟩
  exact (((hm3.alloc _).trans ho4).trans ho5).step ho6 (fun i hi => .inr (by
    simp at hi
    subst hi
    exact Nat.le_trans hm3.size (Nat.le_trans (by simp) ho4.size)))

theorem told_yes {n : Int} (h0 : 0 ≤ n) (h1 : n < 4294967296) : told n = true := by simp [told, h0, h1]
set_option maxRecDepth 100000 in
set_option maxHeartbeats 1000000 in
theorem refNum_any (n : Int) (w : World) : Calls Try.prog 77 #[.int .i64 n] w fun e w' => e = .returned (.tuple #[.string ⟨(num4 n).toArray⟩, .bool (told n)]) ∧ Only [] w w' := by
  by_cases h0 : n < 0
  · have e1 : num4 n = [0, 0, 0, 0] := by unfold num4; rw [show told n = false by simp [told]; omega, if_neg (by decide)]; rfl
    have e2 : told n = false := by simp [told]; omega
    rw [e1, e2]
    go_enter Try.func77, Try.ntmps77
    go_wp2
    go_ret2
    exact ⟨rfl, Only.refl _ _⟩
  · by_cases h1 : 4294967295 < n
    · have e1 : num4 n = [0, 0, 0, 0] := by unfold num4; rw [show told n = false by simp [told]; omega, if_neg (by decide)]; rfl
      have e2 : told n = false := by simp [told]; omega
      rw [e1, e2]
      have h0' : 0 ≤ n := by omega
      go_enter Try.func77, Try.ntmps77
      go_wp2
      go_ret2
      exact ⟨rfl, Only.refl _ _⟩
    · obtain ⟨m, rfl⟩ : ∃ m : Nat, n = (m : Int) := ⟨n.toNat, by omega⟩
      have hm : m < 4294967296 := by omega
      have e1 : num4 (m : Int) = le4 m := by unfold num4; rw [told_yes (by omega) (by omega)]; rfl
      rw [e1, told_yes (by omega) (by omega)]
      clear h0 h1 e1
      go_enter Try.func77, Try.ntmps77
      go_wp2_with (first
        | (refine wpL_slice_lit rfl 114 4 _ rfl Try.underlying114 byteInfo (by decide) (by decide) [.int .u8 ((m : Int) % 256), .int .u8 ((m : Int) / 256 % 256), .int .u8 ((m : Int) / 65536 % 256), .int .u8 ((m : Int) / 16777216)] rfl rfl (by intro v hv; simp at hv; rcases hv with rfl | rfl | rfl | rfl <;> rfl) ?_; intro w1 ho1 hs1 hb1)
        | (refine wpL_text rfl _ _ 5 _ rfl ⟨w.heap.size, 0, none⟩ (le4 m) 4 4 rfl rfl Try.underlying114 Try.underlying5 Try.underlying9 (fun j hj => by
            rw [addr_at, Nat.zero_add]
            have hb2 : Blk w1 w.heap.size [.int .u8 ((m : Int) % 256), .int .u8 ((m : Int) / 256 % 256), .int .u8 ((m : Int) / 65536 % 256), .int .u8 ((m : Int) / 16777216)] 5 := hb1
            match j, hj with
            | 0, _ => rw [hb2.cell rfl]; simp [le4]
            | 1, _ => rw [hb2.cell rfl]; simp [le4]
            | 2, _ => rw [hb2.cell rfl]; simp [le4]
            | 3, _ => rw [hb2.cell rfl]; simp [le4]; omega) ?_))
      go_ret2
      exact ⟨rfl, ho1⟩

set_option maxRecDepth 100000 in
set_option maxHeartbeats 1000000 in
theorem refBucket_any (n : Int) (w : World) : Calls Try.prog 45 #[.int .i64 n] w fun e w' => e = .returned (.int .i64 (bucket n : Int)) ∧ Only [] w w' := by
  obtain ⟨d, ed⟩ : ∃ d, d = Sha.sum (num4 n) := ⟨_, rfl⟩
  have D32 : Hid (d.length = 32) := by rw [ed]; exact Sha.sum_length _
  obtain ⟨c0, ec0⟩ : ∃ c : Nat, c = (d.getD 0 0).toNat := ⟨_, rfl⟩
  obtain ⟨c1, ec1⟩ : ∃ c : Nat, c = (d.getD 1 0).toNat := ⟨_, rfl⟩
  have l0 : c0 < 256 := by rw [ec0]; exact (d.getD 0 0).toNat_lt
  have l1 : c1 < 256 := by rw [ec1]; exact (d.getD 1 0).toNat_lt
  have HB : Hid (bucket n = (c0 + 256 * c1) % 100) := by show _ = _; rw [ec0, ec1, ed]; rfl
  have E0 := Lib.hid ec0
  have E1 := Lib.hid ec1
  clear ec0 ec1
  have O1 : Hid (∀ w : World, Calls Try.prog 34 #[.string ⟨(num4 n).toArray⟩] w fun e w' => e = .returned (.agg (Lib.byteCells d).toArray) ∧ Only [] w w') := fun w => by
    rw [ed]
    exact refOf_any ⟨(num4 n).toArray⟩ w (by show (num4 n).length ≤ _; rw [num4_length]; decide)
  clear ed
  go_enter Try.func45, Try.ntmps45
  go_wp2_with (first
    | (go_at_call 77; refine (refNum_any n _).mono ?_; rintro e w1 ⟨rfl, ho1⟩)
    | (go_at_call 34; refine (O1.out _).mono ?_; rintro e w4 ⟨rfl, ho4⟩)
    | (refine wpL_alloc rfl 5 rfl _ rfl (.agg zeros32.toArray) zeros32 (by kernel_rfl) rfl ?_; intro w5 ho5 hs5 hb5)
    | (refine wpL_store rfl _ _ _ rfl w4.heap.size (Lib.byteCells d).toArray rfl rfl _ _ hb5 (by kernel_rfl : (Try.prog.info? 56).map (·.size) = some 32) (by simp [byteCells_length, D32.out]) rfl (byteCells_one _) ?_; intro w6 ho6 hs6 hb6
       have k0 := hb6.cell (byteCells_get d 0 (by rw [D32.out]; decide))
       have k1 := hb6.cell (byteCells_get d 1 (by rw [D32.out]; decide))
       rw [← E0.out] at k0
       rw [← E1.out] at k1))
  go_ret
  refine ⟨ret_int (by rw [HB.out]; omega), ?_⟩
  exact ((ho1.trans ho4).trans ho5).step ho6 (fun i hi => .inr (by
    simp at hi
    subst hi
    exact (ho1.trans ho4).size))

set_option maxHeartbeats 1000000 in
theorem picks_any (n s : Int) (w : World) : Calls Try.prog 47 #[.int .i64 n, .int .i64 s] w fun e w' => e = .returned (.bool (decide ((bucket n : Int) < s))) ∧ Only [] w w' := by
  go_enter Try.func47, Try.ntmps47
  go_wp2_with (go_at_call 46; refine (bucket_any n _).mono ?_; rintro e w1 ⟨rfl, ho1⟩)
  go_ret
  exact ⟨rfl, ho1⟩

/-- The version a request is for. -/
def versionOf (n s c k : Int) : Int := if k ≠ 0 ∧ (bucket n : Int) < s then k else c

set_option maxHeartbeats 1000000 in
theorem version_any (n s c k : Int) (w : World) : Calls Try.prog 48 #[.int .i64 n, .int .i64 s, .int .i64 c, .int .i64 k] w fun e w' => e = .returned (.int .i64 (versionOf n s c k)) ∧ Only [] w w' := by
  by_cases hk : k = 0
  · have e : versionOf n s c k = c := by unfold versionOf; rw [if_neg (fun h => h.1 hk)]
    rw [e]
    subst hk
    go_enter Try.func48, Try.ntmps48
    go_wp2
    go_ret
    exact ⟨rfl, Only.refl _ _⟩
  · by_cases hs : (bucket n : Int) < s
    · have e : versionOf n s c k = k := by unfold versionOf; rw [if_pos ⟨hk, hs⟩]
      rw [e]
      have hb : decide ((bucket n : Int) < s) = true := by simpa using hs
      go_enter Try.func48, Try.ntmps48
      go_wp2_with (go_at_call 47; refine (picks_any n s _).mono ?_; rintro e w1 ⟨rfl, ho1⟩; rw [hb])
      go_ret
      exact ⟨rfl, ho1⟩
    · have e : versionOf n s c k = c := by unfold versionOf; rw [if_neg (fun h => hs h.2)]
      rw [e]
      have hb : decide ((bucket n : Int) < s) = false := by simpa using hs
      go_enter Try.func48, Try.ntmps48
      go_wp2_with (go_at_call 47; refine (picks_any n s _).mono ?_; rintro e w1 ⟨rfl, ho1⟩; rw [hb])
      go_ret
      exact ⟨rfl, ho1⟩

set_option maxHeartbeats 1000000 in
theorem refVersion_any (n s c k : Int) (w : World) : Calls Try.prog 49 #[.int .i64 n, .int .i64 s, .int .i64 c, .int .i64 k] w fun e w' => e = .returned (.int .i64 (versionOf n s c k)) ∧ Only [] w w' := by
  by_cases hk : k = 0
  · have e : versionOf n s c k = c := by unfold versionOf; rw [if_neg (fun h => h.1 hk)]
    rw [e]
    subst hk
    go_enter Try.func49, Try.ntmps49
    go_wp2
    go_ret
    exact ⟨rfl, Only.refl _ _⟩
  · by_cases hs : (bucket n : Int) < s
    · have e : versionOf n s c k = k := by unfold versionOf; rw [if_pos ⟨hk, hs⟩]
      rw [e]
      go_enter Try.func49, Try.ntmps49
      go_wp2_with (go_at_call 45; refine (refBucket_any n _).mono ?_; rintro e w1 ⟨rfl, ho1⟩)
      go_ret
      exact ⟨rfl, ho1⟩
    · have e : versionOf n s c k = c := by unfold versionOf; rw [if_neg (fun h => hs h.2)]
      rw [e]
      go_enter Try.func49, Try.ntmps49
      go_wp2_with (go_at_call 45; refine (refBucket_any n _).mono ?_; rintro e w1 ⟨rfl, ho1⟩)
      go_ret
      exact ⟨rfl, ho1⟩

/-- How many a share picks. -/
def countOf (s : Int) (xs : List Int) : Nat := (xs.filter fun n => decide ((bucket n : Int) < s)).length

set_option maxRecDepth 100000 in
set_option maxHeartbeats 1000000 in
theorem count_any (s : Int) (v : Value) (xs : List Int) (w : World) (h : Ints w v xs) (hx : xs.length ≤ 1000000) : Calls Try.prog 50 #[.int .i64 s, v] w fun e w' => e = .returned (.int .i64 (countOf s xs : Int)) ∧ Only [] w w' := by
  have HI := Lib.hid h
  obtain ⟨ad, cap, rfl⟩ : ∃ ad cap, v = .slice ad xs.length cap := by
    rcases h with ⟨⟨a, c, rfl⟩, rfl⟩ | ⟨bk, o, c, rfl, _⟩
    · exact ⟨a, c, rfl⟩
    · exact ⟨_, _, rfl⟩
  clear h
  go_enter Try.func50, Try.ntmps50
  go_wp2
  go_loopw [5, 10] (fun c i wr => ∃ (k : Nat), k ≤ xs.length ∧ i = .int .i64 k ∧ c = .int .i64 (countOf s (xs.take k) : Int) ∧ countOf s (xs.take k) ≤ k ∧ Only [] w wr) (fun _ i _ => xs.length - (intOf i).toNat)
  case atStart => exact ⟨0, by omega, rfl, rfl, by simp [countOf], Only.refl _ _⟩
  case round =>
    obtain ⟨k, hk, rfl, rfl, hck, hor⟩ := hrel
    by_cases hlt : k < xs.length
    · rcases HI.out with ⟨_, rfl⟩ | ⟨bk, o, c, hv, h1, h2, h3⟩
      · simp at hlt
      · injection hv with e1 e2 e3
        subst e1 e3
        have hc := h1 k xs[k] (List.getElem?_eq_getElem hlt)
        rw [← hor.cellAt bk (o + k) h2 (by simp)] at hc
        have ht : countOf s (xs.take (k + 1)) = countOf s (xs.take k) + if (bucket xs[k] : Int) < s then 1 else 0 := by
          unfold countOf
          rw [List.take_succ_eq_append_getElem hlt, List.filter_append, List.length_append]
          split <;> simp_all
        have i1 : (k : Int) < xs.length := by omega
        by_cases hs : (bucket xs[k] : Int) < s
        · rw [if_pos hs] at ht
          have hb : decide ((bucket xs[k] : Int) < s) = true := by simpa using hs
          have HT := Lib.hid ht
          clear ht
          go_wp2_with (go_at_call 47; refine (picks_any xs[k] s _).mono ?_; rintro e w1 ⟨rfl, ho1⟩; rw [hb])
          go_roundw
          case rel => exact ⟨k + 1, by omega, by go_num, by rw [HT.out]; go_num, by rw [HT.out]; omega, hor.trans ho1⟩
          case measure => simp [intOf]; omega
        · rw [if_neg hs] at ht
          have hb : decide ((bucket xs[k] : Int) < s) = false := by simpa using hs
          have HT := Lib.hid ht
          clear ht
          go_wp2_with (go_at_call 47; refine (picks_any xs[k] s _).mono ?_; rintro e w1 ⟨rfl, ho1⟩; rw [hb])
          go_roundw
          case rel => exact ⟨k + 1, by omega, by go_num, by rw [HT.out]; rfl, by rw [HT.out]; omega, hor.trans ho1⟩
          case measure => simp [intOf]; omega
    · have i1 : ¬ (k : Int) < xs.length := by omega
      have ek : xs.take k = xs := List.take_of_length_le (by omega)
      rw [ek]
      clear hck
      go_wp2_with fail
      go_ret
      exact ⟨rfl, hor⟩

end Go.Proofs.Ytlciphmjkbihkaa
