/- Sets: how many there may be, those there are; the text of the one that awake09 asks for. Slots: which chunks are whole. -/
import Derived.Test.YtmogkiacakkmbaaSlotE
namespace Go.Proofs.Ytmogkiacakkmbaa
open Go.RowKit

set_option maxRecDepth 100000 in
set_option maxHeartbeats 4000000 in
theorem setLen_any (b : Nat) (l : List Bool) (F : List Nat) (w : World) (h : SetAt w b l F) : Calls Try.prog 144 #[.pointer (some ⟨b, 0, none⟩)] w fun e w' => e = .returned (.int .i64 (l.length : Int)) ∧ w = w' := by
  obtain ⟨h, hb, hh, hne, rfl⟩ := h
  have hst := Sd.of (St.with (S := []) hb)
  clear hb hh hne
  go_enter Try.func144, Try.ntmps144
  go_wp2_with (first | ((with_reducible refine wpL_peel rfl ?_ ?_); focus (go_simp; done)) | ((with_reducible refine wpL_peel rfl ?_ ?_); focus (go_simp; done)) | ((with_reducible refine wpL_isLoad rfl ?_); first | (refine wpL_load1S hst.st rfl rfl 0 rfl rfl rfl (by kernel_rfl) ?_)))
  go_ret
  exact ⟨rfl, rfl⟩

/-- Those of the first k that are there. -/
def rowOf (l : List Bool) : Nat → List Int
  | 0 => []
  | k + 1 => if l.getD k false then rowOf l k ++ [(k : Int)] else rowOf l k
theorem rowOf_length (l : List Bool) : ∀ k, (rowOf l k).length ≤ k
  | 0 => Nat.le_refl _
  | k + 1 => by
    have := rowOf_length l k
    unfold rowOf
    split
    · rw [List.length_append]; simp; omega
    · omega

set_option maxRecDepth 100000 in
set_option maxHeartbeats 8000000 in
theorem setRow_any (b : Nat) (l : List Bool) (F : List Nat) (w : World) (h : SetAt w b l F) (hl : l.length ≤ 1024) : Calls Try.prog 145 #[.pointer (some ⟨b, 0, none⟩)] w fun e w' => ∃ ad cp, e = .returned (.slice ad (rowOf l l.length).length cp) ∧ w'.ownsRow 0 3 1 (.slice ad (rowOf l l.length).length cp) (rowOf l l.length).length ((rowOf l l.length).map (Value.int .i64)) ∧ (∀ k ∈ (Value.slice ad (rowOf l l.length).length cp).ownBlock.toList, w.heap.size ≤ k) ∧ Only [] w w' := by
  obtain ⟨h, hb, hh, hne, rfl⟩ := h
  have hst := (Sd.of ((St.with (S := []) hh).read hb (fun x hx => by simp only [List.mem_singleton] at hx; subst hx; exact fun e => hne e.symm))).row 3 1
  have HC : Hid (∀ k, k < l.length → (bcells l)[k]? = some (.bool (l.getD k false))) := fun k hk => by
    unfold bcells
    rw [List.getElem?_map, List.getElem?_eq_getElem hk, List.getD_eq_getElem?_getD, List.getElem?_eq_getElem hk]
    rfl
  have HR : Hid (∀ k, rowOf l (k + 1) = if l.getD k false then rowOf l k ++ [(k : Int)] else rowOf l k) := fun k => rfl
  have HRL := Lib.hid (rowOf_length l)
  clear hb hh hne
  go_enter Try.func145, Try.ntmps145
  go_wp2_with (first | ((with_reducible refine wpL_peel rfl ?_ ?_); focus (go_simp; done)) | ((with_reducible refine wpL_peel rfl ?_ ?_); focus (go_simp; done)) | ((with_reducible refine wpL_isLoad rfl ?_); first | (refine wpL_load1S hst.st rfl rfl 0 rfl rfl rfl (by kernel_rfl) ?_) | (refine wpL_load1S hst.st rfl rfl 1 rfl rfl rfl (by kernel_rfl) ?_)))
  go_loopw [2, 12] (fun v i wr => ∃ (k : Nat) (ad : Option Addr) (cp q : Nat) (xs : List Int), k ≤ l.length ∧ v = .slice ad q cp ∧ i = .int .i64 (k : Int) ∧ Hid (xs = rowOf l k ∧ q = xs.length) ∧ Sd w [] wr [⟨b, [.slice (some ⟨h, 0, none⟩) l.length l.length], 166, false⟩, ⟨h, bcells l, 4, false⟩] [rowR (.slice ad q cp) 3 1 q (xs.map (Value.int .i64))]) (fun _ i _ => l.length - (intOf i).toNat)
  case atStart => exact ⟨0, none, 0, 0, [], by omega, rfl, rfl, ⟨rfl, rfl⟩, hst⟩
  case round =>
    obtain ⟨k, ad, cp, q, xs, hk, rfl, rfl, hx, hst⟩ := hrel
    by_cases hlt : k < l.length
    · have hc : wr.cell? ⟨h, k, none⟩ = some (.bool (l.getD k false)) := (hst.blk 1 rfl).cell (HC.out k hlt)
      have k64 : (k : Int) < l.length := by omega
      have hq : Hid (q ≤ 1024) := by
        have := HRL.out k
        show _ ≤ _
        rw [hx.out.2, hx.out.1]
        omega
      have HRK := Lib.hid (HR.out k)
      cases hb : l.getD k false with
      | false =>
        rw [hb] at hc
        have HX : Hid (xs = rowOf l (k + 1) ∧ q = xs.length) := ⟨by rw [HRK.out, hb]; exact hx.out.1, hx.out.2⟩
        clear hb hx HRK
        go_wp2_with fail
        go_roundw
        case rel => exact ⟨k + 1, ad, cp, q, xs, by omega, rfl, by go_num, HX, hst⟩
        case measure => simp [intOf]; omega
      | true =>
        rw [hb] at hc
        have HX : Hid (xs ++ [(k : Int)] = rowOf l (k + 1) ∧ q + 1 = (xs ++ [(k : Int)]).length) := ⟨by rw [HRK.out, hb, hx.out.1]; rfl, by rw [List.length_append, hx.out.2]; rfl⟩
        have HM : Hid (xs.map (Value.int .i64) ++ [.int .i64 (k : Int)] = (xs ++ [(k : Int)]).map (Value.int .i64)) := by show _ = _; rw [List.map_append]; rfl
        have hq' := hq.out
        clear hb hx HRK
        go_wp2_with (first
          | ((with_reducible refine wpL_isSliceT rfl ?_); refine wpL_sliceD hst rfl 63 1 _ rfl Try.underlying63 intInfoT (by decide) (by decide) [.int .i64 (k : Int)] rfl rfl (by simp [Value.cells]) ?_; clear hst; intro w3 g3 hg3 hst)
          | ((with_reducible refine wpL_isAppT rfl ?_); refine wpL_appendD hst rfl _ _ 63 rfl 0 0 3 Try.underlying63 intInfoT rfl (by decide) (.slice ad q cp) q (xs.map (Value.int .i64)) rfl rfl g3 1 1 [.int .i64 (k : Int)] rfl rfl rfl (by simp [Value.oneCell']) (by omega) (by decide) ?_; clear hst; intro ad2 cp2 w4 hst; simp only [List.set] at hst; rw [HM.out] at hst))
        go_roundw
        case rel => exact ⟨k + 1, ad2, cp2, q + 1, xs ++ [(k : Int)], by omega, rfl, by go_num, HX, hst.dropN 1⟩
        case measure => simp [intOf]; omega
    · obtain rfl : k = l.length := by omega
      go_wp2_with fail
      go_ret
      obtain ⟨rfl, rfl⟩ := hx.out
      have hres := (hst.res _ (List.mem_of_getElem? (show _ = some _ from rfl : [rowR (.slice ad (rowOf l l.length).length cp) 3 1 (rowOf l l.length).length ((rowOf l l.length).map (Value.int .i64))][0]? = _))).2 rfl
      refine ⟨ad, cp, rfl, hst.rs 0 rfl, fun x hx => ?_, hst.only⟩
      rcases hres x hx with h | h
      · cases h
      · exact h

set_option maxRecDepth 100000 in
set_option maxHeartbeats 8000000 in
theorem setText_04 (b : Nat) (F : List Nat) (w : World) (h : SetAt w b [false, false, true, false] F) : Calls Try.prog 104 #[.pointer (some ⟨b, 0, none⟩)] w fun e w' => e = .returned (.string ⟨#[4]⟩) ∧ Only [] w w' := by
  have hst := (Sd.withQ [] { setR b [false, false, true, false] F with own := false } h rfl)
  have LN : Hid (∀ w, SetAt w b [false, false, true, false] F → Calls Try.prog 144 #[.pointer (some ⟨b, 0, none⟩)] w fun e w' => e = .returned (.int .i64 4) ∧ w = w') := fun w h => setLen_any b _ F w h
  have RW : Hid (∀ w, SetAt w b [false, false, true, false] F → Calls Try.prog 145 #[.pointer (some ⟨b, 0, none⟩)] w fun e w' => ∃ g cp, e = .returned (.slice (some ⟨g, 0, none⟩) 1 cp) ∧ w'.ownsRow 0 3 1 (.slice (some ⟨g, 0, none⟩) 1 cp) 1 [.int .i64 2] ∧ (∀ k ∈ (Value.slice (some ⟨g, 0, none⟩) 1 cp).ownBlock.toList, w.heap.size ≤ k) ∧ Only [] w w') := fun w h => (setRow_any b _ F w h (by decide)).mono (by
    rintro e w' ⟨ad, cp, rfl, hown, hg, ho⟩
    rcases hown.2 with ⟨h1, _⟩ | ⟨g, cap, cur, h1, _⟩
    · exact absurd h1 (by simp [rowOf])
    · have h1' : Value.slice ad 1 cp = .slice (some ⟨g, 0, none⟩) 1 cap := h1
      simp only [Value.slice.injEq] at h1'
      obtain ⟨rfl, _, rfl⟩ := h1'
      exact ⟨g, cp, rfl, hown, hg, ho⟩)
  have hn1 : Hid (1 ≤ 1024) := by show _ ≤ _; decide
  clear h
  go_enter Try.func104, Try.ntmps104
  go_wp2_with (first
    | ((with_reducible refine wpL_peel rfl ?_ ?_); focus (go_simp; done)) | (go_at_call 144; (with_reducible refine (LN.out _ (hst.rs 0 rfl)).mono ?_); rintro e1 w1 ⟨rfl, rfl⟩)
    | (go_at_call 145; (with_reducible refine (RW.out _ (hst.rs 0 rfl)).mono ?_); rintro e1 w1 ⟨g, cp, rfl, hown, hge, ho1⟩; replace hst := hst.add ho1 (r := rowR (.slice (some ⟨g, 0, none⟩) 1 cp) 3 1 1 [.int .i64 2]) hown hge; clear ho1 hge hown)
    | ((with_reducible refine wpL_isMakeD rfl ?_); refine wpL_makeD hst rfl 56 _ rfl Try.underlying56 (.int .u8 0) (.int .u8 0) 1 1 rfl (by decide) byteInfo 1 rfl hn1.out (by decide) (by decide) ?_; clear hst; intro w3 gz hg3 hst))
  have HG : Hid (∀ wr L, Sd w [] wr L [rowR (.slice (some ⟨g, 0, none⟩) 1 cp) 3 1 1 [.int .i64 2], { setR b [false, false, true, false] F with own := false }] → wr.cell? ⟨g, 0, none⟩ = some (.int .i64 2)) := fun wr L hst => by
    obtain ⟨g', cap, rest, e, _, hblk, _⟩ := ownsRow_open (hst.rs 0 rfl) (by decide)
    simp only [Value.slice.injEq, Option.some.injEq, Addr.mk.injEq] at e
    obtain ⟨⟨rfl, _⟩, _⟩ := e
    exact hblk.cell rfl
  go_loopw [15] (fun i wr => ∃ (k : Nat), k ≤ 1 ∧ i = .int .i64 (k : Int) ∧ Sd w [] wr [⟨gz, [.int .u8 (if k = 0 then 0 else 4)], 5, true⟩] [rowR (.slice (some ⟨g, 0, none⟩) 1 cp) 3 1 1 [.int .i64 2], { setR b [false, false, true, false] F with own := false }]) (fun i _ => 1 - (intOf i).toNat)
  case atStart => exact ⟨0, by omega, rfl, hst⟩
  case round =>
    obtain ⟨k, hk, rfl, hst⟩ := hrel
    by_cases hlt : k < 1
    · obtain rfl : k = 0 := by omega
      rw [if_pos rfl] at hst
      have hc := HG.out _ _ hst
      go_wp2_with (first | ((with_reducible refine wpL_peel rfl ?_ ?_); focus (go_simp; done)) | ((with_reducible refine wpL_peel rfl ?_ ?_); focus (go_simp; done)) | ((with_reducible refine wpL_isLoad rfl ?_); first | (refine wpL_load1S hst.st rfl rfl 0 rfl rfl rfl (by kernel_rfl) ?_)))
      replace hst := hst.drew
      refine wp_region_text (by kernel_rfl) (by kernel_rfl) ?_
      generalize World.drew _ = W at *
      go_wp2_with (first | ((with_reducible refine wpL_peel rfl ?_ ?_); focus (go_simp; done)) | ((with_reducible refine wpL_peel rfl ?_ ?_); focus (go_simp; done)) | ((with_reducible refine wpL_isLoad rfl ?_); first | (refine wpL_load1S hst.st rfl rfl 0 rfl rfl rfl (by kernel_rfl) ?_)) | ((with_reducible refine wpL_isStore rfl ?_); first | (refine wpL_store1D hst rfl rfl 0 rfl rfl rfl rfl (by kernel_rfl) rfl ?_; clear hst; intro w1 hst; simp only [List.set] at hst)))
      refine TextQ.mk ?_ rfl
      go_wp2_with fail
      go_roundw
      case rel => exact ⟨1, by omega, by go_num, hst⟩
      case measure => simp [intOf]
    · obtain rfl : k = 1 := by omega
      rw [if_neg (by decide)] at hst
      go_wp2_with (first
        | ((with_reducible refine wpL_isConvT rfl ?_); refine wpL_str rfl 56 9 5 _ rfl ⟨gz, 0, none⟩ [4] 1 1 rfl rfl Try.underlying56 Try.underlying5 Try.underlying9 (fun q hq => by
          have hq' : q = 0 := (by simpa using hq)
          subst hq'
          exact (hst.blk 0 rfl).cell rfl) ?_))
      go_ret
      exact ⟨rfl, hst.only⟩

/-- Which of c chunks are whole, after j of them have been read. -/
def scanJ (m : DM) (f n size : Nat) (num : Int) (c : Nat) : Nat → List Bool
  | 0 => List.replicate c false
  | j + 1 => if (slotG size (getR m f n ((j : Int) * (secsOf size : Int)))).2.2 = 0 ∧ (slotG size (getR m f n ((j : Int) * (secsOf size : Int)))).2.1 = num then (scanJ m f n size num c j).set j true else scanJ m f n size num c j
theorem scanJ_length (m : DM) (f n size : Nat) (num : Int) (c : Nat) : ∀ j, (scanJ m f n size num c j).length = c
  | 0 => List.length_replicate
  | j + 1 => by
    unfold scanJ
    split
    · rw [List.length_set]; exact scanJ_length m f n size num c j
    · exact scanJ_length m f n size num c j

set_option maxRecDepth 100000 in
set_option maxHeartbeats 16000000 in
theorem slotScan_any (a z d f n size : Nat) (m : DM) (F : List Nat) (w : World) (ha : Blk w a (slcells z size) 80) (hz : Blk w z (zcells d f n) 34) (hd : DiskAt w d m F) (haz : a ≠ z) (haF : a ∉ F) (hzF : z ∉ F) (hf : f ≤ 4096) (hn : n ≤ 4096) (h1 : 1 ≤ size) (h2 : size ≤ 256) (few : m.loose.length ≤ 700000) (haw : m.away = false) (c : Nat) (hc1 : 1 ≤ c) (hc : c ≤ chunksN n size) (num : Int) :
    Calls Try.prog 47 #[.pointer (some ⟨a, 0, none⟩), .int .i64 num, .int .i64 (c : Int)] w fun e w' => ∃ b F', e = .returned (.tuple #[.pointer (some ⟨b, 0, none⟩), .int .i64 0]) ∧ SetAt w' b (scanJ m f n size num c c) F' ∧ (∀ k ∈ F', w.heap.size ≤ k) ∧ Only [] w w' := by
  have hst := ((Sd.withQ [] (diskQ d m F) hd rfl).read ha (by simp) (fun r hr => by simp only [List.mem_singleton] at hr; subst hr; exact haF)).read hz (fun x hx => by simp only [List.mem_singleton] at hx; subst hx; exact haz) (fun r hr => by simp only [List.mem_singleton] at hr; subst hr; exact hzF)
  have MY : Hid (∀ w, Blk w a (slcells z size) 80 → Blk w z (zcells d f n) 34 → DiskAt w d m F → Calls Try.prog 108 #[.pointer (some ⟨a, 0, none⟩), .int .i64 (c : Int)] w fun e w' => e = .returned (.int .i64 0) ∧ Only [] w w') := fun w h3 h4 h5 => slotMany_yes a z d f n size m F w h3 h4 h5 haz haF hzF hn h1 h2 haw c hc1 hc
  have GT : Hid (∀ (j : Nat) w, j < c → Blk w a (slcells z size) 80 → Blk w z (zcells d f n) 34 → DiskAt w d m F → Calls Try.prog 51 #[.pointer (some ⟨a, 0, none⟩), .int .i64 (j : Int)] w fun e w' => e = .returned (.tuple #[.string (slotG size (getR m f n ((j : Int) * (secsOf size : Int)))).1, .int .i64 (slotG size (getR m f n ((j : Int) * (secsOf size : Int)))).2.1, .int .i64 (slotG size (getR m f n ((j : Int) * (secsOf size : Int)))).2.2]) ∧ Only [] w w') := fun j w hj h3 h4 h5 => slotGet_yes a z d f n size m F w h3 h4 h5 haz haF hzF hf hn h1 h2 few j (by omega)
  have hci : (c : Int) ≤ 64 := by unfold chunksN at hc; omega
  have NW : Hid (∀ w, Calls Try.prog 109 #[.int .i64 (c : Int)] w fun e w' => ∃ b F, e = .returned (.pointer (some ⟨b, 0, none⟩)) ∧ SetAt w' b (List.replicate c false) F ∧ Only [] w w' ∧ (∀ k ∈ F, w.heap.size ≤ k)) := fun w => setNew_yes c w hc1 (by omega)
  have SL := Lib.hid (scanJ_length m f n size num c)
  have AD : Hid (∀ b l F g (x : Nat) w, SetAt w b l F → Blk w g [.int .i64 (x : Int)] 3 → g ∉ F → l.length = c → x < c → Calls Try.prog 50 #[.pointer (some ⟨b, 0, none⟩), .slice (some ⟨g, 0, none⟩) 1 1] w fun e w' => e = .returned (.int .i64 0) ∧ SetAt w' b (l.set x true) F ∧ Turn F F w w') := fun b l F g x w h3 h4 h5 h6 h7 => setAdd_yes b l F g x w h3 h4 h5 (by omega) (by omega)
  clear ha hz hd haz haF hzF hf hn h1 h2 few haw hc1 hc
  go_enter Try.func47, Try.ntmps47
  go_wp2_with (first
    | (go_at_call 108; (with_reducible refine (MY.out _ (hst.blk 1 rfl) (hst.blk 0 rfl) (hst.rs 0 rfl)).mono ?_); rintro e1 w1 ⟨rfl, ho1⟩; replace hst := hst.keep ho1; clear ho1)
    | (go_at_call 109; (with_reducible refine (NW.out _).mono ?_); rintro e1 w1 ⟨b, Fb, rfl, hb1, ho1, hg1⟩; replace hst := hst.add ho1 (r := setR b _ Fb) hb1 hg1; clear hb1 ho1 hg1))
  go_loopw [23] (fun i wr => ∃ (j : Nat) (l : List Bool), j ≤ c ∧ i = .int .i64 (j : Int) ∧ Hid (scanJ m f n size num c j = l) ∧ Sd w [] wr [⟨z, zcells d f n, 34, false⟩, ⟨a, slcells z size, 80, false⟩] [setR b l Fb, diskQ d m F])
    (fun i _ => (c - intOf i).toNat)
  case atStart => exact ⟨0, _, by omega, rfl, rfl, hst⟩
  case round =>
    clear hst
    obtain ⟨j, l, hj, rfl, HG, hst⟩ := hrel
    by_cases hlt : j < c
    · have j1 : (j : Int) < c := by omega
      have HJ : Hid (j + 1 ≤ c) := hlt
      have GJ := Lib.hid (fun w => GT.out j w hlt)
      have NX : scanJ m f n size num c (j + 1) = if (slotG size (getR m f n ((j : Int) * (secsOf size : Int)))).2.2 = 0 ∧ (slotG size (getR m f n ((j : Int) * (secsOf size : Int)))).2.1 = num then l.set j true else l := by rw [scanJ, HG.out]
      have LJ : Hid (l.length = c) := by show _ = _; rw [← HG.out]; exact SL.out j
      rcases hS : slotG size (getR m f n ((j : Int) * (secsOf size : Int))) with ⟨tx, k, er⟩
      rw [hS] at GJ NX
      simp only at GJ NX
      clear hS
      by_cases c0 : er = 0
      · subst c0
        by_cases ck : k = num
        · subst ck
          rw [if_pos ⟨rfl, rfl⟩] at NX
          have NX2 := Lib.hid NX
          clear NX
          go_wp2_with (first
            | ((with_reducible refine wpL_peel rfl ?_ ?_); focus (go_simp; done)) | (go_at_call 51; (with_reducible refine (GJ.out _ (hst.blk 1 rfl) (hst.blk 0 rfl) (hst.rs 1 rfl)).mono ?_); rintro e1 w1 ⟨rfl, ho1⟩; replace hst := hst.keep ho1; clear ho1)
            | ((with_reducible refine wpL_isSliceT rfl ?_); refine wpL_sliceD hst rfl 63 1 _ rfl Try.underlying63 intInfoT (by decide) (by decide) [.int .i64 (j : Int)] rfl rfl (by simp [Value.cells]) ?_; clear hst; intro w3 g3 hg3 hst)
            | (go_at_call 50; (with_reducible refine (AD.out _ _ _ _ _ _ (hst.rs 0 rfl) (hst.blk 0 rfl) (hst.away 0 0 rfl rfl) LJ.out HJ.out).mono ?_); rintro e1 w2 ⟨rfl, hd2, ht2⟩; replace hst := hst.act 0 rfl (setR b (l.set j true) Fb) rfl ht2 hd2; simp only [List.set] at hst; clear ht2 hd2))
          go_roundw
          case rel => exact ⟨j + 1, _, HJ.out, by go_num, NX2, hst.dropN 1⟩
          case measure => simp [intOf]; omega
        · rw [if_neg (fun h => ck h.2)] at NX
          have NX2 := Lib.hid NX
          have ck2 : (k == num) = false := by simpa using ck
          clear NX ck
          go_wp2_with (first
            | ((with_reducible refine wpL_peel rfl ?_ ?_); focus (go_simp; done)) | (go_at_call 51; (with_reducible refine (GJ.out _ (hst.blk 1 rfl) (hst.blk 0 rfl) (hst.rs 1 rfl)).mono ?_); rintro e1 w1 ⟨rfl, ho1⟩; replace hst := hst.keep ho1; clear ho1))
          go_roundw
          case rel => exact ⟨j + 1, _, HJ.out, by go_num, NX2, hst⟩
          case measure => simp [intOf]; omega
      · rw [if_neg (fun h => c0 h.1)] at NX
        have NX2 := Lib.hid NX
        have d0 : (er == 0) = false := by simpa using c0
        clear NX c0
        go_wp2_with (first
          | ((with_reducible refine wpL_peel rfl ?_ ?_); focus (go_simp; done)) | (go_at_call 51; (with_reducible refine (GJ.out _ (hst.blk 1 rfl) (hst.blk 0 rfl) (hst.rs 1 rfl)).mono ?_); rintro e1 w1 ⟨rfl, ho1⟩; replace hst := hst.keep ho1; clear ho1))
        go_roundw
        case rel => exact ⟨j + 1, _, HJ.out, by go_num, NX2, hst⟩
        case measure => simp [intOf]; omega
    · obtain rfl : j = c := by omega
      have j1 : ¬ (j : Int) < j := by omega
      go_wp2_with fail
      go_ret2
      have hres := (hst.res (setR b l Fb) (by simp)).2 rfl
      refine ⟨b, rfl, Fb, ?_, fun x hx => ?_, hst.only⟩
      · rw [HG.out]
        exact hst.rs 0 rfl
      · rcases hres x hx with h | h
        · cases h
        · exact h
end Go.Proofs.Ytmogkiacakkmbaa
