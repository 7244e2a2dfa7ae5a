/- Slots: how many chunks; whether there is one; a chunk put, got. -/
import Derived.Test.YtmogkiacakkmbaaSlotA
import Derived.Test.YtmogkiacakkmbaaOrdE
namespace Go.Proofs.Ytmogkiacakkmbaa
open Go.RowKit

section
variable (a z d f n size : Nat) (w : World) (ha : Blk w a (slcells z size) 80) (hz : Blk w z (zcells d f n) 34) (haz : a ≠ z) (hn : n ≤ 4096) (h1 : 1 ≤ size) (h2 : size ≤ 256)
include ha hz haz hn h1 h2

set_option maxRecDepth 100000 in
set_option maxHeartbeats 4000000 in
theorem slotChunks_any : Calls Try.prog 45 #[.pointer (some ⟨a, 0, none⟩)] w fun e w' => e = .returned (.int .i64 (chunksN n size : Int)) ∧ Only [] w w' := by
  have hst := Sd.of ((St.with (S := []) ha).read hz (fun x hx => by simp only [List.mem_singleton] at hx; subst hx; exact haz))
  unfold slcells zcells at hst
  have PE : Hid (∀ w, Calls Try.prog 105 #[.int .i64 (size : Int)] w fun e w' => e = .returned (.int .i64 (secsOf size : Int)) ∧ Only [] w w') := fun w => slotPer_any size h1 h2 w
  have LN : Hid (∀ w, Blk w z (zcells d f n) 34 → Calls Try.prog 80 #[.pointer (some ⟨z, 0, none⟩)] w fun e w' => e = .returned (.int .i64 (n : Int)) ∧ w = w') := fun w h => zonLen_any z d f n w h
  obtain ⟨K, eK⟩ : ∃ K, K = secsOf size := ⟨_, rfl⟩
  have hK := secsOf_two size
  have hK0 : 2 ≤ (K : Int) := by omega
  have hni : (n : Int) ≤ 4096 := by omega
  have hq0 : 0 ≤ (n : Int) / (K : Int) := Int.ediv_nonneg (by omega) (by omega)
  have hq1 : (n : Int) / (K : Int) ≤ 4096 := Int.le_trans (Int.ediv_le_self _ (by omega)) hni
  have eC : (chunksN n size : Int) = min ((n : Int) / (K : Int)) 64 := by
    unfold chunksN
    rw [← eK]
    omega
  rw [eC]
  rw [← eK] at PE
  clear ha hz haz hn h1 h2 eK hK eC
  go_enter Try.func45, Try.ntmps45
  go_wp2_with fail
  replace hst := hst.drew
  refine wp_region_ord [4, 9, 11] [0, 1, 2, 3, 5, 6, 7, 8, 4, 9, 10, 11, 12] (by kernel_rfl) (by kernel_rfl) ?_
  generalize World.drew _ = W at *
  refine Ord.cut 3 2 rfl rfl rfl rfl (by kernel_rfl) (by kernel_rfl) ?_; simp only [List.take_succ_cons, List.take_zero, List.drop_succ_cons, List.drop_zero, List.filterMap_cons, List.filterMap_nil, List.getElem?_cons_succ, List.getElem?_cons_zero]; go_wp2_with fail; refine TextQ.mk ⟨fun h => by simp at h, ?_⟩ rfl
  refine Ord.cut 1 3 rfl rfl rfl rfl (by kernel_rfl) (by kernel_rfl) ?_; simp only [List.take_succ_cons, List.take_zero, List.drop_succ_cons, List.drop_zero, List.filterMap_cons, List.filterMap_nil, List.getElem?_cons_succ, List.getElem?_cons_zero]; (try refine wpL_peel rfl rfl ?_); (first | (refine wpL_load1S hst.st rfl rfl 0 rfl rfl rfl (by kernel_rfl) ?_) | (refine wpL_load1S hst.st rfl rfl 1 rfl rfl rfl (by kernel_rfl) ?_) | (refine wpL_load1S hst.st rfl rfl 2 rfl rfl rfl (by kernel_rfl) ?_) | (refine wpL_load1S hst.st rfl rfl 3 rfl rfl rfl (by kernel_rfl) ?_)); refine TextQ.mk ⟨fun h => by simp at h, ?_⟩ rfl
  refine Ord.cut 3 7 rfl rfl rfl rfl (by kernel_rfl) (by kernel_rfl) ?_; simp only [List.take_succ_cons, List.take_zero, List.drop_succ_cons, List.drop_zero, List.filterMap_cons, List.filterMap_nil, List.getElem?_cons_succ, List.getElem?_cons_zero]; go_wp2_with fail; refine TextQ.mk ⟨fun h => by simp at h, ?_⟩ rfl
  refine Ord.cut 1 8 rfl rfl rfl rfl (by kernel_rfl) (by kernel_rfl) ?_; simp only [List.take_succ_cons, List.take_zero, List.drop_succ_cons, List.drop_zero, List.filterMap_cons, List.filterMap_nil, List.getElem?_cons_succ, List.getElem?_cons_zero]; (try refine wpL_peel rfl rfl ?_); (first | (refine wpL_load1S hst.st rfl rfl 0 rfl rfl rfl (by kernel_rfl) ?_) | (refine wpL_load1S hst.st rfl rfl 1 rfl rfl rfl (by kernel_rfl) ?_) | (refine wpL_load1S hst.st rfl rfl 2 rfl rfl rfl (by kernel_rfl) ?_) | (refine wpL_load1S hst.st rfl rfl 3 rfl rfl rfl (by kernel_rfl) ?_)); refine TextQ.mk ⟨fun h => by simp at h, ?_⟩ rfl
  refine Ord.cut 1 4 rfl rfl rfl rfl (by kernel_rfl) (by kernel_rfl) ?_; simp only [List.take_succ_cons, List.take_zero, List.drop_succ_cons, List.drop_zero, List.filterMap_cons, List.filterMap_nil, List.getElem?_cons_succ, List.getElem?_cons_zero]
  go_wp2_with (go_at_call 80; (with_reducible refine (LN.out _ (hst.blk 0 rfl)).mono ?_); rintro e1 w1 ⟨rfl, rfl⟩)
  refine TextQ.mk ⟨fun _ => Only.refl _ _, ?_⟩ rfl
  refine Ord.cut 1 9 rfl rfl rfl rfl (by kernel_rfl) (by kernel_rfl) ?_; simp only [List.take_succ_cons, List.take_zero, List.drop_succ_cons, List.drop_zero, List.filterMap_cons, List.filterMap_nil, List.getElem?_cons_succ, List.getElem?_cons_zero]
  go_wp2_with (go_at_call 105; (with_reducible refine (PE.out _).mono ?_); rintro e1 w1 ⟨rfl, ho1⟩)
  refine TextQ.mk ⟨fun _ => ho1, ?_⟩ rfl
  replace hst := hst.keep ho1
  clear ho1
  refine Ord.cut 1 10 rfl rfl rfl rfl (by kernel_rfl) (by kernel_rfl) ?_; simp only [List.take_succ_cons, List.take_zero, List.drop_succ_cons, List.drop_zero, List.filterMap_cons, List.filterMap_nil, List.getElem?_cons_succ, List.getElem?_cons_zero]; go_wp2_with fail; refine TextQ.mk ⟨fun h => by simp at h, ?_⟩ rfl
  refine Ord.cut 1 11 rfl rfl rfl rfl (by kernel_rfl) (by kernel_rfl) ?_; simp only [List.take_succ_cons, List.take_zero, List.drop_succ_cons, List.drop_zero, List.filterMap_cons, List.filterMap_nil, List.getElem?_cons_succ, List.getElem?_cons_zero]
  go_wp2_with fail
  refine TextQ.mk ⟨fun _ => Only.refl _ _, ?_⟩ rfl
  refine Ord.cut 1 12 rfl rfl rfl rfl (by kernel_rfl) (by kernel_rfl) ?_; simp only [List.take_succ_cons, List.take_zero, List.drop_succ_cons, List.drop_zero, List.filterMap_cons, List.filterMap_nil, List.getElem?_cons_succ, List.getElem?_cons_zero]; go_wp2_with fail; refine TextQ.mk ⟨fun h => by simp at h, ?_⟩ rfl
  refine Ord.done ?_
  go_wp2_with fail
  go_ret
  exact ⟨rfl, hst.only⟩

set_option maxRecDepth 100000 in
set_option maxHeartbeats 4000000 in
theorem slotCheck_yes (p : Nat) (hp : p < chunksN n size) : Calls Try.prog 107 #[.pointer (some ⟨a, 0, none⟩), .int .i64 (p : Int)] w fun e w' => e = .returned (.int .i64 0) ∧ Only [] w w' := by
  have hst := Sd.of ((St.with (S := []) ha).read hz (fun x hx => by simp only [List.mem_singleton] at hx; subst hx; exact haz))
  have CH : Hid (∀ w, Blk w a (slcells z size) 80 → Blk w z (zcells d f n) 34 → Calls Try.prog 45 #[.pointer (some ⟨a, 0, none⟩)] w fun e w' => e = .returned (.int .i64 (chunksN n size : Int)) ∧ Only [] w w') := fun w h3 h4 => slotChunks_any a z d f n size w h3 h4 haz hn h1 h2
  have hpi : ¬ (chunksN n size : Int) ≤ (p : Int) := by omega
  have hp0 : ¬ (p : Int) < 0 := by omega
  generalize chunksN n size = c at *
  clear ha hz haz hn h1 h2 hp
  go_enter Try.func107, Try.ntmps107
  go_wp2_with (first | ((with_reducible refine wpL_peel rfl ?_ ?_); focus (go_simp; done)) | (go_at_call 45; (with_reducible refine (CH.out _ (hst.blk 1 rfl) (hst.blk 0 rfl)).mono ?_); rintro e1 w1 ⟨rfl, ho1⟩; replace hst := hst.keep ho1; clear ho1))
  go_ret
  exact ⟨rfl, hst.only⟩
end

section
variable (a z d f n size : Nat) (m : DM) (F : List Nat) (w : World) (ha : Blk w a (slcells z size) 80) (hz : Blk w z (zcells d f n) 34) (hd : DiskAt w d m F) (haz : a ≠ z) (haF : a ∉ F) (hzF : z ∉ F) (hf : f ≤ 4096) (hn : n ≤ 4096) (h1 : 1 ≤ size) (h2 : size ≤ 256) (few : m.loose.length ≤ 700000) (p : Nat) (hp : p < chunksN n size)
include ha hz hd haz haF hzF hf hn h1 h2 few hp

set_option maxRecDepth 100000 in
set_option maxHeartbeats 8000000 in
theorem slotPut_yes (num : Int) (s : ByteArray) (hs : s.size ≤ size) (h0 : 0 < m.len) :
    Calls Try.prog 46 #[.pointer (some ⟨a, 0, none⟩), .int .i64 (p : Int), .int .i64 num, .string s] w fun e w' => ∃ F', e = .returned (.int .i64 (putR m f n ((p : Int) * (secsOf size : Int)) num s).2) ∧ DiskAt w' d (putR m f n ((p : Int) * (secsOf size : Int)) num s).1 F' ∧ Turn F F' w w' := by
  have hst := ((Sd.with (diskR d m F) hd).read ha (by simp) (fun r hr => by simp only [List.mem_singleton] at hr; subst hr; exact haF)).read hz (fun x hx => by simp only [List.mem_singleton] at hx; subst hx; exact haz) (fun r hr => by simp only [List.mem_singleton] at hr; subst hr; exact hzF)
  have CK : Hid (∀ w, Blk w a (slcells z size) 80 → Blk w z (zcells d f n) 34 → Calls Try.prog 107 #[.pointer (some ⟨a, 0, none⟩), .int .i64 (p : Int)] w fun e w' => e = .returned (.int .i64 0) ∧ Only [] w w') := fun w h3 h4 => slotCheck_yes a z d f n size w h3 h4 haz hn h1 h2 p hp
  have PE : Hid (∀ w, Calls Try.prog 105 #[.int .i64 (size : Int)] w fun e w' => e = .returned (.int .i64 (secsOf size : Int)) ∧ Only [] w w') := fun w => slotPer_any size h1 h2 w
  have PT : Hid (∀ F w, Blk w z (zcells d f n) 34 → DiskAt w d m F → z ∉ F → Calls Try.prog 16 #[.pointer (some ⟨z, 0, none⟩), .int .i64 ((p : Int) * (secsOf size : Int)), .int .i64 num, .string s] w fun e w' => ∃ F', e = .returned (.int .i64 (putR m f n ((p : Int) * (secsOf size : Int)) num s).2) ∧ DiskAt w' d (putR m f n ((p : Int) * (secsOf size : Int)) num s).1 F' ∧ Turn F F' w w') := fun F w h3 h4 h5 => sealPut_any z d f n m F _ num s w h3 h4 h5 hf hn h0 (by omega)
  have hp64 : p < 64 := by unfold chunksN at hp; omega
  have hKb : secsOf size ≤ 100 := by unfold secsOf; omega
  have hm0 : 0 ≤ (p : Int) * (secsOf size : Int) := Int.mul_nonneg (by omega) (by omega)
  have hm1 : (p : Int) * (secsOf size : Int) ≤ 6400 := by
    have : (p : Int) * (secsOf size : Int) ≤ 64 * 100 := Int.mul_le_mul (by omega) (by omega) (by omega) (by omega)
    omega
  have hsi : ¬ (size : Int) < (s.size : Int) := by omega
  unfold slcells zcells at hst
  generalize putR m f n ((p : Int) * (secsOf size : Int)) num s = RR at *
  generalize secsOf size = K at *
  clear ha hz hd haz haF hzF hp h1 h2 hs
  go_enter Try.func46, Try.ntmps46
  go_wp2_with (first | ((with_reducible refine wpL_peel rfl ?_ ?_); focus (go_simp; done)) | (go_at_call 107; (with_reducible refine (CK.out _ (hst.blk 1 rfl) (hst.blk 0 rfl)).mono ?_); rintro e1 w1 ⟨rfl, ho1⟩; replace hst := hst.keep ho1; clear ho1) | ((with_reducible refine wpL_peel rfl ?_ ?_); focus (go_simp; done)) | ((with_reducible refine wpL_isLoad rfl ?_); first | (refine wpL_load1S hst.st rfl rfl 0 rfl rfl rfl (by kernel_rfl) ?_) | (refine wpL_load1S hst.st rfl rfl 1 rfl rfl rfl (by kernel_rfl) ?_)))
  replace hst := hst.drew
  refine wp_region_ord [9] [0, 1, 2, 3, 4, 5, 6, 7, 8, 9, 10, 11, 12, 13, 14] (by kernel_rfl) (by kernel_rfl) ?_
  generalize World.drew _ = W at *
  refine Ord.cut 3 2 rfl rfl rfl rfl (by kernel_rfl) (by kernel_rfl) ?_; simp only [List.take_succ_cons, List.take_zero, List.drop_succ_cons, List.drop_zero, List.filterMap_cons, List.filterMap_nil, List.getElem?_cons_succ, List.getElem?_cons_zero]; go_wp2_with fail; refine TextQ.mk ⟨fun h => by simp at h, ?_⟩ rfl
  refine Ord.cut 1 3 rfl rfl rfl rfl (by kernel_rfl) (by kernel_rfl) ?_; simp only [List.take_succ_cons, List.take_zero, List.drop_succ_cons, List.drop_zero, List.filterMap_cons, List.filterMap_nil, List.getElem?_cons_succ, List.getElem?_cons_zero]; (try refine wpL_peel rfl rfl ?_); (first | (refine wpL_load1S hst.st rfl rfl 0 rfl rfl rfl (by kernel_rfl) ?_) | (refine wpL_load1S hst.st rfl rfl 1 rfl rfl rfl (by kernel_rfl) ?_) | (refine wpL_load1S hst.st rfl rfl 2 rfl rfl rfl (by kernel_rfl) ?_) | (refine wpL_load1S hst.st rfl rfl 3 rfl rfl rfl (by kernel_rfl) ?_)); refine TextQ.mk ⟨fun h => by simp at h, ?_⟩ rfl
  refine Ord.cut 4 7 rfl rfl rfl rfl (by kernel_rfl) (by kernel_rfl) ?_; simp only [List.take_succ_cons, List.take_zero, List.drop_succ_cons, List.drop_zero, List.filterMap_cons, List.filterMap_nil, List.getElem?_cons_succ, List.getElem?_cons_zero]; go_wp2_with fail; refine TextQ.mk ⟨fun h => by simp at h, ?_⟩ rfl
  refine Ord.cut 1 8 rfl rfl rfl rfl (by kernel_rfl) (by kernel_rfl) ?_; simp only [List.take_succ_cons, List.take_zero, List.drop_succ_cons, List.drop_zero, List.filterMap_cons, List.filterMap_nil, List.getElem?_cons_succ, List.getElem?_cons_zero]; (try refine wpL_peel rfl rfl ?_); (first | (refine wpL_load1S hst.st rfl rfl 0 rfl rfl rfl (by kernel_rfl) ?_) | (refine wpL_load1S hst.st rfl rfl 1 rfl rfl rfl (by kernel_rfl) ?_) | (refine wpL_load1S hst.st rfl rfl 2 rfl rfl rfl (by kernel_rfl) ?_) | (refine wpL_load1S hst.st rfl rfl 3 rfl rfl rfl (by kernel_rfl) ?_)); refine TextQ.mk ⟨fun h => by simp at h, ?_⟩ rfl
  refine Ord.cut 1 9 rfl rfl rfl rfl (by kernel_rfl) (by kernel_rfl) ?_; simp only [List.take_succ_cons, List.take_zero, List.drop_succ_cons, List.drop_zero, List.filterMap_cons, List.filterMap_nil, List.getElem?_cons_succ, List.getElem?_cons_zero]
  go_wp2_with (go_at_call 105; (with_reducible refine (PE.out _).mono ?_); rintro e1 w1 ⟨rfl, ho1⟩)
  refine TextQ.mk ⟨fun _ => ho1, ?_⟩ rfl
  replace hst := hst.keep ho1
  clear ho1
  refine Ord.cut 3 12 rfl rfl rfl rfl (by kernel_rfl) (by kernel_rfl) ?_; simp only [List.take_succ_cons, List.take_zero, List.drop_succ_cons, List.drop_zero, List.filterMap_cons, List.filterMap_nil, List.getElem?_cons_succ, List.getElem?_cons_zero]; go_wp2_with fail; refine TextQ.mk ⟨fun h => by simp at h, ?_⟩ rfl
  refine Ord.cut 1 13 rfl rfl rfl rfl (by kernel_rfl) (by kernel_rfl) ?_; simp only [List.take_succ_cons, List.take_zero, List.drop_succ_cons, List.drop_zero, List.filterMap_cons, List.filterMap_nil, List.getElem?_cons_succ, List.getElem?_cons_zero]
  go_wp2_with (go_at_call 16; (with_reducible refine (PT.out _ _ (hst.blk 0 rfl) (hst.rs 0 rfl) (hst.away 0 0 rfl rfl)).mono ?_); rintro e1 w1 ⟨F1, rfl, hd1, ht1⟩; replace hst := hst.act 0 rfl (diskR _ _ F1) rfl ht1 hd1; simp only [List.set] at hst; clear hd1 ht1)
  refine TextQ.mk ⟨fun h => by simp at h, ?_⟩ rfl
  refine Ord.cut 1 14 rfl rfl rfl rfl (by kernel_rfl) (by kernel_rfl) ?_; simp only [List.take_succ_cons, List.take_zero, List.drop_succ_cons, List.drop_zero, List.filterMap_cons, List.filterMap_nil, List.getElem?_cons_succ, List.getElem?_cons_zero]; go_wp2_with fail; refine TextQ.mk ⟨fun h => by simp at h, ?_⟩ rfl
  refine Ord.done ?_
  go_wp2_with fail
  go_ret
  exact ⟨_, rfl, hst.rs 0 rfl, hst.turn 0 rfl rfl⟩
end
end Go.Proofs.Ytmogkiacakkmbaa
