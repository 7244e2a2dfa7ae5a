/- Slots: a chunk, got. -/
import Derived.Test.YtmogkiacakkmbaaSlotB
namespace Go.Proofs.Ytmogkiacakkmbaa
open Go.RowKit

/-- A chunk, its number, an error. -/
def slotG (size : Nat) (G : ByteArray × Int × Int) : ByteArray × Int × Int := if G.2.2 = 0 ∧ size < G.1.size then (⟨#[]⟩, 0, 5) else G

section
variable (a z d f n size : Nat) (m : DM) (F : List Nat) (w : World) (ha : Blk w a (slcells z size) 80) (hz : Blk w z (zcells d f n) 34) (hd : DiskAt w d m F) (haz : a ≠ z) (haF : a ∉ F) (hzF : z ∉ F) (hf : f ≤ 4096) (hn : n ≤ 4096) (h1 : 1 ≤ size) (h2 : size ≤ 256) (few : m.loose.length ≤ 700000) (p : Nat) (hp : p < chunksN n size)
include ha hz hd haz haF hzF hf hn h1 h2 few hp

set_option maxRecDepth 100000 in
set_option maxHeartbeats 8000000 in
theorem slotGet_yes :
    Calls Try.prog 51 #[.pointer (some ⟨a, 0, none⟩), .int .i64 (p : Int)] w fun e w' => e = .returned (.tuple #[.string (slotG size (getR m f n ((p : Int) * (secsOf size : Int)))).1, .int .i64 (slotG size (getR m f n ((p : Int) * (secsOf size : Int)))).2.1, .int .i64 (slotG size (getR m f n ((p : Int) * (secsOf size : Int)))).2.2]) ∧ Only [] w w' := by
  have hst := ((Sd.withQ [] (diskQ d m F) hd rfl).read ha (by simp) (fun r hr => by simp only [List.mem_singleton] at hr; subst hr; exact haF)).read hz (fun x hx => by simp only [List.mem_singleton] at hx; subst hx; exact haz) (fun r hr => by simp only [List.mem_singleton] at hr; subst hr; exact hzF)
  have CK : Hid (∀ w, Blk w a (slcells z size) 80 → Blk w z (zcells d f n) 34 → Calls Try.prog 107 #[.pointer (some ⟨a, 0, none⟩), .int .i64 (p : Int)] w fun e w' => e = .returned (.int .i64 0) ∧ Only [] w w') := fun w h3 h4 => slotCheck_yes a z d f n size w h3 h4 haz hn h1 h2 p hp
  have PE : Hid (∀ w, Calls Try.prog 105 #[.int .i64 (size : Int)] w fun e w' => e = .returned (.int .i64 (secsOf size : Int)) ∧ Only [] w w') := fun w => slotPer_any size h1 h2 w
  have GT : Hid (∀ w, Blk w z (zcells d f n) 34 → DiskAt w d m F → Calls Try.prog 21 #[.pointer (some ⟨z, 0, none⟩), .int .i64 ((p : Int) * (secsOf size : Int))] w fun e w' => e = .returned (.tuple #[.string (getR m f n ((p : Int) * (secsOf size : Int))).1, .int .i64 (getR m f n ((p : Int) * (secsOf size : Int))).2.1, .int .i64 (getR m f n ((p : Int) * (secsOf size : Int))).2.2]) ∧ Only [] w w') := fun w h3 h4 => sealGet_any z d f n m F _ w h3 h4 hzF hf hn (by omega)
  have hp64 : p < 64 := by unfold chunksN at hp; omega
  have hKb : secsOf size ≤ 100 := by unfold secsOf; omega
  have hm0 : 0 ≤ (p : Int) * (secsOf size : Int) := Int.mul_nonneg (by omega) (by omega)
  have hm1 : (p : Int) * (secsOf size : Int) ≤ 6400 := by
    have : (p : Int) * (secsOf size : Int) ≤ 64 * 100 := Int.mul_le_mul (by omega) (by omega) (by omega) (by omega)
    omega
  unfold slcells zcells at hst
  rcases hG : getR m f n ((p : Int) * (secsOf size : Int)) with ⟨tx, nu, er⟩
  rw [hG] at GT
  simp only at GT
  generalize secsOf size = K at *
  clear ha hz hd haz haF hzF hp h1 h2 hG
  unfold slotG
  simp only
  by_cases c0 : er = 0
  · subst c0
    by_cases cs : size < tx.size
    · rw [if_pos ⟨rfl, cs⟩]
      have cs1 : (size : Int) < (tx.size : Int) := by omega
      clear cs
      go_enter Try.func51, Try.ntmps51
      go_wp2_with (first | ((with_reducible refine wpL_peel rfl ?_ ?_); focus (go_simp; done)) | (go_at_call 107; (with_reducible refine (CK.out _ (hst.blk 1 rfl) (hst.blk 0 rfl)).mono ?_); rintro e1 w1 ⟨rfl, ho1⟩; replace hst := hst.keep ho1; clear ho1))
      replace hst := hst.drew
      refine wp_region_ord [9] [0, 1, 2, 3, 4, 5, 6, 7, 8, 9, 10, 11, 12, 13, 14, 15, 16, 17, 18] (by kernel_rfl) (by kernel_rfl) ?_
      generalize World.drew _ = W at *
      refine Ord.cut 3 2 rfl rfl rfl rfl (by kernel_rfl) (by kernel_rfl) ?_; simp only [List.take_succ_cons, List.take_zero, List.drop_succ_cons, List.drop_zero, List.filterMap_cons, List.filterMap_nil, List.getElem?_cons_succ, List.getElem?_cons_zero]; go_wp2_with fail; refine TextQ.mk ⟨fun h => by simp at h, ?_⟩ rfl
      refine Ord.cut 1 3 rfl rfl rfl rfl (by kernel_rfl) (by kernel_rfl) ?_; simp only [List.take_succ_cons, List.take_zero, List.drop_succ_cons, List.drop_zero, List.filterMap_cons, List.filterMap_nil, List.getElem?_cons_succ, List.getElem?_cons_zero]; (try refine wpL_peel rfl rfl ?_); (first | (refine wpL_load1S hst.st rfl rfl 0 rfl rfl rfl (by kernel_rfl) ?_) | (refine wpL_load1S hst.st rfl rfl 1 rfl rfl rfl (by kernel_rfl) ?_) | (refine wpL_load1S hst.st rfl rfl 2 rfl rfl rfl (by kernel_rfl) ?_) | (refine wpL_load1S hst.st rfl rfl 3 rfl rfl rfl (by kernel_rfl) ?_)); refine TextQ.mk ⟨fun h => by simp at h, ?_⟩ rfl
      refine Ord.cut 4 7 rfl rfl rfl rfl (by kernel_rfl) (by kernel_rfl) ?_; simp only [List.take_succ_cons, List.take_zero, List.drop_succ_cons, List.drop_zero, List.filterMap_cons, List.filterMap_nil, List.getElem?_cons_succ, List.getElem?_cons_zero]; go_wp2_with fail; refine TextQ.mk ⟨fun h => by simp at h, ?_⟩ rfl
      refine Ord.cut 1 8 rfl rfl rfl rfl (by kernel_rfl) (by kernel_rfl) ?_; simp only [List.take_succ_cons, List.take_zero, List.drop_succ_cons, List.drop_zero, List.filterMap_cons, List.filterMap_nil, List.getElem?_cons_succ, List.getElem?_cons_zero]; (try refine wpL_peel rfl rfl ?_); (first | (refine wpL_load1S hst.st rfl rfl 0 rfl rfl rfl (by kernel_rfl) ?_) | (refine wpL_load1S hst.st rfl rfl 1 rfl rfl rfl (by kernel_rfl) ?_) | (refine wpL_load1S hst.st rfl rfl 2 rfl rfl rfl (by kernel_rfl) ?_) | (refine wpL_load1S hst.st rfl rfl 3 rfl rfl rfl (by kernel_rfl) ?_)); refine TextQ.mk ⟨fun h => by simp at h, ?_⟩ rfl
      refine Ord.cut 1 9 rfl rfl rfl rfl (by kernel_rfl) (by kernel_rfl) ?_; simp only [List.take_succ_cons, List.take_zero, List.drop_succ_cons, List.drop_zero, List.filterMap_cons, List.filterMap_nil, List.getElem?_cons_succ, List.getElem?_cons_zero]
      go_wp2_with (go_at_call 105; (with_reducible refine (PE.out _).mono ?_); rintro e1 w1 ⟨rfl, ho1⟩)
      refine TextQ.mk ⟨fun _ => ho1, ?_⟩ rfl
      replace hst := hst.keep ho1
      clear ho1
      refine Ord.cut 1 10 rfl rfl rfl rfl (by kernel_rfl) (by kernel_rfl) ?_; simp only [List.take_succ_cons, List.take_zero, List.drop_succ_cons, List.drop_zero, List.filterMap_cons, List.filterMap_nil, List.getElem?_cons_succ, List.getElem?_cons_zero]; go_wp2_with fail; refine TextQ.mk ⟨fun h => by simp at h, ?_⟩ rfl
      refine Ord.cut 1 11 rfl rfl rfl rfl (by kernel_rfl) (by kernel_rfl) ?_; simp only [List.take_succ_cons, List.take_zero, List.drop_succ_cons, List.drop_zero, List.filterMap_cons, List.filterMap_nil, List.getElem?_cons_succ, List.getElem?_cons_zero]
      go_wp2_with (go_at_call 21; (with_reducible refine (GT.out _ (hst.blk 0 rfl) (hst.rs 0 rfl)).mono ?_); rintro e1 w1 ⟨rfl, ho1⟩; replace hst := hst.keep ho1; clear ho1)
      refine TextQ.mk ⟨fun h => by simp at h, ?_⟩ rfl
      refine Ord.cut 4 15 rfl rfl rfl rfl (by kernel_rfl) (by kernel_rfl) ?_; simp only [List.take_succ_cons, List.take_zero, List.drop_succ_cons, List.drop_zero, List.filterMap_cons, List.filterMap_nil, List.getElem?_cons_succ, List.getElem?_cons_zero]; go_wp2_with fail; refine TextQ.mk ⟨fun h => by simp at h, ?_⟩ rfl
      refine Ord.cut 3 18 rfl rfl rfl rfl (by kernel_rfl) (by kernel_rfl) ?_; simp only [List.take_succ_cons, List.take_zero, List.drop_succ_cons, List.drop_zero, List.filterMap_cons, List.filterMap_nil, List.getElem?_cons_succ, List.getElem?_cons_zero]; go_wp2_with fail; refine TextQ.mk ⟨fun h => by simp at h, ?_⟩ rfl
      refine Ord.done ?_
      go_wp2_with (first | ((with_reducible refine wpL_peel rfl ?_ ?_); focus (go_simp; done)) | ((with_reducible refine wpL_peel rfl ?_ ?_); focus (go_simp; done)) | ((with_reducible refine wpL_isLoad rfl ?_); first | (refine wpL_load1S hst.st rfl rfl 0 rfl rfl rfl (by kernel_rfl) ?_) | (refine wpL_load1S hst.st rfl rfl 1 rfl rfl rfl (by kernel_rfl) ?_)))
      go_ret3
      exact ⟨rfl, hst.only⟩
    · rw [if_neg (fun h => cs h.2)]
      have cs1 : ¬ (size : Int) < (tx.size : Int) := by omega
      clear cs
      go_enter Try.func51, Try.ntmps51
      go_wp2_with (first | ((with_reducible refine wpL_peel rfl ?_ ?_); focus (go_simp; done)) | (go_at_call 107; (with_reducible refine (CK.out _ (hst.blk 1 rfl) (hst.blk 0 rfl)).mono ?_); rintro e1 w1 ⟨rfl, ho1⟩; replace hst := hst.keep ho1; clear ho1))
      replace hst := hst.drew
      refine wp_region_ord [9] [0, 1, 2, 3, 4, 5, 6, 7, 8, 9, 10, 11, 12, 13, 14, 15, 16, 17, 18] (by kernel_rfl) (by kernel_rfl) ?_
      generalize World.drew _ = W at *
      refine Ord.cut 3 2 rfl rfl rfl rfl (by kernel_rfl) (by kernel_rfl) ?_; simp only [List.take_succ_cons, List.take_zero, List.drop_succ_cons, List.drop_zero, List.filterMap_cons, List.filterMap_nil, List.getElem?_cons_succ, List.getElem?_cons_zero]; go_wp2_with fail; refine TextQ.mk ⟨fun h => by simp at h, ?_⟩ rfl
      refine Ord.cut 1 3 rfl rfl rfl rfl (by kernel_rfl) (by kernel_rfl) ?_; simp only [List.take_succ_cons, List.take_zero, List.drop_succ_cons, List.drop_zero, List.filterMap_cons, List.filterMap_nil, List.getElem?_cons_succ, List.getElem?_cons_zero]; (try refine wpL_peel rfl rfl ?_); (first | (refine wpL_load1S hst.st rfl rfl 0 rfl rfl rfl (by kernel_rfl) ?_) | (refine wpL_load1S hst.st rfl rfl 1 rfl rfl rfl (by kernel_rfl) ?_) | (refine wpL_load1S hst.st rfl rfl 2 rfl rfl rfl (by kernel_rfl) ?_) | (refine wpL_load1S hst.st rfl rfl 3 rfl rfl rfl (by kernel_rfl) ?_)); refine TextQ.mk ⟨fun h => by simp at h, ?_⟩ rfl
      refine Ord.cut 4 7 rfl rfl rfl rfl (by kernel_rfl) (by kernel_rfl) ?_; simp only [List.take_succ_cons, List.take_zero, List.drop_succ_cons, List.drop_zero, List.filterMap_cons, List.filterMap_nil, List.getElem?_cons_succ, List.getElem?_cons_zero]; go_wp2_with fail; refine TextQ.mk ⟨fun h => by simp at h, ?_⟩ rfl
      refine Ord.cut 1 8 rfl rfl rfl rfl (by kernel_rfl) (by kernel_rfl) ?_; simp only [List.take_succ_cons, List.take_zero, List.drop_succ_cons, List.drop_zero, List.filterMap_cons, List.filterMap_nil, List.getElem?_cons_succ, List.getElem?_cons_zero]; (try refine wpL_peel rfl rfl ?_); (first | (refine wpL_load1S hst.st rfl rfl 0 rfl rfl rfl (by kernel_rfl) ?_) | (refine wpL_load1S hst.st rfl rfl 1 rfl rfl rfl (by kernel_rfl) ?_) | (refine wpL_load1S hst.st rfl rfl 2 rfl rfl rfl (by kernel_rfl) ?_) | (refine wpL_load1S hst.st rfl rfl 3 rfl rfl rfl (by kernel_rfl) ?_)); refine TextQ.mk ⟨fun h => by simp at h, ?_⟩ rfl
      refine Ord.cut 1 9 rfl rfl rfl rfl (by kernel_rfl) (by kernel_rfl) ?_; simp only [List.take_succ_cons, List.take_zero, List.drop_succ_cons, List.drop_zero, List.filterMap_cons, List.filterMap_nil, List.getElem?_cons_succ, List.getElem?_cons_zero]
      go_wp2_with (go_at_call 105; (with_reducible refine (PE.out _).mono ?_); rintro e1 w1 ⟨rfl, ho1⟩)
      refine TextQ.mk ⟨fun _ => ho1, ?_⟩ rfl
      replace hst := hst.keep ho1
      clear ho1
      refine Ord.cut 1 10 rfl rfl rfl rfl (by kernel_rfl) (by kernel_rfl) ?_; simp only [List.take_succ_cons, List.take_zero, List.drop_succ_cons, List.drop_zero, List.filterMap_cons, List.filterMap_nil, List.getElem?_cons_succ, List.getElem?_cons_zero]; go_wp2_with fail; refine TextQ.mk ⟨fun h => by simp at h, ?_⟩ rfl
      refine Ord.cut 1 11 rfl rfl rfl rfl (by kernel_rfl) (by kernel_rfl) ?_; simp only [List.take_succ_cons, List.take_zero, List.drop_succ_cons, List.drop_zero, List.filterMap_cons, List.filterMap_nil, List.getElem?_cons_succ, List.getElem?_cons_zero]
      go_wp2_with (go_at_call 21; (with_reducible refine (GT.out _ (hst.blk 0 rfl) (hst.rs 0 rfl)).mono ?_); rintro e1 w1 ⟨rfl, ho1⟩; replace hst := hst.keep ho1; clear ho1)
      refine TextQ.mk ⟨fun h => by simp at h, ?_⟩ rfl
      refine Ord.cut 4 15 rfl rfl rfl rfl (by kernel_rfl) (by kernel_rfl) ?_; simp only [List.take_succ_cons, List.take_zero, List.drop_succ_cons, List.drop_zero, List.filterMap_cons, List.filterMap_nil, List.getElem?_cons_succ, List.getElem?_cons_zero]; go_wp2_with fail; refine TextQ.mk ⟨fun h => by simp at h, ?_⟩ rfl
      refine Ord.cut 3 18 rfl rfl rfl rfl (by kernel_rfl) (by kernel_rfl) ?_; simp only [List.take_succ_cons, List.take_zero, List.drop_succ_cons, List.drop_zero, List.filterMap_cons, List.filterMap_nil, List.getElem?_cons_succ, List.getElem?_cons_zero]; go_wp2_with fail; refine TextQ.mk ⟨fun h => by simp at h, ?_⟩ rfl
      refine Ord.done ?_
      go_wp2_with (first | ((with_reducible refine wpL_peel rfl ?_ ?_); focus (go_simp; done)) | ((with_reducible refine wpL_peel rfl ?_ ?_); focus (go_simp; done)) | ((with_reducible refine wpL_isLoad rfl ?_); first | (refine wpL_load1S hst.st rfl rfl 0 rfl rfl rfl (by kernel_rfl) ?_) | (refine wpL_load1S hst.st rfl rfl 1 rfl rfl rfl (by kernel_rfl) ?_)))
      go_ret3
      exact ⟨rfl, hst.only⟩
  · rw [if_neg (fun h => c0 h.1)]
    have d0 : (er == 0) = false := by simpa using c0
    clear c0
    go_enter Try.func51, Try.ntmps51
    go_wp2_with (first | ((with_reducible refine wpL_peel rfl ?_ ?_); focus (go_simp; done)) | (go_at_call 107; (with_reducible refine (CK.out _ (hst.blk 1 rfl) (hst.blk 0 rfl)).mono ?_); rintro e1 w1 ⟨rfl, ho1⟩; replace hst := hst.keep ho1; clear ho1))
    replace hst := hst.drew
    refine wp_region_ord [9] [0, 1, 2, 3, 4, 5, 6, 7, 8, 9, 10, 11, 12, 13, 14, 15, 16, 17, 18] (by kernel_rfl) (by kernel_rfl) ?_
    generalize World.drew _ = W at *
    refine Ord.cut 3 2 rfl rfl rfl rfl (by kernel_rfl) (by kernel_rfl) ?_; simp only [List.take_succ_cons, List.take_zero, List.drop_succ_cons, List.drop_zero, List.filterMap_cons, List.filterMap_nil, List.getElem?_cons_succ, List.getElem?_cons_zero]; go_wp2_with fail; refine TextQ.mk ⟨fun h => by simp at h, ?_⟩ rfl
    refine Ord.cut 1 3 rfl rfl rfl rfl (by kernel_rfl) (by kernel_rfl) ?_; simp only [List.take_succ_cons, List.take_zero, List.drop_succ_cons, List.drop_zero, List.filterMap_cons, List.filterMap_nil, List.getElem?_cons_succ, List.getElem?_cons_zero]; (try refine wpL_peel rfl rfl ?_); (first | (refine wpL_load1S hst.st rfl rfl 0 rfl rfl rfl (by kernel_rfl) ?_) | (refine wpL_load1S hst.st rfl rfl 1 rfl rfl rfl (by kernel_rfl) ?_) | (refine wpL_load1S hst.st rfl rfl 2 rfl rfl rfl (by kernel_rfl) ?_) | (refine wpL_load1S hst.st rfl rfl 3 rfl rfl rfl (by kernel_rfl) ?_)); refine TextQ.mk ⟨fun h => by simp at h, ?_⟩ rfl
    refine Ord.cut 4 7 rfl rfl rfl rfl (by kernel_rfl) (by kernel_rfl) ?_; simp only [List.take_succ_cons, List.take_zero, List.drop_succ_cons, List.drop_zero, List.filterMap_cons, List.filterMap_nil, List.getElem?_cons_succ, List.getElem?_cons_zero]; go_wp2_with fail; refine TextQ.mk ⟨fun h => by simp at h, ?_⟩ rfl
    refine Ord.cut 1 8 rfl rfl rfl rfl (by kernel_rfl) (by kernel_rfl) ?_; simp only [List.take_succ_cons, List.take_zero, List.drop_succ_cons, List.drop_zero, List.filterMap_cons, List.filterMap_nil, List.getElem?_cons_succ, List.getElem?_cons_zero]; (try refine wpL_peel rfl rfl ?_); (first | (refine wpL_load1S hst.st rfl rfl 0 rfl rfl rfl (by kernel_rfl) ?_) | (refine wpL_load1S hst.st rfl rfl 1 rfl rfl rfl (by kernel_rfl) ?_) | (refine wpL_load1S hst.st rfl rfl 2 rfl rfl rfl (by kernel_rfl) ?_) | (refine wpL_load1S hst.st rfl rfl 3 rfl rfl rfl (by kernel_rfl) ?_)); refine TextQ.mk ⟨fun h => by simp at h, ?_⟩ rfl
    refine Ord.cut 1 9 rfl rfl rfl rfl (by kernel_rfl) (by kernel_rfl) ?_; simp only [List.take_succ_cons, List.take_zero, List.drop_succ_cons, List.drop_zero, List.filterMap_cons, List.filterMap_nil, List.getElem?_cons_succ, List.getElem?_cons_zero]
    go_wp2_with (go_at_call 105; (with_reducible refine (PE.out _).mono ?_); rintro e1 w1 ⟨rfl, ho1⟩)
    refine TextQ.mk ⟨fun _ => ho1, ?_⟩ rfl
    replace hst := hst.keep ho1
    clear ho1
    refine Ord.cut 1 10 rfl rfl rfl rfl (by kernel_rfl) (by kernel_rfl) ?_; simp only [List.take_succ_cons, List.take_zero, List.drop_succ_cons, List.drop_zero, List.filterMap_cons, List.filterMap_nil, List.getElem?_cons_succ, List.getElem?_cons_zero]; go_wp2_with fail; refine TextQ.mk ⟨fun h => by simp at h, ?_⟩ rfl
    refine Ord.cut 1 11 rfl rfl rfl rfl (by kernel_rfl) (by kernel_rfl) ?_; simp only [List.take_succ_cons, List.take_zero, List.drop_succ_cons, List.drop_zero, List.filterMap_cons, List.filterMap_nil, List.getElem?_cons_succ, List.getElem?_cons_zero]
    go_wp2_with (go_at_call 21; (with_reducible refine (GT.out _ (hst.blk 0 rfl) (hst.rs 0 rfl)).mono ?_); rintro e1 w1 ⟨rfl, ho1⟩; replace hst := hst.keep ho1; clear ho1)
    refine TextQ.mk ⟨fun h => by simp at h, ?_⟩ rfl
    refine Ord.cut 4 15 rfl rfl rfl rfl (by kernel_rfl) (by kernel_rfl) ?_; simp only [List.take_succ_cons, List.take_zero, List.drop_succ_cons, List.drop_zero, List.filterMap_cons, List.filterMap_nil, List.getElem?_cons_succ, List.getElem?_cons_zero]; go_wp2_with fail; refine TextQ.mk ⟨fun h => by simp at h, ?_⟩ rfl
    refine Ord.cut 3 18 rfl rfl rfl rfl (by kernel_rfl) (by kernel_rfl) ?_; simp only [List.take_succ_cons, List.take_zero, List.drop_succ_cons, List.drop_zero, List.filterMap_cons, List.filterMap_nil, List.getElem?_cons_succ, List.getElem?_cons_zero]; go_wp2_with fail; refine TextQ.mk ⟨fun h => by simp at h, ?_⟩ rfl
    refine Ord.done ?_
    go_wp2_with (first | ((with_reducible refine wpL_peel rfl ?_ ?_); focus (go_simp; done)) | ((with_reducible refine wpL_peel rfl ?_ ?_); focus (go_simp; done)) | ((with_reducible refine wpL_isLoad rfl ?_); first | (refine wpL_load1S hst.st rfl rfl 0 rfl rfl rfl (by kernel_rfl) ?_) | (refine wpL_load1S hst.st rfl rfl 1 rfl rfl rfl (by kernel_rfl) ?_)))
    go_ret3
    exact ⟨rfl, hst.only⟩
end
end Go.Proofs.Ytmogkiacakkmbaa
