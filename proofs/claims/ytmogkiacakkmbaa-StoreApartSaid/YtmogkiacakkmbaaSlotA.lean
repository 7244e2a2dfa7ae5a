/- Slots: how many sectors a chunk has; made; how many chunks; whether there is one. -/
import Derived.Test.YtmogkiacakkmbaaTwinB
namespace Go.Proofs.Ytmogkiacakkmbaa
open Go.RowKit

set_option maxRecDepth 100000 in
set_option maxHeartbeats 4000000 in
theorem slotPer_any (n : Nat) (h1 : 1 ≤ n) (h2 : n ≤ 256) (w : World) : Calls Try.prog 105 #[.int .i64 (n : Int)] w fun e w' => e = .returned (.int .i64 (secsOf n : Int)) ∧ Only [] w w' := by
  have hst := Sd.start w []
  have g1 : ¬ (n : Int) < 1 := by omega
  have g2 : ¬ (256 : Int) < n := by omega
  obtain ⟨Zl, eZ⟩ : ∃ Zl, Zl = List.replicate n (0 : UInt8) := ⟨_, rfl⟩
  have HZL : Hid (Zl.length = n) := by rw [eZ]; exact List.length_replicate
  have HZ0 : Hid (∀ q, q < n → (Zl.getD q 0).toNat = 0) := fun q hq => by rw [eZ, List.getD_eq_getElem?_getD, List.getElem?_replicate, if_pos hq]; rfl
  have SZ : Hid (∀ w, Calls Try.prog 18 #[.string ⟨Zl.toArray⟩] w fun e w' => e = .returned (.int .i64 (secsOf n : Int)) ∧ w = w') := fun w => by
    have hs : (⟨Zl.toArray⟩ : ByteArray).size = n := by rw [← bl_length, bl_mk]; exact HZL.out
    have := sealSize_any ⟨Zl.toArray⟩ w (by omega)
    rw [hs] at this
    exact this
  have hn5 : Hid (n ≤ 1024) := by show _ ≤ _; omega
  obtain ⟨K, eK⟩ : ∃ K, K = secsOf n := ⟨_, rfl⟩
  rw [← eK] at SZ ⊢
  clear eZ eK h1 h2
  go_enter Try.func105, Try.ntmps105
  go_wp2_with (first
    | ((with_reducible refine wpL_peel rfl ?_ ?_); focus (go_simp; done))
    | ((with_reducible refine wpL_isMakeD rfl ?_); refine wpL_makeD hst rfl 56 _ rfl Try.underlying56 (.int .u8 0) (.int .u8 0) 1 1 rfl (by decide) byteInfo n rfl hn5.out (by decide) (by decide) ?_; clear hst; intro w3 gz hg3 hst)
    | ((with_reducible refine wpL_isConvT rfl ?_); refine wpL_str rfl 56 9 5 _ rfl ⟨gz, 0, none⟩ Zl n n rfl HZL.out Try.underlying56 Try.underlying5 Try.underlying9 (fun q hq => by
        have hq' : q < n := (by rw [HZL.out] at hq; exact hq)
        rw [addr_addD, Nat.zero_add]
        refine ((hst.blk 0 rfl).cell ?_)
        show (List.replicate (n * 1) (Value.int .u8 0))[q]? = _
        rw [Nat.mul_one, List.getElem?_replicate, if_pos hq', HZ0.out q hq']
        rfl) ?_)
    | (go_at_call 18; (with_reducible refine (SZ.out _).mono ?_); rintro e1 w1 ⟨rfl, rfl⟩))
  go_ret
  exact ⟨rfl, hst.only⟩

def slcells (z size : Nat) : List Value := [.pointer (some ⟨z, 0, none⟩), .int .i64 (size : Int)]
def chunksN (n size : Nat) : Nat := min (n / secsOf size) 64

set_option maxRecDepth 100000 in
set_option maxHeartbeats 4000000 in
theorem slotNew_yes (z d f n size : Nat) (w : World) (hz : Blk w z (zcells d f n) 34) (h1 : 1 ≤ size) (h2 : size ≤ 256) (h3 : secsOf size ≤ n) :
    Calls Try.prog 106 #[.pointer (some ⟨z, 0, none⟩), .int .i64 (size : Int)] w fun e w' => ∃ a, e = .returned (.tuple #[.pointer (some ⟨a, 0, none⟩), .int .i64 0]) ∧ w.heap.size ≤ a ∧ Blk w' a (slcells z size) 80 ∧ Only [] w w' := by
  have hst := Sd.of (St.with (S := []) hz)
  have PE : Hid (∀ w, Calls Try.prog 105 #[.int .i64 (size : Int)] w fun e w' => e = .returned (.int .i64 (secsOf size : Int)) ∧ Only [] w w') := fun w => slotPer_any size h1 h2 w
  have LN : Hid (∀ w, Blk w z (zcells d f n) 34 → Calls Try.prog 80 #[.pointer (some ⟨z, 0, none⟩)] w fun e w' => e = .returned (.int .i64 (n : Int)) ∧ w = w') := fun w h => zonLen_any z d f n w h
  obtain ⟨K, eK⟩ : ∃ K, K = secsOf size := ⟨_, rfl⟩
  have hK := secsOf_two size
  have hKn : ¬ (n : Int) < (K : Int) := by omega
  have hK0 : ((K : Int) == 0) = false := by simp; omega
  rw [← eK] at PE
  clear hz eK hK h1 h2 h3
  go_enter Try.func106, Try.ntmps106
  go_wp2_with (first | ((with_reducible refine wpL_peel rfl ?_ ?_); focus (go_simp; done)) | (go_at_call 105; (with_reducible refine (PE.out _).mono ?_); rintro e1 w1 ⟨rfl, ho1⟩; replace hst := hst.keep ho1; clear ho1) | (go_at_call 80; (with_reducible refine (LN.out _ (hst.blk 0 rfl)).mono ?_); rintro e1 w1 ⟨rfl, rfl⟩))
  go_ret2
  exact ⟨_, rfl, hst.only.size, Blk.new _ _ _, hst.only.alloc _⟩
end Go.Proofs.Ytmogkiacakkmbaa
