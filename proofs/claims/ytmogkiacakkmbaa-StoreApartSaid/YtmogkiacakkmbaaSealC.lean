/- Seals: a text, put. -/
import Derived.Test.YtmogkiacakkmbaaSealB
import Derived.Test.YtmogkiacakkmbaaZonB
namespace Go.Proofs.Ytmogkiacakkmbaa
open Go.RowKit

/-- So many writes of a row of sectors, till one fails. -/
def putJ (m : DM) (f n : Nat) (a : Int) (l : List ByteArray) : Nat → DM × Int
  | 0 => (m, 0)
  | j + 1 => if (putJ m f n a l j).2 ≠ 0 then putJ m f n a l j else (zwrite (putJ m f n a l j).1 f n (a + (j : Int)) (l.getD j ⟨#[]⟩), zwriteE (putJ m f n a l j).1 f n (a + (j : Int)) (l.getD j ⟨#[]⟩))
def putIn (n : Nat) (a : Int) (K : Nat) : Bool := decide (0 ≤ a) && decide (a < (n : Int)) && decide ((K : Int) ≤ (n : Int) - a)
def putR (m : DM) (f n : Nat) (a num : Int) (s : ByteArray) : DM × Int :=
  if canLay num s = false then (m, 1) else if putIn n a (secsOf s.size) = false then (m, 3) else putJ m f n a (layS num s (secsOf s.size)) (secsOf s.size)
theorem putJ_stuck (m : DM) (f n : Nat) (a : Int) (l : List ByteArray) (j K : Nat) (h : (putJ m f n a l j).2 ≠ 0) (hk : j ≤ K) : putJ m f n a l K = putJ m f n a l j := by
  obtain ⟨k, rfl⟩ : ∃ k, K = j + k := ⟨K - j, by omega⟩
  clear hk
  induction k with
  | zero => rfl
  | succ k ih =>
    rw [← Nat.add_assoc, putJ, if_pos (by rw [ih]; exact h), ih]
theorem DM.write_len (m : DM) (a : Int) (s : ByteArray) : (m.write a s).len = m.len := by
  unfold DM.write
  split
  · rfl
  · split
    · rfl
    · split
      · unfold DM.cut
        split
        · rfl
        · exact laid_length _ _
      · rfl
theorem DM.write_few (m : DM) (a : Int) (s : ByteArray) : (m.write a s).loose.length ≤ m.loose.length + 1 := by
  unfold DM.write
  split
  · omega
  · split
    · omega
    · split
      · unfold DM.cut
        split
        · omega
        · simp
      · simp
theorem zwrite_len (m : DM) (f n : Nat) (a : Int) (s : ByteArray) : (zwrite m f n a s).len = m.len := by
  unfold zwrite
  split
  · rfl
  · split
    · exact DM.write_len _ _ _
    · rfl
theorem zwrite_few (m : DM) (f n : Nat) (a : Int) (s : ByteArray) : (zwrite m f n a s).loose.length ≤ m.loose.length + 1 := by
  unfold zwrite
  split
  · omega
  · split
    · exact DM.write_few _ _ _
    · omega
theorem putJ_len (m : DM) (f n : Nat) (a : Int) (l : List ByteArray) : ∀ j, (putJ m f n a l j).1.len = m.len
  | 0 => rfl
  | j + 1 => by
    unfold putJ
    split
    · exact putJ_len m f n a l j
    · rw [zwrite_len]; exact putJ_len m f n a l j
theorem putJ_few (m : DM) (f n : Nat) (a : Int) (l : List ByteArray) : ∀ j, (putJ m f n a l j).1.loose.length ≤ m.loose.length + j
  | 0 => Nat.le_refl _
  | j + 1 => by
    unfold putJ
    have := putJ_few m f n a l j
    split
    · omega
    · have := zwrite_few (putJ m f n a l j).1 f n (a + (j : Int)) (l.getD j ⟨#[]⟩)
      simp only
      omega
theorem rowCell {w : World} {e : TypeId} {V : Value} {n : Nat} {l : List ByteArray} {g : Nat} {m c : Nat} (h : w.ownsRow 0 e 1 V n (scells l)) (hV : V = .slice (some ⟨g, 0, none⟩) m c) (j : Nat) (hj : j < l.length) : w.cell? ⟨g, j, none⟩ = some (.string (l.getD j ⟨#[]⟩)) := by
  subst hV
  have := h.cells (g := g) rfl j _ (scells_at l j hj)
  rw [addr_addD, Nat.zero_add] at this
  exact this

set_option maxRecDepth 100000 in
set_option maxHeartbeats 8000000 in
theorem sealPut_any (z d f n : Nat) (m : DM) (F : List Nat) (a num : Int) (s : ByteArray) (w : World) (hz : Blk w z (zcells d f n) 34) (hd : DiskAt w d m F) (hzF : z ∉ F) (hf : f ≤ 4096) (hn : n ≤ 4096) (h0 : 0 < m.len) (few : m.loose.length ≤ 900000) :
    Calls Try.prog 16 #[.pointer (some ⟨z, 0, none⟩), .int .i64 a, .int .i64 num, .string s] w fun e w' => ∃ F', e = .returned (.int .i64 (putR m f n a num s).2) ∧ DiskAt w' d (putR m f n a num s).1 F' ∧ Turn F F' w w' := by
  have hst := (Sd.with (diskR d m F) hd).read hz (by simp) (fun r hr => by simp only [List.mem_singleton] at hr; subst hr; exact hzF)
  have LN : Hid (∀ w, Blk w z (zcells d f n) 34 → Calls Try.prog 80 #[.pointer (some ⟨z, 0, none⟩)] w fun e w' => e = .returned (.int .i64 (n : Int)) ∧ w = w') := fun w h => zonLen_any z d f n w h
  cases hc : canLay num s
  · have eR : putR m f n a num s = (m, 1) := by unfold putR; rw [if_pos hc]
    have LY : Hid (∀ w, Calls Try.prog 22 #[.int .i64 num, .string s] w fun e w' => e = .returned (.tuple #[.slice none 0 0, .int .i64 1]) ∧ Only [] w w') := fun w => sealLay_no num s w hc
    rw [eR]
    clear hd hz hzF eR
    go_enter Try.func16, Try.ntmps16
    go_wp2_with (first | (go_at_call 22; (with_reducible refine (LY.out _).mono ?_); rintro e1 w1 ⟨rfl, ho1⟩; replace hst := hst.keep ho1; clear ho1))
    go_ret
    exact ⟨F, rfl, hst.rs 0 rfl, hst.turn 0 rfl rfl⟩
  · have hc' : ¬ canLay num s = false := by rw [hc]; simp
    obtain ⟨K, eK⟩ : ∃ K, K = secsOf s.size := ⟨_, rfl⟩
    obtain ⟨l, el⟩ : ∃ l, l = layS num s (secsOf s.size) := ⟨_, rfl⟩
    have hll : l.length = K := by rw [el, layS_length, eK]
    have hK2 : 2 ≤ K := by rw [eK]; exact secsOf_two _
    have hK : K ≤ 100 := by
      have := secsOf_le s.size
      unfold canLay at hc
      simp at hc
      omega
    have LY : Hid (∀ w, Calls Try.prog 22 #[.int .i64 num, .string s] w fun e w' => ∃ ad cp, e = .returned (.tuple #[.slice ad K cp, .int .i64 0]) ∧ w'.ownsRow 0 9 1 (.slice ad K cp) K (scells l) ∧ (∀ b ∈ (Value.slice ad K cp).ownBlock.toList, w.heap.size ≤ b) ∧ Only [] w w') := fun w => by rw [eK, el]; exact sealLay_yes num s w hc
    cases hp : putIn n a (secsOf s.size)
    · have eR : putR m f n a num s = (m, 3) := by unfold putR; rw [if_neg hc', if_pos hp]
      rw [eR]
      rw [← eK] at hp
      have hna : (n : Int) ≤ 4096 := by omega
      have h3 : a < 0 ∨ (n : Int) ≤ a ∨ (n : Int) - a < (K : Int) := by
        unfold putIn at hp
        simp at hp
        omega
      have h4 : a < 0 ∨ (0 ≤ a ∧ (n : Int) ≤ a) ∨ (0 ≤ a ∧ a < (n : Int) ∧ (n : Int) - a < (K : Int)) := by omega
      clear hd hz hzF eR hc hc' hp h3 eK el
      rcases h4 with h4 | ⟨h5, h4⟩ | ⟨h5, h6, h4⟩
      all_goals
        go_enter Try.func16, Try.ntmps16
        go_wp2_with (first
          | ((with_reducible refine wpL_peel rfl ?_ ?_); focus (go_simp; done))
          | (go_at_call 22; (with_reducible refine (LY.out _).mono ?_); rintro e1 w1 ⟨ad, cp, rfl, hown, hge, ho1⟩; replace hst := hst.keep ho1; clear ho1)
          | (go_at_call 80; (with_reducible refine (LN.out _ (hst.blk 0 rfl)).mono ?_); rintro e1 w1 ⟨rfl, rfl⟩))
        go_ret
        exact ⟨F, rfl, hst.rs 0 rfl, hst.turn 0 rfl rfl⟩
    · have eR : putR m f n a num s = putJ m f n a l K := by unfold putR; rw [if_neg hc', if_neg (by rw [hp]; simp), ← el, ← eK]
      rw [eR]
      rw [← eK] at hp
      have h3 : 0 ≤ a ∧ a < (n : Int) ∧ (K : Int) ≤ (n : Int) - a := by
        unfold putIn at hp
        simp at hp
        omega
      obtain ⟨a0, a1, a2⟩ := h3
      have WR : Hid (∀ j (w : World) F1, j < K → DiskAt w d (putJ m f n a l j).1 F1 → Blk w z (zcells d f n) 34 → z ∉ F1 → Calls Try.prog 40 #[.pointer (some ⟨z, 0, none⟩), .int .i64 (a + (j : Int)), .string (l.getD j ⟨#[]⟩)] w fun e w' => ∃ F', e = .returned (.int .i64 (zwriteE (putJ m f n a l j).1 f n (a + (j : Int)) (l.getD j ⟨#[]⟩))) ∧ DiskAt w' d (zwrite (putJ m f n a l j).1 f n (a + (j : Int)) (l.getD j ⟨#[]⟩)) F' ∧ Turn F1 F' w w') := fun j w F1 hj h1 h2 h3 =>
        zonWrite_any z d f n _ F1 _ _ w h2 h1 h3 hf hn (by rw [putJ_len]; exact h0) (by have := putJ_few m f n a l j; omega)
      have PS : Hid (∀ j, (putJ m f n a l j).2 = 0 → putJ m f n a l (j + 1) = (zwrite (putJ m f n a l j).1 f n (a + (j : Int)) (l.getD j ⟨#[]⟩), zwriteE (putJ m f n a l j).1 f n (a + (j : Int)) (l.getD j ⟨#[]⟩))) := fun j h => by rw [putJ, if_neg (by rw [h]; simp)]
      have PK : Hid (∀ j, j ≤ K → (putJ m f n a l j).2 ≠ 0 → putJ m f n a l K = putJ m f n a l j) := fun j hj h => putJ_stuck m f n a l j K h hj
      have hn4 : (n : Int) ≤ 4096 := by omega
      have a3 : a < 5000 := by omega
      clear hd hz hzF eR hc hc' hp eK el
      go_enter Try.func16, Try.ntmps16
      go_wp2_with (first
        | ((with_reducible refine wpL_peel rfl ?_ ?_); focus (go_simp; done))
        | (go_at_call 22; (with_reducible refine (LY.out _).mono ?_); rintro e1 w1 ⟨ad, cp, rfl, hown, hge, ho1⟩; replace hst := hst.add ho1 (r := rowR (.slice ad K cp) 9 1 K (scells l)) hown hge; clear ho1 hge)
        | (go_at_call 80; (with_reducible refine (LN.out _ (hst.blk 0 rfl)).mono ?_); rintro e1 w1 ⟨rfl, rfl⟩))
      obtain ⟨g, rfl⟩ : ∃ g, ad = some ⟨g, 0, none⟩ := by
        rcases hown.2 with ⟨_, h⟩ | ⟨g, cap, cur, e, _⟩
        · omega
        · simp only [Value.slice.injEq] at e
          exact ⟨g, e.1⟩
      clear hown
      go_loopw [44] (fun i wr => ∃ (j : Nat) (F1 : List Nat), j ≤ K ∧ i = .int .i64 (j : Int) ∧ (putJ m f n a l j).2 = 0 ∧ Sd w (diskR d m F).F wr [⟨z, zcells d f n, 34, false⟩] [rowR (.slice (some ⟨g, 0, none⟩) K cp) 9 1 K (scells l), diskR d (putJ m f n a l j).1 F1])
        (fun i _ => (K - intOf i).toNat)
      case atStart => exact ⟨0, F, by omega, rfl, rfl, hst⟩
      case round =>
        obtain ⟨j, F1, hj, rfl, hz0, hst⟩ := hrel
        by_cases hlt : j < K
        · have j1 : (j : Int) < K := by omega
          have hcell := Lib.hid (rowCell (hst.rs 0 rfl) rfl j (by omega))
          have PJ := Lib.hid (PS.out j hz0)
          have WJ := Lib.hid (fun w F1 => WR.out j w F1 hlt)
          obtain ⟨eq, eeq⟩ : ∃ eq, eq = zwriteE (putJ m f n a l j).1 f n (a + (j : Int)) (l.getD j ⟨#[]⟩) := ⟨_, rfl⟩
          obtain ⟨mq, emq⟩ : ∃ mq, mq = zwrite (putJ m f n a l j).1 f n (a + (j : Int)) (l.getD j ⟨#[]⟩) := ⟨_, rfl⟩
          obtain ⟨sj, esj⟩ : ∃ sj, sj = l.getD j ⟨#[]⟩ := ⟨_, rfl⟩
          rw [← eeq, ← emq] at PJ
          rw [← eeq, ← emq, ← esj] at WJ
          rw [← esj] at hcell
          have HJ : Hid (j + 1 ≤ K) := hlt
          clear eeq emq esj hz0
          by_cases hq : eq = 0
          · subst hq
            go_wp2_with (first
              | ((with_reducible refine wpL_isLoad rfl ?_); refine wpL_load1C rfl rfl rfl hcell.out (by kernel_rfl) ?_)
              | (go_at_call 40; (with_reducible refine (WJ.out _ _ (hst.rs 1 rfl) (hst.blk 0 rfl) (hst.away 0 1 rfl rfl)).mono ?_); rintro e1 w2 ⟨F2, rfl, hd2, ht2⟩; replace hst := hst.act 1 rfl (diskR d mq F2) rfl ht2 hd2; simp only [List.set] at hst; clear ht2 hd2))
            go_roundw
            case rel => exact ⟨j + 1, F2, HJ.out, by go_num, by rw [PJ.out], by rw [PJ.out]; exact hst⟩
            case measure => simp [intOf]; omega
          · have hq2 : (eq != 0) = true := by simpa using hq
            have PKJ := Lib.hid (PK.out (j + 1) HJ.out (by rw [PJ.out]; exact hq))
            go_wp2_with (first
              | ((with_reducible refine wpL_isLoad rfl ?_); refine wpL_load1C rfl rfl rfl hcell.out (by kernel_rfl) ?_)
              | (go_at_call 40; (with_reducible refine (WJ.out _ _ (hst.rs 1 rfl) (hst.blk 0 rfl) (hst.away 0 1 rfl rfl)).mono ?_); rintro e1 w2 ⟨F2, rfl, hd2, ht2⟩; replace hst := hst.act 1 rfl (diskR d mq F2) rfl ht2 hd2; simp only [List.set] at hst; clear ht2 hd2))
            go_ret
            refine ⟨F2, ?_, ?_, hst.turn 1 rfl rfl⟩
            · rw [PKJ.out, PJ.out]
              rfl
            · rw [PKJ.out, PJ.out]
              exact hst.rs 1 rfl
        · obtain rfl : j = K := by omega
          have j1 : ¬ (j : Int) < j := by omega
          go_wp2_with fail
          go_ret
          exact ⟨by first | rfl | (rw [hz0]; rfl), F1, hst.rs 1 rfl, hst.turn 1 rfl rfl⟩
end Go.Proofs.Ytmogkiacakkmbaa
