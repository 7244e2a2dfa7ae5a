/- Twins: saved; of no twin. -/
import Derived.Test.YtmogkiacakkmbaaTwinD
namespace Go.Proofs.Ytmogkiacakkmbaa
open Go.RowKit

theorem DM.cut_len (m : DM) (k : List Bool) : (m.cut k).len = m.len := by
  unfold DM.cut
  split
  · rfl
  · exact laid_length _ _
theorem DM.cut_few (m : DM) (k : List Bool) : (m.cut k).loose.length ≤ m.loose.length := by
  unfold DM.cut
  split
  · exact Nat.le_refl _
  · exact Nat.zero_le _
theorem DM.sync_len (m : DM) : m.sync.len = m.len := by
  unfold DM.sync
  split
  · rfl
  · split
    · exact DM.cut_len _ _
    · exact DM.now_length m
theorem DM.sync_few (m : DM) : m.sync.loose.length ≤ m.loose.length := by
  unfold DM.sync
  split
  · exact Nat.le_refl _
  · split
    · exact DM.cut_few _ _
    · exact Nat.zero_le _

set_option maxRecDepth 100000 in
set_option maxHeartbeats 32000000 in
theorem twinLay_any (t z d f n σ : Nat) (m : DM) (F : List Nat) (tx : ByteArray) (g k : Int) (dn : Bool) (s : ByteArray) (w : World) (ht : Blk w t (tcells z tx g k dn) 98) (hz : Blk w z (zcells d f n) 34) (hd : DiskAt w d m F) (htF : t ∉ F) (hzF : z ∉ F) (htz : t ≠ z)
    (hf : f ≤ 4096) (hn : n ≤ 4096) (hn4 : 4 ≤ n) (hfn : f + n ≤ m.len) (few : m.loose.length ≤ 700000) (hσ : σ ≤ 1) (hg0 : 0 ≤ g) (hg : g ≤ 2147483647) (hs : s.size ≤ 1024) :
    Calls Try.prog 100 #[.pointer (some ⟨t, 0, none⟩), .int .i64 (σ : Int), .string s] w fun e w' => ∃ F', e = .returned (.int .i64 (layR m (f + σ * (n / 2)) (n / 2) g s).2) ∧ DiskAt w' d (layR m (f + σ * (n / 2)) (n / 2) g s).1 F' ∧ Turn F F' w w' := by
  have hst := ((Sd.with (diskR d m F) hd).read ht (by simp) (fun r hr => by simp only [List.mem_singleton] at hr; subst hr; exact htF)).read hz (fun x hx => by simp only [List.mem_singleton] at hx; subst hx; exact htz) (fun r hr => by simp only [List.mem_singleton] at hr; subst hr; exact hzF)
  unfold tcells zcells at hst
  obtain ⟨H, eH⟩ : ∃ H, H = n / 2 := ⟨_, rfl⟩
  obtain ⟨P, eP⟩ : ∃ P, P = f + σ * (n / 2) := ⟨_, rfl⟩
  have hH : 2 ≤ H ∧ H ≤ 2048 := by omega
  have hσH : σ * H ≤ H := by
    have : σ * H ≤ 1 * H := Nat.mul_le_mul_right H hσ
    omega
  rw [← eH] at eP
  rw [← eH, ← eP]
  have hm4 : m.len ≤ 4096 := hd.1.few
  have hPH : P + H ≤ f + n := by
    rw [eP]
    rcases (by omega : σ = 0 ∨ σ = 1) with h | h <;> subst h <;> omega
  have LN : Hid (∀ w, Blk w z (zcells d f n) 34 → Calls Try.prog 80 #[.pointer (some ⟨z, 0, none⟩)] w fun e w' => e = .returned (.int .i64 (n : Int)) ∧ w = w') := fun w h => zonLen_any z d f n w h
  have PR : Hid (∀ w, Blk w z (zcells d f n) 34 → DiskAt w d m F → z ∉ F → Calls Try.prog 142 #[.pointer (some ⟨z, 0, none⟩), .int .i64 ((σ : Int) * ((n : Int) / 2)), .int .i64 ((n : Int) / 2)] w fun e w' => ∃ p, e = .returned (.tuple #[.pointer (some ⟨p, 0, none⟩), .int .i64 0]) ∧ w.heap.size ≤ p ∧ Blk w' p (zcells d P H) 34 ∧ Only [] w w') := fun w h1 h2 h3 => by
    have e1 : (n : Int) / 2 = (H : Int) := by omega
    have := zonPart_yes z d f n (σ * H) H m F w h1 h2 h3 hf hn (by
      unfold partOk
      simp
      rcases (by omega : σ = 0 ∨ σ = 1) with h | h <;> subst h <;> omega) hfn
    rw [e1, ← Int.natCast_mul, eP]
    exact this
  have hA := fillJ_few m P H (zeroS 32) H
  change (layA m P H).1.loose.length ≤ _ at hA
  have hAl : (layA m P H).1.len = m.len := fillJ_len m P H (zeroS 32) H
  have FL : Hid (∀ b F w, Blk w b (zcells d P H) 34 → DiskAt w d m F → b ∉ F → Calls Try.prog 99 #[.pointer (some ⟨b, 0, none⟩), .int .u8 0] w fun e w' => ∃ F', e = .returned (.int .i64 (layA m P H).2) ∧ DiskAt w' d (layA m P H).1 F' ∧ Turn F F' w w') := fun b F w h1 h2 h3 => zonFill_any b d P H m F w h1 h2 h3 (by omega) (by omega) (by omega) (by omega)
  have S1 : Hid (∀ F w, DiskAt w d (layA m P H).1 F → Calls Try.prog 17 #[.pointer (some ⟨d, 0, none⟩)] w fun e w' => ∃ F', e = .returned (.int .i64 (layA m P H).1.syncE) ∧ DiskAt w' d (layA m P H).1.sync F' ∧ Turn F F' w w') := fun F w h => dskSync_any d _ F w h (by omega) (by omega)
  have hBf := DM.sync_few (layA m P H).1
  have hBl := DM.sync_len (layA m P H).1
  have hC := putR_few (layA m P H).1.sync P H 0 (g + 1) s hs
  change (layC m P H g s).1.loose.length ≤ _ at hC
  have hCl : (layC m P H g s).1.len = (layA m P H).1.sync.len := putR_len (layA m P H).1.sync P H 0 (g + 1) s
  have PT : Hid (∀ b F w, Blk w b (zcells d P H) 34 → DiskAt w d (layA m P H).1.sync F → b ∉ F → Calls Try.prog 16 #[.pointer (some ⟨b, 0, none⟩), .int .i64 0, .int .i64 (g + 1), .string s] w fun e w' => ∃ F', e = .returned (.int .i64 (layC m P H g s).2) ∧ DiskAt w' d (layC m P H g s).1 F' ∧ Turn F F' w w') := fun b F w h1 h2 h3 => sealPut_any b d P H (layA m P H).1.sync F 0 (g + 1) s w h1 h2 h3 (by omega) (by omega) (by omega) (by omega)
  have S2 : Hid (∀ F w, DiskAt w d (layC m P H g s).1 F → Calls Try.prog 17 #[.pointer (some ⟨d, 0, none⟩)] w fun e w' => ∃ F', e = .returned (.int .i64 (layC m P H g s).1.syncE) ∧ DiskAt w' d (layC m P H g s).1.sync F' ∧ Turn F F' w w') := fun F w h => dskSync_any d _ F w h (by omega) (by omega)
  have hn' : (n : Int) ≤ 4096 := by omega
  have hm0 : 0 ≤ (σ : Int) * ((n : Int) / 2) := Int.mul_nonneg (by omega) (by omega)
  have hm1 : (σ : Int) * ((n : Int) / 2) ≤ 4096 := by
    have : (σ : Int) * ((n : Int) / 2) ≤ 1 * ((n : Int) / 2) := Int.mul_le_mul_of_nonneg_right (by omega) (by omega)
    omega
  have eR : layR m P H g s = if (layA m P H).2 ≠ 0 then layA m P H else if (layA m P H).1.syncE ≠ 0 then ((layA m P H).1.sync, (layA m P H).1.syncE) else if (layC m P H g s).2 ≠ 0 then layC m P H g s else ((layC m P H g s).1.sync, (layC m P H g s).1.syncE) := rfl
  generalize layR m P H g s = RR at *
  generalize layC m P H g s = C at *
  obtain ⟨mC, eC⟩ := C
  simp only at PT S2 eR
  generalize mC.syncE = eS at *
  generalize mC.sync = mS at *
  generalize (layA m P H).1.syncE = eB at *
  generalize (layA m P H).1.sync = mB at *
  generalize layA m P H = A at *
  obtain ⟨mA, eA⟩ := A
  simp only at FL S1 PT eR
  clear hm4 hd hz ht htF hzF htz eP eH hA hAl hBf hBl hC hCl hH hσH hPH
  by_cases a0 : eA = 0
  · subst a0
    rw [if_neg (by simp)] at eR
    by_cases b0 : eB = 0
    · subst b0
      rw [if_neg (by simp)] at eR
      by_cases c0 : eC = 0
      · subst c0
        rw [if_neg (by simp)] at eR
        subst eR
        by_cases s0 : eS = 0
        · subst s0
          go_enter Try.func100, Try.ntmps100
          go_wp2_with (first | ((with_reducible refine wpL_peel rfl ?_ ?_); focus (go_simp; done)) | (go_at_call 80; (with_reducible refine (LN.out _ (hst.blk 0 rfl)).mono ?_); rintro e1 w1 ⟨rfl, rfl⟩) | (go_at_call 142; (with_reducible refine (PR.out _ (hst.blk 0 rfl) (hst.rs 0 rfl) (hst.away 0 0 rfl rfl)).mono ?_); rintro e1 w1 ⟨q, rfl, hq1, hB1, ho1⟩; replace hst := hst.new ho1 hB1 hq1; clear hq1 hB1 ho1) | (go_at_call 99; (with_reducible refine (FL.out _ _ _ (hst.blk 0 rfl) (hst.rs 0 rfl) (hst.away 0 0 rfl rfl)).mono ?_); rintro e1 w1 ⟨F1, rfl, hd1, ht1⟩; replace hst := hst.act 0 rfl (diskR _ _ F1) rfl ht1 hd1; simp only [List.set] at hst; clear hd1 ht1) | (go_at_call 16; (with_reducible refine (PT.out _ _ _ (hst.blk 0 rfl) (hst.rs 0 rfl) (hst.away 0 0 rfl rfl)).mono ?_); rintro e1 w1 ⟨F1, rfl, hd1, ht1⟩; replace hst := hst.act 0 rfl (diskR _ _ F1) rfl ht1 hd1; simp only [List.set] at hst; clear hd1 ht1) | (go_at_call 17; (with_reducible first | refine (S1.out _ _ (hst.rs 0 rfl)).mono ?_ | refine (S2.out _ _ (hst.rs 0 rfl)).mono ?_); rintro e1 w1 ⟨F1, rfl, hd1, ht1⟩; replace hst := hst.act 0 rfl (diskR _ _ F1) rfl ht1 hd1; simp only [List.set] at hst; clear hd1 ht1) | ((with_reducible refine wpL_peel rfl ?_ ?_); focus (go_simp; done)) | ((with_reducible refine wpL_isLoad rfl ?_); first | (refine wpL_load1S hst.st rfl rfl 0 rfl rfl rfl (by kernel_rfl) ?_) | (refine wpL_load1S hst.st rfl rfl 1 rfl rfl rfl (by kernel_rfl) ?_) | (refine wpL_load1S hst.st rfl rfl 2 rfl rfl rfl (by kernel_rfl) ?_)))
          go_ret
          exact ⟨_, rfl, hst.rs 0 rfl, hst.turn 0 rfl rfl⟩
        · go_enter Try.func100, Try.ntmps100
          go_wp2_with (first | ((with_reducible refine wpL_peel rfl ?_ ?_); focus (go_simp; done)) | (go_at_call 80; (with_reducible refine (LN.out _ (hst.blk 0 rfl)).mono ?_); rintro e1 w1 ⟨rfl, rfl⟩) | (go_at_call 142; (with_reducible refine (PR.out _ (hst.blk 0 rfl) (hst.rs 0 rfl) (hst.away 0 0 rfl rfl)).mono ?_); rintro e1 w1 ⟨q, rfl, hq1, hB1, ho1⟩; replace hst := hst.new ho1 hB1 hq1; clear hq1 hB1 ho1) | (go_at_call 99; (with_reducible refine (FL.out _ _ _ (hst.blk 0 rfl) (hst.rs 0 rfl) (hst.away 0 0 rfl rfl)).mono ?_); rintro e1 w1 ⟨F1, rfl, hd1, ht1⟩; replace hst := hst.act 0 rfl (diskR _ _ F1) rfl ht1 hd1; simp only [List.set] at hst; clear hd1 ht1) | (go_at_call 16; (with_reducible refine (PT.out _ _ _ (hst.blk 0 rfl) (hst.rs 0 rfl) (hst.away 0 0 rfl rfl)).mono ?_); rintro e1 w1 ⟨F1, rfl, hd1, ht1⟩; replace hst := hst.act 0 rfl (diskR _ _ F1) rfl ht1 hd1; simp only [List.set] at hst; clear hd1 ht1) | (go_at_call 17; (with_reducible first | refine (S1.out _ _ (hst.rs 0 rfl)).mono ?_ | refine (S2.out _ _ (hst.rs 0 rfl)).mono ?_); rintro e1 w1 ⟨F1, rfl, hd1, ht1⟩; replace hst := hst.act 0 rfl (diskR _ _ F1) rfl ht1 hd1; simp only [List.set] at hst; clear hd1 ht1) | ((with_reducible refine wpL_peel rfl ?_ ?_); focus (go_simp; done)) | ((with_reducible refine wpL_isLoad rfl ?_); first | (refine wpL_load1S hst.st rfl rfl 0 rfl rfl rfl (by kernel_rfl) ?_) | (refine wpL_load1S hst.st rfl rfl 1 rfl rfl rfl (by kernel_rfl) ?_) | (refine wpL_load1S hst.st rfl rfl 2 rfl rfl rfl (by kernel_rfl) ?_)))
          go_ret
          exact ⟨_, rfl, hst.rs 0 rfl, hst.turn 0 rfl rfl⟩
      · rw [if_pos c0] at eR
        subst eR
        have c1 : (eC != 0) = true := by simpa using c0
        clear c0
        go_enter Try.func100, Try.ntmps100
        go_wp2_with (first | ((with_reducible refine wpL_peel rfl ?_ ?_); focus (go_simp; done)) | (go_at_call 80; (with_reducible refine (LN.out _ (hst.blk 0 rfl)).mono ?_); rintro e1 w1 ⟨rfl, rfl⟩) | (go_at_call 142; (with_reducible refine (PR.out _ (hst.blk 0 rfl) (hst.rs 0 rfl) (hst.away 0 0 rfl rfl)).mono ?_); rintro e1 w1 ⟨q, rfl, hq1, hB1, ho1⟩; replace hst := hst.new ho1 hB1 hq1; clear hq1 hB1 ho1) | (go_at_call 99; (with_reducible refine (FL.out _ _ _ (hst.blk 0 rfl) (hst.rs 0 rfl) (hst.away 0 0 rfl rfl)).mono ?_); rintro e1 w1 ⟨F1, rfl, hd1, ht1⟩; replace hst := hst.act 0 rfl (diskR _ _ F1) rfl ht1 hd1; simp only [List.set] at hst; clear hd1 ht1) | (go_at_call 16; (with_reducible refine (PT.out _ _ _ (hst.blk 0 rfl) (hst.rs 0 rfl) (hst.away 0 0 rfl rfl)).mono ?_); rintro e1 w1 ⟨F1, rfl, hd1, ht1⟩; replace hst := hst.act 0 rfl (diskR _ _ F1) rfl ht1 hd1; simp only [List.set] at hst; clear hd1 ht1) | (go_at_call 17; (with_reducible first | refine (S1.out _ _ (hst.rs 0 rfl)).mono ?_ | refine (S2.out _ _ (hst.rs 0 rfl)).mono ?_); rintro e1 w1 ⟨F1, rfl, hd1, ht1⟩; replace hst := hst.act 0 rfl (diskR _ _ F1) rfl ht1 hd1; simp only [List.set] at hst; clear hd1 ht1) | ((with_reducible refine wpL_peel rfl ?_ ?_); focus (go_simp; done)) | ((with_reducible refine wpL_isLoad rfl ?_); first | (refine wpL_load1S hst.st rfl rfl 0 rfl rfl rfl (by kernel_rfl) ?_) | (refine wpL_load1S hst.st rfl rfl 1 rfl rfl rfl (by kernel_rfl) ?_) | (refine wpL_load1S hst.st rfl rfl 2 rfl rfl rfl (by kernel_rfl) ?_)))
        go_ret
        exact ⟨_, rfl, hst.rs 0 rfl, hst.turn 0 rfl rfl⟩
    · rw [if_pos b0] at eR
      subst eR
      have b1 : (eB != 0) = true := by simpa using b0
      clear b0
      go_enter Try.func100, Try.ntmps100
      go_wp2_with (first | ((with_reducible refine wpL_peel rfl ?_ ?_); focus (go_simp; done)) | (go_at_call 80; (with_reducible refine (LN.out _ (hst.blk 0 rfl)).mono ?_); rintro e1 w1 ⟨rfl, rfl⟩) | (go_at_call 142; (with_reducible refine (PR.out _ (hst.blk 0 rfl) (hst.rs 0 rfl) (hst.away 0 0 rfl rfl)).mono ?_); rintro e1 w1 ⟨q, rfl, hq1, hB1, ho1⟩; replace hst := hst.new ho1 hB1 hq1; clear hq1 hB1 ho1) | (go_at_call 99; (with_reducible refine (FL.out _ _ _ (hst.blk 0 rfl) (hst.rs 0 rfl) (hst.away 0 0 rfl rfl)).mono ?_); rintro e1 w1 ⟨F1, rfl, hd1, ht1⟩; replace hst := hst.act 0 rfl (diskR _ _ F1) rfl ht1 hd1; simp only [List.set] at hst; clear hd1 ht1) | (go_at_call 16; (with_reducible refine (PT.out _ _ _ (hst.blk 0 rfl) (hst.rs 0 rfl) (hst.away 0 0 rfl rfl)).mono ?_); rintro e1 w1 ⟨F1, rfl, hd1, ht1⟩; replace hst := hst.act 0 rfl (diskR _ _ F1) rfl ht1 hd1; simp only [List.set] at hst; clear hd1 ht1) | (go_at_call 17; (with_reducible first | refine (S1.out _ _ (hst.rs 0 rfl)).mono ?_ | refine (S2.out _ _ (hst.rs 0 rfl)).mono ?_); rintro e1 w1 ⟨F1, rfl, hd1, ht1⟩; replace hst := hst.act 0 rfl (diskR _ _ F1) rfl ht1 hd1; simp only [List.set] at hst; clear hd1 ht1) | ((with_reducible refine wpL_peel rfl ?_ ?_); focus (go_simp; done)) | ((with_reducible refine wpL_isLoad rfl ?_); first | (refine wpL_load1S hst.st rfl rfl 0 rfl rfl rfl (by kernel_rfl) ?_) | (refine wpL_load1S hst.st rfl rfl 1 rfl rfl rfl (by kernel_rfl) ?_) | (refine wpL_load1S hst.st rfl rfl 2 rfl rfl rfl (by kernel_rfl) ?_)))
      go_ret
      exact ⟨_, rfl, hst.rs 0 rfl, hst.turn 0 rfl rfl⟩
  · rw [if_pos a0] at eR
    subst eR
    have a1 : (eA != 0) = true := by simpa using a0
    clear a0
    go_enter Try.func100, Try.ntmps100
    go_wp2_with (first | ((with_reducible refine wpL_peel rfl ?_ ?_); focus (go_simp; done)) | (go_at_call 80; (with_reducible refine (LN.out _ (hst.blk 0 rfl)).mono ?_); rintro e1 w1 ⟨rfl, rfl⟩) | (go_at_call 142; (with_reducible refine (PR.out _ (hst.blk 0 rfl) (hst.rs 0 rfl) (hst.away 0 0 rfl rfl)).mono ?_); rintro e1 w1 ⟨q, rfl, hq1, hB1, ho1⟩; replace hst := hst.new ho1 hB1 hq1; clear hq1 hB1 ho1) | (go_at_call 99; (with_reducible refine (FL.out _ _ _ (hst.blk 0 rfl) (hst.rs 0 rfl) (hst.away 0 0 rfl rfl)).mono ?_); rintro e1 w1 ⟨F1, rfl, hd1, ht1⟩; replace hst := hst.act 0 rfl (diskR _ _ F1) rfl ht1 hd1; simp only [List.set] at hst; clear hd1 ht1) | (go_at_call 16; (with_reducible refine (PT.out _ _ _ (hst.blk 0 rfl) (hst.rs 0 rfl) (hst.away 0 0 rfl rfl)).mono ?_); rintro e1 w1 ⟨F1, rfl, hd1, ht1⟩; replace hst := hst.act 0 rfl (diskR _ _ F1) rfl ht1 hd1; simp only [List.set] at hst; clear hd1 ht1) | (go_at_call 17; (with_reducible first | refine (S1.out _ _ (hst.rs 0 rfl)).mono ?_ | refine (S2.out _ _ (hst.rs 0 rfl)).mono ?_); rintro e1 w1 ⟨F1, rfl, hd1, ht1⟩; replace hst := hst.act 0 rfl (diskR _ _ F1) rfl ht1 hd1; simp only [List.set] at hst; clear hd1 ht1) | ((with_reducible refine wpL_peel rfl ?_ ?_); focus (go_simp; done)) | ((with_reducible refine wpL_isLoad rfl ?_); first | (refine wpL_load1S hst.st rfl rfl 0 rfl rfl rfl (by kernel_rfl) ?_) | (refine wpL_load1S hst.st rfl rfl 1 rfl rfl rfl (by kernel_rfl) ?_) | (refine wpL_load1S hst.st rfl rfl 2 rfl rfl rfl (by kernel_rfl) ?_)))
    go_ret
    exact ⟨_, rfl, hst.rs 0 rfl, hst.turn 0 rfl rfl⟩
end Go.Proofs.Ytmogkiacakkmbaa

namespace Go.Proofs.Ytmogkiacakkmbaa
open Go.RowKit

theorem turn_cons {t : Nat} {F F' : List Nat} {w w' : World} {L : List Ent} {R : List Rsc} (h : Sd w (t :: F) w' L R) (i : Nat) {r : Rsc} (hi : R[i]? = some r) (ho : r.own = true) (hF : r.F = F') (hn : t ∉ F') (htw : t < w.heap.size) : Turn (t :: F) (t :: F') w w' := by
  subst hF
  obtain ⟨h1, h2⟩ := h.turn i hi ho
  refine ⟨h1, fun k hk => ?_⟩
  rcases List.mem_cons.1 hk with rfl | hk
  · exact .inl List.mem_cons_self
  · exact h2 k hk

section
variable (t z d f n : Nat) (m : DM) (F : List Nat) (tx : ByteArray) (g k : Int) (s : ByteArray) (w : World)

set_option maxRecDepth 100000 in
set_option maxHeartbeats 16000000 in
/-- A save that can't be: a text with no place; a number that is the last one; a twin that is down. -/
theorem twinSave_no (dn : Bool) (ht : Blk w t (tcells z tx g k dn) 98) (hz : Blk w z (zcells d f n) 34) (htz : t ≠ z) (hn : n ≤ 4096) (er : Int)
    (h : (fits (n / 2) s = false ∧ er = 1) ∨ (fits (n / 2) s = true ∧ 2147483647 ≤ g ∧ er = 10) ∨ (fits (n / 2) s = true ∧ g < 2147483647 ∧ dn = true ∧ er = 4)) :
    Calls Try.prog 38 #[.pointer (some ⟨t, 0, none⟩), .string s] w fun e w' => e = .returned (.int .i64 er) ∧ Only [] w w' := by
  have hst := Sd.of ((St.with (S := []) ht).read hz (fun x hx => by simp only [List.mem_singleton] at hx; subst hx; exact htz))
  unfold tcells zcells at hst
  have IT : Hid (∀ w, Blk w z (zcells d f n) 34 → Calls Try.prog 98 #[.pointer (some ⟨z, 0, none⟩), .string s] w fun e w' => e = .returned (.bool (fits (n / 2) s)) ∧ w = w') := fun w h => isText_any z d f n s w h hn
  clear ht hz htz
  rcases h with ⟨h1, rfl⟩ | ⟨h1, h2, rfl⟩ | ⟨h1, h2, rfl, rfl⟩
  all_goals
    rw [h1] at IT
    clear h1
    go_enter Try.func38, Try.ntmps38
    go_wp2_with (first | ((with_reducible refine wpL_peel rfl ?_ ?_); focus (go_simp; done)) | (go_at_call 98; (with_reducible refine (IT.out _ (hst.blk 0 rfl)).mono ?_); rintro e1 w1 ⟨rfl, rfl⟩) | ((with_reducible refine wpL_peel rfl ?_ ?_); focus (go_simp; done)) | ((with_reducible refine wpL_isLoad rfl ?_); first | (refine wpL_load1S hst.st rfl rfl 0 rfl rfl rfl (by kernel_rfl) ?_) | (refine wpL_load1S hst.st rfl rfl 1 rfl rfl rfl (by kernel_rfl) ?_)))
    go_ret
    exact ⟨rfl, hst.only⟩

variable (κ : Nat) (hp : (pairR t (tcells z tx g (κ : Int) false) 98 (diskR d m F)).p w) (hz : Blk w z (zcells d f n) 34) (htz : t ≠ z) (hzF : z ∉ F)
    (hf : f ≤ 4096) (hn : n ≤ 4096) (hn4 : 4 ≤ n) (hfn : f + n ≤ m.len) (few : m.loose.length ≤ 700000) (hκ : κ ≤ 1) (hg0 : 0 ≤ g) (hg : g < 2147483647) (hft : fits (n / 2) s = true)
include hz htz hzF hf hn hn4 hfn few hκ hg0 hg hft hp

set_option maxRecDepth 100000 in
set_option maxHeartbeats 16000000 in
/-- A save that goes well. -/
theorem twinSave_yes (h0 : (layR m (f + (1 - κ) * (n / 2)) (n / 2) g s).2 = 0) :
    Calls Try.prog 38 #[.pointer (some ⟨t, 0, none⟩), .string s] w fun e w' => ∃ F', e = .returned (.int .i64 0) ∧ (pairR t (tcells z s (g + 1) ((1 - κ : Nat) : Int) false) 98 (diskR d (layR m (f + (1 - κ) * (n / 2)) (n / 2) g s).1 F')).p w' ∧ Turn (t :: F) (t :: F') w w' := by
  have hst := (Sd.with (pairR t (tcells z tx g (κ : Int) false) 98 (diskR d m F)) hp).split.read hz (fun x hx => by simp only [List.mem_singleton] at hx; subst hx; exact htz) (fun r hr => by simp only [List.mem_singleton] at hr; subst hr; exact hzF)
  have htw : Hid (t < w.heap.size) := hp.1.lt
  change Sd w (t :: F) w _ _ at hst
  have IT : Hid (∀ w, Blk w z (zcells d f n) 34 → Calls Try.prog 98 #[.pointer (some ⟨z, 0, none⟩), .string s] w fun e w' => e = .returned (.bool true) ∧ w = w') := fun w h => by have := isText_any z d f n s w h hn; rw [hft] at this; exact this
  have LY : Hid (∀ F w, Blk w t (tcells z tx g (κ : Int) false) 98 → Blk w z (zcells d f n) 34 → DiskAt w d m F → t ∉ F → z ∉ F → Calls Try.prog 100 #[.pointer (some ⟨t, 0, none⟩), .int .i64 (1 - (κ : Int)), .string s] w fun e w' => ∃ F', e = .returned (.int .i64 0) ∧ DiskAt w' d (layR m (f + (1 - κ) * (n / 2)) (n / 2) g s).1 F' ∧ Turn F F' w w') := fun F w h1 h2 h3 h4 h5 => by
    have := twinLay_any t z d f n (1 - κ) m F tx g (κ : Int) false s w h1 h2 h3 h4 h5 htz hf hn hn4 hfn few (by omega) hg0 (by omega) (fits_iff.1 hft).1
    rw [h0, show (((1 - κ : Nat)) : Int) = 1 - (κ : Int) by omega] at this
    exact this
  have hk : (κ : Int) ≤ 1 := by omega
  have eσ : Hid (((1 - κ : Nat) : Int) = 1 - (κ : Int)) := by show _ = _; omega
  rw [eσ.out]
  clear eσ
  unfold tcells zcells at hst
  generalize (layR m (f + (1 - κ) * (n / 2)) (n / 2) g s).1 = mL at *
  clear hp hz htz hzF h0 hft
  go_enter Try.func38, Try.ntmps38
  go_wp2_with (first | ((with_reducible refine wpL_peel rfl ?_ ?_); focus (go_simp; done)) | (go_at_call 98; (with_reducible refine (IT.out _ (hst.blk 0 rfl)).mono ?_); rintro e1 w1 ⟨rfl, rfl⟩) | (go_at_call 100; (with_reducible refine (LY.out _ _ (hst.blk 1 rfl) (hst.blk 0 rfl) (hst.rs 0 rfl) (hst.away 1 0 rfl rfl) (hst.away 0 0 rfl rfl)).mono ?_); rintro e1 w1 ⟨F1, rfl, hd1, ht1⟩; replace hst := hst.act 0 rfl (diskR _ _ F1) rfl ht1 hd1; simp only [List.set] at hst; clear hd1 ht1) | ((with_reducible refine wpL_peel rfl ?_ ?_); focus (go_simp; done)) | ((with_reducible refine wpL_isLoad rfl ?_); first | (refine wpL_load1S hst.st rfl rfl 0 rfl rfl rfl (by kernel_rfl) ?_) | (refine wpL_load1S hst.st rfl rfl 1 rfl rfl rfl (by kernel_rfl) ?_)) | ((with_reducible refine wpL_isStore rfl ?_); first | (refine wpL_store1D hst rfl rfl 0 rfl rfl rfl rfl (by kernel_rfl) rfl ?_; clear hst; intro w1 hst; simp only [List.set] at hst) | (refine wpL_store1D hst rfl rfl 1 rfl rfl rfl rfl (by kernel_rfl) rfl ?_; clear hst; intro w1 hst; simp only [List.set] at hst) | (refine wpL_store1D hst rfl rfl 2 rfl rfl rfl rfl (by kernel_rfl) rfl ?_; clear hst; intro w1 hst; simp only [List.set] at hst) | (refine wpL_store1D hst rfl rfl 3 rfl rfl rfl rfl (by kernel_rfl) rfl ?_; clear hst; intro w1 hst; simp only [List.set] at hst)))
  go_ret
  exact ⟨_, rfl, ⟨hst.blk 1 rfl, hst.rs 0 rfl, hst.away 1 0 rfl rfl⟩, turn_cons hst 0 rfl rfl rfl (hst.away 1 0 rfl rfl) htw.out⟩

set_option maxRecDepth 100000 in
set_option maxHeartbeats 16000000 in
/-- A save that breaks. -/
theorem twinSave_broke (er : Int) (h0 : (layR m (f + (1 - κ) * (n / 2)) (n / 2) g s).2 = er) (he : er ≠ 0) :
    Calls Try.prog 38 #[.pointer (some ⟨t, 0, none⟩), .string s] w fun e w' => ∃ F', e = .returned (.int .i64 er) ∧ (pairR t (tcells z tx g (κ : Int) (er == 4)) 98 (diskR d (layR m (f + (1 - κ) * (n / 2)) (n / 2) g s).1 F')).p w' ∧ Turn (t :: F) (t :: F') w w' := by
  have hst := (Sd.with (pairR t (tcells z tx g (κ : Int) false) 98 (diskR d m F)) hp).split.read hz (fun x hx => by simp only [List.mem_singleton] at hx; subst hx; exact htz) (fun r hr => by simp only [List.mem_singleton] at hr; subst hr; exact hzF)
  have htw : Hid (t < w.heap.size) := hp.1.lt
  change Sd w (t :: F) w _ _ at hst
  have IT : Hid (∀ w, Blk w z (zcells d f n) 34 → Calls Try.prog 98 #[.pointer (some ⟨z, 0, none⟩), .string s] w fun e w' => e = .returned (.bool true) ∧ w = w') := fun w h => by have := isText_any z d f n s w h hn; rw [hft] at this; exact this
  have LY : Hid (∀ F w, Blk w t (tcells z tx g (κ : Int) false) 98 → Blk w z (zcells d f n) 34 → DiskAt w d m F → t ∉ F → z ∉ F → Calls Try.prog 100 #[.pointer (some ⟨t, 0, none⟩), .int .i64 (1 - (κ : Int)), .string s] w fun e w' => ∃ F', e = .returned (.int .i64 er) ∧ DiskAt w' d (layR m (f + (1 - κ) * (n / 2)) (n / 2) g s).1 F' ∧ Turn F F' w w') := fun F w h1 h2 h3 h4 h5 => by
    have := twinLay_any t z d f n (1 - κ) m F tx g (κ : Int) false s w h1 h2 h3 h4 h5 htz hf hn hn4 hfn few (by omega) hg0 (by omega) (fits_iff.1 hft).1
    rw [h0, show (((1 - κ : Nat)) : Int) = 1 - (κ : Int) by omega] at this
    exact this
  have hk : (κ : Int) ≤ 1 := by omega
  have he2 : (er != 0) = true := by simpa using he
  unfold tcells zcells at hst
  generalize (layR m (f + (1 - κ) * (n / 2)) (n / 2) g s).1 = mL at *
  clear hp hz htz hzF h0 hft he
  go_enter Try.func38, Try.ntmps38
  go_wp2_with (first | ((with_reducible refine wpL_peel rfl ?_ ?_); focus (go_simp; done)) | (go_at_call 98; (with_reducible refine (IT.out _ (hst.blk 0 rfl)).mono ?_); rintro e1 w1 ⟨rfl, rfl⟩) | (go_at_call 100; (with_reducible refine (LY.out _ _ (hst.blk 1 rfl) (hst.blk 0 rfl) (hst.rs 0 rfl) (hst.away 1 0 rfl rfl) (hst.away 0 0 rfl rfl)).mono ?_); rintro e1 w1 ⟨F1, rfl, hd1, ht1⟩; replace hst := hst.act 0 rfl (diskR _ _ F1) rfl ht1 hd1; simp only [List.set] at hst; clear hd1 ht1) | ((with_reducible refine wpL_peel rfl ?_ ?_); focus (go_simp; done)) | ((with_reducible refine wpL_isLoad rfl ?_); first | (refine wpL_load1S hst.st rfl rfl 0 rfl rfl rfl (by kernel_rfl) ?_) | (refine wpL_load1S hst.st rfl rfl 1 rfl rfl rfl (by kernel_rfl) ?_)) | ((with_reducible refine wpL_isStore rfl ?_); first | (refine wpL_store1D hst rfl rfl 0 rfl rfl rfl rfl (by kernel_rfl) rfl ?_; clear hst; intro w1 hst; simp only [List.set] at hst) | (refine wpL_store1D hst rfl rfl 1 rfl rfl rfl rfl (by kernel_rfl) rfl ?_; clear hst; intro w1 hst; simp only [List.set] at hst) | (refine wpL_store1D hst rfl rfl 2 rfl rfl rfl rfl (by kernel_rfl) rfl ?_; clear hst; intro w1 hst; simp only [List.set] at hst) | (refine wpL_store1D hst rfl rfl 3 rfl rfl rfl rfl (by kernel_rfl) rfl ?_; clear hst; intro w1 hst; simp only [List.set] at hst)))
  go_ret
  exact ⟨_, rfl, ⟨hst.blk 1 rfl, hst.rs 0 rfl, hst.away 1 0 rfl rfl⟩, turn_cons hst 0 rfl rfl rfl (hst.away 1 0 rfl rfl) htw.out⟩
end

set_option maxRecDepth 100000 in
set_option maxHeartbeats 4000000 in
theorem twinNil (w : World) (s : ByteArray) :
    (Calls Try.prog 38 #[.pointer none, .string s] w fun e w' => e = .returned (.int .i64 2) ∧ Only [] w w') ∧
    (Calls Try.prog 35 #[.pointer none] w fun e w' => e = .returned (.string ⟨#[]⟩) ∧ Only [] w w') ∧
    (Calls Try.prog 36 #[.pointer none] w fun e w' => e = .returned (.int .i64 0) ∧ Only [] w w') ∧
    (Calls Try.prog 37 #[.pointer none] w fun e w' => e = .returned (.int .i64 0) ∧ Only [] w w') ∧
    (Calls Try.prog 32 #[.pointer none] w fun e w' => e = .returned (.tuple #[.pointer none, .int .i64 2]) ∧ Only [] w w') ∧
    (Calls Try.prog 33 #[.pointer none, .string s] w fun e w' => e = .returned (.tuple #[.pointer none, .int .i64 2]) ∧ Only [] w w') := by
  have hst := Sd.start w []
  refine ⟨?_, ?_, ?_, ?_, ?_, ?_⟩
  · go_enter Try.func38, Try.ntmps38
    go_wp2_with fail
    go_ret
    exact ⟨rfl, hst.only⟩
  · go_enter Try.func35, Try.ntmps35
    go_wp2_with fail
    go_ret
    exact ⟨rfl, hst.only⟩
  · go_enter Try.func36, Try.ntmps36
    go_wp2_with fail
    go_ret
    exact ⟨rfl, hst.only⟩
  · go_enter Try.func37, Try.ntmps37
    go_wp2_with fail
    go_ret
    exact ⟨rfl, hst.only⟩
  · go_enter Try.func32, Try.ntmps32
    go_wp2_with fail
    go_ret2
    exact ⟨rfl, hst.only⟩
  · go_enter Try.func33, Try.ntmps33
    go_wp2_with fail
    go_ret2
    exact ⟨rfl, hst.only⟩
end Go.Proofs.Ytmogkiacakkmbaa
