/- Twins: a zone within; whether a zone, a text can be; a text laid out as the first one. -/
import Derived.Test.YtmogkiacakkmbaaTwinS
import Derived.Test.YtmogkiacakkmbaaDskH
namespace Go.Proofs.Ytmogkiacakkmbaa
open Go.RowKit

/-- A block and a thing, as one. -/
def pairR (b : Nat) (cs : List Value) (ty : TypeId) (r : Rsc) : Rsc := ⟨true, b :: r.F, fun w => Blk w b cs ty ∧ r.p w ∧ b ∉ r.F,
  fun {S w w'} h ho hn => ⟨h.1.only ho (hn b (by simp)), r.st h.2.1 ho (fun k hk => hn k (by simp [hk])), h.2.2⟩,
  fun {w} h => by
    intro k hk
    rcases List.mem_cons.1 hk with rfl | hk
    · exact h.1.lt
    · exact r.lt h.2.1 k hk⟩
section
variable {w0 : World} {S : List Nat} {w : World} {L : List Ent} {R : List Rsc} {b : Nat} {cs : List Value} {ty : TypeId} {r : Rsc}
theorem Sd.join (h : Sd w0 S w (⟨b, cs, ty, true⟩ :: L) (r :: R)) (ho : r.own = true) : Sd w0 S w L (pairR b cs ty r :: R) := by
  refine ⟨(h.dropN 1).st, fun x hx => ?_, List.pairwise_cons.2 ⟨fun s hs k hk => ?_, (List.pairwise_cons.1 h.rapart).2⟩, fun x hx s hs => ?_⟩
  · rcases List.mem_cons.1 hx with rfl | hx
    · refine ⟨⟨h.blk 0 rfl, h.rs 0 rfl, h.away 0 0 rfl rfl⟩, fun _ k hk => ?_⟩
      rcases List.mem_cons.1 hk with rfl | hk
      · exact (h.st.each _ List.mem_cons_self).2 rfl
      · exact (h.res r List.mem_cons_self).2 ho k hk
    · exact h.res x (List.mem_cons_of_mem _ hx)
  · rcases List.mem_cons.1 hk with rfl | hk
    · exact h.cross _ List.mem_cons_self s (List.mem_cons_of_mem _ hs)
    · exact (List.pairwise_cons.1 h.rapart).1 s hs k hk
  · rcases List.mem_cons.1 hs with rfl | hs
    · intro hm
      rcases List.mem_cons.1 hm with hm | hm
      · exact (List.pairwise_cons.1 h.st.apart).1 x hx hm.symm
      · exact h.cross x (List.mem_cons_of_mem _ hx) r List.mem_cons_self hm
    · exact h.cross x (List.mem_cons_of_mem _ hx) s (List.mem_cons_of_mem _ hs)
theorem Sd.split (h : Sd w0 S w L (pairR b cs ty r :: R)) : Sd w0 S w (⟨b, cs, ty, true⟩ :: L) (r :: R) := by
  have hp := h.rs 0 rfl
  have hq := (h.res _ List.mem_cons_self).2 rfl
  have hr := List.pairwise_cons.1 h.rapart
  refine ⟨⟨h.only, fun x hx => ?_, List.pairwise_cons.2 ⟨fun x hx he => ?_, h.st.apart⟩⟩, fun x hx => ?_, List.pairwise_cons.2 ⟨fun s hs k hk => ?_, hr.2⟩, fun x hx s hs => ?_⟩
  · rcases List.mem_cons.1 hx with rfl | hx
    · exact ⟨hp.1, fun _ => hq b List.mem_cons_self⟩
    · exact h.st.each x hx
  · refine h.cross x hx _ List.mem_cons_self ?_
    rw [← he]
    exact List.mem_cons_self
  · rcases List.mem_cons.1 hx with rfl | hx
    · exact ⟨hp.2.1, fun _ k hk => hq k (List.mem_cons_of_mem _ hk)⟩
    · exact h.res x (List.mem_cons_of_mem _ hx)
  · exact hr.1 s hs k (List.mem_cons_of_mem _ hk)
  · rcases List.mem_cons.1 hx with rfl | hx
    · rcases List.mem_cons.1 hs with rfl | hs
      · exact hp.2.2
      · exact hr.1 s hs _ List.mem_cons_self
    · rcases List.mem_cons.1 hs with rfl | hs
      · intro hm
        exact h.cross x hx _ List.mem_cons_self (List.mem_cons_of_mem _ hm)
      · exact h.cross x hx s (List.mem_cons_of_mem _ hs)
end

set_option maxRecDepth 100000 in
set_option maxHeartbeats 8000000 in
theorem zonFill_any (z d f n : Nat) (m : DM) (F : List Nat) (w : World) (hz : Blk w z (zcells d f n) 34) (hd : DiskAt w d m F) (hzF : z ∉ F) (hf : f ≤ 4096) (hn : n ≤ 4096) (h0 : 0 < m.len) (few : m.loose.length ≤ 900000) :
    Calls Try.prog 99 #[.pointer (some ⟨z, 0, none⟩), .int .u8 0] w fun e w' => ∃ F', e = .returned (.int .i64 (fillJ m f n (zeroS 32) n).2) ∧ DiskAt w' d (fillJ m f n (zeroS 32) n).1 F' ∧ Turn F F' w w' := by
  have hst := (Sd.with (diskR d m F) hd).read hz (by simp) (fun r hr => by simp only [List.mem_singleton] at hr; subst hr; exact hzF)
  unfold zcells at hst
  obtain ⟨Z, eZ⟩ : ∃ Z, Z = zeroS 32 := ⟨_, rfl⟩
  have hZs : Z.size = 32 := by rw [eZ]; exact zeroS_size 32
  have RP : Hid (∀ w, Calls Try.prog 78 #[.string ⟨([0] : List UInt8).toArray⟩, .int .i64 32] w fun e w' => e = .returned (.string Z) ∧ Only [] w w') := fun w => by
    refine (Try.strings_Repeat ⟨#[0]⟩ 32 w (by decide) (by decide)).mono ?_
    rintro e w' ⟨rfl, ho⟩
    refine ⟨?_, Only.of_below ho⟩
    have e : Lib.repeatL ((⟨#[0]⟩ : ByteArray).data.toList) 32 = List.replicate 32 0 := repeat_zero _
    rw [e, eZ]
    rfl
  rw [← eZ]
  have WR : Hid (∀ (j : Nat) (w : World) F1, j < n → DiskAt w d (fillJ m f n Z j).1 F1 → Blk w z (zcells d f n) 34 → z ∉ F1 → Calls Try.prog 40 #[.pointer (some ⟨z, 0, none⟩), .int .i64 (j : Int), .string Z] w fun e w' => ∃ F', e = .returned (.int .i64 (zwriteE (fillJ m f n Z j).1 f n (j : Int) Z)) ∧ DiskAt w' d (zwrite (fillJ m f n Z j).1 f n (j : Int) Z) F' ∧ Turn F1 F' w w') := fun j w F1 hj h1 h2 h3 =>
    zonWrite_any z d f n _ F1 _ _ w h2 h1 h3 hf hn (by rw [fillJ_len]; exact h0) (by have := fillJ_few m f n Z j; omega)
  have RZ : Hid (∀ (j : Nat) (w : World) F1, j < n → Blk w z (zcells d f n) 34 → DiskAt w d (fillJ m f n Z j).1 F1 → z ∉ F1 → Calls Try.prog 83 #[.pointer (some ⟨z, 0, none⟩), .int .i64 (j : Int)] w fun e w' => e = .returned (.tuple #[.string (zread (fillJ m f n Z j).1 f n (j : Int)), .int .i64 (zreadE (fillJ m f n Z j).1 f n (j : Int))]) ∧ Only [] w w') := fun j w F1 hj h1 h2 h3 =>
    zonRead_any z d f n _ F1 _ w h1 h2 h3 hf hn (by have := fillJ_few m f n Z j; omega)
  have PS : Hid (∀ j, (fillJ m f n Z j).2 = 0 → fillJ m f n Z (j + 1) = if zreadE (fillJ m f n Z j).1 f n (j : Int) ≠ 0 then ((fillJ m f n Z j).1, zreadE (fillJ m f n Z j).1 f n (j : Int)) else if zread (fillJ m f n Z j).1 f n (j : Int) = Z then fillJ m f n Z j else (zwrite (fillJ m f n Z j).1 f n (j : Int) Z, zwriteE (fillJ m f n Z j).1 f n (j : Int) Z)) := fun j h => by rw [fillJ, if_neg (by rw [h]; simp)]
  have PK : Hid (∀ j, j ≤ n → (fillJ m f n Z j).2 ≠ 0 → fillJ m f n Z n = fillJ m f n Z j) := fun j hj h => fillJ_stuck m f n Z j n h hj
  have hn4 : (n : Int) ≤ 4096 := by omega
  clear hd hz hzF eZ
  go_enter Try.func99, Try.ntmps99
  go_wp2_with (first
    | ((with_reducible refine wpL_peel rfl ?_ ?_); focus (go_simp; done))
    | ((with_reducible refine wpL_isSliceT rfl ?_); refine wpL_sliceD hst rfl 56 1 _ rfl Try.underlying56 byteInfo (by decide) (by decide) [.int .u8 0] rfl rfl (by simp [Value.cells]) ?_; clear hst; intro w1 g hg hst)
    | ((with_reducible refine wpL_isConvT rfl ?_); refine wpL_str rfl 56 9 5 _ rfl ⟨g, 0, none⟩ [0] 1 1 rfl rfl Try.underlying56 Try.underlying5 Try.underlying9 (fun q hq => by have hq0 : q = 0 := (by simpa using hq); subst hq0; exact (hst.blk 0 rfl).cell rfl) ?_)
    | (go_at_call 78; (with_reducible refine (RP.out _).mono ?_); rintro e1 w1 ⟨rfl, ho1⟩; replace hst := hst.keep ho1; clear ho1)
    | ((with_reducible refine wpL_peel rfl ?_ ?_); focus (go_simp; done)) | ((with_reducible refine wpL_isLoad rfl ?_); first | (refine wpL_load1S hst.st rfl rfl 0 rfl rfl rfl (by kernel_rfl) ?_) | (refine wpL_load1S hst.st rfl rfl 1 rfl rfl rfl (by kernel_rfl) ?_)))
  replace hst := hst.dropN 1
  go_loopw [19] (fun i wr => ∃ (j : Nat) (F1 : List Nat), j ≤ n ∧ i = .int .i64 (j : Int) ∧ (fillJ m f n Z j).2 = 0 ∧ Sd w (diskR d m F).F wr [⟨z, zcells d f n, 34, false⟩] [diskR d (fillJ m f n Z j).1 F1])
    (fun i _ => (n - intOf i).toNat)
  case atStart => exact ⟨0, F, by omega, rfl, rfl, hst⟩
  case round =>
    obtain ⟨j, F1, hj, rfl, hz0, hst⟩ := hrel
    by_cases hlt : j < n
    · have j1 : (j : Int) < n := by omega
      have PJ := PS.out j hz0
      have WJ := Lib.hid (fun w F1 => WR.out j w F1 hlt)
      have RJ := Lib.hid (fun w F1 => RZ.out j w F1 hlt)
      have HJ : Hid (j + 1 ≤ n) := hlt
      obtain ⟨mj, emj⟩ : ∃ mj, mj = (fillJ m f n Z j).1 := ⟨_, rfl⟩
      have efj : fillJ m f n Z j = (mj, 0) := Prod.ext emj.symm hz0
      rw [efj] at PJ WJ RJ hst
      simp only at PJ WJ RJ hst
      obtain ⟨eq, eeq⟩ : ∃ eq, eq = zwriteE mj f n (j : Int) Z := ⟨_, rfl⟩
      obtain ⟨mq, emq⟩ : ∃ mq, mq = zwrite mj f n (j : Int) Z := ⟨_, rfl⟩
      obtain ⟨eR, eeR⟩ : ∃ eR, eR = zreadE mj f n (j : Int) := ⟨_, rfl⟩
      obtain ⟨sR, esR⟩ : ∃ sR, sR = zread mj f n (j : Int) := ⟨_, rfl⟩
      rw [← eeq, ← emq, ← eeR, ← esR] at PJ
      rw [← eeq, ← emq] at WJ
      rw [← eeR, ← esR] at RJ
      clear eeq emq eeR esR hz0 emj efj
      by_cases c0 : eR = 0
      · subst c0
        rw [if_neg (by simp)] at PJ
        by_cases cs : sR = Z
        · rw [if_pos cs] at PJ
          have HB := Lib.hid (decide_eq_true cs)
          have PJ' := Lib.hid PJ
          clear PJ cs
          go_wp2_with (first
            | ((with_reducible refine wpL_peel rfl ?_ ?_); focus (go_simp; done))
            | (go_at_call 83; (with_reducible refine (RJ.out _ _ (hst.blk 0 rfl) (hst.rs 0 rfl) (hst.away 0 0 rfl rfl)).mono ?_); rintro e1 w1 ⟨rfl, ho1⟩; replace hst := hst.keep ho1; clear ho1)
            | ((with_reducible refine wpL_isBin rfl ?_); refine wpL_neqStrT rfl rfl _ Z rfl rfl true HB.out ?_))
          go_roundw
          case rel => exact ⟨j + 1, F1, HJ.out, by go_num, by rw [PJ'.out], by rw [PJ'.out]; exact hst⟩
          case measure => simp [intOf]; omega
        · rw [if_neg cs] at PJ
          have HB := Lib.hid (decide_eq_false cs)
          have PJ' := Lib.hid PJ
          clear PJ cs
          by_cases hq : eq = 0
          · subst hq
            go_wp2_with (first
              | ((with_reducible refine wpL_peel rfl ?_ ?_); focus (go_simp; done))
              | (go_at_call 83; (with_reducible refine (RJ.out _ _ (hst.blk 0 rfl) (hst.rs 0 rfl) (hst.away 0 0 rfl rfl)).mono ?_); rintro e1 w1 ⟨rfl, ho1⟩; replace hst := hst.keep ho1; clear ho1)
              | (go_at_call 40; (with_reducible refine (WJ.out _ _ (hst.rs 0 rfl) (hst.blk 0 rfl) (hst.away 0 0 rfl rfl)).mono ?_); rintro e1 w2 ⟨F2, rfl, hd2, ht2⟩; replace hst := hst.act 0 rfl (diskR d mq F2) rfl ht2 hd2; simp only [List.set] at hst; clear ht2 hd2)
              | ((with_reducible refine wpL_isBin rfl ?_); refine wpL_neqStrT rfl rfl _ Z rfl rfl false HB.out ?_))
            go_roundw
            case rel => exact ⟨j + 1, F2, HJ.out, by go_num, by rw [PJ'.out], by rw [PJ'.out]; exact hst⟩
            case measure => simp [intOf]; omega
          · have hq2 : (eq != 0) = true := by simpa using hq
            have PKJ := Lib.hid (PK.out (j + 1) HJ.out (by rw [PJ'.out]; exact hq))
            go_wp2_with (first
              | ((with_reducible refine wpL_peel rfl ?_ ?_); focus (go_simp; done))
              | (go_at_call 83; (with_reducible refine (RJ.out _ _ (hst.blk 0 rfl) (hst.rs 0 rfl) (hst.away 0 0 rfl rfl)).mono ?_); rintro e1 w1 ⟨rfl, ho1⟩; replace hst := hst.keep ho1; clear ho1)
              | (go_at_call 40; (with_reducible refine (WJ.out _ _ (hst.rs 0 rfl) (hst.blk 0 rfl) (hst.away 0 0 rfl rfl)).mono ?_); rintro e1 w2 ⟨F2, rfl, hd2, ht2⟩; replace hst := hst.act 0 rfl (diskR d mq F2) rfl ht2 hd2; simp only [List.set] at hst; clear ht2 hd2)
              | ((with_reducible refine wpL_isBin rfl ?_); refine wpL_neqStrT rfl rfl _ Z rfl rfl false HB.out ?_))
            go_ret
            refine ⟨F2, ?_, ?_, hst.turn 0 rfl rfl⟩
            · rw [PKJ.out, PJ'.out]
              rfl
            · rw [PKJ.out, PJ'.out]
              exact hst.rs 0 rfl
      · rw [if_pos c0] at PJ
        have d0 : (eR == 0) = false := by simpa using c0
        have d1 : (eR != 0) = true := by simpa using c0
        have PKJ := Lib.hid (PK.out (j + 1) HJ.out (by rw [PJ]; exact c0))
        have PJ' := Lib.hid PJ
        clear PJ c0
        go_wp2_with (first
          | ((with_reducible refine wpL_peel rfl ?_ ?_); focus (go_simp; done))
          | (go_at_call 83; (with_reducible refine (RJ.out _ _ (hst.blk 0 rfl) (hst.rs 0 rfl) (hst.away 0 0 rfl rfl)).mono ?_); rintro e1 w1 ⟨rfl, ho1⟩; replace hst := hst.keep ho1; clear ho1))
        go_ret
        refine ⟨F1, ?_, ?_, hst.turn 0 rfl rfl⟩
        · rw [PKJ.out, PJ'.out]
          rfl
        · rw [PKJ.out, PJ'.out]
          exact hst.rs 0 rfl
    · obtain rfl : j = n := by omega
      have j1 : ¬ (j : Int) < j := by omega
      go_wp2_with fail
      go_ret
      exact ⟨by first | rfl | (rw [hz0]; rfl), F1, hst.rs 0 rfl, hst.turn 0 rfl rfl⟩
end Go.Proofs.Ytmogkiacakkmbaa

namespace Go.Proofs.Ytmogkiacakkmbaa
open Go.RowKit

set_option maxRecDepth 100000 in
set_option maxHeartbeats 4000000 in
theorem zonPart_yes (z d f n a k : Nat) (m : DM) (F : List Nat) (w : World) (hz : Blk w z (zcells d f n) 34) (hd : DiskAt w d m F) (hzF : z ∉ F) (hf : f ≤ 4096) (hn : n ≤ 4096) (hp : partOk (a : Int) (k : Int) (n : Int) = true) (hp2 : f + n ≤ m.len) :
    Calls Try.prog 142 #[.pointer (some ⟨z, 0, none⟩), .int .i64 (a : Int), .int .i64 (k : Int)] w fun e w' => ∃ p, e = .returned (.tuple #[.pointer (some ⟨p, 0, none⟩), .int .i64 0]) ∧ w.heap.size ≤ p ∧ Blk w' p (zcells d (f + a) k) 34 ∧ Only [] w w' := by
  have hst := (Sd.withQ [] (diskQ d m F) hd rfl).read hz (by simp) (fun r hr => by simp only [List.mem_singleton] at hr; subst hr; exact hzF)
  unfold zcells at hst
  have IP : Hid (∀ w, Calls Try.prog 79 #[.int .i64 (a : Int), .int .i64 (k : Int), .int .i64 (n : Int)] w fun e w' => e = .returned (.bool true) ∧ w = w') := fun w => by have := isPart_any (a : Int) (k : Int) n w hn; rw [hp] at this; exact this
  have ha : (a : Int) < n ∧ 1 ≤ (k : Int) ∧ (k : Int) ≤ (n : Int) - a := by unfold partOk at hp; simp at hp; omega
  have ZN : Hid (∀ w, DiskAt w d m F → Calls Try.prog 15 #[.pointer (some ⟨d, 0, none⟩), .int .i64 ((f : Int) + (a : Int)), .int .i64 (k : Int)] w fun e w' => ∃ z, e = .returned (.tuple #[.pointer (some ⟨z, 0, none⟩), .int .i64 0]) ∧ w.heap.size ≤ z ∧ Blk w' z (zcells d (f + a) k) 34 ∧ Only [] w w') := fun w h => by
    have := zonNew_yes d (f + a) k m F w h (by unfold partOk; simp; omega)
    rw [show (((f + a : Nat)) : Int) = (f : Int) + (a : Int) by omega] at this
    exact this
  have hb : (f : Int) + (a : Int) ≤ 9000 := by omega
  clear hz hd hzF hp ha
  go_enter Try.func142, Try.ntmps142
  go_wp2_with (first
    | ((with_reducible refine wpL_peel rfl ?_ ?_); focus (go_simp; done)) | ((with_reducible refine wpL_isLoad rfl ?_); first | (refine wpL_load1S hst.st rfl rfl 0 rfl rfl rfl (by kernel_rfl) ?_))
    | (go_at_call 79; (with_reducible refine (IP.out _).mono ?_); rintro e1 w1 ⟨rfl, rfl⟩))
  replace hst := hst.drew
  refine wp_region_text (by kernel_rfl) (by kernel_rfl) ?_
  have HW := Lib.hid ((Only.refl [] w).drew)
  generalize World.drew _ = W at *
  go_wp2_with (first | ((with_reducible refine wpL_peel rfl ?_ ?_); focus (go_simp; done)) | ((with_reducible refine wpL_isLoad rfl ?_); first | (refine wpL_load1S hst.st rfl rfl 0 rfl rfl rfl (by kernel_rfl) ?_)) | (go_at_call 15; (with_reducible refine (ZN.out _ (hst.rs 0 rfl)).mono ?_); rintro e1 w1 ⟨p, rfl, hge1, hz1, ho1⟩))
  refine TextQ.mk ?_ rfl
  go_wp2_with fail
  go_ret2
  exact ⟨p, rfl, Nat.le_trans HW.out.size hge1, hz1, HW.out.step ho1 (by simp)⟩

/-- Whether a zone can be a twin's. -/
def zoneOk (n : Nat) : Bool := decide (4 ≤ n) && decide (n % 2 = 0)
theorem zoneOk_iff {n : Nat} : zoneOk n = true ↔ 4 ≤ n ∧ n % 2 = 0 := by unfold zoneOk; simp

set_option maxRecDepth 100000 in
set_option maxHeartbeats 4000000 in
theorem isZone_any (z d f n : Nat) (w : World) (hz : Blk w z (zcells d f n) 34) :
    Calls Try.prog 97 #[.pointer (some ⟨z, 0, none⟩)] w fun e w' => e = .returned (.bool (zoneOk n)) ∧ w = w' := by
  have hst := Sd.of (St.with (S := []) hz)
  have LN : Hid (∀ w, Blk w z (zcells d f n) 34 → Calls Try.prog 80 #[.pointer (some ⟨z, 0, none⟩)] w fun e w' => e = .returned (.int .i64 (n : Int)) ∧ w = w') := fun w h => zonLen_any z d f n w h
  clear hz
  by_cases c1 : 4 ≤ n
  · have c1' : (4 : Int) ≤ n := by omega
    by_cases c2 : n % 2 = 0
    · have e : zoneOk n = true := zoneOk_iff.2 ⟨c1, c2⟩
      have t2 : ((n : Int) % 2 == 0) = true := by simp; omega
      rw [e]
      clear e c2
      go_enter Try.func97, Try.ntmps97
      go_wp2_with (first | ((with_reducible refine wpL_peel rfl ?_ ?_); focus (go_simp; done)) | (go_at_call 80; (with_reducible refine (LN.out _ (hst.blk 0 rfl)).mono ?_); rintro e1 w1 ⟨rfl, rfl⟩))
      go_ret
      exact ⟨rfl, rfl⟩
    · have e : zoneOk n = false := by unfold zoneOk; simp [c2]
      have t2 : ((n : Int) % 2 == 0) = false := by simp; omega
      rw [e]
      clear e c2
      go_enter Try.func97, Try.ntmps97
      go_wp2_with (first | ((with_reducible refine wpL_peel rfl ?_ ?_); focus (go_simp; done)) | (go_at_call 80; (with_reducible refine (LN.out _ (hst.blk 0 rfl)).mono ?_); rintro e1 w1 ⟨rfl, rfl⟩))
      go_ret
      exact ⟨rfl, rfl⟩
  · have e : zoneOk n = false := by unfold zoneOk; simp [c1]
    have c1' : (n : Int) < 4 := by omega
    rw [e]
    clear e c1
    go_enter Try.func97, Try.ntmps97
    go_wp2_with (first | ((with_reducible refine wpL_peel rfl ?_ ?_); focus (go_simp; done)) | (go_at_call 80; (with_reducible refine (LN.out _ (hst.blk 0 rfl)).mono ?_); rintro e1 w1 ⟨rfl, rfl⟩))
    go_ret
    exact ⟨rfl, rfl⟩

set_option maxRecDepth 100000 in
set_option maxHeartbeats 4000000 in
theorem isText_any (z d f n : Nat) (s : ByteArray) (w : World) (hz : Blk w z (zcells d f n) 34) (hn : n ≤ 4096) :
    Calls Try.prog 98 #[.pointer (some ⟨z, 0, none⟩), .string s] w fun e w' => e = .returned (.bool (fits (n / 2) s)) ∧ w = w' := by
  have hst := Sd.of (St.with (S := []) hz)
  have LN : Hid (∀ w, Blk w z (zcells d f n) 34 → Calls Try.prog 80 #[.pointer (some ⟨z, 0, none⟩)] w fun e w' => e = .returned (.int .i64 (n : Int)) ∧ w = w') := fun w h => zonLen_any z d f n w h
  have hn' : (n : Int) ≤ 4096 := by omega
  clear hz
  by_cases c1 : s.size ≤ 1024
  · have c1' : (s.size : Int) ≤ 1024 := by omega
    obtain ⟨K, eK⟩ : ∃ K, K = secsOf s.size := ⟨_, rfl⟩
    have SZ : Hid (∀ w, Calls Try.prog 18 #[.string s] w fun e w' => e = .returned (.int .i64 (K : Int)) ∧ w = w') := fun w => by rw [eK]; exact sealSize_any s w (by omega)
    by_cases c2 : secsOf s.size ≤ n / 2
    · have e : fits (n / 2) s = true := fits_iff.2 ⟨c1, c2⟩
      have c2' : (K : Int) ≤ (n : Int) / 2 := by rw [eK]; omega
      rw [e]
      clear e c2 eK
      go_enter Try.func98, Try.ntmps98
      go_wp2_with (first | ((with_reducible refine wpL_peel rfl ?_ ?_); focus (go_simp; done)) | (go_at_call 80; (with_reducible refine (LN.out _ (hst.blk 0 rfl)).mono ?_); rintro e1 w1 ⟨rfl, rfl⟩) | (go_at_call 18; (with_reducible refine (SZ.out _).mono ?_); rintro e1 w1 ⟨rfl, rfl⟩))
      go_ret
      exact ⟨rfl, rfl⟩
    · have e : fits (n / 2) s = false := by unfold fits; simp [c2]
      have c2' : ¬ (K : Int) ≤ (n : Int) / 2 := by rw [eK]; omega
      rw [e]
      clear e c2 eK
      go_enter Try.func98, Try.ntmps98
      go_wp2_with (first | ((with_reducible refine wpL_peel rfl ?_ ?_); focus (go_simp; done)) | (go_at_call 80; (with_reducible refine (LN.out _ (hst.blk 0 rfl)).mono ?_); rintro e1 w1 ⟨rfl, rfl⟩) | (go_at_call 18; (with_reducible refine (SZ.out _).mono ?_); rintro e1 w1 ⟨rfl, rfl⟩))
      go_ret
      refine ⟨?_, rfl⟩
      rw [decide_eq_false (show ¬ (K : Int) ≤ (n : Int) / 2 by omega)]
      rfl
  · have c1' : (1024 : Int) < s.size := by omega
    have e : fits (n / 2) s = false := by unfold fits; simp [c1]
    rw [e]
    clear e c1
    go_enter Try.func98, Try.ntmps98
    go_wp2_with (first | ((with_reducible refine wpL_peel rfl ?_ ?_); focus (go_simp; done)) | (go_at_call 80; (with_reducible refine (LN.out _ (hst.blk 0 rfl)).mono ?_); rintro e1 w1 ⟨rfl, rfl⟩))
    go_ret
    exact ⟨rfl, rfl⟩

def tcells (z : Nat) (s : ByteArray) (g k : Int) (dn : Bool) : List Value := [.pointer (some ⟨z, 0, none⟩), .string s, .int .i64 g, .int .i64 k, .bool dn]
theorem twinBuilt3 (z : Nat) (s : ByteArray) : Try.prog.built 98 [(0, .pointer (some ⟨z, 0, none⟩)), (1, .string s), (2, .int .i64 1)] = some (tcells z s 1 0 false).toArray := by kernel_rfl
theorem twinBuilt1 (z : Nat) : Try.prog.built 98 [(0, .pointer (some ⟨z, 0, none⟩))] = some (tcells z ⟨#[]⟩ 0 0 false).toArray := by kernel_rfl

/-- A first text. -/
def fmtC (m : DM) (f n : Nat) (s : ByteArray) : DM × Int := putR (layA m f n).1 f n 0 1 s
def fmtR (m : DM) (f n : Nat) (s : ByteArray) : DM × Int :=
  if (layA m f n).2 ≠ 0 then layA m f n
  else if (fmtC m f n s).2 ≠ 0 then fmtC m f n s
  else ((fmtC m f n s).1.sync, (fmtC m f n s).1.syncE)
theorem putR_len (m : DM) (f n : Nat) (a num : Int) (s : ByteArray) : (putR m f n a num s).1.len = m.len := by
  unfold putR
  split
  · rfl
  · split
    · rfl
    · exact putJ_len _ _ _ _ _ _
theorem putR_few (m : DM) (f n : Nat) (a num : Int) (s : ByteArray) (h : s.size ≤ 1024) : (putR m f n a num s).1.loose.length ≤ m.loose.length + 40 := by
  unfold putR
  split
  · simp only; omega
  · split
    · simp only; omega
    · have := putJ_few m f n a (layS num s (secsOf s.size)) (secsOf s.size)
      have : secsOf s.size ≤ 40 := by unfold secsOf; omega
      omega

set_option maxRecDepth 100000 in
set_option maxHeartbeats 8000000 in
theorem twinFormat_bad (z d f n : Nat) (s : ByteArray) (w : World) (hz : Blk w z (zcells d f n) 34) (hn : n ≤ 4096) (h : zoneOk n = false ∨ fits (n / 2) s = false) :
    Calls Try.prog 33 #[.pointer (some ⟨z, 0, none⟩), .string s] w fun e w' => e = .returned (.tuple #[.pointer none, .int .i64 1]) ∧ Only [] w w' := by
  have hst := Sd.of (St.with (S := []) hz)
  have IZ : Hid (∀ w, Blk w z (zcells d f n) 34 → Calls Try.prog 97 #[.pointer (some ⟨z, 0, none⟩)] w fun e w' => e = .returned (.bool (zoneOk n)) ∧ w = w') := fun w h => isZone_any z d f n w h
  have IT : Hid (∀ w, Blk w z (zcells d f n) 34 → Calls Try.prog 98 #[.pointer (some ⟨z, 0, none⟩), .string s] w fun e w' => e = .returned (.bool (fits (n / 2) s)) ∧ w = w') := fun w h => isText_any z d f n s w h hn
  clear hz
  cases hzo : zoneOk n
  · rw [hzo] at IZ
    clear h
    go_enter Try.func33, Try.ntmps33
    go_wp2_with (first | ((with_reducible refine wpL_peel rfl ?_ ?_); focus (go_simp; done)) | (go_at_call 97; (with_reducible refine (IZ.out _ (hst.blk 0 rfl)).mono ?_); rintro e1 w1 ⟨rfl, rfl⟩))
    go_ret2
    exact ⟨rfl, hst.only⟩
  · rw [hzo] at IZ h
    have hft : fits (n / 2) s = false := by rcases h with h | h; (cases h); exact h
    rw [hft] at IT
    clear h
    go_enter Try.func33, Try.ntmps33
    go_wp2_with (first | ((with_reducible refine wpL_peel rfl ?_ ?_); focus (go_simp; done)) | (go_at_call 97; (with_reducible refine (IZ.out _ (hst.blk 0 rfl)).mono ?_); rintro e1 w1 ⟨rfl, rfl⟩) | (go_at_call 98; (with_reducible refine (IT.out _ (hst.blk 0 rfl)).mono ?_); rintro e1 w1 ⟨rfl, rfl⟩))
    go_ret2
    exact ⟨rfl, hst.only⟩
end Go.Proofs.Ytmogkiacakkmbaa
