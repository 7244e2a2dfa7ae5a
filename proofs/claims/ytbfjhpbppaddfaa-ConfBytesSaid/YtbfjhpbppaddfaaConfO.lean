/- Shapes: written as bytes, by the document. -/
import Derived.Test.YtbfjhpbppaddfaaConfN
namespace Go.Proofs.Ytbfjhpbppaddfaa
open Go.RowKit

/-- The bytes of a shape. -/
def Cfg.bytes (c : Cfg) : ByteArray := ⟨((c.nums).map num4).flatten.toArray⟩

set_option maxRecDepth 100000 in
set_option maxHeartbeats 16000000 in
theorem refBytes_yes (c : Cfg) (h : Fit c) (w : World) : Calls Try.prog 26 #[.agg c.cells.toArray] w fun e w' => e = .returned (.string c.bytes) ∧ Only [] w w' := by
  have hb0 := Blk.new w c.cells 39
  have hw0 : Only [] w (w.alloc (.cells c.cells.toArray 39)) := (Only.refl [] w).alloc _
  have HNB : Hid (∀ (k : Nat), k < 6 → ∃ n : Nat, n < 4294967296 ∧ ([.int .i64 c.V, .int .i64 c.D, .int .i64 c.H, .int .i64 c.B, .int .i64 c.F, .int .i64 c.C] : List Value)[k]? = some (.int .i64 (n : Int)) ∧ c.nums.take (k + 1) = c.nums.take k ++ [(n : Int)]) := fun k hk => by
    have e : ∀ z : Int, 0 ≤ z → z ≤ 32 → ∃ n : Nat, n < 4294967296 ∧ z = (n : Int) := fun z h0 h1 => ⟨z.toNat, by omega, by omega⟩
    have : k = 0 ∨ k = 1 ∨ k = 2 ∨ k = 3 ∨ k = 4 ∨ k = 5 := by omega
    have v0 := h.v0; have v1 := h.v1; have d0 := h.d0; have d1 := h.d1; have h0 := h.h0; have h1 := h.h1
    have b0 := h.b0; have b1 := h.b1; have f0 := h.f0; have f1 := h.f1; have c0 := h.c0; have c1 := h.c1
    rcases this with rfl | rfl | rfl | rfl | rfl | rfl
    · obtain ⟨n, hn, e⟩ := e c.V (by omega) (by omega); exact ⟨n, hn, by rw [← e]; rfl, by rw [← e]; rfl⟩
    · obtain ⟨n, hn, e⟩ := e c.D (by omega) (by omega); exact ⟨n, hn, by rw [← e]; rfl, by rw [← e]; rfl⟩
    · obtain ⟨n, hn, e⟩ := e c.H (by omega) (by omega); exact ⟨n, hn, by rw [← e]; rfl, by rw [← e]; rfl⟩
    · obtain ⟨n, hn, e⟩ := e c.B (by omega) (by omega); exact ⟨n, hn, by rw [← e]; rfl, by rw [← e]; rfl⟩
    · obtain ⟨n, hn, e⟩ := e c.F (by omega) (by omega); exact ⟨n, hn, by rw [← e]; rfl, by rw [← e]; rfl⟩
    · obtain ⟨n, hn, e⟩ := e c.C (by omega) (by omega); exact ⟨n, hn, by rw [← e]; rfl, by rw [← e]; rfl⟩
  have HT : Hid (c.nums.take 6 = c.nums) := rfl
  have c0 := hb0.cell (i := 0) (v := .int .i64 c.V) rfl
  have c1 := hb0.cell (i := 1) (v := .int .i64 c.D) rfl
  have c2 := hb0.cell (i := 2) (v := .int .i64 c.H) rfl
  have c3 := hb0.cell (i := 3) (v := .int .i64 c.B) rfl
  have c4 := hb0.cell (i := 4) (v := .int .i64 c.F) rfl
  have c5 := hb0.cell (i := 5) (v := .int .i64 c.C) rfl
  have HL : Hid (c.cells.length = 6) := rfl
  have HO : Hid (c.cells.toArray.all (·.oneCell') = true) := c.cells_one
  have ZI : Hid ((Try.prog.info? 90).map (·.zero) = some (some (.agg zeros6.toArray))) := by show _ = _; kernel_rfl
  have ZL : Hid (zeros6.length = 6) := rfl
  obtain ⟨Z, eZ⟩ : ∃ Z, Z = zeros6 := ⟨_, rfl⟩
  rw [← eZ] at ZI ZL
  obtain ⟨N, eN⟩ : ∃ N, N = c.nums := ⟨_, rfl⟩
  have EB : Hid (c.bytes = ⟨(N.map num4).flatten.toArray⟩) := by rw [eN]; exact rfl
  rw [← eN] at HNB HT
  obtain ⟨K, eK⟩ : ∃ K, K = c.cells := ⟨_, rfl⟩
  rw [← eK] at hb0 hw0 HL HO c0 c1 c2 c3 c4 c5 ⊢
  generalize c.V = V at *
  generalize c.D = D at *
  generalize c.H = H at *
  generalize c.B = B at *
  generalize c.F = F at *
  generalize c.C = C at *
  clear eZ eN eK h
  have ONE : Hid ((#[.int .i64 V, .int .i64 D, .int .i64 H, .int .i64 B, .int .i64 F, .int .i64 C] : Array Value).all (·.oneCell') = true) := by show _ = _; simp [Value.oneCell']
  go_enter Try.func26, Try.ntmps26
  go_wp2_with (refine wpL_alloc rfl 4 rfl _ rfl (.agg Z.toArray) Z ZI.out rfl ?_)
  intro w1 ho1 hs1 hb1
  have hb1' : Blk w1 (w.heap.size + 1) Z 90 := by simpa using hb1
  refine wpL_store rfl 90 (.tmp 4) (.tmp 20) rfl (w.heap.size + 1) #[.int .i64 V, .int .i64 D, .int .i64 H, .int .i64 B, .int .i64 F, .int .i64 C] rfl rfl _ Z hb1' arr6Info rfl ZL.out ONE.out ?_
  intro w2 ho2 hs2 hb2
  have a1 : Only [] w w1 := hw0.trans ho1
  have a2 : Only [] w w2 := a1.step ho2 (fun i hi => .inr (by simp at hi; omega))
  have hlt := hb2.lt
  clear c0 c1 c2 c3 c4 c5 hb0 hw0 ho1 hs1 hb1 a1 ho2 hs2 HL HO ZI ZL
  go_wp2_with fail
  go_loopw [3, 5] (fun t i wr => ∃ (k : Nat), k ≤ 6 ∧ i = .int .i64 (k : Int) ∧ t = .string ⟨(((N.take k).map num4).flatten).toArray⟩ ∧ Only [] w2 wr) (fun _ i _ => (6 - intOf i).toNat)
  case atStart => exact ⟨0, by omega, rfl, rfl, Only.refl _ _⟩
  case round =>
    obtain ⟨k, hk, rfl, rfl, hor⟩ := hrel
    by_cases hlt : k < 6
    · have g1 : (k : Int) < 6 := by omega
      obtain ⟨n, hn, h1, h2⟩ := HNB.out k hlt
      have hbr := hb2.only hor (by simp)
      have cn := hbr.cell h1
      have RN : Hid (∀ w, Calls Try.prog 45 #[.int .i64 (n : Int)] w fun e w' => e = .returned (.tuple #[.string ⟨(le4 n).toArray⟩, .bool true]) ∧ Only [] w w') := fun w => refNum_any n w hn
      obtain ⟨T, eT⟩ : ∃ T : ByteArray, T = ⟨(((N.take k).map num4).flatten).toArray⟩ := ⟨_, rfl⟩
      have hTs : T.size ≤ 24 := by
        rw [eT, ← bl_length, bl_mk]
        have : ((N.take k).map num4).flatten.length = (N.take k).length * 4 := by
          generalize N.take k = M
          induction M with
          | nil => rfl
          | cons x M ih => simp [num4_length, ih]; omega
        rw [this, List.length_take]
        omega
      have HN : Hid (T ++ ⟨(le4 n).toArray⟩ = ⟨(((N.take (k + 1)).map num4).flatten).toArray⟩) := by
        refine bl_ext ?_
        rw [bl_cat2, eT, bl_mk, bl_mk, bl_mk, h2]
        have : num4 (n : Int) = le4 n := by
          have ht : told (n : Int) = true := by simp [told]; omega
          simp [num4, ht]
        simp [this]
      have hls : (⟨(le4 n).toArray⟩ : ByteArray).size = 4 := rfl
      rw [← eT]
      obtain ⟨U, eU⟩ : ∃ U : ByteArray, U = ⟨(le4 n).toArray⟩ := ⟨_, rfl⟩
      rw [← eU] at RN HN hls
      clear eT eU h1 h2 HNB
      go_wp2_with (go_at_call 45; refine (RN.out _).mono ?_; rintro e w3 ⟨rfl, ho3⟩)
      go_roundw
      case rel => exact ⟨k + 1, by omega, by go_num, by rw [HN.out], hor.trans ho3⟩
      case measure => simp [intOf]; omega
    · obtain rfl : k = 6 := by omega
      have EE : Hid (c.bytes = ⟨(((N.take 6).map num4).flatten).toArray⟩) := by rw [HT.out]; exact EB.out
      obtain ⟨T, eT⟩ : ∃ T : ByteArray, T = ⟨(((N.take 6).map num4).flatten).toArray⟩ := ⟨_, rfl⟩
      rw [← eT] at EE ⊢
      clear eT
      go_wp2_with fail
      go_ret
      exact ⟨by rw [EE.out]; exact rfl, a2.trans hor⟩

end Go.Proofs.Ytbfjhpbppaddfaa
