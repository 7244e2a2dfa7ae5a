/- Disks, plain: what layers 4 and 5 compute, with no program in sight. -/
import Derived.Test.YtmogkiacakkmbaaSt
namespace Go.Proofs.Ytmogkiacakkmbaa
open Go.RowKit

/-- A disk: whether its power is away, its fuse, what a fuse keeps, what is safe, what is not (the oldest write first), how many were OK. -/
structure DM where
  away : Bool
  fuse : Int
  keep : List Bool
  safe : List ByteArray
  loose : List (Nat × ByteArray)
  done : Int

/-- Writes, carried out. -/
def laid (l : List ByteArray) (ws : List (Nat × ByteArray)) : List ByteArray := ws.foldl (fun l w => l.set w.1 w.2) l
/-- Of the writes those that are kept. -/
def keptL : List Bool → List (Nat × ByteArray) → List (Nat × ByteArray)
  | _, [] => []
  | [], _ :: _ => []
  | k :: ks, w :: ws => if k then w :: keptL ks ws else keptL ks ws

def DM.now (m : DM) : List ByteArray := laid m.safe m.loose
def DM.len (m : DM) : Nat := m.safe.length
def DM.check (m : DM) (a : Int) : Int := if a < 0 ∨ (m.len : Int) ≤ a then 3 else if m.away then 4 else 0
def DM.read (m : DM) (a : Int) : ByteArray := if m.check a = 0 then m.now.getD a.toNat ⟨#[]⟩ else ⟨#[]⟩
def DM.cut (m : DM) (keep : List Bool) : DM := if m.away then m else { m with safe := laid m.safe (keptL keep m.loose), loose := [], away := true }
/-- One more of what a fuse counts, when it is there. -/
def DM.used (m : DM) : DM := { m with fuse := max (m.fuse - 1) (-1), done := wrap64 (m.done + 1) }
def DM.use (m : DM) : DM := if m.fuse = 0 then m.cut m.keep else m.used
def DM.useE (m : DM) : Int := if m.fuse = 0 then 4 else 0
def DM.writeE (m : DM) (a : Int) (s : ByteArray) : Int := if s.size ≠ 32 then 1 else if m.check a ≠ 0 then m.check a else m.useE
def DM.write (m : DM) (a : Int) (s : ByteArray) : DM :=
  if s.size ≠ 32 then m else if m.check a ≠ 0 then m else if m.fuse = 0 then m.cut m.keep else { m.used with loose := m.loose ++ [(a.toNat, s)] }
def DM.syncE (m : DM) : Int := if m.away then 4 else m.useE
def DM.sync (m : DM) : DM := if m.away then m else if m.fuse = 0 then m.cut m.keep else { m.used with safe := m.now, loose := [] }
def DM.come (m : DM) : DM := if m.away then { m with away := false, fuse := -1 } else m
def DM.fuseAt (m : DM) (n : Int) (keep : List Bool) : DM := if m.away then m else { m with fuse := max n (-1), keep := keep }
/-- A disk that can be: each sector of 32 bytes; each write within. -/
structure DM.Ok (m : DM) : Prop where
  few : m.safe.length ≤ 4096
  full : ∀ s ∈ m.safe, s.size = 32
  wide : ∀ x ∈ m.loose, x.2.size = 32
  within : ∀ x ∈ m.loose, x.1 < m.safe.length
  least : -1 ≤ m.fuse
  most : m.fuse ≤ 9223372036854775807
  kept : m.keep.length ≤ 1000000

theorem laid_length (l : List ByteArray) (ws : List (Nat × ByteArray)) : (laid l ws).length = l.length := by
  unfold laid
  induction ws generalizing l with
  | nil => rfl
  | cons w ws ih => rw [List.foldl_cons, ih, List.length_set]
theorem laid_nil (l : List ByteArray) : laid l [] = l := rfl
theorem laid_cons (l : List ByteArray) (w : Nat × ByteArray) (ws : List (Nat × ByteArray)) : laid l (w :: ws) = laid (l.set w.1 w.2) ws := rfl
theorem laid_snoc (l : List ByteArray) (ws : List (Nat × ByteArray)) (w : Nat × ByteArray) : laid l (ws ++ [w]) = (laid l ws).set w.1 w.2 := by
  unfold laid
  rw [List.foldl_append]
  rfl
theorem laid_append (l : List ByteArray) (ws vs : List (Nat × ByteArray)) : laid l (ws ++ vs) = laid (laid l ws) vs := by
  unfold laid
  rw [List.foldl_append]
theorem laid_all (p : ByteArray → Prop) (l : List ByteArray) (ws : List (Nat × ByteArray)) (hl : ∀ s ∈ l, p s) (hw : ∀ x ∈ ws, p x.2) : ∀ s ∈ laid l ws, p s := by
  induction ws generalizing l with
  | nil => exact hl
  | cons w ws ih =>
    refine ih _ (fun s hs => ?_) (fun x hx => hw x (by simp [hx]))
    rcases List.mem_or_eq_of_mem_set hs with h | rfl
    · exact hl s h
    · exact hw w (by simp)
theorem keptL_sub : ∀ (k : List Bool) (ws : List (Nat × ByteArray)), ∀ x ∈ keptL k ws, x ∈ ws
  | k, [], x, h => by cases k <;> simp [keptL] at h
  | [], _ :: _, x, h => by simp [keptL] at h
  | k :: ks, w :: ws, x, h => by
    unfold keptL at h
    split at h
    · rcases List.mem_cons.1 h with rfl | h
      · exact List.mem_cons_self
      · exact List.mem_cons_of_mem _ (keptL_sub ks ws x h)
    · exact List.mem_cons_of_mem _ (keptL_sub ks ws x h)
theorem DM.now_length (m : DM) : m.now.length = m.len := laid_length _ _
theorem DM.now_wide {m : DM} (h : m.Ok) : ∀ s ∈ m.now, s.size = 32 := laid_all (fun s => s.size = 32) _ _ h.full h.wide

theorem DM.Ok.cut {m : DM} (h : m.Ok) (keep : List Bool) : (m.cut keep).Ok := by
  unfold DM.cut
  split
  · exact h
  · exact ⟨by rw [laid_length]; exact h.few, laid_all (fun s => s.size = 32) _ _ h.full (fun x hx => h.wide x (keptL_sub _ _ x hx)), fun x hx => (by cases hx), fun x hx => (by cases hx), h.least, h.most, h.kept⟩
theorem DM.Ok.write {m : DM} (h : m.Ok) (a : Int) (s : ByteArray) : (m.write a s).Ok := by
  unfold DM.write
  split
  · exact h
  · rename_i hs
    split
    · exact h
    · rename_i hc
      split
      · exact h.cut _
      · have hc' : ¬ (a < 0 ∨ (m.len : Int) ≤ a) := fun h' => hc (by unfold DM.check; rw [if_pos h']; decide)
        have hl := h.least
        have hm := h.most
        unfold DM.len at hc'
        refine ⟨h.few, h.full, fun x hx => ?_, fun x hx => ?_, by unfold DM.used; simp only; omega, by unfold DM.used; simp only; omega, h.kept⟩
        · rcases List.mem_append.1 hx with hx | hx
          · exact h.wide x hx
          · simp only [List.mem_singleton] at hx
            subst hx
            simpa using hs
        · rcases List.mem_append.1 hx with hx | hx
          · exact h.within x hx
          · simp only [List.mem_singleton] at hx
            subst hx
            show a.toNat < m.safe.length
            omega
theorem DM.Ok.sync {m : DM} (h : m.Ok) : m.sync.Ok := by
  unfold DM.sync
  split
  · exact h
  · split
    · exact h.cut _
    · have hl := h.least
      have hm := h.most
      exact ⟨by show m.now.length ≤ 4096; rw [DM.now_length]; exact h.few, DM.now_wide h, fun x hx => (by cases hx), fun x hx => (by cases hx), by unfold DM.used; simp only; omega, by unfold DM.used; simp only; omega, h.kept⟩
theorem DM.Ok.come {m : DM} (h : m.Ok) : m.come.Ok := by
  unfold DM.come
  split
  · exact ⟨h.few, h.full, h.wide, h.within, by simp, by simp, h.kept⟩
  · exact h
theorem DM.Ok.fuseAt {m : DM} (h : m.Ok) (n : Int) (keep : List Bool) (hn : n ≤ 9223372036854775807) (hk : keep.length ≤ 1000000) : (m.fuseAt n keep).Ok := by
  unfold DM.fuseAt
  split
  · exact h
  · exact ⟨h.few, h.full, h.wide, h.within, by simp only; omega, by simp only; omega, hk⟩
end Go.Proofs.Ytmogkiacakkmbaa
