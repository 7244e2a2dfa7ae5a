/- Disks in memory: what it is for a disk to lie in a world. -/
import Derived.Test.YtmogkiacakkmbaaDskP
import Derived.Test.YtmogkiacakkmbaaSd
namespace Go.Proofs.Ytmogkiacakkmbaa
open Go.RowKit

def wcells (ws : List (Nat × ByteArray)) : List Value := (ws.map fun x => [Value.int .i64 (x.1 : Int), Value.string x.2]).flatten
def scells (l : List ByteArray) : List Value := l.map Value.string
def bcells (l : List Bool) : List Value := l.map Value.bool
theorem wcells_length (ws : List (Nat × ByteArray)) : (wcells ws).length = ws.length * 2 := by
  unfold wcells
  induction ws with
  | nil => rfl
  | cons w ws ih => rw [List.map_cons, List.flatten_cons, List.length_append, ih]; simp; omega
theorem wcells_snoc (ws : List (Nat × ByteArray)) (x : Nat × ByteArray) : wcells (ws ++ [x]) = wcells ws ++ [Value.int .i64 (x.1 : Int), Value.string x.2] := by
  unfold wcells
  simp
theorem wcells_at (ws : List (Nat × ByteArray)) (j : Nat) (h : j < ws.length) : (wcells ws)[j * 2]? = some (.int .i64 ((ws.getD j (0, ⟨#[]⟩)).1 : Int)) ∧ (wcells ws)[j * 2 + 1]? = some (.string (ws.getD j (0, ⟨#[]⟩)).2) := by
  induction ws generalizing j with
  | nil => simp at h
  | cons w ws ih =>
    have e : wcells (w :: ws) = Value.int .i64 (w.1 : Int) :: Value.string w.2 :: wcells ws := by unfold wcells; simp
    cases j with
    | zero => simp [e]
    | succ j =>
      have := ih j (by simpa using h)
      rw [e, show (j + 1) * 2 = j * 2 + 2 by omega, show j * 2 + 2 + 1 = j * 2 + 1 + 2 by omega]
      simpa using this
theorem scells_length (l : List ByteArray) : (scells l).length = l.length := by simp [scells]
theorem scells_at (l : List ByteArray) (j : Nat) (h : j < l.length) : (scells l)[j]? = some (.string (l.getD j ⟨#[]⟩)) := by
  simp [scells, List.getElem?_map, List.getElem?_eq_getElem h, List.getD_eq_getElem?_getD]
theorem scells_set (l : List ByteArray) (j : Nat) (s : ByteArray) : (scells l).set j (.string s) = scells (l.set j s) := by simp [scells, List.map_set]
theorem bcells_length (l : List Bool) : (bcells l).length = l.length := by simp [bcells]

/-- A slice of bools, as it can be read; kb: the block where they lie. -/
def Bools (w : World) (v : Value) (l : List Bool) (kb : List Nat) : Prop :=
  (l = [] ∧ kb = [] ∧ ∃ a c, v = .slice a 0 c) ∨ ∃ g o c, v = .slice (some ⟨g, o, none⟩) l.length c ∧ kb = [g] ∧ g < w.heap.size ∧ l.length ≤ c ∧ ∀ j, j < l.length → w.cell? ⟨g, o + j, none⟩ = some (.bool (l.getD j false))
theorem Bools.only {S : List Nat} {w w' : World} {v : Value} {l : List Bool} {kb : List Nat} (h : Bools w v l kb) (ho : Only S w w') (hn : ∀ b ∈ kb, b ∉ S) : Bools w' v l kb := by
  rcases h with h | ⟨g, o, c, rfl, rfl, h1, h2, h3⟩
  · exact .inl h
  · exact .inr ⟨g, o, c, rfl, rfl, Nat.lt_of_lt_of_le h1 ho.size, h2, fun j hj => by rw [ho.cellAt _ _ h1 (hn _ (by simp))]; exact h3 j hj⟩
theorem Bools.lt {w : World} {v : Value} {l : List Bool} {kb : List Nat} (h : Bools w v l kb) : ∀ b ∈ kb, b < w.heap.size := by
  rcases h with ⟨_, rfl, _⟩ | ⟨g, o, c, _, rfl, h1, _⟩
  · intro b hb; cases hb
  · intro b hb; simp only [List.mem_singleton] at hb; subst hb; exact h1

theorem addr_addD (b i j : Nat) : (⟨b, i, none⟩ : Addr).add j = ⟨b, i + j, none⟩ := by unfold Addr.add; split <;> simp_all
/-- The cells of a disk. -/
def dcells (m : DM) (kv sv lv : Value) : List Value := [.bool m.away, .int .i64 m.fuse, kv, sv, lv, .int .i64 m.done]

/-- A disk lies at d, in the blocks F. -/
def DiskIs (w : World) (d : Nat) (m : DM) (kv sv lv : Value) (kb : List Nat) : Prop :=
  Blk w d (dcells m kv sv lv) 135 ∧ w.ownsRow 0 9 1 sv m.safe.length (scells m.safe) ∧ w.ownsRow 0 137 2 lv m.loose.length (wcells m.loose) ∧ Bools w kv m.keep kb
def DiskAt (w : World) (d : Nat) (m : DM) (F : List Nat) : Prop :=
  m.Ok ∧ ∃ kv sv lv kb, DiskIs w d m kv sv lv kb ∧ F = d :: (sv.ownBlock.toList ++ lv.ownBlock.toList ++ kb) ∧ F.Nodup

theorem owns_lt0 {w : World} {base : Nat} {e : TypeId} {size n : Nat} {v : Value} {xs : List Value} (h : w.ownsRow base e size v n xs) : ∀ b ∈ v.ownBlock.toList, b < w.heap.size := by
  intro b hb
  exact (World.ownsRow.lt h b (by simpa using hb)).2
theorem DiskAt.keep {S : List Nat} {w w' : World} {d : Nat} {m : DM} {F : List Nat} (h : DiskAt w d m F) (ho : Only S w w') (hn : ∀ b ∈ F, b ∉ S) : DiskAt w' d m F := by
  obtain ⟨hok, kv, sv, lv, kb, ⟨h1, h2, h3, h4⟩, rfl, hnd⟩ := h
  refine ⟨hok, kv, sv, lv, kb, ⟨h1.only ho (hn d (by simp)), ownsRow_only h2 ho (fun k hk => hn k ?_), ownsRow_only h3 ho (fun k hk => hn k ?_), h4.only ho (fun b hb => hn b ?_)⟩, rfl, hnd⟩
  · simp [hk]
  · simp [hk]
  · simp [hb]
theorem DiskAt.lt {w : World} {d : Nat} {m : DM} {F : List Nat} (h : DiskAt w d m F) : ∀ b ∈ F, b < w.heap.size := by
  obtain ⟨_, kv, sv, lv, kb, ⟨h1, h2, h3, h4⟩, rfl, _⟩ := h
  intro b hb
  simp only [List.mem_cons, List.mem_append] at hb
  rcases hb with rfl | (hb | hb) | hb
  · exact h1.lt
  · exact owns_lt0 h2 b hb
  · exact owns_lt0 h3 b hb
  · exact h4.lt b hb
/-- A disk as a thing. -/
def diskR (d : Nat) (m : DM) (F : List Nat) : Rsc := ⟨true, F, fun w => DiskAt w d m F, fun h ho hn => h.keep ho hn, fun h => h.lt⟩
/-- A disk that is read alone. -/
def diskQ (d : Nat) (m : DM) (F : List Nat) : Rsc := ⟨false, F, fun w => DiskAt w d m F, fun h ho hn => h.keep ho hn, fun h => h.lt⟩
end Go.Proofs.Ytmogkiacakkmbaa
