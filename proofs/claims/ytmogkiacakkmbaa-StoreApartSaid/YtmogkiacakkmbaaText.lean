/- A statement whose order Go leaves open, walked in the order of its text: where two operations that no edge orders commute. -/
import Derived.Test.YtmogkiacakkmbaaBase
namespace Go.Proofs.Ytmogkiacakkmbaa

section steady
variable {P : Program}
/-- What it answers hangs on no world, and it leaves the world alone. -/
def Steady (P : Program) {α : Type} (s : Sem α) : Prop := ∀ w a w1, s.run P w = .ok a w1 → w1 = w ∧ ∀ w', s.run P w' = .ok a w'
/-- It leaves the world alone. -/
def Quiet (P : Program) {α : Type} (s : Sem α) : Prop := ∀ w a w1, s.run P w = .ok a w1 → w1 = w

theorem Steady.quiet {α : Type} {s : Sem α} (h : Steady P s) : Quiet P s := fun w a w1 hr => (h w a w1 hr).1
theorem steady_pure {α : Type} (a : α) : Steady P (pure a : Sem α) := by
  intro w b w1 h
  simp at h
  obtain ⟨rfl, rfl⟩ := h
  exact ⟨rfl, fun _ => by simp⟩
theorem steady_never {α : Type} {s : Sem α} (h : ∀ w a w1, s.run P w ≠ .ok a w1) : Steady P s := fun w a w1 hr => absurd hr (h w a w1)
theorem steady_halt {α : Type} (x : Halt) : Steady P (Sem.halt x : Sem α) := steady_never (by intro w a w1 h; simp [Sem.run] at h)
theorem steady_stuck {α : Type} (s : String) : Steady P (stuck s : Sem α) := steady_halt _
theorem steady_unsupported {α : Type} (u : Unsupported) : Steady P (unsupported u : Sem α) := steady_halt _
theorem steady_goPanic {α : Type} (v : Value) : Steady P (goPanic v : Sem α) := steady_halt _
theorem steady_bind {α β : Type} {s : Sem α} {f : α → Sem β} (h : Steady P s) (k : ∀ a, Steady P (f a)) : Steady P (s >>= f) := by
  intro w b w2 hr
  rw [Sem.run_bind] at hr
  cases hs : s.run P w with
  | halt x w1 => rw [hs] at hr; simp [Result.andThen] at hr
  | ok a w1 =>
    rw [hs, Result.andThen_ok] at hr
    obtain ⟨rfl, h2⟩ := h w a w1 hs
    obtain ⟨rfl, h3⟩ := k a _ b w2 hr
    refine ⟨rfl, fun w' => ?_⟩
    rw [Sem.run_bind, h2 w', Result.andThen_ok]
    exact h3 w'
theorem steady_never_bind {α β : Type} {s : Sem α} {f : α → Sem β} (h : ∀ a, ∀ w b w1, (f a).run P w ≠ .ok b w1) : Steady P (s >>= f) := by
  refine steady_never fun w b w2 hr => ?_
  rw [Sem.run_bind] at hr
  cases hs : s.run P w with
  | halt x w1 => rw [hs] at hr; simp [Result.andThen] at hr
  | ok a w1 =>
    rw [hs, Result.andThen_ok] at hr
    exact h a _ _ _ hr
theorem steady_program {α : Type} {k : Program → Sem α} (h : Steady P (k P)) : Steady P (program >>= k) := by
  intro w a w1 hr
  have e : ∀ w, (program >>= k).run P w = (k P).run P w := fun w => rfl
  rw [e] at hr
  exact ⟨(h w a w1 hr).1, fun w' => by rw [e]; exact (h w a w1 hr).2 w'⟩
theorem steady_map {α β : Type} {s : Sem α} (f : α → β) (h : Steady P s) : Steady P (f <$> s) := steady_bind h fun _ => steady_pure _

theorem never_halt {α : Type} (x : Halt) : ∀ w (a : α) w1, (Sem.halt x : Sem α).run P w ≠ .ok a w1 := by intro w a w1 h; simp [Sem.run] at h
theorem never_bind {α β : Type} {s : Sem α} {f : α → Sem β} (h : ∀ a, ∀ w b w1, (f a).run P w ≠ .ok b w1) : ∀ w b w1, (s >>= f).run P w ≠ .ok b w1 := by
  intro w b w2 hr
  rw [Sem.run_bind] at hr
  cases hs : s.run P w with
  | halt x w1 => rw [hs] at hr; simp [Result.andThen] at hr
  | ok a w1 =>
    rw [hs, Result.andThen_ok] at hr
    exact h a _ _ _ hr
theorem never_bind_left {α β : Type} {s : Sem α} {f : α → Sem β} (h : ∀ w a w1, s.run P w ≠ .ok a w1) : ∀ w b w1, (s >>= f).run P w ≠ .ok b w1 := by
  intro w b w2 hr
  rw [Sem.run_bind] at hr
  cases hs : s.run P w with
  | halt x w1 => rw [hs] at hr; simp [Result.andThen] at hr
  | ok a w1 => exact h w a w1 hs
theorem runtimePanic_never {α : Type} (e : RuntimeError) : ∀ w (a : α) w1, (runtimePanic e : Sem α).run P w ≠ .ok a w1 := by
  unfold runtimePanic
  refine never_bind fun p => ?_
  cases e
  case typeAssertion => exact never_bind fun _ => never_bind fun _ => never_halt _
  case panicNil => exact never_bind fun _ => never_bind fun _ => never_halt _
  all_goals exact never_halt _
theorem steady_runtimePanic {α : Type} (e : RuntimeError) : Steady P (runtimePanic e : Sem α) := steady_never (runtimePanic_never e)
theorem steady_boundsPanic {α : Type} (k : IntKind) (x y : Int) (c : BoundsCode) : Steady P (boundsPanic k x y c : Sem α) := by
  unfold boundsPanic
  dsimp only
  split <;> exact steady_never_bind fun _ => runtimePanic_never _
theorem steady_typeInfo (t : TypeId) : Steady P (typeInfo t) := by
  unfold typeInfo
  refine steady_program ?_
  split
  · exact steady_pure _
  · exact steady_stuck _
theorem steady_underlying (t : TypeId) : Steady P (underlying t) := by
  unfold underlying
  refine steady_program ?_
  split
  · exact steady_pure _
  · exact steady_stuck _
theorem steady_sizeOf (t : TypeId) : Steady P (sizeOf t) := steady_bind (steady_typeInfo t) fun _ => steady_pure _
theorem steady_asIntOf (v : Value) : Steady P (asIntOf v) := by
  unfold asIntOf
  repeat' (first | exact steady_pure _ | exact steady_stuck _ | exact steady_unsupported _ | exact steady_runtimePanic _ | exact steady_boundsPanic _ _ _ _ | exact steady_underlying _ | exact steady_typeInfo _ | exact steady_sizeOf _ | refine steady_bind ?_ fun _ => ?_ | split | dsimp only)
theorem steady_asBool (v : Value) : Steady P (asBool v) := by
  unfold asBool
  split
  · exact steady_pure _
  · exact steady_stuck _
theorem steady_asAddr (v : Value) : Steady P (asAddr v) := by
  unfold asAddr
  split
  · exact steady_pure _
  · exact steady_runtimePanic _
  · exact steady_stuck _
theorem steady_sureAddr (v : Value) : Steady P (Instr.sureAddr v) := by
  unfold Instr.sureAddr
  split
  · exact steady_pure _
  · exact steady_stuck _
theorem steady_isAgg (t : TypeId) : Steady P (isAgg t) := by
  unfold isAgg
  refine steady_bind (steady_underlying t) fun d => ?_
  split <;> exact steady_pure _
theorem steady_part (t : TypeId) (cs : Array Value) (off : Nat) : Steady P (part t cs off) := by
  unfold part
  refine steady_bind (steady_isAgg t) fun b => ?_
  split
  · exact steady_bind (steady_sizeOf t) fun _ => steady_pure _
  · split
    · exact steady_pure _
    · exact steady_stuck _
theorem steady_sliceBound (x : Value) (y : Nat) (c : BoundsCode) : Steady P (Instr.sliceBound x y c) := by
  unfold Instr.sliceBound
  refine steady_bind (steady_asIntOf x) fun p => ?_
  split
  split
  · exact steady_pure _
  · exact steady_boundsPanic _ _ _ _
theorem steady_sliceBounds (b : Bool) (len cap : Nat) (l h m : Option Value) : Steady P (Instr.sliceBounds b len cap l h m) := by
  unfold Instr.sliceBounds
  repeat' (first | exact steady_pure _ | exact steady_stuck _ | exact steady_unsupported _ | exact steady_runtimePanic _ | exact steady_boundsPanic _ _ _ _ | exact steady_underlying _ | exact steady_typeInfo _ | exact steady_sizeOf _ | exact steady_asIntOf _ | exact steady_asBool _ | exact steady_asAddr _ | exact steady_sureAddr _ | exact steady_isAgg _ | exact steady_part _ _ _ | exact steady_sliceBound _ _ _ | refine steady_bind ?_ fun _ => ?_ | split | dsimp only)
theorem steady_slice (t : TypeId) (x : Value) (l h m : Option Value) : Steady P (Instr.slice t x l h m) := by
  unfold Instr.slice
  repeat' (first | exact steady_pure _ | exact steady_stuck _ | exact steady_unsupported _ | exact steady_runtimePanic _ | exact steady_boundsPanic _ _ _ _ | exact steady_underlying _ | exact steady_typeInfo _ | exact steady_sizeOf _ | exact steady_asIntOf _ | exact steady_asBool _ | exact steady_asAddr _ | exact steady_sureAddr _ | exact steady_isAgg _ | exact steady_part _ _ _ | exact steady_sliceBound _ _ _ | exact steady_sliceBounds _ _ _ _ _ _ | refine steady_bind ?_ fun _ => ?_ | split | dsimp only)
theorem steady_sliceAt (t : TypeId) (x : Value) (l h m : Option Value) : Steady P (Instr.sliceAt t x l h m) := by
  unfold Instr.sliceAt
  repeat' (first | exact steady_pure _ | exact steady_stuck _ | exact steady_unsupported _ | exact steady_runtimePanic _ | exact steady_boundsPanic _ _ _ _ | exact steady_underlying _ | exact steady_typeInfo _ | exact steady_sizeOf _ | exact steady_asIntOf _ | exact steady_asBool _ | exact steady_asAddr _ | exact steady_sureAddr _ | exact steady_isAgg _ | exact steady_part _ _ _ | exact steady_sliceBound _ _ _ | exact steady_sliceBounds _ _ _ _ _ _ | exact steady_slice _ _ _ _ _ | refine steady_bind ?_ fun _ => ?_ | split | dsimp only)
theorem steady_indexAt (t : TypeId) (x i : Value) : Steady P (Instr.indexAt t x i) := by
  unfold Instr.indexAt
  repeat' (first | exact steady_pure _ | exact steady_stuck _ | exact steady_unsupported _ | exact steady_runtimePanic _ | exact steady_boundsPanic _ _ _ _ | exact steady_underlying _ | exact steady_typeInfo _ | exact steady_sizeOf _ | exact steady_asIntOf _ | exact steady_asBool _ | exact steady_asAddr _ | exact steady_sureAddr _ | exact steady_isAgg _ | exact steady_part _ _ _ | exact steady_sliceBound _ _ _ | exact steady_sliceBounds _ _ _ _ _ _ | exact steady_slice _ _ _ _ _ | refine steady_bind ?_ fun _ => ?_ | split | dsimp only)
theorem steady_index (t : TypeId) (x i : Value) : Steady P (Instr.index t x i) := by
  unfold Instr.index
  repeat' (first | exact steady_pure _ | exact steady_stuck _ | exact steady_unsupported _ | exact steady_runtimePanic _ | exact steady_boundsPanic _ _ _ _ | exact steady_underlying _ | exact steady_typeInfo _ | exact steady_sizeOf _ | exact steady_asIntOf _ | exact steady_asBool _ | exact steady_asAddr _ | exact steady_sureAddr _ | exact steady_isAgg _ | exact steady_part _ _ _ | exact steady_sliceBound _ _ _ | exact steady_sliceBounds _ _ _ _ _ _ | exact steady_slice _ _ _ _ _ | refine steady_bind ?_ fun _ => ?_ | split | dsimp only)
theorem steady_asAgg (v : Value) : Steady P (asAgg v) := by
  unfold asAgg
  split
  · exact steady_pure _
  · exact steady_stuck _
theorem steady_extract (v : Value) (i : Nat) : Steady P (Instr.extract v i) := by
  unfold Instr.extract
  repeat' (first | exact steady_pure _ | exact steady_stuck _ | exact steady_unsupported _ | exact steady_runtimePanic _ | exact steady_boundsPanic _ _ _ _ | exact steady_underlying _ | exact steady_typeInfo _ | exact steady_sizeOf _ | exact steady_asIntOf _ | exact steady_asBool _ | exact steady_asAddr _ | exact steady_sureAddr _ | exact steady_isAgg _ | exact steady_part _ _ _ | exact steady_asAgg _ | refine steady_bind ?_ fun _ => ?_ | split | dsimp only)
theorem steady_field (t : TypeId) (x : Value) (i : Nat) : Steady P (Instr.field t x i) := by
  unfold Instr.field
  repeat' (first | exact steady_pure _ | exact steady_stuck _ | exact steady_unsupported _ | exact steady_runtimePanic _ | exact steady_boundsPanic _ _ _ _ | exact steady_underlying _ | exact steady_typeInfo _ | exact steady_sizeOf _ | exact steady_asIntOf _ | exact steady_asBool _ | exact steady_asAddr _ | exact steady_sureAddr _ | exact steady_isAgg _ | exact steady_part _ _ _ | exact steady_asAgg _ | refine steady_bind ?_ fun _ => ?_ | split | dsimp only)
theorem steady_followBlind : ∀ (l : List FieldStep) (t : TypeId) (x : Option Value), Steady P (followBlind l t x)
  | [], t, x => steady_pure _
  | s :: rest, _, x => by
    unfold followBlind
    repeat' (first | exact steady_followBlind rest _ _ | exact steady_pure _ | exact steady_stuck _ | exact steady_underlying _ | exact steady_part _ _ _ | refine steady_bind ?_ fun _ => ?_ | split | dsimp only)
theorem steady_nilAhead : ∀ (n : Nat) (t : TypeId) (v : Value) (m : String), Steady P (nilAhead n t v m)
  | 0, _, _, _ => steady_pure _
  | n + 1, t, v, m => by
    unfold nilAhead
    repeat' (first | exact steady_nilAhead n _ _ _ | exact steady_followBlind _ _ _ | exact steady_pure _ | exact steady_stuck _ | exact steady_underlying _ | exact steady_typeInfo _ | refine steady_bind ?_ fun _ => ?_ | split | dsimp only)
/-- Numbers, bools and strings. -/
def scalarV : Value → Bool
  | .int _ _ => true
  | .bool _ => true
  | .string _ => true
  | _ => false
theorem steady_shift (op : BinOp) (k yk : IntKind) (x y : Int) : Steady P (Op.shift op k x yk y) := by
  unfold Op.shift
  repeat' (first | exact steady_pure _ | exact steady_stuck _ | exact steady_unsupported _ | exact steady_runtimePanic _ | exact steady_boundsPanic _ _ _ _ | exact steady_underlying _ | exact steady_typeInfo _ | exact steady_sizeOf _ | exact steady_asIntOf _ | exact steady_asBool _ | exact steady_asAddr _ | exact steady_sureAddr _ | exact steady_isAgg _ | exact steady_part _ _ _ | exact steady_asAgg _ | refine steady_bind ?_ fun _ => ?_ | split | dsimp only)
theorem steady_intArith (op : BinOp) (k : IntKind) (x y : Int) : Steady P (Op.intArith op k x y) := by
  unfold Op.intArith
  repeat' (first | exact steady_pure _ | exact steady_stuck _ | exact steady_unsupported _ | exact steady_runtimePanic _ | exact steady_boundsPanic _ _ _ _ | exact steady_underlying _ | exact steady_typeInfo _ | exact steady_sizeOf _ | exact steady_asIntOf _ | exact steady_asBool _ | exact steady_asAddr _ | exact steady_sureAddr _ | exact steady_isAgg _ | exact steady_part _ _ _ | exact steady_asAgg _ | refine steady_bind ?_ fun _ => ?_ | split | dsimp only)
theorem steady_intDiv (op : BinOp) (k : IntKind) (x y : Int) : Steady P (Op.intDiv op k x y) := by
  unfold Op.intDiv
  repeat' (first | exact steady_pure _ | exact steady_stuck _ | exact steady_unsupported _ | exact steady_runtimePanic _ | exact steady_boundsPanic _ _ _ _ | exact steady_underlying _ | exact steady_typeInfo _ | exact steady_sizeOf _ | exact steady_asIntOf _ | exact steady_asBool _ | exact steady_asAddr _ | exact steady_sureAddr _ | exact steady_isAgg _ | exact steady_part _ _ _ | exact steady_asAgg _ | refine steady_bind ?_ fun _ => ?_ | split | dsimp only)
theorem steady_intBits (op : BinOp) (k : IntKind) (x y : Int) : Steady P (Op.intBits op k x y) := by
  unfold Op.intBits
  repeat' (first | exact steady_pure _ | exact steady_stuck _ | exact steady_unsupported _ | exact steady_runtimePanic _ | exact steady_boundsPanic _ _ _ _ | exact steady_underlying _ | exact steady_typeInfo _ | exact steady_sizeOf _ | exact steady_asIntOf _ | exact steady_asBool _ | exact steady_asAddr _ | exact steady_sureAddr _ | exact steady_isAgg _ | exact steady_part _ _ _ | exact steady_asAgg _ | refine steady_bind ?_ fun _ => ?_ | split | dsimp only)
theorem steady_intCmp (op : BinOp) (x y : Int) : Steady P (Op.intCmp op x y) := by
  unfold Op.intCmp
  repeat' (first | exact steady_pure _ | exact steady_stuck _ | exact steady_unsupported _ | exact steady_runtimePanic _ | exact steady_boundsPanic _ _ _ _ | exact steady_underlying _ | exact steady_typeInfo _ | exact steady_sizeOf _ | exact steady_asIntOf _ | exact steady_asBool _ | exact steady_asAddr _ | exact steady_sureAddr _ | exact steady_isAgg _ | exact steady_part _ _ _ | exact steady_asAgg _ | refine steady_bind ?_ fun _ => ?_ | split | dsimp only)
theorem steady_stringOp (op : BinOp) (x y : ByteArray) : Steady P (Op.stringOp op x y) := by
  unfold Op.stringOp
  repeat' (first | exact steady_pure _ | exact steady_stuck _ | exact steady_unsupported _ | exact steady_runtimePanic _ | exact steady_boundsPanic _ _ _ _ | exact steady_underlying _ | exact steady_typeInfo _ | exact steady_sizeOf _ | exact steady_asIntOf _ | exact steady_asBool _ | exact steady_asAddr _ | exact steady_sureAddr _ | exact steady_isAgg _ | exact steady_part _ _ _ | exact steady_asAgg _ | refine steady_bind ?_ fun _ => ?_ | split | dsimp only)
theorem steady_equal (t : TypeId) (x y : Value) (hx : scalarV x = true) (hy : scalarV y = true) : Steady P (Op.equal t x y) := by
  unfold Op.equal Op.maxDepth
  rw [show (10000 : Nat) = 9999 + 1 from rfl, Op.equalIn]
  refine steady_bind (steady_underlying t) fun d => ?_
  cases d <;> cases x <;> simp [scalarV] at hx <;> cases y <;> simp [scalarV] at hy <;> dsimp only
  repeat' (first | exact steady_pure _ | exact steady_stuck _ | exact steady_unsupported _ | exact steady_runtimePanic _ | exact steady_boundsPanic _ _ _ _ | exact steady_underlying _ | exact steady_typeInfo _ | exact steady_sizeOf _ | exact steady_asIntOf _ | exact steady_asBool _ | exact steady_asAddr _ | exact steady_sureAddr _ | exact steady_isAgg _ | exact steady_part _ _ _ | exact steady_asAgg _ | refine steady_bind ?_ fun _ => ?_ | split | dsimp only)
theorem steady_binOp (op : BinOp) (t : TypeId) (x y : Value) (hx : scalarV x = true) (hy : scalarV y = true) : Steady P (binOp op t x y) := by
  cases x <;> simp [scalarV] at hx <;> cases y <;> simp [scalarV] at hy <;> cases op <;> unfold binOp <;> dsimp only
  all_goals
    repeat' (first | exact steady_shift _ _ _ _ _ | exact steady_intArith _ _ _ _ | exact steady_intDiv _ _ _ _ | exact steady_intBits _ _ _ _ | exact steady_intCmp _ _ _ | exact steady_stringOp _ _ _ | exact steady_equal _ _ _ rfl rfl | exact steady_pure _ | exact steady_stuck _ | exact steady_unsupported _ | refine steady_bind ?_ fun _ => ?_ | split | dsimp only)
theorem steady_unary (op : UnOp) (x : Value) (hx : scalarV x = true) : Steady P (Op.unary op x) := by
  cases x <;> simp [scalarV] at hx <;> cases op <;> unfold Op.unary <;> dsimp only
  all_goals
    repeat' (first | exact steady_intArith _ _ _ _ | exact steady_intBits _ _ _ _ | exact steady_pure _ | exact steady_stuck _ | exact steady_unsupported _ | split | dsimp only)
theorem steady_eqGuard (op : BinOp) (t : TypeId) (x y : Operand) (a b : Value) (ha : scalarV a = true) : Steady P (eqGuard op t x y a b) := by
  unfold eqGuard
  cases a <;> simp [scalarV] at ha <;> cases op <;> dsimp only
  all_goals repeat' (first | exact steady_pure _ | refine steady_bind ?_ fun _ => ?_ | split | dsimp only)
theorem steady_convert (src dst : TypeId) (k : IntKind) (hd : P.underlying dst = some (.int k)) (j : IntKind) (n : Int) : Steady P (convert src dst (.int j n)) := by
  have hs := steady_underlying (P := P) src
  intro w a w1 hr
  unfold convert at hr ⊢
  have hrd : ∀ w, (underlying dst).run P w = .ok (.int k) w := fun w => run_underlying hd w
  cases hq : (underlying src).run P w with
  | halt x w' => rw [Sem.run_bind, hq] at hr; simp [Result.andThen] at hr
  | ok d w' =>
    obtain ⟨rfl, hall⟩ := hs w d w' hq
    rw [Sem.run_bind, hq, Result.andThen_ok, Sem.run_bind, hrd, Result.andThen_ok] at hr
    have hfin : ∀ w, (Conv.intToInt k n).run P w = .ok (.int k (k.wrap n)) w := fun w => rfl
    have hr' : (Conv.intToInt k n).run P w' = .ok a w1 := by cases d <;> exact hr
    rw [hfin] at hr'
    injection hr' with e1 e2
    subst e1 e2
    refine ⟨rfl, fun w2 => ?_⟩
    rw [Sem.run_bind, hall w2, Result.andThen_ok, Sem.run_bind, hrd, Result.andThen_ok]
    cases d <;> exact hfin w2
theorem convert_never (src dst : TypeId) (k : IntKind) (hd : P.underlying dst = some (.int k)) (x : Value) (hx : (match x with | .slice .. => true | .string _ => true | _ => false) = true) : ∀ w a w1, (convert src dst x).run P w = .ok a w1 → False := by
  intro w a w1 hr
  have hs := steady_underlying (P := P) src
  have hrd : ∀ w, (underlying dst).run P w = .ok (.int k) w := fun w => run_underlying hd w
  unfold convert at hr
  cases hq : (underlying src).run P w with
  | halt y w' => rw [Sem.run_bind, hq] at hr; simp [Result.andThen] at hr
  | ok d w' =>
    obtain ⟨rfl, hall⟩ := hs w d w' hq
    rw [Sem.run_bind, hq, Result.andThen_ok, Sem.run_bind, hrd, Result.andThen_ok] at hr
    cases x <;> simp at hx <;> cases d <;> simp [Conv.unsafePointer, unsupported, stuck, Sem.run_bind, hall, hrd, Result.andThen_ok] at hr
theorem steady_bind' {α β : Type} {s : Sem α} {f : α → Sem β} (h : Steady P s) (k : ∀ a, (∃ w w1, s.run P w = .ok a w1) → Steady P (f a)) : Steady P (s >>= f) := by
  intro w b w2 hr
  rw [Sem.run_bind] at hr
  cases hs : s.run P w with
  | halt x w1 => rw [hs] at hr; simp [Result.andThen] at hr
  | ok a w1 =>
    rw [hs, Result.andThen_ok] at hr
    obtain ⟨rfl, h2⟩ := h w a w1 hs
    obtain ⟨rfl, h3⟩ := k a ⟨_, _, hs⟩ _ b w2 hr
    refine ⟨rfl, fun w' => ?_⟩
    rw [Sem.run_bind, h2 w', Result.andThen_ok]
    exact h3 w'
theorem underlying_of_run {t : TypeId} {d : TypeDesc} {w w1 : World} (h : (underlying t).run P w = .ok d w1) : P.underlying t = some d := by
  cases hq : P.underlying t with
  | none =>
    have e : (underlying t).run P w = (stuck "no such type" : Sem TypeDesc).run P w := by
      unfold underlying
      rw [Sem.run_bind]
      show (match P.underlying t with | some d => pure d | none => stuck "no such type" : Sem TypeDesc).run P w = _
      rw [hq]
    rw [e] at h
    simp [stuck] at h
  | some d' =>
    rw [run_underlying hq w] at h
    injection h with e1 _
    rw [e1]
theorem steady_fieldAt (s : TypeId) (x : Value) (f : Nat) (h : ∀ fs fd, P.underlying s = some (.struct fs) → fs[f]? = some fd → (P.info? fd.type).map (fun i => decide (i.size = 0)) = some false) : Steady P (Instr.fieldAt s x f) := by
  unfold Instr.fieldAt
  refine steady_bind' (steady_underlying s) fun d hd => ?_
  obtain ⟨w, w1, hr⟩ := hd
  have hu := underlying_of_run hr
  split
  · split
    · rename_i fs fd hfd
      refine steady_bind (steady_sureAddr _) fun a => steady_bind ?_ fun _ => steady_pure _
      unfold fieldPlace
      have hsz := h _ _ hu hfd
      cases hq : P.info? fd.type with
      | none => rw [hq] at hsz; simp at hsz
      | some inf =>
        have hne : inf.size ≠ 0 := by rw [hq] at hsz; simpa using hsz
        intro w a' w1 hr'
        have e : ∀ w, (sizeOf fd.type >>= fun x => if x = 0 then partAt a fd.offset fd.byteOffset else pure (a.add fd.offset)).run P w = .ok (a.add fd.offset) w := by
          intro w
          simp [sizeOf, typeInfo, hq, hne]
        rw [e] at hr'
        injection hr' with e1 e2
        subst e1 e2
        exact ⟨rfl, fun w' => e w'⟩
    · exact steady_stuck _
  · exact steady_stuck _
theorem quiet_bind {α β : Type} {s : Sem α} {f : α → Sem β} (h : Quiet P s) (k : ∀ a, Quiet P (f a)) : Quiet P (s >>= f) := by
  intro w b w2 hr
  rw [Sem.run_bind] at hr
  cases hs : s.run P w with
  | halt x w1 => rw [hs] at hr; simp [Result.andThen] at hr
  | ok a w1 =>
    rw [hs, Result.andThen_ok] at hr
    have h1 := h w a w1 hs
    subst h1
    exact k a _ b w2 hr
theorem quiet_load1 (a : Addr) : Quiet P (load a) := by
  intro w v w1 hr
  unfold load at hr
  rw [Sem.run] at hr
  split at hr
  · simp [Sem.run] at hr
    exact hr.2.symm
  · split at hr
    · simp [Sem.run] at hr
      exact hr.2.symm
    · simp at hr
theorem quiet_loadCellsFrom (a : Addr) : ∀ (n i : Nat) (acc : Array Value), Quiet P (loadCellsFrom a i n acc)
  | 0, _, _ => (steady_pure _).quiet
  | n + 1, _, _ => quiet_bind (quiet_load1 _) fun _ => quiet_loadCellsFrom a n _ _
theorem quiet_loadAt (t : TypeId) (x : Value) : Quiet P (Instr.loadAt t x) := by
  unfold Instr.loadAt
  refine quiet_bind (steady_sureAddr _).quiet fun a => ?_
  unfold loadVar
  refine quiet_bind (steady_isAgg _).quiet fun b => ?_
  split
  · exact quiet_bind (steady_sizeOf _).quiet fun n => quiet_bind (quiet_loadCellsFrom _ _ _ _) fun _ => (steady_pure _).quiet
  · exact quiet_load1 _
/-- Numbers, bools, texts; or rows of them. -/
def flatV (v : Value) : Bool := scalarV v || (match v with | .agg xs => xs.all scalarV | _ => false)
theorem flat_scalar {v : Value} (h : scalarV v = true) : flatV v = true := by simp [flatV, h]
theorem steady_bind_of {α β : Type} {s : Sem α} {f : α → Sem β} {φ : α → Prop} (h : Steady P s) (hφ : ∀ w a w1, s.run P w = .ok a w1 → φ a) (k : ∀ a, φ a → Steady P (f a)) : Steady P (s >>= f) := by
  intro w b w2 hr
  rw [Sem.run_bind] at hr
  cases hs : s.run P w with
  | halt x w1 => rw [hs] at hr; simp [Result.andThen] at hr
  | ok a w1 =>
    rw [hs, Result.andThen_ok] at hr
    obtain ⟨rfl, h2⟩ := h w a w1 hs
    obtain ⟨e, h3⟩ := k a (hφ _ _ _ hs) w1 b w2 hr
    refine ⟨e, fun w' => ?_⟩
    rw [Sem.run_bind, h2 w', Result.andThen_ok]
    exact h3 w'
theorem flat_part {t : TypeId} {cs : Array Value} {off : Nat} (hc : cs.all scalarV = true) {w w1 : World} {a : Value} (h : (part t cs off).run P w = .ok a w1) : flatV a = true := by
  have hm : ∀ v ∈ cs, scalarV v = true := Array.all_eq_true_iff_forall_mem.1 hc
  unfold part at h
  rw [Sem.run_bind] at h
  cases hs : (isAgg t).run P w with
  | halt x w1 => rw [hs] at h; simp [Result.andThen] at h
  | ok b w2 =>
    rw [hs, Result.andThen_ok] at h
    split at h
    · rw [Sem.run_bind] at h
      cases hz : (sizeOf t).run P w2 with
      | halt x w1 => rw [hz] at h; simp [Result.andThen] at h
      | ok n w3 =>
        rw [hz, Result.andThen_ok] at h
        simp at h
        obtain ⟨rfl, _⟩ := h
        have : (cs.extract off (off + n)).all scalarV = true := by
          rw [Array.all_eq_true_iff_forall_mem]
          intro v hv
          obtain ⟨i, hi, rfl⟩ := Array.mem_iff_getElem.1 hv
          rw [Array.getElem_extract]
          exact hm _ (Array.getElem_mem _)
        unfold flatV
        rw [Bool.or_eq_true]
        exact .inr this
    · split at h
      · rename_i v hv
        simp at h
        obtain ⟨rfl, _⟩ := h
        exact flat_scalar (hm _ (Array.mem_of_getElem? hv))
      · simp [stuck] at h
theorem steady_forIn {α β : Type} (f : α → β → Sem (ForInStep β)) (hf : ∀ x b, Steady P (f x b)) : ∀ (l : List α) (b : β), Steady P (forIn l b f)
  | [], b => by rw [List.forIn_nil]; exact steady_pure _
  | x :: l, b => by
    rw [List.forIn_cons]
    refine steady_bind (hf x b) fun s => ?_
    cases s with
    | done b => exact steady_pure _
    | yield b => exact steady_forIn f hf l b
theorem steady_equalIn : ∀ (d : Nat) (t : TypeId) (x y : Value), flatV x = true → flatV y = true → Steady P (Op.equalIn d t x y)
  | 0, _, _, _, _, _ => by rw [Op.equalIn]; exact steady_unsupported _
  | d + 1, t, x, y, hx, hy => by
    rw [Op.equalIn]
    refine steady_bind (steady_underlying t) fun td => ?_
    by_cases hagg : ∃ xs ys, x = .agg xs ∧ y = .agg ys
    · obtain ⟨xs, ys, rfl, rfl⟩ := hagg
      have hx' : xs.all scalarV = true := by simpa [flatV, scalarV] using hx
      have hy' : ys.all scalarV = true := by simpa [flatV, scalarV] using hy
      have two : ∀ (e : TypeId) (i : Nat) (g : Bool → Sem (ForInStep (Option Bool × Unit))), (∀ b, Steady P (g b)) → Steady P (part e xs i >>= fun a => part e ys i >>= fun b => Op.equalIn d e a b >>= g) := fun e i g hg =>
        steady_bind_of (φ := fun a => flatV a = true) (steady_part e xs i) (fun _ _ _ h => flat_part hx' h) fun a ha =>
          steady_bind_of (φ := fun a => flatV a = true) (steady_part e ys i) (fun _ _ _ h => flat_part hy' h) fun b hb =>
            steady_bind (steady_equalIn d e a b ha hb) hg
      have fin : ∀ (b : Bool), Steady P (if (!b) = true then pure (ForInStep.done (some false, ())) else pure (ForInStep.yield (none, ())) : Sem (ForInStep (Option Bool × Unit))) := fun b => by
        split <;> exact steady_pure _
      cases td <;> dsimp only
      case array n e =>
        refine steady_bind (steady_sizeOf e) fun m => ?_
        refine steady_bind ?_ fun r => ?_
        · rw [Std.Legacy.Range.forIn_eq_forIn_range']
          exact steady_forIn _ (fun i b => two e _ _ fin) _ _
        · repeat' (first | exact steady_pure _ | split | dsimp only)
      case struct fs =>
        refine steady_program ?_
        split
        · exact steady_bind (steady_unsupported _) fun _ => steady_bind (by
            rw [← Array.forIn_toList]
            refine steady_forIn _ (fun f b => ?_) _ _
            split
            · exact two f.type _ _ fin
            · exact steady_pure _) fun r => by repeat' (first | exact steady_pure _ | split | dsimp only)
        · refine steady_bind ?_ fun r => by repeat' (first | exact steady_pure _ | split | dsimp only)
          rw [← Array.forIn_toList]
          refine steady_forIn _ (fun f b => ?_) _ _
          split
          · exact two f.type _ _ fin
          · exact steady_pure _
      all_goals exact steady_stuck _
    · cases x <;> simp [flatV, scalarV] at hx <;> cases y <;> simp [flatV, scalarV] at hy <;> (try exact absurd ⟨_, _, rfl, rfl⟩ hagg) <;> cases td <;> dsimp only
      all_goals (repeat' (first | exact steady_pure _ | exact steady_stuck _ | exact steady_unsupported _ | refine steady_bind ?_ fun _ => ?_ | split | dsimp only))
theorem steady_eqGuardIn : ∀ (d : Nat) (t : TypeId) (x y : Value), Steady P (Op.eqGuardIn d t x y)
  | 0, _, _, _ => by rw [Op.eqGuardIn]; exact steady_unsupported _
  | d + 1, t, x, y => by
    rw [Op.eqGuardIn]
    refine steady_bind (steady_underlying t) fun td => ?_
    have two : ∀ (e : TypeId) (xs ys : Array Value) (i : Nat) (g : Bool → Sem (ForInStep (Option Bool × Unit))), (∀ b, Steady P (g b)) → Steady P (part e xs i >>= fun a => part e ys i >>= fun b => Op.eqGuardIn d e a b >>= g) := fun e xs ys i g hg =>
      steady_bind (steady_part e xs i) fun a => steady_bind (steady_part e ys i) fun b => steady_bind (steady_eqGuardIn d e a b) hg
    have fin : ∀ (b : Bool), Steady P (if b = true then pure (ForInStep.done (some true, ())) else pure (ForInStep.yield (none, ())) : Sem (ForInStep (Option Bool × Unit))) := fun b => by
      split <;> exact steady_pure _
    split
    · exact steady_pure _
    · refine steady_bind ?_ fun r => by repeat' (first | exact steady_pure _ | split | dsimp only)
      rw [← Array.forIn_toList]
      refine steady_forIn _ (fun f b => ?_) _ _
      split
      · exact two f.type _ _ _ _ fin
      · exact steady_pure _
    · rename_i n e xs ys
      refine steady_bind (steady_sizeOf e) fun m => ?_
      refine steady_bind ?_ fun r => by repeat' (first | exact steady_pure _ | split | dsimp only)
      rw [Std.Legacy.Range.forIn_eq_forIn_range']
      exact steady_forIn _ (fun i b => two e _ _ _ _ fin) _ _
    · exact steady_pure _
theorem steady_equal_flat (t : TypeId) (x y : Value) (hx : flatV x = true) (hy : flatV y = true) : Steady P (Op.equal t x y) := steady_equalIn _ t x y hx hy
theorem steady_binOp_flat (op : BinOp) (t : TypeId) (x y : Value) (hx : flatV x = true) (hy : flatV y = true) : Steady P (binOp op t x y) := by
  by_cases hs : scalarV x = true ∧ scalarV y = true
  · exact steady_binOp op t x y hs.1 hs.2
  · have hx' := hx
    have hy' := hy
    cases x <;> simp [flatV, scalarV] at hx' <;> cases y <;> simp [flatV, scalarV] at hy' <;> (try exact absurd ⟨rfl, rfl⟩ hs) <;> cases op <;> unfold binOp <;> dsimp only
    all_goals
      repeat' (first | exact steady_equal_flat _ _ _ hx hy | exact steady_pure _ | exact steady_stuck _ | exact steady_unsupported _ | refine steady_bind ?_ fun _ => ?_ | split | dsimp only)
/-- A pointer, a slice, a map held against nil. -/
def nilV : Value → Value → Bool
  | .pointer _, .pointer none => true
  | .slice _ _ _, .slice none _ _ => true
  | .map _, .map none => true
  | _, _ => false
theorem steady_equalIn_nil : ∀ (d : Nat) (t : TypeId) (x y : Value), nilV x y = true → Steady P (Op.equalIn d t x y)
  | 0, _, _, _, _ => by rw [Op.equalIn]; exact steady_unsupported _
  | d + 1, t, x, y, h => by
    rw [Op.equalIn]
    refine steady_bind (steady_underlying t) fun td => ?_
    unfold nilV at h
    split at h
    · rename_i p
      cases td <;> cases p <;> dsimp only
      all_goals (repeat' (first | exact steady_pure _ | exact steady_stuck _ | exact steady_unsupported _ | refine steady_bind ?_ fun _ => ?_ | split | dsimp only | unfold Op.samePointer))
    · rename_i p _ _ _ _
      cases td <;> cases p <;> dsimp only
      all_goals (repeat' (first | exact steady_pure _ | exact steady_stuck _ | exact steady_unsupported _ | refine steady_bind ?_ fun _ => ?_ | split | dsimp only))
    · rename_i p
      cases td <;> cases p <;> dsimp only
      all_goals (repeat' (first | exact steady_pure _ | exact steady_stuck _ | exact steady_unsupported _ | refine steady_bind ?_ fun _ => ?_ | split | dsimp only))
    · cases h
theorem steady_equal_nil (t : TypeId) (x y : Value) (h : nilV x y = true) : Steady P (Op.equal t x y) := steady_equalIn_nil _ t x y h
def eqOp : BinOp → Bool
  | .eql => true
  | .neq => true
  | _ => false
theorem steady_binOp_nil (op : BinOp) (t : TypeId) (x y : Value) (ho : eqOp op = true) (h : nilV x y = true) : Steady P (binOp op t x y) := by
  have two : op = .eql ∨ op = .neq := by cases op <;> simp [eqOp] at ho ⊢
  have hk := h
  unfold nilV at hk
  split at hk
  all_goals first
    | (cases hk; done)
    | (rcases two with rfl | rfl
       all_goals
         unfold binOp
         dsimp only
         exact steady_bind (steady_equal_nil _ _ _ h) fun _ => steady_pure _)
theorem steady_eqGuard_nil (op : BinOp) (t : TypeId) (x y : Operand) (a b : Value) (h : nilV a b = true) : Steady P (eqGuard op t x y a b) := by
  unfold eqGuard
  generalize Op.maxDepth = n
  unfold nilV at h
  split at h
  all_goals first
    | (cases h; done)
    | (cases op <;> dsimp only
       all_goals repeat' (first | exact steady_pure _ | exact steady_unsupported _ | exact steady_eqGuardIn _ _ _ _ | refine steady_program ?_ | refine steady_bind ?_ fun _ => ?_ | split | dsimp only))
theorem steady_eqGuard_flat (op : BinOp) (t : TypeId) (x y : Operand) (a b : Value) (ha : flatV a = true) : Steady P (eqGuard op t x y a b) := by
  unfold eqGuard
  generalize Op.maxDepth = n
  cases a <;> simp [flatV, scalarV] at ha <;> cases op <;> dsimp only
  all_goals repeat' (first | exact steady_pure _ | exact steady_unsupported _ | exact steady_eqGuardIn _ _ _ _ | refine steady_program ?_ | refine steady_bind ?_ fun _ => ?_ | split | dsimp only)
end steady

section order
variable {P : Program} {ops : Array Oper}

/-- The operation's answer is a value that hangs on no world. -/
def FreeAt (P : Program) (o : Oper) (a : Act) : Prop := ∀ w n w1, (execOp a.eval o).run P w = .ok n w1 → ∃ v, n = .value v ∧ w1 = w ∧ ∀ w', (execOp a.eval o).run P w' = .ok (.value v) w'
/-- The operation's answer is a value; the world stays. -/
def ReadAt (P : Program) (o : Oper) (a : Act) : Prop := ∀ w n w1, (execOp a.eval o).run P w = .ok n w1 → ∃ v, n = .value v ∧ w1 = w

theorem FreeAt.read {o : Oper} {a : Act} (h : FreeAt P o a) : ReadAt P o a := fun w n w1 hr => let ⟨v, h1, h2, _⟩ := h w n w1 hr; ⟨v, h1, h2⟩

theorem free_of {s : Sem Value} (h : Steady P s) : ∀ w n w1, (s >>= fun v => pure (Next.value v)).run P w = .ok n w1 → ∃ v, n = .value v ∧ w1 = w ∧ ∀ w', (s >>= fun v => pure (Next.value v)).run P w' = .ok (.value v) w' := by
  intro w n w1 hr
  rw [Sem.run_bind] at hr
  cases hs : s.run P w with
  | halt x w' => rw [hs] at hr; simp [Result.andThen] at hr
  | ok v w' =>
    rw [hs, Result.andThen_ok, Sem.run_pure] at hr
    injection hr with e1 e2
    subst e1 e2
    obtain ⟨rfl, hall⟩ := h w v _ hs
    exact ⟨v, rfl, rfl, fun w2 => by rw [Sem.run_bind, hall w2, Result.andThen_ok, Sem.run_pure]⟩
theorem read_of {s : Sem Value} (h : Quiet P s) : ∀ w n w1, (s >>= fun v => pure (Next.value v)).run P w = .ok n w1 → ∃ v, n = .value v ∧ w1 = w := by
  intro w n w1 hr
  rw [Sem.run_bind] at hr
  cases hs : s.run P w with
  | halt x w' => rw [hs] at hr; simp [Result.andThen] at hr
  | ok v w' =>
    rw [hs, Result.andThen_ok, Sem.run_pure] at hr
    injection hr with e1 e2
    subst e1 e2
    exact ⟨v, rfl, h w v _ hs⟩

/-- The same of a run of operations. -/
def FreeN (P : Program) (s : Sem Next) : Prop := ∀ w n w1, s.run P w = .ok n w1 → ∃ v, n = .value v ∧ w1 = w ∧ ∀ w', s.run P w' = .ok (.value v) w'
theorem freeN_pure (v : Value) : FreeN P (pure (.value v)) := by
  intro w n w1 hr
  rw [Sem.run_pure] at hr
  injection hr with e1 e2
  subst e1 e2
  exact ⟨_, rfl, rfl, fun _ => Sem.run_pure ..⟩
theorem freeN_never {s : Sem Next} (h : ∀ w a w1, s.run P w ≠ .ok a w1) : FreeN P s := fun w n w1 hr => absurd hr (h w n w1)
theorem freeN_bind {α : Type} {s : Sem α} {f : α → Sem Next} (h : Steady P s) (k : ∀ a, FreeN P (f a)) : FreeN P (s >>= f) := by
  intro w b w2 hr
  rw [Sem.run_bind] at hr
  cases hs : s.run P w with
  | halt x w1 => rw [hs] at hr; simp [Result.andThen] at hr
  | ok a w1 =>
    rw [hs, Result.andThen_ok] at hr
    obtain ⟨rfl, h2⟩ := h w a w1 hs
    obtain ⟨v, rfl, rfl, h3⟩ := k a _ b w2 hr
    refine ⟨v, rfl, rfl, fun w' => ?_⟩
    rw [Sem.run_bind, h2 w', Result.andThen_ok]
    exact h3 w'
theorem freeN_program {k : Program → Sem Next} (h : FreeN P (k P)) : FreeN P (program >>= k) := fun w n w1 hr => h w n w1 hr
theorem steady_len (t : TypeId) (ts : Array TypeId) (ty : TypeId) (x : Value) (d : TypeDesc) (hts : ts[0]? = some t) (hd : P.underlying t = some d) (hk : (match d with | .string | .slice _ | .array .. => true | _ => false) = true) : Steady P (Builtin.len_ ts ty #[x]) := by
  unfold Builtin.len_
  simp only [hts]
  refine steady_bind' (steady_underlying t) fun d' hr => ?_
  obtain ⟨w, w1, hr⟩ := hr
  have hu := underlying_of_run hr
  rw [hd] at hu
  injection hu with hu
  subst hu
  cases d <;> simp at hk <;> cases x <;> first | exact steady_pure _ | exact steady_stuck _

/-- What must be known of the operands. -/
def Good (a : Act) (o : Oper) : Bool :=
  match o.op with
  | .binOp op _ x y _ => flatV (a.eval x) && flatV (a.eval y) || (eqOp op && nilV (a.eval x) (a.eval y))
  | .unOp _ _ x => scalarV (a.eval x)
  | .convert _ _ x => match a.eval x with | .int _ _ | .slice .. | .string _ => true | _ => false
  | _ => true

def lenB (P : Program) (c : Call) : Bool :=
  match c.callee with
  | .builtin .len => match c.args.toList, c.argTypes.toList with
    | [_], [t] => match P.underlying t with | some .string | some (.slice _) | some (.array ..) => true | _ => false
    | _, _ => false
  | _ => false
theorem lenB_spec {c : Call} (h : lenB P c = true) (ρ : Operand → Value) (ty : TypeId) : ∃ x, (∀ w, (resolve ρ c ty >>= fun d => invoke d.target d.args).run P w = ((Builtin.len_ c.argTypes ty #[x]) >>= fun v => pure (Next.value v)).run P w) ∧ Steady P (Builtin.len_ c.argTypes ty #[x]) := by
  obtain ⟨callee, args, argTypes⟩ := c
  unfold lenB at h
  simp only at h
  split at h
  · split at h
    · rename_i hcl x t ha ht
      refine ⟨ρ x, fun w => ?_, ?_⟩
      · have ea : args = #[x] := by rw [← Array.toArray_toList (xs := args), ha]
        subst ea
        simp only [resolve, invoke, builtin, Sem.run_bind, Sem.run_pure, Result.andThen_ok, List.map_toArray, List.map_cons, List.map_nil]
      · have et : argTypes = #[t] := by rw [← Array.toArray_toList (xs := argTypes), ht]
        subst et
        split at h
        · exact steady_len t _ _ _ _ rfl (by assumption) rfl
        · exact steady_len t _ _ _ _ rfl (by assumption) rfl
        · exact steady_len t _ _ _ _ rfl (by assumption) rfl
        · simp at h
    · simp at h
  · simp at h

/-- By its text: free (where its operands are good). -/
def freeB (P : Program) (o : Oper) : Bool :=
  match o.op with
  | .move _ | .assign _ | .extract .. | .indexAddr .. | .slice .. | .index .. | .field .. | .binOp .. | .unOp .. | .nilCheck _ | .pick .. => true
  | .convert _ dst _ => match P.underlying dst with | some (.int _) => true | _ => false
  | .call c => lenB P c
  | .fieldAddr s _ f => match P.underlying s with
    | some (.struct fs) => match fs[f]? with
      | some fd => (P.info? fd.type).map (fun i => decide (i.size = 0)) == some false
      | none => true
    | _ => true
  | _ => false
/-- By its text: it reads. -/
def readB (o : Oper) : Bool :=
  match o.op with
  | .load .. => true
  | _ => false

theorem free_spec {o : Oper} {a : Act} (h : freeB P o = true) (hg : Good a o = true) : FreeAt P o a := by
  obtain ⟨dst, op, ty, pos, after, guard⟩ := o
  unfold FreeAt
  cases op <;> simp only [freeB] at h <;> (try exact absurd h (by decide)) <;> simp only [execOp]
  case pick c x y =>
    intro w n w1 hr
    rw [Sem.run_bind] at hr
    cases hs : (asBool (a.eval c)).run P w with
    | halt x w' => rw [hs] at hr; simp [Result.andThen] at hr
    | ok b w' =>
      obtain ⟨rfl, h2⟩ := steady_asBool (P := P) (a.eval c) w b w' hs
      rw [hs, Result.andThen_ok, Sem.run_pure] at hr
      injection hr with e1 e2
      subst e1 e2
      exact ⟨_, rfl, rfl, fun w' => by rw [Sem.run_bind, h2 w', Result.andThen_ok, Sem.run_pure]⟩
  case move x =>
    intro w n w1 hr
    rw [Sem.run_pure] at hr
    injection hr with e1 e2
    subst e1 e2
    exact ⟨_, rfl, rfl, fun _ => Sem.run_pure ..⟩
  case assign x =>
    intro w n w1 hr
    rw [Sem.run_pure] at hr
    injection hr with e1 e2
    subst e1 e2
    exact ⟨_, rfl, rfl, fun _ => Sem.run_pure ..⟩
  case extract => exact free_of (steady_extract _ _)
  case indexAddr => exact free_of (steady_indexAt _ _ _)
  case slice => exact free_of (steady_sliceAt _ _ _ _ _)
  case index => exact free_of (steady_index _ _ _)
  case field => exact free_of (steady_field _ _ _)
  case binOp op t x y yt =>
    simp only [Good, Bool.or_eq_true, Bool.and_eq_true] at hg
    rcases hg with hg | hg
    · exact free_of (steady_bind (steady_eqGuard_flat _ _ _ _ _ _ hg.1) fun _ => steady_binOp_flat _ _ _ _ hg.1 hg.2)
    · exact free_of (steady_bind (steady_eqGuard_nil _ _ _ _ _ _ hg.2) fun _ => steady_binOp_nil _ _ _ _ hg.1 hg.2)
  case unOp op t x => exact free_of (steady_unary _ _ hg)
  case convert src d x =>
    simp only [Good] at hg
    cases hx : a.eval x <;> rw [hx] at hg <;> simp at hg
    all_goals
      cases hd : P.underlying d with
      | none => rw [hd] at h; simp at h
      | some td =>
        rw [hd] at h
        cases td <;> simp at h
        first
          | exact free_of (steady_convert _ _ _ hd _ _)
          | exact free_of fun w b w1 hr => (convert_never _ _ _ hd _ rfl w b w1 hr).elim
  case fieldAddr s x f =>
    refine free_of (steady_fieldAt _ _ _ fun fs fd h1 h2 => ?_)
    rw [h1] at h
    simp only [h2] at h
    simpa using h
  case nilCheck x =>
    show FreeN P _
    split
    · exact freeN_never (runtimePanic_never _)
    · exact freeN_never (runtimePanic_never _)
    · exact freeN_never (runtimePanic_never _)
    · split
      · exact freeN_never (runtimePanic_never _)
      · refine freeN_program (freeN_bind (steady_nilAhead _ _ _ _) fun b => ?_)
        split
        · exact freeN_never (never_bind_left (never_halt _))
        · exact freeN_pure _
      · exact freeN_pure _
    · exact freeN_pure _
  case call c =>
    obtain ⟨x, hrun, hst⟩ := lenB_spec h a.eval ty
    intro w n w1 hr
    rw [hrun] at hr
    obtain ⟨v, h1, h2, h3⟩ := free_of hst w n w1 hr
    exact ⟨v, h1, h2, fun w' => by rw [hrun]; exact h3 w'⟩

theorem read_spec {o : Oper} {a : Act} (h : readB o = true) : ReadAt P o a := by
  obtain ⟨dst, op, ty, pos, after, guard⟩ := o
  unfold ReadAt
  cases op <;> simp only [readB] at h <;> (try exact absurd h (by decide)) <;> simp only [execOp]
  exact read_of (quiet_loadAt _ _)
/-- No way out but the plain one. -/
def NoQ : Exit → Act → World → Prop := fun _ _ _ => False
/-- An operation, its operands good, run to a plain end. -/
def sOp (P : Program) (ops : Array Oper) (i : Nat) (K : Act → World → Prop) (a : Act) (w : World) : Prop :=
  match ops[i]? with
  | none => K a w
  | some o => if Region.wanted o (yielded ops a.tmps) = true then Good a o = true ∧ o.wp P a w K NoQ else K (a.put o.dst undef) w

theorem sOp_mono {i : Nat} {K K' : Act → World → Prop} {a : Act} {w : World} (h : ∀ a w, K a w → K' a w) (hh : sOp P ops i K a w) : sOp P ops i K' a w := by
  unfold sOp at *
  split
  · rename_i ho; simp only [ho] at hh; exact h _ _ hh
  · rename_i o ho
    simp only [ho] at hh
    split
    · rename_i hw; simp only [hw, if_true] at hh; exact ⟨hh.1, Oper.wp_mono h hh.2⟩
    · rename_i hw; simp only [hw] at hh; exact h _ _ hh

theorem good_put (o : Oper) (a : Act) (dst : Option Tmp) (v : Value) (h : ∀ d, dst = some d → d ∉ o.looksAt ops) : Good (a.put dst v) o = Good a o := by
  have he : ∀ x ∈ o.op.operands, (a.put dst v).eval x = a.eval x := fun x hx => Act.eval_put fun d hd hxd => h d hd (by
    subst hxd
    exact List.mem_append_left _ (List.mem_filterMap.2 ⟨.tmp d, by simpa using hx, rfl⟩))
  obtain ⟨od, op, ty, pos, after, guard⟩ := o
  unfold Good
  cases op <;> simp only [Op.operands] at he ⊢
  case binOp => rw [he _ (by simp), he _ (by simp)]
  case unOp => rw [he _ (by simp)]
  case convert => rw [he _ (by simp)]

theorem freeAt_put {o : Oper} {a : Act} (hs : ∀ cs b, o.op ≠ .select cs b) (dst : Option Tmp) (v : Value) (h : ∀ d, dst = some d → d ∉ o.looksAt ops) (hf : FreeAt P o a) : FreeAt P o (a.put dst v) := by
  unfold FreeAt
  rw [execOp_put (ops := ops) o hs a dst v h]
  exact hf

theorem sOp_free {i : Nat} {o : Oper} (ho : ops[i]? = some o) (hf : freeB P o = true) {K : Act → World → Prop} {a : Act} {w : World} (h : sOp P ops i K a w) : ∃ v, Yields P ops o v a ∧ (Region.wanted o (yielded ops a.tmps) = true → Good a o = true) ∧ K (a.put o.dst v) w := by
  unfold sOp at h
  simp only [ho] at h
  by_cases hw : Region.wanted o (yielded ops a.tmps) = true
  · simp only [hw, if_true] at h
    obtain ⟨hg, hwp⟩ := h
    have hfree := free_spec (P := P) hf hg
    unfold Oper.wp at hwp
    cases hr : (execOp a.eval o).run P w with
    | halt x w' => rw [hr] at hwp; cases x <;> exact hwp.elim
    | ok n w' =>
      obtain ⟨v, rfl, rfl, hall⟩ := hfree w n w' hr
      rw [hr, Oper.upon_value] at hwp
      exact ⟨v, .inl ⟨hw, hall⟩, fun _ => hg, hwp⟩
  · simp only [hw, if_false, Bool.false_eq_true] at h
    exact ⟨undef, .inr ⟨by simpa using hw, rfl⟩, fun h' => absurd h' hw, h⟩

theorem sOp_yields {i : Nat} {o : Oper} {v : Value} {a : Act} (hi : ops[i]? = some o) (hy : Yields P ops o v a) (hg : Region.wanted o (yielded ops a.tmps) = true → Good a o = true) {K : Act → World → Prop} {w : World} : sOp P ops i K a w ↔ K (a.put o.dst v) w := by
  unfold sOp
  simp only [hi]
  rcases hy with ⟨hw, hv⟩ | ⟨hw, rfl⟩
  · simp only [hw, if_true, Oper.wp, hv w, Oper.upon]
    exact ⟨fun h => h.2, fun h => ⟨hg hw, h⟩⟩
  · simp only [hw, Bool.false_eq_true, if_false]

theorem yields_put {o : Oper} {v : Value} {a : Act} (hs : ∀ cs b, o.op ≠ .select cs b) (dst : Option Tmp) (u : Value) (h : ∀ d, dst = some d → d ∉ o.looksAt ops) (hy : Yields P ops o v a) : Yields P ops o v (a.put dst u) := by
  rcases hy with ⟨hw, hv⟩ | ⟨hw, rfl⟩
  · exact .inl ⟨by rw [wanted_put o a dst u h]; exact hw, by rw [execOp_put (ops := ops) o hs a dst u h]; exact hv⟩
  · exact .inr ⟨by rw [wanted_put o a dst u h]; exact hw, rfl⟩

/-- The same operation at a frame with one slot more. -/
theorem sOp_put {i : Nat} {o : Oper} (ho : ops[i]? = some o) (hs : ∀ cs b, o.op ≠ .select cs b) {a : Act} {w : World} (dst : Option Tmp) (v : Value) (h1 : ∀ d, dst = some d → d ∉ o.looksAt ops) (h2 : ∀ d, dst = some d → o.dst ≠ some d)
    {K K' : Act → World → Prop} (hK : ∀ a' w', K (a'.put dst v) w' → K' a' w') (h : sOp P ops i K (a.put dst v) w) : sOp P ops i K' a w := by
  unfold sOp at *
  simp only [ho] at h ⊢
  rw [wanted_put o a dst v h1] at h
  have hc : ∀ u, (a.put dst v).put o.dst u = (a.put o.dst u).put dst v := fun u => Act.put_comm a v u h2
  split
  · rename_i hw
    rw [if_pos hw, good_put (ops := ops) o a dst v h1] at h
    refine ⟨h.1, ?_⟩
    have hwp := h.2
    unfold Oper.wp at hwp ⊢
    rw [execOp_put (ops := ops) o hs a dst v h1] at hwp
    generalize (execOp a.eval o).run P w = r at hwp ⊢
    cases r with
    | ok n w' =>
      cases n <;> simp only [Oper.upon] at hwp ⊢
      case value u => exact hK _ _ (by rw [← hc]; exact hwp)
      case skip => exact hK _ _ (by rw [← hc]; exact hwp)
      case defer d =>
        refine hK _ _ ?_
        rw [Act.put_defers] at hwp
        rw [← Act.put_comm _ v undef h2]
        exact hwp
      case enter f args => exact Calls.mono hwp fun e w'' he => by cases e <;> first | exact hK _ _ (by rw [← hc]; exact he) | exact he
      case row => exact Rows.mono hwp fun u w'' he => hK _ _ (by rw [← hc]; exact he)
    | halt x w' => cases x <;> simp only [Oper.upon] at hwp ⊢ <;> exact hwp
  · rename_i hw
    rw [if_neg hw] at h
    exact hK _ _ (by rw [← hc]; exact h)

/-- The other way round. -/
theorem sOp_put' {i : Nat} {o : Oper} (ho : ops[i]? = some o) (hs : ∀ cs b, o.op ≠ .select cs b) {a : Act} {w : World} (dst : Option Tmp) (v : Value) (h1 : ∀ d, dst = some d → d ∉ o.looksAt ops) (h2 : ∀ d, dst = some d → o.dst ≠ some d)
    {K K' : Act → World → Prop} (hK : ∀ a' w', K a' w' → K' (a'.put dst v) w') (h : sOp P ops i K a w) : sOp P ops i K' (a.put dst v) w := by
  unfold sOp at *
  simp only [ho] at h ⊢
  rw [wanted_put o a dst v h1]
  have hc : ∀ u, (a.put dst v).put o.dst u = (a.put o.dst u).put dst v := fun u => Act.put_comm a v u h2
  split
  · rename_i hw
    rw [if_pos hw] at h
    rw [good_put (ops := ops) o a dst v h1]
    refine ⟨h.1, ?_⟩
    have hwp := h.2
    unfold Oper.wp at hwp ⊢
    rw [execOp_put (ops := ops) o hs a dst v h1]
    generalize (execOp a.eval o).run P w = r at hwp ⊢
    cases r with
    | ok n w' =>
      cases n <;> simp only [Oper.upon] at hwp ⊢
      case value u => rw [hc]; exact hK _ _ hwp
      case skip => rw [hc]; exact hK _ _ hwp
      case defer d =>
        rw [Act.put_defers, Act.put_comm _ v undef h2]
        exact hK _ _ hwp
      case enter f args => exact Calls.mono hwp fun e w'' he => by cases e <;> first | (simp only [hc]; exact hK _ _ he) | exact he
      case row => exact Rows.mono hwp fun u w'' he => by rw [hc]; exact hK _ _ he
    | halt x w' => cases x <;> simp only [Oper.upon] at hwp ⊢ <;> exact hwp
  · rename_i hw
    rw [if_neg hw] at h
    rw [hc]
    exact hK _ _ h
/-- There is an end. -/
theorem sOp_exists {i : Nat} {o : Oper} (ho : ops[i]? = some o) {K : Act → World → Prop} {a : Act} {w : World} (h : sOp P ops i K a w) :
    ∃ (b : Act) (v : Value) (w' : World), b.tmps = a.tmps ∧ K (b.put o.dst v) w' := by
  unfold sOp at h
  simp only [ho] at h
  split at h
  · have hwp := h.2
    unfold Oper.wp at hwp
    generalize (execOp a.eval o).run P w = r at hwp
    cases r with
    | ok n w' =>
      cases n <;> simp only [Oper.upon] at hwp
      case value u => exact ⟨a, u, w', rfl, hwp⟩
      case skip => exact ⟨a, undef, w', rfl, hwp⟩
      case defer d => exact ⟨{ a with defers := d :: a.defers }, undef, w', rfl, hwp⟩
      case enter f args =>
        obtain ⟨e, w'', fr, hR, _⟩ := hwp []
        cases e with
        | returned v => exact ⟨a, v, w'', rfl, hR⟩
        | panicked c => exact hR.elim
        | outgrown => obtain ⟨_, _, hq⟩ := hR; exact hq.elim
      case row row args =>
        obtain ⟨v, w'', hR, _⟩ := hwp default []
        exact ⟨a, v, w'', rfl, hR⟩
      all_goals exact hwp.elim
    | halt x w' => cases x <;> exact hwp.elim
  · exact ⟨a, undef, w, rfl, h⟩

theorem eval_tmps {a b : Act} (h : b.tmps = a.tmps) : b.eval = a.eval := by funext x; cases x <;> simp [Act.eval, h]
theorem good_tmps {a b : Act} (h : b.tmps = a.tmps) (o : Oper) : Good b o = Good a o := by unfold Good; rw [eval_tmps h]

theorem yields_tmps {o : Oper} {v : Value} {a b : Act} (h : b.tmps = a.tmps) (hy : Yields P ops o v b) : Yields P ops o v a := by
  unfold Yields at *
  rw [eval_tmps h, h] at hy
  exact hy

/-- A free operation comes to the front. -/
theorem swap_free_right {i j : Nat} {oi oj : Oper} (hi : ops[i]? = some oi) (hj : ops[j]? = some oj) (hsi : ∀ cs b, oi.op ≠ .select cs b) (hsj : ∀ cs b, oj.op ≠ .select cs b) (hap : oj.apart ops oi = true) (hf : freeB P oi = true)
    {K : Act → World → Prop} {a : Act} {w : World} (h : sOp P ops j (sOp P ops i K) a w) : sOp P ops i (sOp P ops j K) a w := by
  obtain ⟨p1, p2, p3⟩ := Oper.apart_spec hap
  obtain ⟨b, v0, w0, hb, hK0⟩ := sOp_exists hj h
  obtain ⟨u, hy, hg, _⟩ := sOp_free hi hf hK0
  -- what it yields, at the first frame
  have hya : Yields P ops oi u a := by
    refine yields_tmps hb ?_
    rcases hy with ⟨hw, hv⟩ | ⟨hw, hu⟩
    · exact .inl ⟨by rw [← wanted_put oi b oj.dst v0 p1]; exact hw, by rw [← execOp_put (ops := ops) oi hsi b oj.dst v0 p1]; exact hv⟩
    · exact .inr ⟨by rw [← wanted_put oi b oj.dst v0 p1]; exact hw, hu⟩
  have hga : Region.wanted oi (yielded ops a.tmps) = true → Good a oi = true := fun hw => by
    rw [← good_tmps hb, ← good_put (ops := ops) oi b oj.dst v0 p1]
    refine hg ?_
    rw [wanted_put oi b oj.dst v0 p1, hb]
    exact hw
  rw [sOp_yields hi hya hga]
  have p2' : ∀ d, oi.dst = some d → oj.dst ≠ some d := fun d hd hd' => p2 d hd' hd
  -- the first operation runs on as before, its end one slot further
  refine sOp_put' hj hsj oi.dst u (fun d hd => p3 d hd) p2' (K := fun a' w' => sOp P ops i K a' w' ∧ ∃ (b' : Act) (v' : Value), b'.tmps = a.tmps ∧ a' = b'.put oj.dst v') (fun a' w' hh => ?_) ?_
  · obtain ⟨hs, b', v', hb', rfl⟩ := hh
    have hy' : Yields P ops oi u (b'.put oj.dst v') := yields_put hsi oj.dst v' p1 (yields_tmps hb'.symm hya)
    have hg' : Region.wanted oi (yielded ops (b'.put oj.dst v').tmps) = true → Good (b'.put oj.dst v') oi = true := fun hw => by
      rw [good_put (ops := ops) oi b' oj.dst v' p1, good_tmps hb']
      refine hga ?_
      rw [wanted_put oi b' oj.dst v' p1, hb'] at hw
      exact hw
    exact (sOp_yields hi hy' hg').1 hs
  · -- every end of the first operation is a frame with its slot put
    unfold sOp at h ⊢
    simp only [hj] at h ⊢
    split
    · rename_i hw
      rw [if_pos hw] at h
      refine ⟨h.1, ?_⟩
      have hwp := h.2
      unfold Oper.wp at hwp ⊢
      generalize (execOp a.eval oj).run P w = r at hwp ⊢
      cases r with
      | ok n w' =>
        cases n <;> simp only [Oper.upon] at hwp ⊢
        case value u => exact ⟨hwp, a, _, rfl, rfl⟩
        case skip => exact ⟨hwp, a, _, rfl, rfl⟩
        case defer d => exact ⟨hwp, { a with defers := d :: a.defers }, _, rfl, rfl⟩
        case enter f args => exact Calls.mono hwp fun e w'' he => by cases e <;> first | exact ⟨he, a, _, rfl, rfl⟩ | exact he
        case row => exact Rows.mono hwp fun u w'' he => ⟨he, a, _, rfl, rfl⟩
      | halt x w' => cases x <;> simp only [Oper.upon] at hwp ⊢ <;> exact hwp
    · rename_i hw
      rw [if_neg hw] at h
      exact ⟨h, a, _, rfl, rfl⟩

/-- Behind a free operation. -/
theorem swap_free_left {i j : Nat} {oi oj : Oper} (hi : ops[i]? = some oi) (hj : ops[j]? = some oj) (hsi : ∀ cs b, oi.op ≠ .select cs b) (hsj : ∀ cs b, oj.op ≠ .select cs b) (hap : oj.apart ops oi = true) (hf : freeB P oj = true)
    {K : Act → World → Prop} {a : Act} {w : World} (h : sOp P ops j (sOp P ops i K) a w) : sOp P ops i (sOp P ops j K) a w := by
  obtain ⟨p1, p2, p3⟩ := Oper.apart_spec hap
  obtain ⟨v, hy, hg, hK⟩ := sOp_free hj hf h
  have h1 : sOp P ops i (fun a' w' => K (a'.put oj.dst v) w' ∧ True) a w := sOp_put hi hsi oj.dst v p1 p2 (fun a' w' hh => ⟨hh, trivial⟩) hK
  -- every end of the second operation is a frame with its slot put
  unfold sOp at h1 ⊢
  simp only [hi] at h1 ⊢
  have fin : ∀ (b : Act) (u : Value) (w' : World), b.tmps = a.tmps → K ((b.put oi.dst u).put oj.dst v) w' → sOp P ops j K (b.put oi.dst u) w' := fun b u w' hb hk => by
    have hy' : Yields P ops oj v (b.put oi.dst u) := yields_put hsj oi.dst u p3 (yields_tmps hb.symm hy)
    have hg' : Region.wanted oj (yielded ops (b.put oi.dst u).tmps) = true → Good (b.put oi.dst u) oj = true := fun hw => by
      rw [good_put (ops := ops) oj b oi.dst u p3, good_tmps hb]
      refine hg ?_
      rw [wanted_put oj b oi.dst u p3, hb] at hw
      exact hw
    exact (sOp_yields hj hy' hg').2 hk
  split
  · rename_i hw
    rw [if_pos hw] at h1
    refine ⟨h1.1, ?_⟩
    have hwp := h1.2
    unfold Oper.wp at hwp ⊢
    generalize (execOp a.eval oi).run P w = r at hwp ⊢
    cases r with
    | ok n w' =>
      cases n <;> simp only [Oper.upon] at hwp ⊢
      case value u => exact fin a _ _ rfl hwp.1
      case skip => exact fin a _ _ rfl hwp.1
      case defer d => exact fin { a with defers := d :: a.defers } _ _ rfl hwp.1
      case enter f args => exact Calls.mono hwp fun e w'' he => by cases e <;> first | exact fin a _ _ rfl he.1 | exact he
      case row => exact Rows.mono hwp fun u w'' he => fin a _ _ rfl he.1
    | halt x w' => cases x <;> simp only [Oper.upon] at hwp ⊢ <;> exact hwp
  · rename_i hw
    rw [if_neg hw] at h1
    exact fin a _ _ rfl h1.1

/-- Two that read. -/
theorem swap_read {i j : Nat} {oi oj : Oper} (hi : ops[i]? = some oi) (hj : ops[j]? = some oj) (hsi : ∀ cs b, oi.op ≠ .select cs b) (hsj : ∀ cs b, oj.op ≠ .select cs b) (hap : oj.apart ops oi = true) (hri : readB oi = true) (hrj : readB oj = true)
    {K : Act → World → Prop} {a : Act} {w : World} (h : sOp P ops j (sOp P ops i K) a w) : sOp P ops i (sOp P ops j K) a w := by
  obtain ⟨p1, p2, p3⟩ := Oper.apart_spec hap
  -- one operation that reads, at one world
  have one : ∀ {k : Nat} {o : Oper} {b : Act} {K : Act → World → Prop}, ops[k]? = some o → readB o = true → sOp P ops k K b w → ∃ v, (∀ K' : Act → World → Prop, K' (b.put o.dst v) w → sOp P ops k K' b w) ∧ K (b.put o.dst v) w := by
    intro k o b K hk hr hs
    unfold sOp at hs
    simp only [hk] at hs
    by_cases hw : Region.wanted o (yielded ops b.tmps) = true
    · simp only [hw, if_true] at hs
      obtain ⟨hg, hwp⟩ := hs
      unfold Oper.wp at hwp
      cases hrun : (execOp b.eval o).run P w with
      | halt x w' => rw [hrun] at hwp; cases x <;> exact hwp.elim
      | ok n w' =>
        obtain ⟨v, rfl, rfl⟩ := read_spec (P := P) (a := b) hr w n w' hrun
        rw [hrun, Oper.upon_value] at hwp
        refine ⟨v, fun K' hK' => ?_, hwp⟩
        unfold sOp
        simp only [hk, hw, if_true]
        refine ⟨hg, ?_⟩
        unfold Oper.wp
        rw [hrun]
        exact hK'
    · simp only [hw, if_false, Bool.false_eq_true] at hs
      refine ⟨undef, fun K' hK' => ?_, hs⟩
      unfold sOp
      simp only [hk, hw, if_false, Bool.false_eq_true]
      exact hK'
  obtain ⟨v, hjv, h1⟩ := one hj hrj h
  have h2 : sOp P ops i (fun a' w' => K (a'.put oj.dst v) w') a w := sOp_put hi hsi oj.dst v p1 p2 (fun _ _ hh => hh) h1
  obtain ⟨u, hiu, h3⟩ := one hi hri h2
  refine hiu _ ?_
  have h4 : sOp P ops j (fun a' w' => a' = a.put oj.dst v ∧ w' = w) a w := hjv _ ⟨rfl, rfl⟩
  refine sOp_put' hj hsj oi.dst u (fun d hd => p3 d hd) (fun d hd hd' => p2 d hd' hd) (fun a' w' hh => ?_) h4
  obtain ⟨rfl, rfl⟩ := hh
  rw [Act.put_comm a v u (fun d hd hd' => p2 d hd hd')]
  exact h3
/-- Operations one behind the other. -/
def sL (P : Program) (ops : Array Oper) (K : Act → World → Prop) : List Nat → Act → World → Prop
  | [], a, w => K a w
  | i :: r, a, w => sOp P ops i (sL P ops K r) a w

/-- Two operations, the first ahead of the second by the text: they commute. -/
def commB (P : Program) (ops : Array Oper) (j i : Nat) : Bool :=
  match ops[j]?, ops[i]? with
  | some oj, some oi => oj.apart ops oi && (freeB P oj || freeB P oi || (readB oj && readB oi))
  | _, _ => false

theorem swap_comm (hsel : ∀ (j : Nat) (o : Oper) cs b, ops[j]? = some o → o.op ≠ .select cs b) {i j : Nat} (hc : commB P ops j i = true)
    {K : Act → World → Prop} {a : Act} {w : World} (h : sOp P ops j (sOp P ops i K) a w) : sOp P ops i (sOp P ops j K) a w := by
  unfold commB at hc
  cases hj : ops[j]? with
  | none => simp [hj] at hc
  | some oj =>
    cases hi : ops[i]? with
    | none => simp [hj, hi] at hc
    | some oi =>
      simp only [hj, hi, Bool.and_eq_true, Bool.or_eq_true] at hc
      obtain ⟨hap, (hf | hf) | ⟨h1, h2⟩⟩ := hc
      · exact swap_free_left hi hj (fun cs b => hsel i oi cs b hi) (fun cs b => hsel j oj cs b hj) hap hf h
      · exact swap_free_right hi hj (fun cs b => hsel i oi cs b hi) (fun cs b => hsel j oj cs b hj) hap hf h
      · exact swap_read hi hj (fun cs b => hsel i oi cs b hi) (fun cs b => hsel j oj cs b hj) hap h2 h1 h

theorem sL_move (hsel : ∀ (j : Nat) (o : Oper) cs b, ops[j]? = some o → o.op ≠ .select cs b) {K : Act → World → Prop} {i : Nat} {post : List Nat} :
    ∀ (pre : List Nat) (a : Act) (w : World), (∀ j ∈ pre, commB P ops j i = true) → sL P ops K (pre ++ i :: post) a w → sOp P ops i (sL P ops K (pre ++ post)) a w
  | [], _, _, _, h => h
  | j :: pre, a, w, hc, h => by
    have h1 : sOp P ops j (sOp P ops i (sL P ops K (pre ++ post))) a w := sOp_mono (fun a' w' hh => sL_move hsel pre a' w' (fun k hk => hc k (by simp [hk])) hh) h
    exact swap_comm hsel (hc j (by simp)) h1

theorem sOp_wpOp {Q : Exit → Act → World → Prop} {i : Nat} {K : Act → World → Prop} {a : Act} {w : World} (h : sOp P ops i K a w) : wpOp P ops Q i K a w := by
  unfold sOp at h
  unfold wpOp
  split
  · rename_i ho; simpa only [ho] using h
  · rename_i o ho
    simp only [ho] at h
    split
    · rename_i hw
      rw [if_pos hw] at h
      refine .inl ?_
      have hwp := h.2
      unfold Oper.wp at hwp ⊢
      generalize (execOp a.eval o).run P w = r at hwp ⊢
      cases r with
      | ok n w' =>
        cases n <;> simp only [Oper.upon] at hwp ⊢
        case value => exact hwp
        case skip => exact hwp
        case defer => exact hwp
        case enter => exact Calls.mono hwp fun e w'' he => (by
          cases e with
          | returned v => exact he
          | panicked c => exact he.elim
          | outgrown => obtain ⟨_, _, hq⟩ := he; exact hq.elim)
        case row => exact hwp
      | halt x w' => cases x <;> exact hwp.elim
    · rename_i hw
      rw [if_neg hw] at h
      exact h

/-- Operation i waits for j, by the table. -/
def bitB (B : List Nat) (i j : Nat) : Bool := (B.getD i 0).testBit j

structure TextOk (C : Nat → Nat → Prop) (ops : Array Oper) (B : List Nat) : Prop where
  sel : ∀ (j : Nat) (o : Oper) cs b, ops[j]? = some o → o.op ≠ .select cs b
  back : ∀ (i : Nat) (o : Oper), ops[i]? = some o → ∀ e ∈ o.after, Region.binds .any e = true → e.on < i
  cert : ∀ (i : Nat) (o : Oper), ops[i]? = some o → ∀ j, bitB B i j = true → ∃ e ∈ o.after, Region.binds .any e = true ∧ (e.on = j ∨ bitB B e.on j = true)
  comm : ∀ j i, j < i → i < ops.size → bitB B i j = true ∨ C j i

theorem TextOk.listed {C : Nat → Nat → Prop} {B : List Nat} (ok : TextOk C ops B) {listed : Array Bool} (hcl : ∀ (k : Nat) (o : Oper), ops[k]? = some o → listed.getD k false = true → ∀ e ∈ o.after, Region.binds .any e = true → listed.getD e.on false = true) :
    ∀ (i : Nat) (o : Oper), ops[i]? = some o → (∀ e ∈ o.after, Region.binds .any e = true → listed.getD e.on false = true) → ∀ j, bitB B i j = true → listed.getD j false = true := by
  intro i
  induction i using Nat.strongRecOn with
  | _ i ih =>
    intro o ho hr j hb
    obtain ⟨e, he, hbi, h⟩ := ok.cert i o ho j hb
    have hl := hr e he hbi
    rcases h with rfl | h
    · exact hl
    · have hlt := ok.back i o ho e he hbi
      have his : i < ops.size := (Array.getElem?_eq_some_iff.1 ho).1
      have hok : ops[e.on]? = some ops[e.on] := Array.getElem?_eq_getElem (by omega)
      exact ih e.on hlt _ hok (hcl e.on _ hok hl) j h

theorem wpAny_text {C : Nat → Nat → Prop} {B : List Nat} (ok : TextOk C ops B) {Q : Exit → Act → World → Prop} {R : List Nat → Act → World → Prop} (hR : ∀ a w, R [] a w → Q .normal a w)
    (hmove : ∀ (pre : List Nat) (i : Nat) (post : List Nat) (a : Act) (w : World), (∀ j ∈ pre, C j i) → R (pre ++ i :: post) a w → sOp P ops i (R (pre ++ post)) a w) :
    ∀ (fuel : Nat) (listed : Array Bool) (L : List Nat) (a : Act) (w : World), listed.size = ops.size → (∀ i, i ∈ L ↔ i < ops.size ∧ listed.getD i false = false) → L.Pairwise (· < ·) → L.length ≤ fuel →
      (∀ (k : Nat) (o : Oper), ops[k]? = some o → listed.getD k false = true → ∀ e ∈ o.after, Region.binds .any e = true → listed.getD e.on false = true) →
      R L a w → wpAny P .any ops Q fuel listed a w := by
  intro fuel
  have inL : ∀ {listed : Array Bool} {L : List Nat} {i : Nat}, listed.size = ops.size → (∀ i, i ∈ L ↔ i < ops.size ∧ listed.getD i false = false) → i ∈ Region.ready .any ops listed → i ∈ L ∧ ∃ o, ops[i]? = some o ∧ ∀ e ∈ o.after, Region.binds .any e = true → listed.getD e.on false = true := by
    intro listed L i hsz hL hi
    obtain ⟨hl, o, ho, hr⟩ := mem_ready.1 hi
    have his : i < ops.size := (Array.getElem?_eq_some_iff.1 ho).1
    refine ⟨(hL i).2 ⟨his, ?_⟩, o, ho, hr⟩
    have : i < listed.size := by omega
    simp [this] at hl ⊢
    exact hl
  have rdy : ∀ {listed : Array Bool} {i : Nat} {L : List Nat}, listed.size = ops.size → (∀ k, k ∈ i :: L ↔ k < ops.size ∧ listed.getD k false = false) → (i :: L).Pairwise (· < ·) → i ∈ Region.ready .any ops listed := by
    intro listed i L hsz hL hp
    have hi := (hL i).1 (by simp)
    have ho : ops[i]? = some ops[i] := Array.getElem?_eq_getElem hi.1
    refine mem_ready.2 ⟨?_, _, ho, fun e he hb => ?_⟩
    · have : i < listed.size := by omega
      have h2 := hi.2
      simp [this] at h2 ⊢
      exact h2
    · have hlt := ok.back i _ ho e he hb
      cases hq : listed.getD e.on false with
      | true => rfl
      | false =>
        have hm := (hL e.on).2 ⟨by omega, hq⟩
        rcases List.mem_cons.1 hm with h | h
        · omega
        · have := List.rel_of_pairwise_cons hp h
          omega
  induction fuel with
  | zero =>
    intro listed L a w hsz hL hp hlen hcl h
    obtain rfl : L = [] := List.eq_nil_of_length_eq_zero (by omega)
    refine ⟨?_, hR _ _ h⟩
    cases hr : Region.ready .any ops listed with
    | nil => rfl
    | cons i r =>
      have := (inL hsz hL (i := i) (by rw [hr]; simp)).1
      simp at this
  | succ fuel ih =>
    intro listed L a w hsz hL hp hlen hcl h
    refine ⟨fun hr => ?_, fun i hi => ?_⟩
    · cases L with
      | nil => exact hR _ _ h
      | cons i L =>
        have := rdy hsz hL hp
        rw [hr] at this
        simp at this
    · obtain ⟨hiL, o, ho, hre⟩ := inL hsz hL hi
      obtain ⟨pre, post, rfl⟩ := List.append_of_mem hiL
      have hpi : ∀ j ∈ pre, j < i := fun j hj => (List.pairwise_append.1 hp).2.2 j hj i (by simp)
      have his : i < ops.size := (Array.getElem?_eq_some_iff.1 ho).1
      have hc : ∀ j ∈ pre, C j i := fun j hj => by
        rcases ok.comm j i (hpi j hj) his with hb | hb
        · have h1 := ok.listed hcl i o ho hre j hb
          have h2 := ((hL j).1 (by simp [hj])).2
          rw [h1] at h2
          simp at h2
        · exact hb
      refine sOp_wpOp (sOp_mono (fun a' w' hh => ?_) (hmove pre i post a w hc h))
      have hnd : (pre ++ i :: post).Nodup := hp.imp (fun h => by omega)
      refine ih _ (pre ++ post) a' w' (by simpa using hsz) (fun k => ?_) ?_ (by simp at hlen ⊢; omega) (fun k o' ho' hk e he hb => ?_) hh
      · have hk := hL k
        by_cases hki : k = i
        · subst hki
          have : k < listed.size := by omega
          have hn : k ∉ pre ++ post := by
            obtain ⟨_, n2, n3⟩ := List.nodup_append.1 hnd
            intro hm
            rcases List.mem_append.1 hm with hm | hm
            · exact n3 k hm k (by simp) rfl
            · exact (List.nodup_cons.1 n2).1 hm
          simp [this]
          simpa using hn
        · rw [getD_set_ne false (Ne.symm hki), ← hk]
          simp only [List.mem_append, List.mem_cons]
          constructor
          · rintro (h | h)
            · exact .inl h
            · exact .inr (.inr h)
          · rintro (h | h | h)
            · exact .inl h
            · exact absurd h hki
            · exact .inr h
      · obtain ⟨h1, h2, h3⟩ := List.pairwise_append.1 hp
        exact List.pairwise_append.2 ⟨h1, (List.pairwise_cons.1 h2).2, fun x hx y hy => h3 x hx y (by simp [hy])⟩
      · by_cases hki : k = i
        · subst hki
          have : o' = o := by rw [ho] at ho'; exact (Option.some.inj ho').symm
          subst this
          exact getD_set_true (hre e he hb)
        · rw [getD_set_ne false (Ne.symm hki)] at hk
          exact getD_set_true (hcl k o' ho' hk e he hb)
/-- Operations of whose operands something must be known. -/
def asksGood (o : Oper) : Bool :=
  match o.op with
  | .binOp .. | .unOp .. | .convert .. => true
  | _ => false
theorem good_of_not {o : Oper} (h : asksGood o = false) (a : Act) : Good a o = true := by
  obtain ⟨d, op, ty, pos, after, guard⟩ := o
  cases op <;> first | rfl | (simp [asksGood] at h)

/-- At the end: the operands of what ran were good. -/
def fineB (ops : Array Oper) (l : List Oper) (a : Act) : Bool := l.all fun o => !asksGood o || !Region.wanted o (yielded ops a.tmps) || Good a o

theorem fine_cons {l : List Oper} {o : Oper} {a : Act} (h1 : (!asksGood o || !Region.wanted o (yielded ops a.tmps) || Good a o) = true) (h2 : fineB ops l a = true) : fineB ops (o :: l) a = true := by
  unfold fineB at *
  rw [List.all_cons, h1, h2]
  rfl
theorem flat_bytes (d : List UInt8) : flatV (.agg (Lib.byteCells d).toArray) = true := by
  have : (Lib.byteCells d).toArray.all scalarV = true := by
    rw [List.all_toArray, List.all_eq_true]
    intro v hv
    simp only [Lib.byteCells, List.mem_map] at hv
    obtain ⟨c, _, rfl⟩ := hv
    rfl
  unfold flatV
  rw [Bool.or_eq_true]
  exact .inr this
/-- Two rows of bytes compared. -/
theorem fine_bytes {o : Oper} {a : Act} {op : BinOp} {t r : TypeId} {x y : Operand} (hop : o.op = .binOp op t x y r) {d e : List UInt8} (hx : a.eval x = .agg (Lib.byteCells d).toArray) (hy : a.eval y = .agg (Lib.byteCells e).toArray) :
    (!asksGood o || !Region.wanted o (yielded ops a.tmps) || Good a o) = true := by
  have : Good a o = true := by simp [Good, hop, hx, hy, flat_bytes]
  simp [this]

/-- The post of a region that is walked in the order of its text. -/
def TextQ (Q : Exit → Act → World → Prop) (ops : Array Oper) (l : List Oper) : Exit → Act → World → Prop
  | .normal, a, w => Q .normal a w ∧ fineB ops l a = true
  | _, _, _ => False

theorem TextQ.mk {Q : Exit → Act → World → Prop} {l : List Oper} {a : Act} {w : World} (h : Q .normal a w) (hf : fineB ops l a = true) : TextQ Q ops l .normal a w := ⟨h, hf⟩
theorem TextQ.out {Q : Exit → Act → World → Prop} {l : List Oper} : ¬ LetsOut (TextQ Q ops l) := fun ⟨_, _, h⟩ => h

/-- One step of a list, its end plain. -/
theorem wpList_first {Q : Exit → Act → World → Prop} {l : List Oper} {o : Oper} {rest : List Oper} {a : Act} {w : World} (h : wpList P ops (TextQ Q ops l) (o :: rest) a w) :
    if Region.wanted o (yielded ops a.tmps) = true then o.wp P a w (wpList P ops (TextQ Q ops l) rest) NoQ else wpList P ops (TextQ Q ops l) rest (a.put o.dst undef) w := by
  unfold wpList at h
  split
  · rename_i hw
    rw [if_pos hw] at h
    rcases h with h | ⟨_, h⟩
    · unfold Oper.wp at h ⊢
      generalize (execOp a.eval o).run P w = r at h ⊢
      cases r with
      | ok n w' =>
        cases n <;> simp only [Oper.upon] at h ⊢
        case value => exact h
        case skip => exact h
        case defer => exact h
        case enter => exact Calls.mono h fun e w'' he => (by
          cases e with
          | returned v => exact he
          | panicked c => exact he.elim
          | outgrown => exact absurd he TextQ.out)
        case row => exact h
      | halt x w' => cases x <;> exact h.elim
    · exact absurd h TextQ.out
  · rename_i hw
    rw [if_neg hw] at h
    exact h

/-- .. and it has one. -/
theorem wpList_exists {Q : Exit → Act → World → Prop} {l : List Oper} {o : Oper} {rest : List Oper} {a : Act} {w : World} (h : wpList P ops (TextQ Q ops l) (o :: rest) a w) :
    ∃ (b : Act) (v : Value) (w' : World), b.tmps = a.tmps ∧ wpList P ops (TextQ Q ops l) rest (b.put o.dst v) w' := by
  have h1 := wpList_first h
  split at h1
  · unfold Oper.wp at h1
    generalize (execOp a.eval o).run P w = r at h1
    cases r with
    | ok n w' =>
      cases n <;> simp only [Oper.upon] at h1
      case value u => exact ⟨a, u, w', rfl, h1⟩
      case skip => exact ⟨a, undef, w', rfl, h1⟩
      case defer d => exact ⟨{ a with defers := d :: a.defers }, undef, w', rfl, h1⟩
      case enter f args =>
        obtain ⟨e, w'', fr, hR, _⟩ := h1 []
        cases e with
        | returned v => exact ⟨a, v, w'', rfl, hR⟩
        | panicked c => exact hR.elim
        | outgrown => obtain ⟨_, _, hq⟩ := hR; exact hq.elim
      case row row args =>
        obtain ⟨v, w'', hR, _⟩ := h1 default []
        exact ⟨a, v, w'', rfl, hR⟩
      all_goals exact h1.elim
    | halt x w' => cases x <;> exact h1.elim
  · exact ⟨a, undef, w, rfl, h1⟩

/-- What is seen of an operation's operands at the end was so all along. -/
theorem wpList_sees {Q : Exit → Act → World → Prop} {l : List Oper} (o : Oper) : ∀ (rest : List Oper) (a : Act) (w : World), (∀ o' ∈ rest, ∀ d, o'.dst = some d → d ∉ o.looksAt ops) → wpList P ops (TextQ Q ops l) rest a w →
    ∃ (b : Act) (w' : World), TextQ Q ops l .normal b w' ∧ Good b o = Good a o ∧ Region.wanted o (yielded ops b.tmps) = Region.wanted o (yielded ops a.tmps)
  | [], a, w, _, h => ⟨a, w, h, rfl, rfl⟩
  | o' :: rest, a, w, hst, h => by
    obtain ⟨b, v, w', hb, h1⟩ := wpList_exists h
    obtain ⟨c, w2, hq, h2, h3⟩ := wpList_sees o rest (b.put o'.dst v) w' (fun x hx => hst x (by simp [hx])) h1
    refine ⟨c, w2, hq, ?_, ?_⟩
    · rw [h2, good_put (ops := ops) o b o'.dst v (hst o' (by simp)), good_tmps hb]
    · rw [h3, wanted_put o b o'.dst v (hst o' (by simp)), hb]

/-- From the walk in the text's order to the operations one behind the other. -/
theorem sL_of_list {Q : Exit → Act → World → Prop} {l : List Oper} : ∀ (rest : List Oper) (k : Nat) (a : Act) (w : World), (∀ j, rest[j]? = ops[k + j]?) → (∀ o ∈ rest, o ∈ l) →
    (∀ (i j : Nat) (oi oj : Oper), rest[i]? = some oi → rest[j]? = some oj → i ≤ j → asksGood oi = true → ∀ d, oj.dst = some d → d ∉ oi.looksAt ops) →
    wpList P ops (TextQ Q ops l) rest a w → sL P ops (fun a w => Q .normal a w) (List.range' k rest.length) a w
  | [], _, _, _, _, _, _, h => h.1
  | o :: rest, k, a, w, hk, hl, hst, h => by
    have h0 : ops[k]? = some o := by simpa using (hk 0).symm
    have ih : ∀ a w, wpList P ops (TextQ Q ops l) rest a w → sL P ops (fun a w => Q .normal a w) (List.range' (k + 1) rest.length) a w := fun a w hh =>
      sL_of_list rest (k + 1) a w (fun j => by have := hk (j + 1); simpa [Nat.add_assoc, Nat.add_comm 1 j] using this) (fun x hx => hl x (by simp [hx]))
        (fun i j oi oj hi hj hij => hst (i + 1) (j + 1) oi oj (by simpa using hi) (by simpa using hj) (by omega)) hh
    rw [List.length_cons, List.range'_succ]
    show sOp P ops k (sL P ops _ _) a w
    have h1 := wpList_first h
    unfold sOp
    simp only [h0]
    by_cases hw : Region.wanted o (yielded ops a.tmps) = true
    · rw [if_pos hw] at h1 ⊢
      refine ⟨?_, Oper.wp_mono ih h1⟩
      cases hag : asksGood o with
      | false => exact good_of_not hag a
      | true =>
        obtain ⟨b, v, w', hb, h2⟩ := wpList_exists h
        have hd : ∀ d, o.dst = some d → d ∉ o.looksAt ops := hst 0 0 o o rfl rfl (Nat.le_refl _) hag
        obtain ⟨c, w2, hq, h3, h4⟩ := wpList_sees o rest (b.put o.dst v) w' (fun o' ho' d hd' => by
          obtain ⟨j, hj⟩ := List.mem_iff_getElem?.1 ho'
          exact hst 0 (j + 1) o o' rfl (by simpa using hj) (by omega) hag d hd') h2
        have hfin := List.all_eq_true.1 hq.2 o (hl o (by simp))
        rw [h4, wanted_put o b o.dst v hd, hb, h3, good_put (ops := ops) o b o.dst v hd, good_tmps hb, hw, hag] at hfin
        simpa using hfin
    · rw [if_neg hw] at h1 ⊢
      exact ih _ _ h1

/-- The whole look at a region's text. -/
def textB (P : Program) (ops : Array Oper) (B : List Nat) : Bool :=
  Region.noSelect ops &&
  (List.range ops.size).all (fun i => match ops[i]? with
    | none => true
    | some o => o.after.all (fun e => !Region.binds .any e || decide (e.on < i)) &&
      (List.range i).all (fun j => (bitB B i j && o.after.any (fun e => Region.binds .any e && (e.on == j || bitB B e.on j))) || (!bitB B i j && commB P ops j i)) &&
      decide (B.getD i 0 < 2 ^ i) &&
      (!asksGood o || (List.range ops.size).all (fun j => decide (j < i) || match ops[j]? with
        | none => true
        | some oj => match oj.dst with | none => true | some d => !(o.looksAt ops).contains d)))

theorem textB_ok {B : List Nat} (h : textB P ops B = true) : TextOk (fun j i => commB P ops j i = true) ops B ∧ ∀ (i j : Nat) (oi oj : Oper), ops[i]? = some oi → ops[j]? = some oj → i ≤ j → asksGood oi = true → ∀ d, oj.dst = some d → d ∉ oi.looksAt ops := by
  unfold textB at h
  rw [Bool.and_eq_true] at h
  obtain ⟨hsel, h⟩ := h
  have row : ∀ (i : Nat) (o : Oper), ops[i]? = some o → _ := fun i o ho => by
    have := List.all_eq_true.1 h i (by simpa using (Array.getElem?_eq_some_iff.1 ho).1)
    simp only [ho, Bool.and_eq_true, decide_eq_true_eq] at this
    exact this
  refine ⟨⟨Region.noSelect_spec hsel, fun i o ho e he hb => ?_, fun i o ho j hbit => ?_, fun j i hji his => ?_⟩, fun i j oi oj hi hj hij hag d hd => ?_⟩
  · have := Array.all_eq_true_iff_forall_mem.1 (row i o ho).1.1.1 e he
    simpa [hb] using this
  · have hlt : j < i := by
      rcases Nat.lt_or_ge j i with hlt | hge
      · exact hlt
      · have hB := (row i o ho).1.2
        have : (B.getD i 0).testBit j = false := Nat.testBit_lt_two_pow (Nat.lt_of_lt_of_le hB (Nat.pow_le_pow_right (by decide) hge))
        unfold bitB at hbit
        rw [this] at hbit
        simp at hbit
    have := List.all_eq_true.1 (row i o ho).1.1.2 j (by simpa using hlt)
    simp only [hbit, Bool.true_and, Bool.not_true, Bool.false_and, Bool.or_false] at this
    obtain ⟨e, he, h1⟩ := Array.any_eq_true'.1 this
    simp only [Bool.and_eq_true, Bool.or_eq_true, beq_iff_eq] at h1
    exact ⟨e, he, h1.1, h1.2⟩
  · have ho : ops[i]? = some ops[i] := Array.getElem?_eq_getElem his
    have := List.all_eq_true.1 (row i _ ho).1.1.2 j (by simpa using hji)
    cases hb : bitB B i j with
    | true => exact .inl rfl
    | false =>
      simp only [hb, Bool.false_and, Bool.not_false, Bool.true_and, Bool.false_or] at this
      exact .inr this
  · have h1 := (row i oi hi).2
    rw [hag] at h1
    simp only [Bool.not_true, Bool.false_or] at h1
    have h2 := List.all_eq_true.1 h1 j (by simpa using (Array.getElem?_eq_some_iff.1 hj).1)
    simp only [hj, hd, Bool.or_eq_true, decide_eq_true_eq] at h2
    rcases h2 with h2 | h2
    · omega
    · simpa using h2

/-- Which operations each waits for, through others too. -/
def waitsFor (ops : List Oper) : List Nat :=
  ops.foldl (fun acc o => acc ++ [o.after.foldl (fun s e => if Region.binds .any e then s ||| (2 ^ e.on) ||| acc.getD e.on 0 else s) 0]) []

/-- A REGION THAT DRAWS ITS ORDER, WALKED IN THE ORDER OF ITS TEXT. -/
theorem wp_region_text {id : Nat} {Q : Exit → Act → World → Prop} {a : Act} {w : World} {l : List Oper} (hm : P.follows .mixedOrders = true) (hB : textB P l.toArray (waitsFor l) = true)
    (h : wpList P l.toArray (TextQ Q l.toArray l) l a w.drew) : (Code.region id l.toArray true).wp P Q a w := by
  obtain ⟨ok, hst⟩ := textB_ok hB
  refine wp_region_any hm ?_
  have hs := sL_of_list (P := P) (ops := l.toArray) (Q := Q) l 0 a w.drew (by simp) (fun o ho => ho) (fun i j oi oj hi hj => hst i j oi oj (by simpa using hi) (by simpa using hj)) h
  refine wpAny_text ok (R := sL P l.toArray (fun a w => Q .normal a w)) (fun _ _ h => h) (fun pre i post a w hc h => sL_move ok.sel pre a w hc h) _ _ (List.range' 0 l.length) a _ (by simp) (fun i => ?_) (List.pairwise_lt_range' ..) (by simp) (fun k o _ hk => ?_) hs
  · by_cases hi : i < l.length <;> simp [List.mem_range'_1, hi]
  · by_cases hi : k < l.length <;> simp [hi] at hk
end order

end Go.Proofs.Ytmogkiacakkmbaa
