/- A region that draws its order, walked in the order of the text: if every two of its operations that Go leaves unordered commute (by a static look at the operations, and a look at the values that they met), the walk of the text's order serves every order. No program in sight. -/
import Derived.WalkKit
import Derived.Orders
set_option linter.all false
namespace Go.Proofs.YtfilokdleehklaaDoor.Ord
open Go

/-- Where it yields, it leaves the world alone, and it yields the same in every world. -/
def Calm (P : Program) (s : Sem Next) : Prop := ∀ w n w', s.run P w = .ok n w' → w' = w ∧ (∃ v, n = .value v) ∧ ∀ w2, s.run P w2 = .ok n w2
/-- Where it yields, it leaves the world alone. -/
def Reads (P : Program) (s : Sem Next) : Prop := ∀ w n w', s.run P w = .ok n w' → w' = w ∧ ∃ v, n = .value v

/-- Where it yields, it leaves the world alone, and it yields the same in every world. -/
def CalmV {α : Type} (P : Program) (s : Sem α) : Prop := ∀ w a w', s.run P w = .ok a w' → w' = w ∧ ∀ w2, s.run P w2 = .ok a w2
def ReadsV {α : Type} (P : Program) (s : Sem α) : Prop := ∀ w a w', s.run P w = .ok a w' → w' = w

section
variable {P : Program} {α β : Type}
theorem calm_pure (a : α) : CalmV P (pure a : Sem α) := by
  intro w b w' h
  simp at h
  obtain ⟨rfl, rfl⟩ := h
  simp
theorem calm_bind {s : Sem α} {f : α → Sem β} (hs : CalmV P s) (hf : ∀ a, CalmV P (f a)) : CalmV P (s >>= f) := by
  intro w b w' h
  rw [Sem.run_bind] at h
  cases hr : s.run P w with
  | halt x w1 => rw [hr] at h; cases h
  | ok a w1 =>
    rw [hr] at h
    simp only [Result.andThen_ok] at h
    obtain ⟨rfl, h2⟩ := hs w a w1 hr
    obtain ⟨rfl, h3⟩ := hf a _ b w' h
    exact ⟨rfl, fun w2 => by rw [Sem.run_bind, h2 w2]; exact h3 w2⟩
theorem calm_halts {s : Sem α} (h : ∀ w a w', s.run P w ≠ .ok a w') : CalmV P s := fun w a w' e => absurd e (h w a w')
theorem calm_halt (x : Halt) : CalmV P (Sem.halt x : Sem α) := by
  intro w a w' h
  cases h
theorem calm_stuck (x : String) : CalmV P (stuck x : Sem α) := calm_halt _
theorem calm_unsupported (x : Unsupported) : CalmV P (unsupported x : Sem α) := calm_halt _
theorem calm_program : CalmV P program := by
  intro w a w' h
  simp [program, Sem.run] at h
  obtain ⟨rfl, rfl⟩ := h
  exact ⟨rfl, fun w2 => rfl⟩
theorem calm_ite {c : Prop} [Decidable c] {x y : Sem α} (hx : CalmV P x) (hy : CalmV P y) : CalmV P (if c then x else y) := by
  split
  · exact hx
  · exact hy
theorem calm_underlying (t : TypeId) : CalmV P (underlying t) := by
  unfold underlying
  refine calm_bind calm_program fun p => ?_
  split
  · exact calm_pure _
  · exact calm_stuck _
theorem calm_typeInfo (t : TypeId) : CalmV P (typeInfo t) := by
  unfold typeInfo
  refine calm_bind calm_program fun p => ?_
  split
  · exact calm_pure _
  · exact calm_stuck _
theorem calm_sizeOf (t : TypeId) : CalmV P (sizeOf t) := by
  unfold sizeOf
  exact calm_bind (calm_typeInfo t) fun _ => calm_pure _
theorem calm_isAgg (t : TypeId) : CalmV P (isAgg t) := by
  unfold isAgg
  refine calm_bind (calm_underlying t) fun d => ?_
  split <;> exact calm_pure _
theorem panic_no (e : RuntimeError) (w : World) (a : α) (w' : World) : (runtimePanic e : Sem α).run P w ≠ .ok a w' := by
  unfold runtimePanic
  simp only [Sem.run_bind]
  intro h
  cases hp : program.run P w with
  | halt x w1 => rw [hp] at h; cases h
  | ok p w1 =>
    rw [hp] at h
    simp only [Result.andThen_ok] at h
    cases e <;> simp only [goPanic, Sem.run_bind, Sem.run_halt] at h <;> first
      | cases h
      | (generalize hq : Sem.run P _ w1 = r at h
         cases r with
         | halt x w2 => cases h
         | ok q w2 =>
           simp only [Result.andThen_ok] at h
           first
             | cases h
             | (generalize hq' : Sem.run P _ w2 = r at h
                cases r with
                | halt x w3 => cases h
                | ok q w3 => cases h))
theorem calm_panic (e : RuntimeError) : CalmV P (runtimePanic e : Sem α) := calm_halts (panic_no e)
theorem calm_bounds (k : IntKind) (x y : Int) (c : BoundsCode) : CalmV P (boundsPanic k x y c : Sem α) := by
  apply calm_halts
  intro w a w' h
  unfold boundsPanic at h
  dsimp only at h
  split at h
  all_goals
    rw [Sem.run_bind] at h
    generalize Sem.run P _ w = r at h
    cases r with
    | halt x w1 => cases h
    | ok q w1 =>
      rw [Result.andThen_ok] at h
      exact panic_no _ _ _ _ h
theorem calm_asIntOf (v : Value) : CalmV P (asIntOf v) := by
  unfold asIntOf
  split
  · exact calm_pure _
  · exact calm_unsupported _
  · exact calm_stuck _
theorem calm_asBool (v : Value) : CalmV P (asBool v) := by
  unfold asBool
  split
  · exact calm_pure _
  · exact calm_stuck _
theorem calm_sureAddr (v : Value) : CalmV P (Instr.sureAddr v) := by
  unfold Instr.sureAddr
  split
  · exact calm_pure _
  · exact calm_stuck _
theorem calm_part (t : TypeId) (cs : Array Value) (off : Nat) : CalmV P (part t cs off) := by
  unfold part
  refine calm_bind (calm_isAgg t) fun b => ?_
  cases b
  · simp only [Bool.false_eq_true, if_false]
    split
    · exact calm_pure _
    · exact calm_stuck _
  · simp only [if_true]
    exact calm_bind (calm_sizeOf t) fun _ => calm_pure _
theorem calm_index (t : TypeId) (x i : Value) : CalmV P (Instr.index t x i) := by
  unfold Instr.index
  refine calm_bind (calm_asIntOf i) fun ki => ?_
  obtain ⟨k, n⟩ := ki
  refine calm_bind (calm_underlying t) fun d => ?_
  split
  · refine calm_ite ?_ (calm_bounds _ _ _ _)
    exact calm_bind (calm_sizeOf _) fun _ => calm_part _ _ _
  · split
    · exact calm_pure _
    · exact calm_bounds _ _ _ _
  · exact calm_stuck _
theorem calm_indexAt (t : TypeId) (x i : Value) : CalmV P (Instr.indexAt t x i) := by
  unfold Instr.indexAt
  refine calm_bind (calm_asIntOf i) fun ki => ?_
  obtain ⟨k, n⟩ := ki
  refine calm_bind (calm_underlying t) fun d => ?_
  have key : ∀ r : Option Addr × Nat × TypeId, CalmV P (do
        let u ← underlying t
        match r.fst with
        | some a =>
          if 0 ≤ n ∧ n < r.snd.fst then pure (.pointer (some (a.add (n.toNat * (← sizeOf r.snd.snd)))))
          else if (decide (r.snd.fst ≤ 1) && (match u with | .array .. => true | _ => false)) = true then unsupported (.noEntry "op/indexAddr.an index out of range at an array of length 0 or 1 (ledger 616)")
          else boundsPanic k n r.snd.fst .index
        | none => boundsPanic k n 0 .index : Sem Value) := by
    rintro ⟨base, len, elem⟩
    refine calm_bind (calm_underlying t) fun d2 => ?_
    dsimp only
    cases base with
    | none => exact calm_bounds _ _ _ _
    | some a =>
      refine calm_ite ?_ (calm_ite (calm_unsupported _) (calm_bounds _ _ _ _))
      exact calm_bind (calm_sizeOf _) fun _ => calm_pure _
  dsimp only
  split
  · exact calm_bind (calm_sureAddr _) fun _ => calm_bind (calm_pure _) fun r => key r
  · exact calm_bind (calm_pure _) fun r => key r
  · exact calm_bind (calm_stuck _) fun r => key r
theorem calm_sliceBound (x : Value) (y : Nat) (c : BoundsCode) : CalmV P (Instr.sliceBound x y c) := by
  unfold Instr.sliceBound
  refine calm_bind (calm_asIntOf x) fun ki => ?_
  obtain ⟨k, n⟩ := ki
  exact calm_ite (calm_pure _) (calm_bounds _ _ _ _)
theorem calm_sliceBounds (b : Bool) (len cap : Nat) (lo hi mx : Option Value) : CalmV P (Instr.sliceBounds b len cap lo hi mx) := by
  unfold Instr.sliceBounds
  dsimp only
  cases mx <;> cases hi <;> cases lo <;> dsimp only <;>
    repeat (first | exact calm_pure _ | exact calm_stuck _ | exact calm_sliceBound _ _ _ | refine calm_bind ?_ fun _ => ?_)
theorem calm_asAddr (v : Value) : CalmV P (asAddr v) := by
  unfold asAddr
  split
  · exact calm_pure _
  · exact calm_panic _
  · exact calm_stuck _
theorem calm_slice (t : TypeId) (x : Value) (lo hi mx : Option Value) : CalmV P (Instr.slice t x lo hi mx) := by
  unfold Instr.slice
  refine calm_bind (calm_underlying t) fun d => ?_
  split
  · dsimp only
    split <;> repeat (first | exact calm_pure _ | exact calm_stuck _ | exact calm_sliceBounds _ _ _ _ _ _ | refine calm_bind ?_ fun _ => ?_)
  · exact calm_bind (calm_sliceBounds _ _ _ _ _ _) fun _ => calm_bind (calm_sizeOf _) fun _ => calm_pure _
  · refine calm_bind (calm_asAddr _) fun _ => calm_bind (calm_underlying _) fun d => ?_
    split
    · exact calm_bind (calm_sliceBounds _ _ _ _ _ _) fun _ => calm_bind (calm_sizeOf _) fun _ => calm_pure _
    · exact calm_stuck _
  · exact calm_stuck _
theorem calm_sliceAt (t : TypeId) (x : Value) (lo hi mx : Option Value) : CalmV P (Instr.sliceAt t x lo hi mx) := by
  unfold Instr.sliceAt
  refine calm_bind (calm_underlying t) fun d => ?_
  split
  · refine calm_bind (calm_sureAddr _) fun _ => ?_
    exact calm_bind (calm_sliceBounds _ _ _ _ _ _) fun _ => calm_bind (calm_sizeOf _) fun _ => calm_pure _
  · exact calm_slice _ _ _ _ _
theorem calm_extract (t : Value) (i : Nat) : CalmV P (Instr.extract t i) := by
  unfold Instr.extract
  split
  · split
    · exact calm_pure _
    · exact calm_stuck _
  · exact calm_stuck _
theorem calm_intArith (op : BinOp) (k : IntKind) (x y : Int) : CalmV P (Op.intArith op k x y) := by
  unfold Op.intArith
  split <;> first | exact calm_pure _ | exact calm_stuck _
theorem calm_intBits (op : BinOp) (k : IntKind) (x y : Int) : CalmV P (Op.intBits op k x y) := by
  unfold Op.intBits
  dsimp only
  split <;> first | exact calm_pure _ | exact calm_stuck _
theorem calm_intCmp (op : BinOp) (x y : Int) : CalmV P (Op.intCmp op x y) := by
  unfold Op.intCmp
  split <;> first | exact calm_pure _ | exact calm_stuck _
theorem calm_intDiv (op : BinOp) (k : IntKind) (x y : Int) : CalmV P (Op.intDiv op k x y) := by
  unfold Op.intDiv
  refine calm_ite (calm_panic _) ?_
  split <;> first | exact calm_pure _ | exact calm_stuck _
theorem calm_shift (op : BinOp) (k : IntKind) (x : Int) (k' : IntKind) (y : Int) : CalmV P (Op.shift op k x k' y) := by
  unfold Op.shift
  refine calm_ite (calm_panic _) ?_
  dsimp only
  split <;> first | exact calm_pure _ | exact calm_stuck _
theorem calm_stringOp (op : BinOp) (x y : ByteArray) : CalmV P (Op.stringOp op x y) := by
  unfold Op.stringOp
  dsimp only
  split <;> first | exact calm_pure _ | exact calm_stuck _ | exact calm_ite (calm_unsupported _) (calm_pure _)
theorem calm_unary (op : UnOp) (x : Value) : CalmV P (Op.unary op x) := by
  unfold Op.unary
  split <;> first | exact calm_pure _ | exact calm_stuck _ | exact calm_unsupported _ | exact calm_intArith _ _ _ _ | exact calm_intBits _ _ _ _
theorem calm_binInt (op : BinOp) (t : TypeId) (k : IntKind) (x : Int) (k' : IntKind) (y : Int) : CalmV P (binOp op t (.int k x) (.int k' y)) := by
  unfold binOp
  cases op <;> dsimp only
  all_goals first
    | exact calm_shift _ _ _ _ _
    | (refine calm_ite (calm_stuck _) ?_; first | exact calm_intArith _ _ _ _ | exact calm_intBits _ _ _ _ | exact calm_intDiv _ _ _ _ | exact calm_intCmp _ _ _)
theorem calm_binStr (op : BinOp) (t : TypeId) (x y : ByteArray) : CalmV P (binOp op t (.string x) (.string y)) := by
  unfold binOp
  cases op <;> dsimp only <;> exact calm_stringOp _ _ _
theorem calm_guardInt (op : BinOp) (t : TypeId) (x y : Operand) (k : IntKind) (m : Int) (k' : IntKind) (n : Int) : CalmV P (eqGuard op t x y (.int k m) (.int k' n)) := by
  unfold eqGuard
  dsimp only
  split <;> first | exact calm_pure _ | exact calm_ite (calm_pure _) (calm_pure _)
theorem calm_guardStr (op : BinOp) (t : TypeId) (x y : Operand) (m n : ByteArray) : CalmV P (eqGuard op t x y (.string m) (.string n)) := by
  unfold eqGuard
  dsimp only
  split <;> first | exact calm_pure _ | exact calm_ite (calm_pure _) (calm_pure _)

theorem reads_bind {s : Sem α} {f : α → Sem β} (hs : ReadsV P s) (hf : ∀ a, ReadsV P (f a)) : ReadsV P (s >>= f) := by
  intro w b w' h
  rw [Sem.run_bind] at h
  cases hr : s.run P w with
  | halt x w1 => rw [hr] at h; cases h
  | ok a w1 =>
    rw [hr] at h
    simp only [Result.andThen_ok] at h
    have := hs w a w1 hr
    subst this
    exact hf a _ b w' h
theorem CalmV.reads {s : Sem α} (h : CalmV P s) : ReadsV P s := fun w a w' e => (h w a w' e).1
theorem reads_load (a : Addr) (m : Mode) : ReadsV P (load a m) := by
  intro w v w' h
  rw [run_load] at h
  split at h
  · cases h; rfl
  · split at h
    · cases h; rfl
    · cases h
theorem reads_loadCellsFrom (a : Addr) (n : Nat) : ∀ i acc, ReadsV P (loadCellsFrom a i n acc) := by
  induction n with
  | zero => intro i acc; exact (calm_pure _).reads
  | succ n ih => intro i acc; exact reads_bind (reads_load _ _) fun v => ih _ _
theorem reads_loadVar (t : TypeId) (a : Addr) : ReadsV P (loadVar t a) := by
  unfold loadVar
  refine reads_bind (calm_isAgg t).reads fun b => ?_
  cases b
  · simp only [Bool.false_eq_true, if_false]; exact reads_load _ _
  · simp only [if_true]
    exact reads_bind (calm_sizeOf t).reads fun _ => reads_bind (reads_loadCellsFrom _ _ _ _) fun _ => (calm_pure _).reads
theorem reads_loadAt (t : TypeId) (v : Value) : ReadsV P (Instr.loadAt t v) := by
  unfold Instr.loadAt
  exact reads_bind (calm_sureAddr v).reads fun a => reads_loadVar t a
theorem calm_fieldAt (s : TypeId) (v : Value) (f : Nat) (hs : ∀ fs fd i, P.underlying s = some (.struct fs) → fs[f]? = some fd → P.info? fd.type = some i → i.size ≠ 0) : CalmV P (Instr.fieldAt s v f) := by
  unfold Instr.fieldAt
  intro w b w' h
  simp only [underlying, Sem.run_bind, program, Sem.run, Result.andThen_ok] at h
  cases hu : P.underlying s with
  | none => rw [hu] at h; cases h
  | some d =>
    rw [hu] at h
    simp only [Sem.run_pure, Result.andThen_ok] at h
    cases d with
    | struct fs =>
      simp only at h
      cases hf : fs[f]? with
      | none => rw [hf] at h; cases h
      | some fd =>
        rw [hf] at h
        simp only [Sem.run_bind] at h
        cases ha : (Instr.sureAddr v).run P w with
        | halt x w1 => rw [ha] at h; cases h
        | ok a w1 =>
          rw [ha] at h
          obtain ⟨rfl, ha2⟩ := calm_sureAddr v w a w1 ha
          simp only [Result.andThen_ok, fieldPlace, sizeOf, typeInfo, Sem.run_bind, program, Sem.run] at h
          cases hi : P.info? fd.type with
          | none => rw [hi] at h; cases h
          | some i =>
            rw [hi] at h
            have hz := hs fs fd i hu hf hi
            simp only [Sem.run_pure, Result.andThen_ok, hz, if_false] at h
            cases h
            refine ⟨rfl, fun w2 => ?_⟩
            simp only [underlying, Sem.run_bind, program, Sem.run, Result.andThen_ok, hu, Sem.run_pure, hf, ha2 w2, fieldPlace, sizeOf, typeInfo, hi, hz, if_false]
    | _ => cases h
end

/-! ### The classes -/
inductive Cls where
  | calm
  | asks
  | reads
  | other
  deriving DecidableEq

def fieldFine (P : Program) (s : TypeId) (f : Nat) : Bool :=
  match P.underlying s with
  | some (.struct fs) =>
    match fs[f]? with
    | some fd =>
      match P.info? fd.type with
      | some i => i.size != 0
      | none => true
    | none => true
  | _ => true

def convFine (P : Program) (s d : TypeId) : Bool :=
  match P.underlying s, P.underlying d with
  | some (.int _), some (.int _) => true
  | _, _ => false

def binFine (P : Program) (t : TypeId) : Bool :=
  match P.underlying t with
  | some (.int _) => true
  | some .string => true
  | _ => false

def clsOf (P : Program) : Op → Cls
  | .move _ | .assign _ | .extract _ _ | .index _ _ _ | .indexAddr _ _ _ | .slice _ _ _ _ _ | .unOp _ _ _ | .pick _ _ _ => .calm
  | .fieldAddr s _ f => if fieldFine P s f then .calm else .other
  | .nilCheck _ => .asks
  | .binOp _ t _ _ _ => if binFine P t then .asks else .other
  | .convert s d _ => if convFine P s d then .asks else .other
  | .call c =>
    match c.callee with
    | .builtin .len => if c.args.size = 1 then .asks else .other
    | _ => .other
  | .load _ _ => .reads
  | _ => .other

/-- The values that an operation of class 'asks' meets are plain. -/
def metFine (o : Oper) (ρ : Operand → Value) : Bool :=
  match o.op with
  | .binOp _ _ x y _ =>
    match ρ x, ρ y with
    | .int _ _, .int _ _ => true
    | .string _, .string _ => true
    | _, _ => false
  | .convert _ _ x =>
    match ρ x with
    | .int _ _ => true
    | _ => false
  | .nilCheck x =>
    match ρ x with
    | .pointer _ => true
    | _ => false
  | .call c =>
    match c.callee with
    | .builtin .len =>
      match c.args[0]? with
      | some x =>
        match ρ x with
        | .slice _ _ _ => true
        | .string _ => true
        | _ => false
      | none => false
    | _ => true
  | _ => true

section
variable {P : Program}
theorem Calm.value {s : Sem Value} (h : CalmV P s) : Calm P (do pure (.value (← s)) : Sem Next) := by
  intro w n w' hr
  rw [Sem.run_bind] at hr
  cases hs : s.run P w with
  | halt x w1 => rw [hs] at hr; cases hr
  | ok v w1 =>
    rw [hs] at hr
    obtain ⟨rfl, h2⟩ := h w v w1 hs
    cases hr
    exact ⟨rfl, ⟨v, rfl⟩, fun w2 => by rw [Sem.run_bind, h2 w2]; rfl⟩
theorem Reads.value {s : Sem Value} (h : ReadsV P s) : Reads P (do pure (.value (← s)) : Sem Next) := by
  intro w n w' hr
  rw [Sem.run_bind] at hr
  cases hs : s.run P w with
  | halt x w1 => rw [hs] at hr; cases hr
  | ok v w1 =>
    rw [hs] at hr
    have := h w v w1 hs
    subst this
    cases hr
    exact ⟨rfl, v, rfl⟩
theorem calm_pureValue (v : Value) : Calm P (pure (.value v) : Sem Next) := by
  intro w n w' h
  simp at h
  obtain ⟨rfl, rfl⟩ := h
  exact ⟨rfl, ⟨v, rfl⟩, fun w2 => rfl⟩
theorem calm_convertInt (src dst : TypeId) (hf : convFine P src dst = true) (k : IntKind) (n : Int) : CalmV P (convert src dst (.int k n)) := by
  unfold convFine at hf
  split at hf
  · rename_i ks kd hs hd
    intro w b w' h
    simp only [convert, underlying, Sem.run_bind, program, Sem.run, Result.andThen_ok, hs, hd, Sem.run_pure, Conv.intToInt] at h
    cases h
    exact ⟨rfl, fun w2 => by simp only [convert, underlying, Sem.run_bind, program, Sem.run, Result.andThen_ok, hs, hd, Sem.run_pure, Conv.intToInt]⟩
  · cases hf
theorem calm_lenSlice (ts : Array TypeId) (ty : TypeId) (a : Option Addr) (n c : Nat) : CalmV P (Builtin.len_ ts ty #[.slice a n c]) := by
  unfold Builtin.len_
  split
  · refine calm_bind (calm_underlying _) fun d => ?_
    simp_all
    split <;> first
      | exact calm_pure _
      | exact calm_stuck _
      | (refine calm_bind (calm_underlying _) fun d => ?_; split <;> first | exact calm_pure _ | exact calm_stuck _)
      | (rename_i h; exact absurd h.2 (by simp))
  · exact calm_stuck _
theorem calm_lenString (ts : Array TypeId) (ty : TypeId) (s : ByteArray) : CalmV P (Builtin.len_ ts ty #[.string s]) := by
  unfold Builtin.len_
  split
  · refine calm_bind (calm_underlying _) fun d => ?_
    simp_all
    split <;> first
      | exact calm_pure _
      | exact calm_stuck _
      | (refine calm_bind (calm_underlying _) fun d => ?_; split <;> first | exact calm_pure _ | exact calm_stuck _)
      | (rename_i h; exact absurd h.2 (by simp))
  · exact calm_stuck _
theorem Calm.of_eq {s s' : Sem Next} (h : s = s') (hs : Calm P s') : Calm P s := h ▸ hs
theorem calm_of_cls {o : Oper} {ρ : Operand → Value} (h : clsOf P o.op = .calm ∨ (clsOf P o.op = .asks ∧ metFine o ρ = true)) : Calm P (execOp ρ o) := by
  obtain ⟨dst, op, type, pos, after, guard⟩ := o
  cases op <;> simp only [clsOf] at h
  case move x => exact calm_pureValue _
  case assign x => exact calm_pureValue _
  case pick c a b =>
    intro w n w' hr
    simp only [execOp, Sem.run_bind] at hr
    cases hs : (asBool (ρ c)).run P w with
    | halt x w1 => rw [hs] at hr; cases hr
    | ok v w1 =>
      rw [hs] at hr
      obtain ⟨rfl, h2⟩ := calm_asBool (P := P) (ρ c) w v w1 hs
      cases hr
      exact ⟨rfl, ⟨_, rfl⟩, fun w2 => by simp only [execOp, Sem.run_bind, h2 w2]; rfl⟩
  case extract x i => exact Calm.value (calm_extract _ _)
  case index t x i => exact Calm.value (calm_index _ _ _)
  case indexAddr t x i => exact Calm.value (calm_indexAt _ _ _)
  case slice t x l hi mx => exact Calm.value (calm_sliceAt _ _ _ _ _)
  case unOp op t x => exact Calm.value (calm_unary _ _)
  case fieldAddr s x f =>
    refine Calm.value (calm_fieldAt _ _ _ ?_)
    intro fs fd i h1 h2 h3
    have hf : fieldFine P s f = true := by
      rcases h with h | ⟨h, _⟩ <;> split at h <;> first | assumption | cases h
    simp only [fieldFine, h1, h2, h3] at hf
    simpa using hf
  case binOp op t x y t2 =>
    have hm : metFine { dst, op := .binOp op t x y t2, type, pos, after, guard } ρ = true := by
      rcases h with h | ⟨_, h⟩
      · split at h <;> cases h
      · exact h
    simp only [metFine] at hm
    refine Calm.value ?_
    split at hm
    · rename_i h1 h2
      rw [h1, h2]
      exact calm_bind (calm_guardInt _ _ _ _ _ _ _ _) fun _ => calm_binInt _ _ _ _ _ _
    · rename_i h1 h2
      rw [h1, h2]
      exact calm_bind (calm_guardStr _ _ _ _ _ _) fun _ => calm_binStr _ _ _ _
    · cases hm
  case convert s d x =>
    have hm : convFine P s d = true ∧ metFine { dst, op := .convert s d x, type, pos, after, guard } ρ = true := by
      rcases h with h | ⟨h1, h2⟩
      · split at h <;> cases h
      · split at h1
        · exact ⟨by assumption, h2⟩
        · cases h1
    obtain ⟨hc, hm⟩ := hm
    simp only [metFine] at hm
    refine Calm.value ?_
    split at hm
    · rename_i h1
      rw [h1]
      exact calm_convertInt _ _ hc _ _
    · cases hm
  case nilCheck x =>
    have hm : metFine { dst, op := .nilCheck x, type, pos, after, guard } ρ = true := by
      rcases h with h | ⟨_, h⟩
      · cases h
      · exact h
    simp only [metFine] at hm
    split at hm
    · rename_i a h1
      simp only [execOp, h1]
      cases a with
      | none =>
        intro w n w' hr
        exact absurd hr (panic_no _ _ _ _)
      | some a => exact calm_pureValue _
    · cases hm
  case call c =>
    have hm : (∃ x ts, c = { callee := .builtin .len, args := #[x], argTypes := ts }) ∧ metFine { dst, op := .call c, type, pos, after, guard } ρ = true := by
      rcases h with h | ⟨h1, h2⟩
      · split at h
        · split at h <;> cases h
        · cases h
      · split at h1
        · rename_i hc
          split at h1
          · rename_i hs
            obtain ⟨callee, args, ts⟩ := c
            simp only at hc hs
            subst hc
            obtain ⟨x, rfl⟩ : ∃ x, args = #[x] := by
              refine ⟨args[0], ?_⟩
              apply Array.ext
              · simp [hs]
              · intro i hi1 hi2
                have : i = 0 := by omega
                subst this
                rfl
            exact ⟨⟨x, ts, rfl⟩, h2⟩
          · cases h1
        · cases h1
    obtain ⟨⟨x, ts, rfl⟩, hm⟩ := hm
    simp only [metFine, List.getElem?_toArray, List.getElem?_cons_zero] at hm
    have key : ∀ v, ρ x = v → CalmV P (Builtin.len_ ts type #[v]) → Calm P (execOp ρ { dst, op := .call { callee := .builtin .len, args := #[x], argTypes := ts }, type, pos, after, guard }) := by
      intro v hv hc
      refine Calm.of_eq (s' := (do pure (.value (← Builtin.len_ ts type #[v])) : Sem Next)) ?_ (Calm.value hc)
      rw [← hv]
      simp only [BigFrame.execOp_builtin, BigFrame.builtin_len, List.map_toArray, List.map_cons, List.map_nil]
    split at hm
    · exact key _ ‹_› (calm_lenSlice _ _ _ _ _)
    · exact key _ ‹_› (calm_lenString _ _ _)
    · cases hm
  all_goals first
    | (rcases h with h | ⟨h, _⟩ <;> cases h; done)
    | (rcases h with h | ⟨h, _⟩ <;> split at h <;> cases h)
theorem reads_of_cls {o : Oper} {ρ : Operand → Value} (h : clsOf P o.op = .reads) : Reads P (execOp ρ o) := by
  obtain ⟨dst, op, type, pos, after, guard⟩ := o
  cases op <;> simp only [clsOf] at h <;> first
    | exact Reads.value (reads_loadAt _ _)
    | (cases h; done)
    | (split at h <;> first | (cases h; done) | (split at h <;> cases h))
end

/-! ### Operations that commute -/
section
variable {P : Program} {ops : Array Oper} {Q : Exit → Act → World → Prop}

/-- Nothing but the ordinary end is let out. -/
def Only (Q : Exit → Act → World → Prop) : Exit → Act → World → Prop
  | .normal, a, w => Q .normal a w
  | _, _, _ => False

/-- What is known of an operation where it is carried out, besides its weakest condition. -/
def cOp (P : Program) (ops : Array Oper) (Q : Exit → Act → World → Prop) (i : Nat) (K : Act → World → Prop) (a : Act) (w : World) : Prop :=
  (∀ o, ops[i]? = some o → Region.wanted o (yielded ops a.tmps) = true → clsOf P o.op = .calm ∨ clsOf P o.op = .asks → Calm P (execOp a.eval o)) ∧
  wpOp P ops (Only Q) i K a w

theorem cOp_mono {i : Nat} {K K' : Act → World → Prop} {a : Act} {w : World} (h : ∀ a w, K a w → K' a w) (hh : cOp P ops Q i K a w) : cOp P ops Q i K' a w :=
  ⟨hh.1, wpOp_mono h hh.2⟩

theorem only_lets : ¬ LetsOut (Only Q) := fun ⟨_, _, h⟩ => h

/-- An operation that is calm where it stands yields its value in every world. -/
theorem yields_of_calm {o : Oper} {i : Nat} {a : Act} {w : World} {K : Act → World → Prop} (hi : ops[i]? = some o)
    (hc : clsOf P o.op = .calm ∨ clsOf P o.op = .asks) (h : cOp P ops Q i K a w) : ∃ v, Yields P ops o v a ∧ K (a.put o.dst v) w := by
  obtain ⟨h1, h2⟩ := h
  unfold wpOp at h2
  simp only [hi] at h2
  by_cases hw : Region.wanted o (yielded ops a.tmps) = true
  · simp only [hw, if_true] at h2
    have hcalm := h1 o hi hw hc
    rcases h2 with h2 | ⟨_, hl⟩
    · unfold Oper.wp at h2
      cases hr : (execOp a.eval o).run P w with
      | ok n w' =>
        obtain ⟨rfl, ⟨v, rfl⟩, h3⟩ := hcalm w n w' hr
        rw [hr] at h2
        exact ⟨v, .inl ⟨hw, h3⟩, h2⟩
      | halt x w' =>
        rw [hr] at h2
        cases x <;> simp only [Oper.upon] at h2
        case panic u => exact h2.elim
    · exact absurd hl only_lets
  · simp only [hw] at h2
    exact ⟨undef, .inr ⟨by simpa using hw, rfl⟩, h2⟩

theorem calm_of_yields {o : Oper} {v : Value} {a : Act} (hy : Yields P ops o v a) (hw : Region.wanted o (yielded ops a.tmps) = true) : Calm P (execOp a.eval o) := by
  rcases hy with ⟨_, hv⟩ | ⟨hn, _⟩
  · intro w n w' hr
    rw [hv w] at hr
    cases hr
    exact ⟨rfl, ⟨v, rfl⟩, hv⟩
  · rw [hn] at hw; cases hw

/-- (calm, any) -/
theorem comm_calm_any {i j : Nat} {oi oj : Oper} {K : Act → World → Prop} {a : Act} {w : World} (hi : ops[i]? = some oi) (hj : ops[j]? = some oj)
    (hap : oi.apart ops oj = true) (hsi : ∀ cs b, oi.op ≠ .select cs b) (hsj : ∀ cs b, oj.op ≠ .select cs b)
    (hc : clsOf P oi.op = .calm ∨ clsOf P oi.op = .asks) (h : cOp P ops Q i (cOp P ops Q j K) a w) : cOp P ops Q j (cOp P ops Q i K) a w := by
  obtain ⟨v, hy, hj2⟩ := yields_of_calm hi hc h
  obtain ⟨s1, s2, s3⟩ := Oper.apart_spec hap
  refine ⟨fun o ho hw hcl => ?_, ?_⟩
  · obtain rfl : o = oj := by rw [hj] at ho; exact (Option.some.inj ho).symm
    have := hj2.1 o hj (by rw [wanted_put o a oi.dst v s1]; exact hw) hcl
    rwa [execOp_put o hsj a oi.dst v s1] at this
  · have h3 := wpOp_put (Q := Only Q) hj hap hsi hsj (fun c a w hq => hq.elim) hy hj2.2
    refine wpOp_mono ?_ h3
    rintro a' w' ⟨hy', hk⟩
    refine ⟨fun o ho hw hcl => ?_, hy'.wpOp hi hk⟩
    obtain rfl : o = oi := by rw [hi] at ho; exact (Option.some.inj ho).symm
    exact calm_of_yields hy' hw

/-- What an operation comes to: some value, some world, perhaps something deferred. -/
theorem wpOp_out {i : Nat} {o : Oper} {K : Act → World → Prop} {a : Act} {w : World} (hi : ops[i]? = some o) (h : wpOp P ops (Only Q) i K a w) :
    ∃ ds u w', K (({ a with defers := ds } : Act).put o.dst u) w' := by
  unfold wpOp at h
  simp only [hi] at h
  split at h
  · rcases h with h | ⟨_, hl⟩
    · unfold Oper.wp at h
      generalize (execOp a.eval o).run P w = r at h
      cases r with
      | ok n w' =>
        cases n <;> simp only [Oper.upon] at h
        case value u => exact ⟨a.defers, u, w', h⟩
        case skip => exact ⟨a.defers, undef, w', h⟩
        case defer d => exact ⟨d :: a.defers, undef, w', h⟩
        case enter f args =>
          obtain ⟨e, w2, fr, hR, _⟩ := h []
          cases e with
          | returned u => exact ⟨a.defers, u, w2, hR⟩
          | panicked c => exact hR.elim
          | outgrown => exact absurd hR only_lets
        case row row args =>
          obtain ⟨u, w2, hR, _⟩ := h default []
          exact ⟨a.defers, u, w2, hR⟩
      | halt x w' =>
        cases x <;> simp only [Oper.upon] at h
        case panic u => exact h.elim
    · exact absurd hl only_lets
  · exact ⟨a.defers, undef, w, h⟩

/-- The same operation behind a write to a slot that it does not look at. -/
theorem wpOp_move {i : Nat} {o : Oper} {dst : Option Tmp} {v : Value} {K K' : Act → World → Prop} {a : Act} {w : World} (hi : ops[i]? = some o) (hs : ∀ cs b, o.op ≠ .select cs b)
    (hl : ∀ d, dst = some d → d ∉ o.looksAt ops)
    (hk : ∀ ds u w', K (({ a with defers := ds } : Act).put o.dst u) w' → K' (({ a with defers := ds } : Act).put dst v |>.put o.dst u) w')
    (h : wpOp P ops (Only Q) i K a w) : wpOp P ops (Only Q) i K' (a.put dst v) w := by
  unfold wpOp at *
  simp only [hi] at *
  rw [wanted_put o a dst v hl]
  split
  · rename_i hw
    simp only [hw, if_true] at h
    rcases h with h | ⟨_, hlet⟩
    · refine .inl ?_
      unfold Oper.wp at *
      rw [execOp_put o hs a dst v hl]
      generalize (execOp a.eval o).run P w = r at *
      cases r with
      | ok n w' =>
        cases n <;> simp only [Oper.upon] at h ⊢
        case value u => exact hk a.defers u w' h
        case skip => exact hk a.defers undef w' h
        case defer d =>
          have := hk (d :: a.defers) undef w' h
          rw [Act.put_defers]
          exact this
        case enter f args =>
          refine Calls.mono h fun e w2 he => ?_
          cases e with
          | returned u => exact hk a.defers u w2 he
          | panicked c => exact he.elim
          | outgrown => exact absurd he only_lets
        case row row args => exact Rows.mono h fun u w2 he => hk a.defers u w2 he
      | halt x w' =>
        cases x <;> simp only [Oper.upon] at h ⊢
        case panic u => exact h.elim
    · exact absurd hlet only_lets
  · rename_i hw
    simp only [hw] at h
    exact hk a.defers undef w h

/-- (any, calm) -/
theorem comm_any_calm {i j : Nat} {oi oj : Oper} {K : Act → World → Prop} {a : Act} {w : World} (hi : ops[i]? = some oi) (hj : ops[j]? = some oj)
    (hap : oi.apart ops oj = true) (hsi : ∀ cs b, oi.op ≠ .select cs b) (hsj : ∀ cs b, oj.op ≠ .select cs b)
    (hc : clsOf P oj.op = .calm ∨ clsOf P oj.op = .asks) (h : cOp P ops Q i (cOp P ops Q j K) a w) : cOp P ops Q j (cOp P ops Q i K) a w := by
  obtain ⟨s1, s2, s3⟩ := Oper.apart_spec hap
  obtain ⟨ds, u, w', hq⟩ := wpOp_out hi h.2
  obtain ⟨v, hy, _⟩ := yields_of_calm hj hc hq
  have hy0 : Yields P ops oj v a :=
    hy.of_same (show execOp a.eval oj = execOp (({ a with defers := ds } : Act).put oi.dst u).eval oj by rw [execOp_put oj hsj _ oi.dst u s1]; rfl)
      (show Region.wanted oj (yielded ops a.tmps) = Region.wanted oj (yielded ops (({ a with defers := ds } : Act).put oi.dst u).tmps) by rw [wanted_put oj _ oi.dst u s1])
  refine ⟨fun o ho hw hcl => ?_, hy0.wpOp hj ?_⟩
  · obtain rfl : o = oj := by rw [hj] at ho; exact (Option.some.inj ho).symm
    exact calm_of_yields hy0 hw
  · refine ⟨fun o ho hw hcl => ?_, ?_⟩
    · obtain rfl : o = oi := by rw [hi] at ho; exact (Option.some.inj ho).symm
      rw [wanted_put o a oj.dst v s3] at hw
      rw [execOp_put o hsi a oj.dst v s3]
      exact h.1 o hi hw hcl
    · refine wpOp_move hi hsi s3 ?_ h.2
      intro ds2 u2 w2 h2
      obtain ⟨v2, hy2, hk⟩ := yields_of_calm hj hc h2
      have hv : v2 = v := by
        have hyb : Yields P ops oj v2 a :=
          hy2.of_same (show execOp a.eval oj = execOp (({ a with defers := ds2 } : Act).put oi.dst u2).eval oj by rw [execOp_put oj hsj _ oi.dst u2 s1]; rfl)
            (show Region.wanted oj (yielded ops a.tmps) = Region.wanted oj (yielded ops (({ a with defers := ds2 } : Act).put oi.dst u2).tmps) by rw [wanted_put oj _ oi.dst u2 s1])
        rcases hyb with ⟨hb1, hb2⟩ | ⟨hb1, hb2⟩ <;> rcases hy0 with ⟨ha1, ha2⟩ | ⟨ha1, ha2⟩
        · have := (hb2 w).symm.trans (ha2 w)
          cases this
          rfl
        · rw [hb1] at ha1; cases ha1
        · rw [hb1] at ha1; cases ha1
        · rw [ha2, hb2]
      subst hv
      have e := Act.put_comm ({ a with defers := ds2 } : Act) u2 v2 s2
      rw [← e]
      exact hk

/-- (reads, reads) -/
theorem comm_reads {i j : Nat} {oi oj : Oper} {K : Act → World → Prop} {a : Act} {w : World} (hi : ops[i]? = some oi) (hj : ops[j]? = some oj)
    (hap : oi.apart ops oj = true) (hsi : ∀ cs b, oi.op ≠ .select cs b) (hsj : ∀ cs b, oj.op ≠ .select cs b)
    (hci : clsOf P oi.op = .reads) (hcj : clsOf P oj.op = .reads) (h : cOp P ops Q i (cOp P ops Q j K) a w) : cOp P ops Q j (cOp P ops Q i K) a w := by
  obtain ⟨s1, s2, s3⟩ := Oper.apart_spec hap
  -- what an operation of the class comes to
  have out : ∀ (k : Nat) (o : Oper) (L : Act → World → Prop) (b : Act), ops[k]? = some o → clsOf P o.op = .reads → wpOp P ops (Only Q) k L b w →
      ∃ v, L (b.put o.dst v) w ∧ ((Region.wanted o (yielded ops b.tmps) = true ∧ (execOp b.eval o).run P w = .ok (.value v) w) ∨ (Region.wanted o (yielded ops b.tmps) = false ∧ v = undef)) := by
    intro k o L b hk hcl hh
    unfold wpOp at hh
    simp only [hk] at hh
    by_cases hw : Region.wanted o (yielded ops b.tmps) = true
    · simp only [hw, if_true] at hh
      rcases hh with hh | ⟨_, hl⟩
      · unfold Oper.wp at hh
        cases hr : (execOp b.eval o).run P w with
        | ok n w' =>
          obtain ⟨rfl, v, rfl⟩ := reads_of_cls (ρ := b.eval) hcl w n w' hr
          rw [hr] at hh
          exact ⟨v, hh, .inl ⟨hw, rfl⟩⟩
        | halt x w' =>
          rw [hr] at hh
          cases x <;> simp only [Oper.upon] at hh
          case panic u => exact hh.elim
      · exact absurd hl only_lets
    · simp only [hw] at hh
      exact ⟨undef, hh, .inr ⟨by simpa using hw, rfl⟩⟩
  have back : ∀ (k : Nat) (o : Oper) (L : Act → World → Prop) (b : Act) (v : Value), ops[k]? = some o →
      ((Region.wanted o (yielded ops b.tmps) = true ∧ (execOp b.eval o).run P w = .ok (.value v) w) ∨ (Region.wanted o (yielded ops b.tmps) = false ∧ v = undef)) → L (b.put o.dst v) w → wpOp P ops (Only Q) k L b w := by
    intro k o L b v hk hor hL
    unfold wpOp
    simp only [hk]
    rcases hor with ⟨hw, hr⟩ | ⟨hw, rfl⟩
    · simp only [hw, if_true]
      refine .inl ?_
      unfold Oper.wp
      rw [hr]
      exact hL
    · simp only [hw]
      exact hL
  have no : ∀ (o : Oper) (L : Prop), clsOf P o.op = .reads → (clsOf P o.op = .calm ∨ clsOf P o.op = .asks) → L := by
    intro o L h1 h2
    rw [h1] at h2
    rcases h2 with h2 | h2 <;> cases h2
  obtain ⟨u, h2, hu⟩ := out i oi _ a hi hci h.2
  obtain ⟨v, h3, hv⟩ := out j oj _ _ hj hcj h2.2
  rw [wanted_put oj a oi.dst u s1, execOp_put oj hsj a oi.dst u s1] at hv
  refine ⟨fun o ho hw hcl => ?_, back j oj _ a v hj hv ⟨fun o ho hw hcl => ?_, back i oi _ _ u hi ?_ ?_⟩⟩
  · obtain rfl : o = oj := by rw [hj] at ho; exact (Option.some.inj ho).symm
    exact no _ _ hcj hcl
  · obtain rfl : o = oi := by rw [hi] at ho; exact (Option.some.inj ho).symm
    exact no _ _ hci hcl
  · rw [wanted_put oi a oj.dst v s3, execOp_put oi hsi a oj.dst v s3]
    exact hu
  · rw [← Act.put_comm a u v s2]
    exact h3

/-! ### Every order -/
/-- Operation j waits for operation i, directly or by way of at most n others. -/
def waits (ops : Array Oper) : Nat → Nat → Nat → Bool
  | 0, _, _ => false
  | n + 1, j, i =>
    match ops[j]? with
    | none => false
    | some o => o.after.toList.any fun e => Region.binds .any e && (e.on == i || waits ops n e.on i)
/-- Whatever has come up has come up behind what it waits for. -/
def Down (ops : Array Oper) (listed : Array Bool) : Prop :=
  ∀ k o, listed.getD k false = true → ops[k]? = some o → ∀ e ∈ o.after, Region.binds .any e = true → listed.getD e.on false = true
theorem waits_spec {listed : Array Bool} (hd : Down ops listed) {i : Nat} : ∀ n j, (∀ o, ops[j]? = some o → ∀ e ∈ o.after, Region.binds .any e = true → listed.getD e.on false = true) →
    waits ops n j i = true → listed.getD i false = true := by
  intro n
  induction n with
  | zero => intro j _ h; simp [waits] at h
  | succ n ih =>
    intro j hj h
    simp only [waits] at h
    cases ho : ops[j]? with
    | none => rw [ho] at h; cases h
    | some o =>
      rw [ho] at h
      simp only [List.any_eq_true, Bool.and_eq_true, Bool.or_eq_true, beq_iff_eq, Array.mem_toList_iff] at h
      obtain ⟨e, he, hb, h | h⟩ := h
      · rw [← h]; exact hj o ho e he hb
      · exact ih e.on (fun o' ho' => hd e.on o' (hj o ho e he hb) ho') h

def cAny (P : Program) (ops : Array Oper) (Q : Exit → Act → World → Prop) : Nat → Array Bool → Act → World → Prop
  | 0, listed, a, w => Region.ready .any ops listed = [] ∧ Q .normal a w
  | fuel + 1, listed, a, w =>
    (Region.ready .any ops listed = [] → Q .normal a w) ∧
    ∀ i ∈ Region.ready .any ops listed, cOp P ops Q i (cAny P ops Q fuel (listed.setIfInBounds i true)) a w
theorem wpAny_of_cAny : ∀ (fuel : Nat) (listed : Array Bool) (a : Act) (w : World), cAny P ops Q fuel listed a w → wpAny P .any ops (Only Q) fuel listed a w
  | 0, _, _, _, h => h
  | fuel + 1, _, _, _, h => ⟨h.1, fun i hi => wpOp_mono (fun a' w' => wpAny_of_cAny fuel _ a' w') (h.2 i hi).2⟩

theorem down_set {listed : Array Bool} {j : Nat} (hd : Down ops listed) (hj : j ∈ Region.ready .any ops listed) : Down ops (listed.setIfInBounds j true) := by
  intro k o hk ho e he hb
  by_cases hkj : k = j
  · subst hkj
    obtain ⟨_, o', ho', hall⟩ := mem_ready.1 hj
    rw [ho] at ho'
    cases ho'
    exact getD_set_true (hall e he hb)
  · rw [getD_set_ne false (Ne.symm hkj)] at hk
    exact getD_set_true (hd k o hk ho e he hb)

theorem cAny_first {i : Nat} {oi : Oper} (hi : ops[i]? = some oi) : ∀ (fuel : Nat) (listed : Array Bool) (a : Act) (w : World),
    (∀ j, listed.getD j true = false → j ≠ i → waits ops 4 j i = true ∨ ∀ K a w, cOp P ops Q i (cOp P ops Q j K) a w → cOp P ops Q j (cOp P ops Q i K) a w) →
    Down ops listed → i ∈ Region.ready .any ops listed → cOp P ops Q i (cAny P ops Q fuel (listed.setIfInBounds i true)) a w → cAny P ops Q (fuel + 1) listed a w := by
  intro fuel
  induction fuel with
  | zero =>
    intro listed a w _ _ hr h
    refine ⟨fun h0 => (by rw [h0] at hr; cases hr), fun j hj => ?_⟩
    by_cases hji : j = i
    · subst hji; exact h
    · obtain ⟨ds, u, w', hq⟩ := wpOp_out hi h.2
      have := ready_mono hj hji
      rw [hq.1] at this
      cases this
  | succ fuel ih =>
    intro listed a w hc hd hr h
    refine ⟨fun h0 => (by rw [h0] at hr; cases hr), fun j hj => ?_⟩
    by_cases hji : j = i
    · subst hji; exact h
    · obtain ⟨hjl, oj, hoj, hall⟩ := mem_ready.1 hj
      have hil := (mem_ready.1 hr).1
      rcases hc j hjl hji with hw | hcomm
      · have := waits_spec hd 4 j (fun o ho => by rw [hoj] at ho; cases ho; exact hall) hw
        exfalso
        rcases Nat.lt_or_ge i listed.size with h' | h'
        · simp [h'] at hil this; rw [hil] at this; cases this
        · simp [Array.getElem?_eq_none h'] at this
      · have h1 := hcomm _ a w (cOp_mono (fun a' w' hh => hh.2 j (ready_mono hj hji)) h)
        refine cOp_mono (fun a' w' hh => ih _ a' w' ?_ (down_set hd hj) (ready_mono hr (Ne.symm hji)) ?_) h1
        · intro k hk hki
          refine hc k ?_ hki
          by_cases hkj : k = j
          · subst hkj; exact hjl
          · rwa [getD_set_ne true (Ne.symm hkj)] at hk
        · rw [Array.setIfInBounds_comm _ _ hji]
          exact hh

/-- The text's order. -/
def cList (P : Program) (ops : Array Oper) (Q : Exit → Act → World → Prop) : List Nat → Act → World → Prop
  | [], a, w => Q .normal a w
  | i :: rest, a, w => cOp P ops Q i (cList P ops Q rest) a w

def compat (P : Program) (x y : Op) : Bool :=
  match clsOf P x, clsOf P y with
  | .calm, _ => true
  | .asks, _ => true
  | _, .calm => true
  | _, .asks => true
  | .reads, .reads => true
  | _, _ => false
def notSelect : Op → Bool
  | .select _ _ => false
  | _ => true
/-- No operation from number i on writes what an operation of class 'asks' looks at. -/
def stableAt (P : Program) (ops : Array Oper) (i : Nat) (o : Oper) : Bool :=
  match clsOf P o.op with
  | .asks => (ops.toList.drop i).all fun p => match p.dst with | some d => !(o.looksAt ops).contains d | none => true
  | _ => true
def fineAt (P : Program) (ops : Array Oper) (i : Nat) (oi : Oper) : Bool :=
  notSelect oi.op && oi.after.all (fun e => !Region.binds .any e || decide (e.on < i)) && stableAt P ops i oi &&
    (List.range ops.size).all fun j => decide (j ≤ i) ||
      match ops[j]? with
      | none => true
      | some oj => (compat P oi.op oj.op && oi.apart ops oj) || waits ops 4 j i
def static (P : Program) (ops : Array Oper) : Bool :=
  (List.range ops.size).all fun i => match ops[i]? with | none => true | some oi => fineAt P ops i oi

theorem static_spec (h : static P ops = true) {i : Nat} {oi : Oper} (hi : ops[i]? = some oi) : fineAt P ops i oi = true := by
  unfold static at h
  rw [List.all_eq_true] at h
  have := h i (List.mem_range.2 (Array.getElem?_eq_some_iff.1 hi).1)
  simpa [hi] using this
theorem notSelect_spec {o : Op} (h : notSelect o = true) : ∀ cs b, o ≠ .select cs b := by
  intro cs b e
  subst e
  cases h
theorem fine_parts {i : Nat} {oi : Oper} (h : fineAt P ops i oi = true) : notSelect oi.op = true ∧ (∀ e ∈ oi.after, Region.binds .any e = true → e.on < i) ∧ stableAt P ops i oi = true ∧
    ∀ j oj, i < j → ops[j]? = some oj → (compat P oi.op oj.op = true ∧ oi.apart ops oj = true) ∨ waits ops 4 j i = true := by
  unfold fineAt at h
  simp only [Bool.and_eq_true, Array.all_eq_true_iff_forall_mem, Bool.or_eq_true, Bool.not_eq_true', decide_eq_true_eq, List.all_eq_true, List.mem_range] at h
  obtain ⟨⟨⟨h1, h2⟩, h3⟩, h4⟩ := h
  refine ⟨h1, fun e he hb => ?_, h3, fun j oj hij hj => ?_⟩
  · rcases h2 e he with h | h
    · rw [hb] at h; cases h
    · exact h
  · have := h4 j (Array.getElem?_eq_some_iff.1 hj).1
    simp only [hj, Bool.or_eq_true, Bool.and_eq_true] at this
    rcases this with h | h
    · omega
    · exact h

theorem comm_of_fine {i j : Nat} {oi oj : Oper} (hi : ops[i]? = some oi) (hj : ops[j]? = some oj) (hsi : notSelect oi.op = true) (hsj : notSelect oj.op = true)
    (hap : oi.apart ops oj = true) (hc : compat P oi.op oj.op = true) (K : Act → World → Prop) (a : Act) (w : World)
    (h : cOp P ops Q i (cOp P ops Q j K) a w) : cOp P ops Q j (cOp P ops Q i K) a w := by
  have ni := notSelect_spec hsi
  have nj := notSelect_spec hsj
  unfold compat at hc
  cases h1 : clsOf P oi.op with
  | calm => exact comm_calm_any hi hj hap ni nj (.inl h1) h
  | asks => exact comm_calm_any hi hj hap ni nj (.inr h1) h
  | reads =>
    cases h2 : clsOf P oj.op with
    | calm => exact comm_any_calm hi hj hap ni nj (.inl h2) h
    | asks => exact comm_any_calm hi hj hap ni nj (.inr h2) h
    | reads => exact comm_reads hi hj hap ni nj h1 h2 h
    | other => rw [h1, h2] at hc; cases hc
  | other =>
    cases h2 : clsOf P oj.op with
    | calm => exact comm_any_calm hi hj hap ni nj (.inl h2) h
    | asks => exact comm_any_calm hi hj hap ni nj (.inr h2) h
    | reads => rw [h1, h2] at hc; cases hc
    | other => rw [h1, h2] at hc; cases hc

def mask (n k : Nat) : Array Bool := (Array.range n).map fun i => decide (i < k)
theorem mask_getD (n k i : Nat) (d : Bool) : (mask n k).getD i d = if i < n then decide (i < k) else d := by
  unfold mask
  by_cases h : i < n
  · simp [h]
  · simp [h]
theorem mask_set (n k : Nat) : (mask n k).setIfInBounds k true = mask n (k + 1) := by
  apply Array.ext
  · simp [mask]
  · intro i h1 h2
    by_cases h : k = i
    · subst h
      simp [mask]
    · rw [Array.getElem_setIfInBounds_ne (by simpa using h1) h]
      have : (i < k) ↔ (i < k + 1) := by omega
      simp [mask, this]
theorem mask_zero (n : Nat) : mask n 0 = Array.replicate n false := by
  apply Array.ext
  · simp [mask]
  · intro i h1 h2
    simp [mask]

theorem cAny_of_list (hs : static P ops = true) : ∀ (m k : Nat) (a : Act) (w : World), k + m = ops.size → cList P ops Q (List.range' k m) a w → cAny P ops Q m (mask ops.size k) a w := by
  intro m
  induction m with
  | zero =>
    intro k a w hk h
    refine ⟨?_, h⟩
    rw [List.eq_nil_iff_forall_not_mem]
    intro j hj
    have := (mem_ready.1 hj).1
    rw [mask_getD] at this
    split at this
    · simp at this; omega
    · cases this
  | succ m ih =>
    intro k a w hk h
    rw [List.range'_succ] at h
    have hlt : k < ops.size := by omega
    have hok : ops[k]? = some ops[k] := Array.getElem?_eq_getElem hlt
    obtain ⟨f1, f2, f3, f4⟩ := fine_parts (static_spec hs hok)
    refine cAny_first hok m _ a w ?_ ?_ ?_ ?_
    · intro j hj hjk
      rw [mask_getD] at hj
      split at hj
      · rename_i hjn
        have hkj : k < j := by simp at hj; omega
        have hoj : ops[j]? = some ops[j] := Array.getElem?_eq_getElem hjn
        rcases f4 j _ hkj hoj with ⟨c1, c2⟩ | hw
        · exact .inr (comm_of_fine hok hoj f1 (fine_parts (static_spec hs hoj)).1 c2 c1)
        · exact .inl hw
      · cases hj
    · intro q o hq ho e he hb
      rw [mask_getD] at hq ⊢
      have hqn : q < ops.size := (Array.getElem?_eq_some_iff.1 ho).1
      simp only [hqn, if_true, decide_eq_true_eq] at hq
      have := (fine_parts (static_spec hs ho)).2.1 e he hb
      have hen : e.on < ops.size := by omega
      simp only [hen, if_true, decide_eq_true_eq]
      omega
    · rw [mem_ready]
      refine ⟨by rw [mask_getD]; simp [hlt], _, hok, fun e he hb => ?_⟩
      have := f2 e he hb
      rw [mask_getD]
      have hen : e.on < ops.size := by omega
      simp only [hen, if_true, decide_eq_true_eq]
      exact this
    · rw [mask_set]
      exact cOp_mono (fun a' w' hh => ih (k + 1) a' w' (by omega) hh) h

/-- At the walk's end: what the operations of class 'asks' have met was plain. -/
def metAll (P : Program) (ops : Array Oper) (a : Act) : Bool :=
  ops.toList.all fun o => match clsOf P o.op with | .asks => !Region.wanted o (yielded ops a.tmps) || metFine o a.eval | _ => true
/-- What the walk of the text's order is to end in. -/
def Fin (P : Program) (ops : Array Oper) (Q : Exit → Act → World → Prop) : Exit → Act → World → Prop :=
  Only fun _ a w => metAll P ops a = true ∧ Q .normal a w
theorem Fin.mk {a : Act} {w : World} (h : metAll P ops a = true) (hq : Q .normal a w) : Fin P ops Q .normal a w := ⟨h, hq⟩

theorem metFine_congr (o : Oper) {ρ ρ' : Operand → Value} (h : ∀ x ∈ o.op.operands, ρ x = ρ' x) : metFine o ρ = metFine o ρ' := by
  obtain ⟨dst, op, type, pos, after, guard⟩ := o
  cases op <;> simp only [Op.operands] at h <;> simp only [metFine]
  case binOp op t x y t2 => rw [h x (by simp), h y (by simp)]
  case convert s d x => rw [h x (by simp)]
  case nilCheck x => rw [h x (by simp)]
  case call c =>
    cases hc : c.callee with
    | builtin b =>
      cases b <;> simp only
      case len =>
        cases ha : c.args[0]? with
        | none => simp only
        | some x =>
          simp only
          rw [h x (by simp only [Call.operands, Array.mem_append]; exact .inr (Array.mem_of_getElem? ha))]
    | value f => simp only
    | invoke r m => simp only

theorem put_tmps (a : Act) (d : Option Tmp) (v : Value) (t : Nat) (h : d ≠ some t) : (a.put d v).tmps[t]? = a.tmps[t]? := by
  cases d with
  | none => rfl
  | some d =>
    have : d ≠ t := fun e => h (by rw [e])
    simp [Act.put, Array.getElem?_setIfInBounds_ne this]

/-- The walk comes to an end; what no later operation writes holds there what it holds now. -/
theorem wpOps_reach : ∀ (l : List Nat) (a : Act) (w : World), wpOps P ops (Fin P ops Q) l a w →
    ∃ aE, metAll P ops aE = true ∧ ∀ t, (∀ i ∈ l, ∀ o, ops[i]? = some o → o.dst ≠ some t) → aE.tmps[t]? = a.tmps[t]? := by
  intro l
  induction l with
  | nil => intro a w h; exact ⟨a, h.1, fun t _ => rfl⟩
  | cons i rest ih =>
    intro a w h
    rw [wpOps_cons] at h
    cases hi : ops[i]? with
    | none =>
      unfold wpOp at h
      rw [hi] at h
      obtain ⟨aE, h1, h2⟩ := ih a w h
      exact ⟨aE, h1, fun t ht => h2 t fun j hj => ht j (List.mem_cons_of_mem _ hj)⟩
    | some o =>
      obtain ⟨ds, u, w', hq⟩ := wpOp_out hi h
      obtain ⟨aE, h1, h2⟩ := ih _ _ hq
      refine ⟨aE, h1, fun t ht => ?_⟩
      rw [h2 t fun j hj => ht j (List.mem_cons_of_mem _ hj), put_tmps _ _ _ _ (ht i (List.mem_cons_self ..) o hi)]

theorem cList_of_wpOps (hs : static P ops = true) : ∀ (m k : Nat) (a : Act) (w : World), k + m = ops.size → wpOps P ops (Fin P ops Q) (List.range' k m) a w →
    cList P ops (fun _ a w => metAll P ops a = true ∧ Q .normal a w) (List.range' k m) a w := by
  intro m
  induction m with
  | zero => intro k a w _ h; exact h
  | succ m ih =>
    intro k a w hk h
    have hlt : k < ops.size := by omega
    have hok : ops[k]? = some ops[k] := Array.getElem?_eq_getElem hlt
    obtain ⟨f1, f2, f3, f4⟩ := fine_parts (static_spec hs hok)
    obtain ⟨aE, m1, m2⟩ := wpOps_reach _ a w h
    rw [List.range'_succ, wpOps_cons] at h
    rw [List.range'_succ]
    refine ⟨fun o ho hw hcl => ?_, wpOp_mono (fun a' w' hh => ih (k + 1) a' w' (by omega) hh) h⟩
    obtain rfl : o = ops[k] := by rw [hok] at ho; exact (Option.some.inj ho).symm
    refine calm_of_cls ?_
    rcases hcl with hcl | hcl
    · exact .inl hcl
    · refine .inr ⟨hcl, ?_⟩
      -- what it looks at is not written from here on
      have hst : ∀ t ∈ (ops[k]).looksAt ops, aE.tmps[t]? = a.tmps[t]? := by
        intro t ht
        refine m2 t fun i hi p hp hd => ?_
        unfold stableAt at f3
        rw [hcl] at f3
        simp only [List.all_eq_true] at f3
        have hik := List.mem_range'_1.1 hi
        have hmem : p ∈ ops.toList.drop k := by
          rw [List.mem_drop_iff_getElem]
          obtain ⟨h1, h2⟩ := Array.getElem?_eq_some_iff.1 hp
          refine ⟨i - k, by simp; omega, ?_⟩
          have : k + (i - k) = i := by omega
          simp only [this]
          simpa using h2
        have := f3 p hmem
        rw [hd] at this
        simp only [Bool.not_eq_true'] at this
        have h2 : ((ops[k]).looksAt ops).contains t = true := by simpa using ht
        rw [h2] at this
        cases this
      have hev : ∀ x ∈ (ops[k]).op.operands, aE.eval x = a.eval x := by
        intro x hx
        cases x with
        | tmp t =>
          have := hst t (List.mem_append_left _ (List.mem_filterMap.2 ⟨.tmp t, by simpa using hx, rfl⟩))
          simp only [Act.eval, Array.getD_eq_getD_getElem?, this]
        | _ => rfl
      have hwa : Region.wanted ops[k] (yielded ops aE.tmps) = true := by
        rw [← hw]
        unfold Region.wanted
        cases hg : (ops[k]).guard with
        | none => rfl
        | some gw =>
          obtain ⟨g, want⟩ := gw
          have : yielded ops aE.tmps g = yielded ops a.tmps g := by
            unfold yielded
            cases ht : (ops[g]?).bind (·.dst) with
            | none => rfl
            | some t =>
              simp only [Option.bind_some]
              rw [hst t (List.mem_append_right _ (by simp [hg, ht]))]
          simp only [this]
      unfold metAll at m1
      rw [List.all_eq_true] at m1
      have := m1 ops[k] (by simp)
      rw [hcl] at this
      simp only [hwa, Bool.not_true, Bool.false_or] at this
      rwa [metFine_congr _ hev] at this

/-- THE RULE: a region that draws, walked in the order of the text. -/
theorem region {id : Nat} {a : Act} {w : World} {l : List Oper} (hm : P.follows .mixedOrders = true) (hs : static P l.toArray = true)
    (h : wpList P l.toArray (Fin P l.toArray Q) l a w.drew) : (Code.region id l.toArray true).wp P Q a w := by
  have h0 : wpOps P l.toArray (Fin P l.toArray Q) (List.range' 0 l.toArray.size) a w.drew := by
    have := wpOps_eq_wpList (P := P) (ops := l.toArray) (Q := Fin P l.toArray Q) l 0 (fun j => by simp)
    rw [← this] at h
    simpa using h
  have h1 := cAny_of_list hs _ 0 a w.drew (by simp) (cList_of_wpOps hs _ 0 a w.drew (by simp) h0)
  rw [mask_zero] at h1
  have h2 := wpAny_of_cAny _ _ _ _ h1
  refine Code.wp_mono (Q := Only fun _ a w => metAll P l.toArray a = true ∧ Q .normal a w) ?_ (wp_region_any hm h2)
  intro e a' w' hq
  cases e with
  | normal => exact hq.2
  | _ => exact hq.elim
end
end Go.Proofs.YtfilokdleehklaaDoor.Ord
