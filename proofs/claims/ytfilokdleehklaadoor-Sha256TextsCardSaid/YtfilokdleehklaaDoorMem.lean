/- Plain facts about memory: a block that is known whole, and the relation 'outside the blocks of S nothing that was there has changed'. No program in sight. -/
import Derived.WalkKit
import Derived.ProofKit
import Derived.WalkLawsBesides
set_option linter.all false
namespace Go.Proofs.YtfilokdleehklaaDoor
open Go.RowKit

/-- A fact kept from the walk; '.out' gives it back. -/
theorem hid {p : Prop} (h : p) : Hid p := h

/-- Block b is a row of cells that hold just the values l. -/
def Blk (w : World) (b : Nat) (T : TypeId) (l : List Value) : Prop := w.heap[b]? = some (.cells l.toArray T (0, 0))

theorem Blk.lt {w : World} {b : Nat} {T : TypeId} {l : List Value} (h : Blk w b T l) : b < w.heap.size :=
  (Array.getElem?_eq_some_iff.1 h).1
theorem Blk.cell {w : World} {b : Nat} {T : TypeId} {l : List Value} (h : Blk w b T l) (i : Nat) (hi : i < l.length) : w.cell? ⟨b, i, none⟩ = some l[i] := by
  unfold World.cell?
  rw [show w.heap[(⟨b, i, none⟩ : Addr).block]? = _ from h]
  simp [hi]
theorem Blk.cellD {w : World} {b : Nat} {T : TypeId} {l : List Value} (h : Blk w b T l) {i : Nat} {v : Value} (hi : l[i]? = some v) : w.cell? ⟨b, i, none⟩ = some v := by
  obtain ⟨h1, h2⟩ := List.getElem?_eq_some_iff.1 hi
  rw [h.cell i h1, h2]
theorem Blk.ex {w : World} {b : Nat} {T : TypeId} {l : List Value} (h : Blk w b T l) (i : Nat) (hi : i < l.length) : ∃ v, w.cell? ⟨b, i, none⟩ = some v := ⟨_, h.cell i hi⟩
theorem Blk.frozen {w : World} {b : Nat} {T : TypeId} {l : List Value} (h : Blk w b T l) (i : Nat) : w.frozen? ⟨b, i, none⟩ = false := by
  unfold World.frozen?
  rw [show w.heap[(⟨b, i, none⟩ : Addr).block]? = _ from h]
  simp
theorem Blk.set {w : World} {b : Nat} {T : TypeId} {l : List Value} (h : Blk w b T l) (i : Nat) (v : Value) : Blk (w.setCell ⟨b, i, none⟩ v) b T (l.set i v) := by
  unfold Blk World.setCell at *
  simp [Array.getElem?_modify, h]
theorem Blk.setOther {w : World} {b : Nat} {T : TypeId} {l : List Value} (h : Blk w b T l) {a : Addr} (hne : a.block ≠ b) (v : Value) : Blk (w.setCell a v) b T l := by
  unfold Blk World.setCell at *
  simp [Array.getElem?_modify, hne, h]
theorem Blk.drew {w : World} {b : Nat} {T : TypeId} {l : List Value} (h : Blk w b T l) : Blk w.drew b T l := h
theorem Blk.drewN {w : World} {b : Nat} {T : TypeId} {l : List Value} (h : Blk w b T l) (n : Nat) : Blk (w.drewN n) b T l := h
theorem Blk.alloc {w : World} {b : Nat} {T : TypeId} {l : List Value} (h : Blk w b T l) (o : Obj) : Blk (w.alloc o) b T l := by
  have := h.lt
  unfold Blk at *
  rw [Below.heap_alloc _ _ _ this]; exact h
theorem Blk.new (w : World) (T : TypeId) (l : List Value) : Blk (w.alloc (.cells l.toArray T)) w.heap.size T l := heap_alloc_new w _

/-- Whatever lay in w lies in w' as it did, but for the blocks in S. -/
structure Upd (S : List Nat) (w w' : World) : Prop where
  os : w'.os = w.os
  tape : w'.tape = w.tape
  output : w'.output = w.output
  size : w.heap.size ≤ w'.heap.size
  block : ∀ k, k < w.heap.size → k ∉ S → w'.heap[k]? = w.heap[k]?
theorem Upd.refl (S : List Nat) (w : World) : Upd S w w := ⟨rfl, rfl, rfl, Nat.le_refl _, fun _ _ _ => rfl⟩
theorem Upd.trans {S : List Nat} {a b c : World} (h : Upd S a b) (k : Upd S b c) : Upd S a c :=
  ⟨k.os.trans h.os, k.tape.trans h.tape, k.output.trans h.output, Nat.le_trans h.size k.size, fun i hi hS => (k.block i (Nat.lt_of_lt_of_le hi h.size) hS).trans (h.block i hi hS)⟩
/-- A step that changes blocks which the first world did not have, or blocks of S. -/
theorem Upd.trans' {S S' : List Nat} {a b c : World} (h : Upd S a b) (k : Upd S' b c) (hS : ∀ i ∈ S', i ∈ S ∨ a.heap.size ≤ i) : Upd S a c :=
  ⟨k.os.trans h.os, k.tape.trans h.tape, k.output.trans h.output, Nat.le_trans h.size k.size, fun i hi hn => (k.block i (Nat.lt_of_lt_of_le hi h.size) (fun hm => (hS i hm).elim hn (fun hle => by omega))).trans (h.block i hi hn)⟩
theorem Upd.mono {S S' : List Nat} {a b : World} (h : Upd S a b) (hS : ∀ i ∈ S, i ∈ S') : Upd S' a b :=
  ⟨h.os, h.tape, h.output, h.size, fun i hi hn => h.block i hi (fun hm => hn (hS i hm))⟩
theorem Upd.drew {S : List Nat} {a w : World} (h : Upd S a w) : Upd S a w.drew := ⟨h.os, h.tape, h.output, h.size, h.block⟩
theorem Upd.drewN {S : List Nat} {a w : World} (h : Upd S a w) (n : Nat) : Upd S a (w.drewN n) := ⟨h.os, h.tape, h.output, h.size, h.block⟩
theorem Upd.alloc {S : List Nat} {a w : World} (h : Upd S a w) (o : Obj) : Upd S a (w.alloc o) :=
  h.trans ⟨rfl, rfl, rfl, by simp, fun k hk _ => Below.heap_alloc _ _ _ hk⟩
theorem Upd.setCell {S : List Nat} {a w : World} (h : Upd S a w) (p : Addr) (u : Value) (hp : p.block ∈ S ∨ a.heap.size ≤ p.block) : Upd S a (w.setCell p u) :=
  h.trans' (S' := [p.block]) ⟨rfl, rfl, rfl, by simp [World.setCell], fun k hk hn => Below.heap_setCell _ _ _ _ (by simpa using hn)⟩ (by simpa using hp)
theorem Upd.below {a w : World} (h : Upd [] a w) : Below a.heap.size a w := ⟨h.os, h.tape, h.output, h.size, fun k hk => h.block k hk (by simp)⟩
theorem Upd.ofBelow {a w : World} (h : Below a.heap.size a w) : Upd [] a w := ⟨h.os, h.tape, h.output, h.size, fun k hk _ => h.block k hk⟩
theorem Upd.ofGrown {a w : World} {row : Option Nat} {S : List Nat} (h : a.grownBy w row) (hr : ∀ k, row = some k → k ∈ S) : Upd S a w :=
  ⟨h.os, h.tape, h.output, h.size, fun k hk hn => h.block k hk (fun e => hn (hr k e.symm))⟩
theorem Upd.blk {S : List Nat} {a w : World} (h : Upd S a w) {b : Nat} {T : TypeId} {l : List Value} (hb : Blk a b T l) (hn : b ∉ S) : Blk w b T l := by
  unfold Blk at *
  rw [h.block b (Blk.lt hb) hn]; exact hb
theorem Upd.cell {S : List Nat} {a w : World} (h : Upd S a w) {p : Addr} (hp : p.block < a.heap.size) (hn : p.block ∉ S) : w.cell? p = a.cell? p := World.cell?_of_block (w := a) (h.block p.block hp hn)
theorem Upd.frozen {S : List Nat} {a w : World} (h : Upd S a w) {p : Addr} (hp : p.block < a.heap.size) (hn : p.block ∉ S) : w.frozen? p = a.frozen? p := World.frozen?_of_block (w := a) (h.block p.block hp hn)

/-- Only draws. -/
def Drawn (w w' : World) : Prop := ∃ n, w' = w.drewN n
theorem Drawn.refl (w : World) : Drawn w w := ⟨0, rfl⟩
theorem Drawn.upd {w w' : World} (h : Drawn w w') (S : List Nat) : Upd S w w' := by
  obtain ⟨n, rfl⟩ := h
  exact (Upd.refl S w).drewN n

/-- A callee that leaves the world alone, in a region that is walked by go_quiet. -/
theorem quietSame {P : Program} {f : FuncId} {args : Array Value} {w : World} {n : Nat} {v : Value} (h : Calls P f args (w.drewN n) fun e w' => e = .returned v ∧ w.drewN n = w') :
    Calls P f args (w.drewN n) fun e w'' => e = .returned v ∧ ∃ m, w'' = w.drewN m := h.mono fun _ _ ⟨he, hm⟩ => ⟨he, n, hm.symm⟩
theorem quietDrawn {P : Program} {f : FuncId} {args : Array Value} {w : World} {n : Nat} {v : Value} (h : Calls P f args (w.drewN n) fun e w' => e = .returned v ∧ Drawn (w.drewN n) w') :
    Calls P f args (w.drewN n) fun e w'' => e = .returned v ∧ ∃ m, w'' = w.drewN m := h.mono fun _ _ ⟨he, m, hm⟩ => ⟨he, n + m, by rw [hm, World.drewN_drewN]⟩
/-- An element of an array by value, each element one cell. -/
theorem run_index_agg {P : Program} {t e n : Nat} {k : IntKind} (ht : P.underlying t = some (.array n e)) (he : P.underlying e = some (.int k)) (hs : (P.info? e).map (·.size) = some 1)
    (cs : Array Value) (i : Int) (w : World) (h0 : 0 ≤ i) (h1 : i < n) :
    (Instr.index t (.agg cs) (.int .i64 i)).run P w = match cs[i.toNat]? with | some v => .ok v w | none => .halt (.stuck "part: no such cell") w := by
  cases hi : P.info? e with
  | none => rw [hi] at hs; cases hs
  | some inf =>
    rw [hi] at hs
    have hz : inf.size = 1 := by simpa using hs
    simp only [Instr.index, asIntOf, underlying, program, Sem.run_bind, Sem.run, Sem.run_pure, Result.andThen_ok, ht, sizeOf, typeInfo, hi, hz, part, isAgg, he, h0, h1, and_self, if_true, Nat.mul_one]
    cases hc : cs[i.toNat]? with
    | none => simp [stuck, Sem.run]
    | some v => simp
/-- The values at o, o + 1, .. are replaced by xs. -/
def splice (L : List Value) (o : Nat) : List Value → List Value
  | [] => L
  | x :: xs => splice (L.set o x) (o + 1) xs
theorem splice_length (xs : List Value) : ∀ (L : List Value) (o : Nat), (splice L o xs).length = L.length := by
  induction xs with
  | nil => intro L o; rfl
  | cons x xs ih => intro L o; simp [splice, ih]
theorem splice_other (xs : List Value) : ∀ (L : List Value) (o j : Nat), (j < o ∨ o + xs.length ≤ j) → (splice L o xs)[j]? = L[j]? := by
  induction xs with
  | nil => intro L o j _; rfl
  | cons x xs ih =>
    intro L o j h
    simp only [List.length_cons] at h
    rw [splice, ih _ _ _ (by omega), List.getElem?_set_ne (by omega)]
theorem splice_at (xs : List Value) : ∀ (L : List Value) (o i : Nat), i < xs.length → o + xs.length ≤ L.length → (splice L o xs)[o + i]? = xs[i]? := by
  induction xs with
  | nil => intro L o i h; simp at h
  | cons x xs ih =>
    intro L o i h hl
    simp only [List.length_cons] at h hl
    cases i with
    | zero =>
      rw [splice, splice_other _ _ _ _ (by omega)]
      simp only [Nat.add_zero, List.getElem?_cons_zero]
      rw [List.getElem?_set_self (by omega)]
    | succ i =>
      have := ih (L.set o x) (o + 1) i (by omega) (by simpa using by omega)
      rw [splice, show o + (i + 1) = o + 1 + i from by omega, this]
      simp
/- Words, bytes. -/
def w32 (x : BitVec 32) : Value := .int .u32 (x.toNat : Int)
def b8 (x : UInt8) : Value := .int .u8 (x.toNat : Int)
end Go.Proofs.YtfilokdleehklaaDoor
