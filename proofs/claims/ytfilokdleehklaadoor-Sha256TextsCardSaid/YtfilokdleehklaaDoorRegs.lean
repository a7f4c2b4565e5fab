/- Regions that draw their order, over what a walk knows of memory. -/
import Derived.Test.YtfilokdleehklaaDoorTab
import Derived.Test.YtfilokdleehklaaDoorQuiet
set_option linter.all false
namespace Go.Proofs.YtfilokdleehklaaDoor
open Go.RowKit
theorem k_ord {S : List Nat} {w0 w : World} {L : List Res} (hK : K S w0 w L) {id : Nat} {a : Act} {l : List Oper} {Q : Exit → Act → World → Prop} (hs : Ord.static Tryd.prog l.toArray = true)
    (h : ∀ w', K S w0 w' L → wpList Tryd.prog l.toArray (Ord.Fin Tryd.prog l.toArray Q) l a w') : (Code.region id l.toArray true).wp Tryd.prog Q a w :=
  Ord.region mixed hs (h _ hK.drew)
theorem k_quiet {S : List Nat} {w0 w : World} {L : List Res} (hK : K S w0 w L) {id : Nat} {a : Act} {l : List Oper} {Q : Exit → Act → World → Prop} (hB : Region.lexB .any l.toArray = true)
    (h : wpQuiet Tryd.prog l.toArray (fun W => K S w0 W L) (fun a' => ∀ w', K S w0 w' L → Q .normal a' w') l a) : (Code.region id l.toArray true).wp Tryd.prog Q a w :=
  wp_region_quiet (C := fun W => K S w0 W L) mixed hB hK.drew (by simpa using h)
section
variable {P : Program} {S : List Nat} {w0 w : World} {L : List Res} {ops : Array Oper} {rest : List Oper} {o : Oper} {a : Act} {Q : Act → Prop}
theorem qk_load1 (hgd : Region.wanted o (yielded ops a.tmps) = true) (ty : TypeId) (x : Operand) (ho : o.op = .load ty x) (hs : scalarB P ty = true) {b off : Nat} (hx : a.eval x = .pointer (some ⟨b, off, none⟩))
    {T : TypeId} {l : List Value} (hb : ∀ w, K S w0 w L → Blk w b T l) {v : Value} (hv : l[off]? = some v) (h : wpQuiet P ops (fun W => K S w0 W L) Q rest (a.put o.dst v)) : wpQuiet P ops (fun W => K S w0 W L) Q (o :: rest) a :=
  q_value hgd v (fun W hW => by
    have hc := (hb W hW).cellD hv
    unfold execOp
    simp only [ho, hx, Instr.loadAt, Instr.sureAddr, Sem.run_bind, Sem.run_pure, Result.andThen_ok, loadVar, scalarB_agg hs]
    simp [load, Sem.run, hc]) h
theorem qk_loadW (hgd : Region.wanted o (yielded ops a.tmps) = true) (ty : TypeId) (x : Operand) (ho : o.op = .load ty x) {n : Nat} (hr : rowN P ty = some n) {b : Nat} (hx : a.eval x = .pointer (some ⟨b, 0, none⟩))
    {T : TypeId} {l : List Value} (hb : ∀ w, K S w0 w L → Blk w b T l) (hn : l.length = n) (h : wpQuiet P ops (fun W => K S w0 W L) Q rest (a.put o.dst (.agg l.toArray))) : wpQuiet P ops (fun W => K S w0 W L) Q (o :: rest) a := by
  obtain ⟨d, hu, hd, hi⟩ := rowN_row hr
  refine q_load hgd ty x ho d hu hd b 0 hx l (fun W hW => ?_) (by rw [hn]; exact hi) h
  have := (hb W hW).range 0 l.length
  rwa [List.drop_zero, List.take_of_length_le (Nat.le_refl _)] at this
theorem qk_call (hgd : Region.wanted o (yielded ops a.tmps) = true) {f : FuncId} {xs : List Operand} {ats : Array TypeId} (ho : o.op = .call { callee := .value (.func f), args := xs.toArray, argTypes := ats }) (h : entersB P f = true)
    {args : List Value} (ha : xs.map a.eval = args) (hcn : ∃ v, (∀ W, K S w0 W L → Calls P f args.toArray W fun e W' => e = .returned v ∧ Upd [] W W') ∧ wpQuiet P ops (fun W => K S w0 W L) Q rest (a.put o.dst v)) : wpQuiet P ops (fun W => K S w0 W L) Q (o :: rest) a := by
  obtain ⟨v, hc, hn⟩ := hcn
  exact q_call hgd f args.toArray (fun W => run_call h ho ha W) v (fun W hW => (hc W hW).mono fun _ _ ⟨he, hU⟩ => ⟨he, hW.frame hU⟩) hn
theorem qk_pure (hgd : Region.wanted o (yielded ops a.tmps) = true) {v : Value} (hr : ∀ W, K S w0 W L → (execOp a.eval o).run P W = .ok (.value v) W) (h : wpQuiet P ops (fun W => K S w0 W L) Q rest (a.put o.dst v)) : wpQuiet P ops (fun W => K S w0 W L) Q (o :: rest) a :=
  q_value hgd v hr h
theorem qk_skip (hgd : Region.wanted o (yielded ops a.tmps) = false) (h : wpQuiet P ops (fun W => K S w0 W L) Q rest (a.put o.dst undef)) : wpQuiet P ops (fun W => K S w0 W L) Q (o :: rest) a :=
  wpQuiet_step fun K hK => by
    rw [hgd]
    simp only [Bool.false_eq_true, if_false]
    exact hK _ h
theorem qk_move (hgd : Region.wanted o (yielded ops a.tmps) = true) (x : Operand) (ho : o.op = .move x) (v : Value) (hx : a.eval x = v) (h : wpQuiet P ops (fun W => K S w0 W L) Q rest (a.put o.dst v)) : wpQuiet P ops (fun W => K S w0 W L) Q (o :: rest) a :=
  q_value hgd v (fun W hW => by
    unfold execOp
    simp only [ho, hx, Sem.run_pure]) h
/-- 'T{..}', an array or a struct by value. -/
theorem k_build {Q : Exit → Act → World → Prop} (hgd : Region.wanted o (yielded ops a.tmps) = true) (t : TypeId) (parts : Array (Nat × Operand)) (ho : o.op = .build t parts) (l : List Value) (hb : P.built t (parts.map fun (i, x) => (i, a.eval x)).toList = some l.toArray)
    (h : wpList P ops Q rest (a.put o.dst (.agg l.toArray)) w) : wpList P ops Q (o :: rest) a w := by
  refine arm hgd (.agg l.toArray) w ?_ h
  unfold execOp
  simp only [ho, Sem.run_bind, run_build w t _ l.toArray hb, Result.andThen_ok, Sem.run_pure]
end
end Go.Proofs.YtfilokdleehklaaDoor
