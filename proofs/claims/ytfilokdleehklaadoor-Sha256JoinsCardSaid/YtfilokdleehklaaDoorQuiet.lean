/- Regions that draw, whose operations only read and whose callees leave what was there as it was: one walk in the order of the text, over the class 'nothing that was there has turned'. -/
import Derived.Test.YtfilokdleehklaaDoorBits
import Derived.Test.YtfilokdleehklaaDoorSl
import Derived.Deep.QuietTactic
set_option linter.all false
namespace Go.Proofs.YtfilokdleehklaaDoor
open Go.RowKit
section
variable {P : Program} {ops : Array Oper} {C : World → Prop} {Q : Act → Prop} {o : Oper} {rest : List Oper} {a : Act}
theorem q_value (hw : Region.wanted o (yielded ops a.tmps) = true) (v : Value) (hv : ∀ W, C W → (execOp a.eval o).run P W = .ok (.value v) W) (h : wpQuiet P ops C Q rest (a.put o.dst v)) : wpQuiet P ops C Q (o :: rest) a :=
  wpQuiet_step fun K hK => by
    rw [if_pos hw]
    refine ⟨v, fun W hW => ?_, hK _ h⟩
    unfold Oper.quietAt
    rw [hv W hW]
    exact ⟨rfl, rfl⟩
theorem q_load (hw : Region.wanted o (yielded ops a.tmps) = true) (ty : TypeId) (x : Operand) (ho : o.op = .load ty x) (d : TypeDesc) (hu : P.underlying ty = some d) (hd : d.isRow = true)
    (b off : Nat) (hx : a.eval x = .pointer (some ⟨b, off, none⟩)) (cs : List Value) (hc : ∀ W, C W → W.rangeAt b off cs) (hi : (P.info? ty).map (·.size) = some cs.length) (h : wpQuiet P ops C Q rest (a.put o.dst (.agg cs.toArray))) : wpQuiet P ops C Q (o :: rest) a :=
  q_value hw (.agg cs.toArray) (fun W hW => by
    unfold execOp
    simp only [ho, hx, Sem.run_bind, run_loadAt_mid W b off ty cs d (hc W hW) hu hd hi, Result.andThen_ok, Sem.run_pure]) h
theorem q_call (hw : Region.wanted o (yielded ops a.tmps) = true) (f : FuncId) (args : Array Value) (hr : ∀ W, (execOp a.eval o).run P W = .ok (.enter f args) W) (v : Value)
    (hc : ∀ W, C W → Calls P f args W fun e W' => e = .returned v ∧ C W') (h : wpQuiet P ops C Q rest (a.put o.dst v)) : wpQuiet P ops C Q (o :: rest) a :=
  wpQuiet_step fun K hK => by
    rw [if_pos hw]
    refine ⟨v, fun W hW => ?_, hK _ h⟩
    unfold Oper.quietAt
    rw [hr W]
    exact ⟨rfl, hc W hW⟩
end
theorem q_region {id : Nat} {Q : Exit → Act → World → Prop} {a : Act} {w : World} {l : List Oper} (hm : Tryd.prog.follows .mixedOrders = true) (hB : Region.lexB .any l.toArray = true)
    (h : wpQuiet Tryd.prog l.toArray (fun W => Upd [] w W) (fun a' => ∀ w', Upd [] w w' → Q .normal a' w') l a) : (Code.region id l.toArray true).wp Tryd.prog Q a w :=
  wp_region_quiet (C := fun W => Upd [] w W) hm hB ((Upd.refl [] w).drew) (by simpa using h)
/-- A callee that leaves what was there as it was keeps the class. -/
theorem q_keep {P : Program} {f : FuncId} {args : Array Value} {w W : World} {v : Value} (hW : Upd [] w W) (h : Calls P f args W fun e W' => e = .returned v ∧ Upd [] W W') : Calls P f args W fun e W' => e = .returned v ∧ Upd [] w W' :=
  h.mono fun _ _ ⟨he, hU⟩ => ⟨he, hW.trans hU⟩
end Go.Proofs.YtfilokdleehklaaDoor
