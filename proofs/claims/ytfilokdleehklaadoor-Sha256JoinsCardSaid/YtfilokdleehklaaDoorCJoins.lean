/- The statement Sha256Joins: for every input it returns true and its arguments read as they did; the tables are those of the program's text. -/
import Derived.Test.YtfilokdleehklaaDoorJoinsLaw
import Derived.Test.YtfilokdleehklaaDoorRow2
import Derived.Test.YtfilokdleehklaaDoorOrder
set_option linter.all false
namespace Go.Proofs.YtfilokdleehklaaDoor.sha256Joins
open Go.ChangeShapes Go.WideShapes Go.ChangeAt Go.RowKit
set_option maxRecDepth 100000

theorem own : ownKnob Tryd.prog.godebug = none := by kernel_rfl
theorem initial_blk {W : World} (h : laidMetH Tryd.prog Rows.sha256JoinsRow.laid W) : ∃ T, Blk W 0 T (Sha.initial.list.map w32) := by
  have := laid_blk (P := Tryd.prog) (name := "replevin/sha256.initial") (k := .u32) (zs := List.map (fun x : Sha.W => (x.toNat : Int)) Sha.initial.list) (g := 0) (by kernel_rfl) (by kernel_rfl) Tryd.underlying46 Tryd.underlying45 (by kernel_rfl) (by kernel_rfl) (by decide)
    (laid := Rows.sha256JoinsRow.laid) (by exact List.mem_cons_self) h
  rw [List.map_map] at this
  exact this
theorem constants_blk {W : World} (h : laidMetH Tryd.prog Rows.sha256JoinsRow.laid W) : ∃ T, Blk W 2 T (Sha.ks.map w32) := by
  have := laid_blk (P := Tryd.prog) (name := "replevin/sha256.constants") (k := .u32) (zs := List.map (fun x : Sha.W => (x.toNat : Int)) Sha.ks) (g := 2) (by kernel_rfl) (by kernel_rfl) Tryd.underlying200 Tryd.underlying45 (by kernel_rfl) (by kernel_rfl) (by decide)
    (laid := Rows.sha256JoinsRow.laid) (by exact List.mem_cons_of_mem _ List.mem_cons_self) h
  rw [List.map_map] at this
  exact this
theorem rec : ∀ t ∈ Tryd.f3.params.toList, Tryd.prog.readableRec t = true ∧ t < Tryd.prog.types.size := by
  rw [Tryd.params3]
  decide +kernel

theorem contract (H : Type) (enc : TypeId × Value → H) (W : World) (base : Nat) (args : Array Value) (ds gs : List (DataW H)) (before : List MemPlace)
    (hval : ∀ (j : Nat) t v, Tryd.f3.params[j]? = some t → args[j]? = some v → Value.okWide Tryd.prog W .any base t v)
    (hW : DataW.Whole enc Tryd.prog Tryd.f3.params.toList Rows.sha256JoinsSpec.vars false W args.toList ds gs before) (hL : laidMetH Tryd.prog Rows.sha256JoinsRow.laid W) :
    Calls Tryd.prog 3 args W fun e W' => ∃ v, e = .returned v ∧ Rows.sha256JoinsSpec.post enc Tryd.prog Tryd.f3 false true false false W args v W' := by
  have hW' := hW
  obtain ⟨p, q, hA0, hV, rfl, hfz, hnd⟩ := hW
  obtain ⟨rfl, rfl⟩ := trodVars_none hV
  simp only [List.append_nil] at hW' hA0
  have hA : DataW.TrodAll enc Tryd.prog W 0 (fun _ => true) true Tryd.f3.params.toList args.toList ds p := hA0
  have hA1 := hA
  rw [Tryd.params3] at hA hval
  obtain ⟨v0, vs0, d0, ds0, p0, q0, hargs0, rfl, rfl, h0, r0⟩ := trodAll_cons hA
  obtain ⟨v1, vs1, d1, ds1, p1, q1, hargs1, rfl, rfl, h1, r1⟩ := trodAll_cons r0
  obtain ⟨rfl, rfl, rfl⟩ := trodAll_nil r1
  obtain rfl : args = #[v0, v1] := by cases args; simp_all
  obtain ⟨tag, rfl⟩ := open_u8 Tryd.underlying5 (hval 0 5 v0 rfl rfl) h0
  obtain ⟨l, hl, hlen⟩ := open_texts Tryd.underlying22 Tryd.underlying9 (by kernel_rfl) (hval 1 22 v1 rfl rfl) h1
  obtain ⟨Ti, hi⟩ := initial_blk hL
  obtain ⟨Tk, hk⟩ := constants_blk hL
  refine (joins_walk tag l v1 W hl (by unfold maxLen at hlen; omega) Ti Tk hi hk).mono fun e W' ⟨he, hU⟩ => ?_
  subst he
  exact ⟨_, rfl, post_law hW' hA1 facts3.1 rec (by kernel_rfl) Tryd.underlying4 rfl rfl rfl rfl hU⟩

/-- A world for the witness: the settled one, the tables holding what their initialisers lay. -/
def lay (l : List Value) : Obj → Obj
  | .cells _ t frozen => .cells l.toArray t frozen
  | o => o
noncomputable def laidWorld (os : Os) : World :=
  { World.holding Tryd.prog os ⟨#[], #[], []⟩ with heap := ((World.holding Tryd.prog os ⟨#[], #[], []⟩).heap.modify 0 (lay (Sha.initial.list.map w32))).modify 2 (lay (Sha.ks.map w32)) }
theorem laid_met (os : Os) : laidMet Tryd.prog Rows.sha256JoinsRow.laid ((laidWorld os).forCall (fun _ _ => 0) ⟨#[], #[.int .u8 0, .slice none 0 0], []⟩).memory :=
  laidMet_of_run' 8 (by kernel_rfl) (by kernel_rfl)
theorem reads (os : Os) {H : Type} (enc : TypeId × Value → H) : ∃ places, DataW.whole enc Tryd.prog ((laidWorld os).forCall (fun _ _ => 0) ⟨#[], #[.int .u8 0, .slice none 0 0], []⟩).memory Tryd.f3.params.toList Rows.sha256JoinsSpec.vars false (#[.int .u8 0, .slice none 0 0] : Array Value).toList 8 = some ([.lit (.int .u8 0), .nil], [], places) :=
  ⟨[], by kernel_rfl⟩

theorem lifted (os : Os) (started : os.Started) (H : Type) (enc : TypeId × Value → H) (F : Stop.Interp) :
    ReturnsInHanded {} Tryd.checked os 3 .any ((OpenSpec.ofChange Rows.sha256JoinsSpec).preRow enc Tryd.prog Tryd.f3 Rows.sha256JoinsRow.domain false Rows.sha256JoinsRow.laid) (((OpenSpec.ofChange Rows.sha256JoinsSpec).at F).post enc Tryd.prog Tryd.f3 false true false false) := by
  obtain ⟨places, hx⟩ := reads os enc
  refine returnsInHanded_of_row (C := Tryd.checked) (s := OpenSpec.ofChange Rows.sha256JoinsSpec) own started (by kernel_rfl) Tryd.func3
    (witness_row_at (enc := enc) (C := Tryd.checked) false (laidWorld os) #[.int .u8 0, .slice none 0 0] rfl (by kernel_rfl) (by kernel_rfl) (by kernel_rfl)
      (OpenSpec.preRow_of_cond 8 hx (by kernel_rfl) (fun k hk => by cases hk) (by kernel_rfl) (laid_met os))) ?_
  intro W base args ds gs before hval hW _ _ _ hL _ _
  exact contract H enc W base args ds gs before hval hW hL

theorem closed : joinedFacts Tryd.prog 3 Tryd.f3 (OpenSpec.ofChange Rows.sha256JoinsSpec).bare Rows.sha256JoinsRow = true :=
  joined_gen Tryd.prog _ _ _ Rows.sha256JoinsRow (by kernel_rfl) facts3.1 facts3.2.1 (by kernel_rfl) (by kernel_rfl) (by kernel_rfl) (by kernel_rfl) (by kernel_rfl) (by kernel_rfl) (by kernel_rfl) (by kernel_rfl) (by kernel_rfl) (by kernel_rfl)
    (by kernel_rfl) (by kernel_rfl) (by kernel_rfl) (by kernel_rfl) (by kernel_rfl) (by kernel_rfl) (by kernel_rfl) (by kernel_rfl) (by kernel_rfl) (by rw [facts3.2.2]; rfl) (by kernel_rfl) (by kernel_rfl) mayEnter_eq (by rw [lifts_eq]; rfl) (by rw [make_eq]; rfl)
    (by kernel_rfl) (by kernel_rfl) (by kernel_rfl) (by kernel_rfl) (by kernel_rfl)
theorem said : Rows.Sha256JoinsSaid :=
  OpenClaim.holds_of_cond 3 Tryd.f3 rfl rfl rfl rfl rfl rfl rfl ⟨rfl, rfl, rfl, rfl, rfl⟩ rfl rfl rfl rfl rfl (by kernel_rfl) Tryd.func3 closed
    (of_decide_eq_true (by kernel_rfl)) (by unfold Func.isWrapper; first | (rw [if_pos (by decide +kernel)]; kernel_rfl) | (rw [if_neg (by decide +kernel)]; exact ⟨rfl, rfl⟩))
    (fun os started H enc _ F => by rw [OpenClaim.pre_eq_preRow]; exact lifted os started H enc F)

theorem wants : ∀ t ∈ Tryd.f3.params.toList, Tryd.prog.wantsStandIn t = false := by
  rw [Tryd.params3]
  decide +kernel
theorem plain (f : FuncId) (fn : Func) (hf : Tryd.pinned.checked.prog.funcNamed "replevin/replevinlaw02.Sha256Joins" = some f) (hfn : Tryd.pinned.checked.prog.funcs[f]? = some fn) :
    false = Tryd.pinned.checked.prog.looks [] ∧ ∀ (j : Nat) t, fn.params[j]? = some t → Tryd.pinned.checked.prog.wantsStandIn t = false := by
  obtain rfl : f = 3 := Option.some.inj ((show Tryd.prog.funcNamed "replevin/replevinlaw02.Sha256Joins" = some 3 by kernel_rfl).symm.trans hf) |>.symm
  obtain rfl : fn = Tryd.f3 := (Option.some.inj (Tryd.func3.symm.trans hfn)).symm
  exact ⟨by kernel_rfl, fun j t ht => wants t (by simpa using Array.mem_of_getElem? ht)⟩

theorem card : Rows.Sha256JoinsCardSaid :=
  Claim7.holds_tied_plain_at .later [] _ _ _ _ said (fun _ h => by cases h) (by kernel_rfl) (fun _ h => by cases h) sha256Joins_row_tie rfl ⟨rfl, rfl⟩ (main_eq.trans (congrArg (fun l => some (true, l)) (String.toList_ofList (l := sumSigns)).symm)) rfl plain (by kernel_rfl)
end Go.Proofs.YtfilokdleehklaaDoor.sha256Joins
