/- From the walks to the rows: what the listed tables give; the post where nothing that was there has turned. -/
import Derived.Test.YtfilokdleehklaaDoorCards
import Derived.Test.YtfilokdleehklaaDoorTie
import Derived.Test.YtfilokdleehklaaDoorMem
import Derived.Test.YtfilokdleehklaaDoorWords
import Derived.WalkKit
import Derived.ProofKit
import Derived.OpenShut
import Derived.Deep.DeepHandedRow
import Derived.Lib.LaidTab
import Derived.ChangeMaps5
set_option linter.all false
namespace Go.Proofs.YtfilokdleehklaaDoor
open Go.ChangeShapes Go.WideShapes Go.ChangeAt Go.RowKit

/-- The listed tables are plain rows of memory. -/
theorem laid_blk {P : Program} {W : World} {name : String} {k : IntKind} {zs : List Int} {g : Nat} {t e : TypeId} {n : Nat} (hg : P.globalNamed name = some g) (hty : (P.globals[g]?).map (·.type) = some t)
    (ht : P.underlying t = some (.array n e)) (he : P.underlying e = some (.int k)) (hce : P.cellsOf e = 1) (hct : P.cellsOf t = n) (hz : zs ≠ []) {laid : List (String × DataW Unit)}
    (hm : (name, Lib.tabData k zs) ∈ laid) (h : laidMet P laid W) : ∃ T, Blk W g T (zs.map fun z => Value.int k z) := by
  obtain ⟨ps, hps, _, hfz⟩ := h
  have key : ∀ (laid : List (String × DataW Unit)) (ps : List MemPlace), DataW.LaidVars P W laid ps → (name, Lib.tabData k zs) ∈ laid →
      ∃ cs, W.var? P name = some cs ∧ cs = (zs.map fun z => Value.int k z).toArray ∧ ∀ p ∈ MemPlace.row ⟨g, 0, none⟩ cs.size, p ∈ ps := by
    intro laid
    induction laid with
    | nil => intro ps _ hm; cases hm
    | cons x r ih =>
      intro ps hps hm
      obtain ⟨nm, d⟩ := x
      obtain ⟨g', t', cs, fuel, p, q, hg', ht', hvar, hd, hr, rfl⟩ := hps
      rcases List.mem_cons.1 hm with hm | hm
      · cases hm
        obtain rfl := Option.some.inj (hg.symm.trans hg')
        obtain rfl := Option.some.inj (hty.symm.trans ht')
        refine ⟨cs, hvar, (Lib.cells_of_tab ht he hce hct hd).symm ▸ rfl, fun p hp => ?_⟩
        simp [hp]
      · obtain ⟨cs2, h1, h2, h3⟩ := ih q hr hm
        exact ⟨cs2, h1, h2, fun p hp => by simp [h3 p hp]⟩
  obtain ⟨cs, h1, rfl, h3⟩ := key laid ps hps hm
  have h0 : MemPlace.cell g 0 ∈ ps := by
    refine h3 _ ?_
    have : 0 < zs.length := List.length_pos_iff.2 hz
    simp [MemPlace.row]
    exact this
  obtain ⟨⟨c, T, hc⟩, _⟩ := hfz g 0 h0
  refine ⟨T, ?_⟩
  unfold World.var? at h1
  rw [hg] at h1
  simp only [Option.bind_some, hc, Option.some.injEq] at h1
  unfold Blk
  rw [hc, h1]

section
variable {H : Type} {enc : TypeId × Value → H} {P : Program}
/-- The post where the arguments read as they did and nothing that was there has turned. -/
theorem post_same {f : Func} {s : ChangeSpec} {apart fresh handsOn again : Bool} {W W' : World} {args : Array Value} {v : Value} {ds gs : List (DataW H)} {before pa pv : List MemPlace}
    (hW : DataW.Whole enc P f.params.toList s.vars apart W args.toList ds gs before)
    (hres : ∀ (b : Nat) (sp : Nat → Bool) (hd : Bool), DataW.TrodAll enc P W' b sp hd f.resultTypes.toList (v.resultList f.resultTypes.size) (s.fn H (ds ++ gs)).results [])
    (hargs : ∀ sp : Nat → Bool, (∀ p ∈ before, sp p.block = true) → DataW.TrodAll enc P W' 0 sp true f.params.toList args.toList (s.fn H (ds ++ gs)).args pa)
    (hvars : ∀ sp : Nat → Bool, (∀ p ∈ before, sp p.block = true) → DataW.TrodVars enc P W' sp s.vars (s.fn H (ds ++ gs)).vars pv)
    (hps : before = pa ++ pv) (hU : Upd [] W W')
    (hok : ∀ (j : Nat) (t : TypeId) (r : Value), f.resultTypes[j]? = some t → (v.resultList f.resultTypes.size)[j]? = some r → Value.okWide P W' .any 0 t r) :
    s.post enc P f apart fresh handsOn again W args v W' := by
  have hlt : ∀ p ∈ before, p.block < W.heap.size := fun p hp => hW.lt p hp
  have hold : ∀ p ∈ before, (fun b => decide (b < W.heap.size)) p.block = true := fun p hp => by simpa using hlt p hp
  refine ⟨ds, gs, before, [], pa, pv, hW, hres _ _ _, hargs _ hold, hvars _ hold, World.keptBut_mono (fun p hp => ⟨hp, ?_⟩) (hU.below.frame (· ∈ before)), fun _ => ?_⟩
  · rw [hps, List.mem_append] at hp
    exact Or.inr hp
  · obtain ⟨_, _, _, _, _, hz, hn⟩ := hW
    refine ⟨hok, _, _, ([] ++ pa) ++ pv, ⟨[] ++ pa, pv, trodAll_append (hargs _ (fun _ _ => rfl)) (hres _ _ _), hvars _ (fun _ _ => rfl), rfl, ?_, ?_⟩, ?_⟩
    · intro b off hp
      have hp' : MemPlace.cell b off ∈ before := by rw [hps]; simpa using hp
      have h1 := hlt _ hp'
      rw [hU.frozen (p := ⟨b, off, none⟩) h1 (by simp)]
      exact hz b off hp'
    · intro ha
      have := hn ha
      rw [hps] at this
      simpa using this
    · intro p hp _
      rw [hps]
      simpa using hp
end
end Go.Proofs.YtfilokdleehklaaDoor
