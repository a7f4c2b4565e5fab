/- The walks of the document's Text and of IsZero. -/
import Derived.Test.YtfilokdleehklaaDoorTexts
import Derived.Test.YtfilokdleehklaaDoorHexLaw
set_option linter.all false
namespace Go.Proofs.YtfilokdleehklaaDoor
open Go.RowKit
set_option maxHeartbeats 2000000
set_option maxRecDepth 100000

theorem rText_any (d : List UInt8) (hd : d.length = 32) (w : World) :
    Calls Tryd.prog 29 #[.agg (d.map b8).toArray] w fun e w' => e = .returned (.string ⟨(hex d).toArray⟩) ∧ Upd [] w w' := by
  go_enter Tryd.func29, Tryd.ntmps29
  have hb0 := Blk.new w 27 (d.map b8)
  have HB0 := hid hb0
  clear hb0
  go_wp2
  go_loopw [3, 4] (fun x3 x4 wr => ∃ (t : Nat) (v3 : Value), v3 = x3 ∧ t ≤ 32 ∧ x4 = .int .i64 t ∧ Bs wr (w.heap.size + 1) v3 (hex (d.take t)) ∧ Upd [] (w.alloc (Obj.cells (d.map b8).toArray 27)) wr) (fun _ x4 _ => 32 - (intOf x4).toNat)
  case atStart => exact ⟨0, _, rfl, by omega, rfl, Own.nil _ _ _ _, Upd.refl _ _⟩
  case round =>
    obtain ⟨t, v3, rfl, ht, rfl, hB, hU⟩ := hrel
    have hsz0 := hU.size
    rw [World.size_alloc] at hsz0
    have hln : (hex (d.take t)).length = 2 * t := by rw [hex_length, List.length_take, hd, Nat.min_eq_left ht]
    have hown := hB.lt
    have hbd := hU.blk HB0.out (by simp)
    have HB := hid hB
    have HU := hid hU
    clear hB hU
    by_cases hlt : t < 32
    · obtain ⟨x, hx⟩ : ∃ x, d[t]?.getD 0 = x := ⟨_, rfl⟩
      have hcell : wr.cell? ⟨w.heap.size, t, none⟩ = some (.int .u8 (x.toNat : Int)) := by
        refine hbd.cellD ?_
        rw [List.getElem?_map, List.getElem?_eq_getElem (by omega)]
        rw [List.getElem?_eq_getElem (by omega)] at hx
        rw [show d[t] = x from hx]
        rfl
      clear hbd
      have hx256 : x.toNat < 256 := x.toNat_lt
      have hd1 := index_digits .u8 (x.toNat / 16) (by omega)
      have hd2 := index_digits .u8 (x.toNat % 16) (by omega)
      rw [show ((x.toNat / 16 : Nat) : Int) = (x.toNat : Int) / 16 from by omega] at hd1
      rw [show ((x.toNat % 16 : Nat) : Int) = (x.toNat : Int) % 16 from by omega] at hd2
      go_wp2
      refine Ord.region mixed (by kernel_rfl) ?_
      have hBn := (Blk.new wr 5 ([hexd (x.toNat / 16), hexd (x.toNat % 16)].map b8)).drew
      have HBn := hid hBn
      clear hBn
      have HO := hid hown
      clear hown
      go_wp2_with (refine arm_append rfl _ _ rfl (w.heap.size + 1) v3 (hex (d.take t)) [hexd (x.toNat / 16), hexd (x.toNat % 16)] rfl (HB.out.drew.alloc _) wr.heap.size 2 2 _ rfl HBn.out rfl (by simp; omega) (by simp; omega) ?_; intro v2 w2 hB2 hU2; have HB2 := hid hB2; have HU2 := hid ((HU.out.drew.alloc _).trans' hU2 (by intro i hi; simp at hi; exact .inr (by rw [World.size_alloc]; exact (HO.out i hi).1))); clear hB2 hU2)
      refine Ord.Fin.mk (by kernel_rfl) ?_
      go_wp2
      go_roundw
      case measure => simp [intOf]; omega
      case rel =>
        refine ⟨t + 1, v2, rfl, by omega, by go_num, ?_, HU2.out⟩
        rw [hex_take _ _ _ hx (by omega)]
        exact HB2.out
    · have e32 : t = 32 := by omega
      clear hbd
      go_wp2_with (refine arm_text rfl _ rfl (w.heap.size + 1) v3 (hex (d.take t)) rfl HB.out ?_)
      go_ret
      refine ⟨?_, ((Upd.refl [] w).alloc _).trans' HU.out (by simp)⟩
      show Ending.returned (.string ⟨(hex (d.take 32)).toArray⟩) = _
      rw [List.take_of_length_le (by omega)]

theorem IsZero_any (d : List UInt8) (hd : d.length = 32) (w : World) :
    Calls Tryd.prog 30 #[.agg (d.map b8).toArray] w fun e w' => e = .returned (.bool (d == List.replicate 32 0)) ∧ Upd [] w w' := by
  go_enter Tryd.func30, Tryd.ntmps30
  have hb0 := Blk.new w 28 (d.map b8)
  have hr := hb0.whole
  clear hb0
  have he := eql28 d (List.replicate 32 0) hd (by simp)
  have hg : ∀ (x y : Operand) (xs ys : Array Value) (w : World), (eqGuard .eql 28 x y (.agg xs) (.agg ys)).run Tryd.prog w = .ok () w := fun x y xs ys w => run_eqGuard_agg w .eql 28 x y xs ys (by kernel_rfl)
  rw [show ((List.replicate 32 (0 : UInt8)).map b8).toArray = (List.replicate 32 (Value.int .u8 0)).toArray from by rw [List.map_replicate]; rfl] at he
  simp only [List.replicate] at he
  go_wp2_with (refine arm_load28 rfl _ rfl w.heap.size 0 rfl (d.map b8) hr (by rw [List.length_map, hd]) ?_)
  go_ret
  exact ⟨rfl, (Upd.refl _ _).alloc _⟩
end Go.Proofs.YtfilokdleehklaaDoor
