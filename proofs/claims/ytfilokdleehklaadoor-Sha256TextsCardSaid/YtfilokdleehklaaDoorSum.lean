/- The walk of (*Hash).Sum. -/
import Derived.Test.YtfilokdleehklaaDoorPad
import Derived.Deep.Cut
import Derived.Deep.CutBlock
import Derived.Deep.RegionHeld3
set_option linter.all false
namespace Go.Proofs.YtfilokdleehklaaDoor
open Go.RowKit
set_option maxHeartbeats 2000000
set_option maxRecDepth 100000
attribute [local go_sem] index8

theorem thereNew (w : World) (c : Array Value) (T n : Nat) (h : c.size = 64 ∧ n = w.heap.size) : (w.alloc (Obj.cells c T)).there n 0 64 := by
  obtain ⟨h1, rfl⟩ := h
  have := Blk.there (Blk.new w T c.toList) 0 64 (by simp [h1])
  simpa using this
theorem HSum_any (b : Nat) (m : List UInt8) (w : World) (Ti Tk : Nat) (hh : HashAt w b m) (hi : Blk w 0 Ti (Sha.initial.list.map w32)) (hk : Blk w 2 Tk (Sha.ks.map w32))
    (hl : m.length ≤ 1000000000000) :
    Calls Tryd.prog 33 #[.pointer (some ⟨b, 0, none⟩)] w fun e w' => e = .returned (.agg ((Sha.digest m).map b8).toArray) ∧ Upd [] w w' := by
  obtain ⟨rest, hr, hrest, hB⟩ := hh
  have c0 : w.cell? ⟨b, 0, none⟩ = some (.int .i64 (m.length : Int)) := hB.cellD rfl
  have s0 : w.cell? ⟨b, 1, none⟩ = some (.int .u32 (Sha.state m).a.toNat) := hB.cellD rfl
  have s1 : w.cell? ⟨b, 2, none⟩ = some (.int .u32 (Sha.state m).b.toNat) := hB.cellD rfl
  have s2 : w.cell? ⟨b, 3, none⟩ = some (.int .u32 (Sha.state m).c.toNat) := hB.cellD rfl
  have s3 : w.cell? ⟨b, 4, none⟩ = some (.int .u32 (Sha.state m).d.toNat) := hB.cellD rfl
  have s4 : w.cell? ⟨b, 5, none⟩ = some (.int .u32 (Sha.state m).e.toNat) := hB.cellD rfl
  have s5 : w.cell? ⟨b, 6, none⟩ = some (.int .u32 (Sha.state m).f.toNat) := hB.cellD rfl
  have s6 : w.cell? ⟨b, 7, none⟩ = some (.int .u32 (Sha.state m).g.toNat) := hB.cellD rfl
  have s7 : w.cell? ⟨b, 8, none⟩ = some (.int .u32 (Sha.state m).h.toNat) := hB.cellD rfl
  have r2 : w.rangeAt b 9 (rest.map b8) := by
    have := hB.range 9 64
    rwa [show (List.drop 9 (Value.int .i64 (m.length : Int) :: ((Sha.state m).list.map w32 ++ rest.map b8))).take 64 = rest.map b8 from by
      show ((rest.map b8).take 64) = _
      rw [List.take_of_length_le (by simp [hr])]] at this
  have hlt := hB.lt
  have HB := hid hB
  have HI := hid hi
  have HK := hid hk
  clear hB hi hk
  have hu46 := Tryd.underlying46
  have hu47 := Tryd.underlying47
  have hn46 : (Tryd.prog.info? 46).map (·.size) = some ((Sha.state m).list.map w32).length := by kernel_rfl
  have hn47 : (Tryd.prog.info? 47).map (·.size) = some (rest.map b8).length := by rw [List.length_map, hr]; kernel_rfl
  have hl46 : ((Sha.state m).list.map w32).length = 8 := rfl
  have hl47 : (rest.map b8).length = 64 := by rw [List.length_map, hr]
  have ho46 := w32_one (Sha.state m).list
  have ho47 := b8_one rest
  have HS : ∀ W : World, Upd [] w W → (fun W => Upd [] w W ∧ W.cell? ⟨b, 0, none⟩ = some (.int .i64 (m.length : Int)) ∧ (W.cell? ⟨b, 1, none⟩ = some (.int .u32 (Sha.state m).a.toNat) ∧ W.cell? ⟨b, 2, none⟩ = some (.int .u32 (Sha.state m).b.toNat) ∧ W.cell? ⟨b, 3, none⟩ = some (.int .u32 (Sha.state m).c.toNat) ∧ W.cell? ⟨b, 4, none⟩ = some (.int .u32 (Sha.state m).d.toNat) ∧ W.cell? ⟨b, 5, none⟩ = some (.int .u32 (Sha.state m).e.toNat) ∧ W.cell? ⟨b, 6, none⟩ = some (.int .u32 (Sha.state m).f.toNat) ∧ W.cell? ⟨b, 7, none⟩ = some (.int .u32 (Sha.state m).g.toNat) ∧ W.cell? ⟨b, 8, none⟩ = some (.int .u32 (Sha.state m).h.toNat)) ∧ W.rangeAt b 9 (rest.map b8)) W := by
    intro W hU
    have hc : ∀ i, W.cell? ⟨b, i, none⟩ = w.cell? ⟨b, i, none⟩ := fun i => hU.cell hlt (by simp)
    exact ⟨hU, (hc _).trans c0, ⟨(hc _).trans s0, (hc _).trans s1, (hc _).trans s2, (hc _).trans s3, (hc _).trans s4, (hc _).trans s5, (hc _).trans s6, (hc _).trans s7⟩, fun j v hv => (hc _).trans (r2 j v hv)⟩
  have HT1 : ∀ A B : Obj, (((w.alloc A).alloc B).alloc (Obj.cells #[Value.int IntKind.u8 0, Value.int IntKind.u8 0, Value.int IntKind.u8 0, Value.int IntKind.u8 0, Value.int IntKind.u8 0, Value.int IntKind.u8 0, Value.int IntKind.u8 0, Value.int IntKind.u8 0, Value.int IntKind.u8 0, Value.int IntKind.u8 0, Value.int IntKind.u8 0, Value.int IntKind.u8 0, Value.int IntKind.u8 0, Value.int IntKind.u8 0, Value.int IntKind.u8 0, Value.int IntKind.u8 0, Value.int IntKind.u8 0, Value.int IntKind.u8 0, Value.int IntKind.u8 0, Value.int IntKind.u8 0, Value.int IntKind.u8 0, Value.int IntKind.u8 0, Value.int IntKind.u8 0, Value.int IntKind.u8 0, Value.int IntKind.u8 0, Value.int IntKind.u8 0, Value.int IntKind.u8 0, Value.int IntKind.u8 0, Value.int IntKind.u8 0, Value.int IntKind.u8 0, Value.int IntKind.u8 0, Value.int IntKind.u8 0, Value.int IntKind.u8 0, Value.int IntKind.u8 0, Value.int IntKind.u8 0, Value.int IntKind.u8 0, Value.int IntKind.u8 0, Value.int IntKind.u8 0, Value.int IntKind.u8 0, Value.int IntKind.u8 0, Value.int IntKind.u8 0, Value.int IntKind.u8 0, Value.int IntKind.u8 0, Value.int IntKind.u8 0, Value.int IntKind.u8 0, Value.int IntKind.u8 0, Value.int IntKind.u8 0, Value.int IntKind.u8 0, Value.int IntKind.u8 0, Value.int IntKind.u8 0, Value.int IntKind.u8 0, Value.int IntKind.u8 0, Value.int IntKind.u8 0, Value.int IntKind.u8 0, Value.int IntKind.u8 0, Value.int IntKind.u8 0, Value.int IntKind.u8 0, Value.int IntKind.u8 0, Value.int IntKind.u8 0, Value.int IntKind.u8 0, Value.int IntKind.u8 0, Value.int IntKind.u8 0, Value.int IntKind.u8 0, Value.int IntKind.u8 0] 47)).drew.there (w.heap.size + 1 + 1) 0 64 = True := fun A B => eq_true (thereNew ((w.alloc A).alloc B) _ _ _ (by simp))
  have HT2 : ∀ A B : Obj, (((w.alloc A).alloc (Obj.cells #[Value.int IntKind.u8 0, Value.int IntKind.u8 0, Value.int IntKind.u8 0, Value.int IntKind.u8 0, Value.int IntKind.u8 0, Value.int IntKind.u8 0, Value.int IntKind.u8 0, Value.int IntKind.u8 0, Value.int IntKind.u8 0, Value.int IntKind.u8 0, Value.int IntKind.u8 0, Value.int IntKind.u8 0, Value.int IntKind.u8 0, Value.int IntKind.u8 0, Value.int IntKind.u8 0, Value.int IntKind.u8 0, Value.int IntKind.u8 0, Value.int IntKind.u8 0, Value.int IntKind.u8 0, Value.int IntKind.u8 0, Value.int IntKind.u8 0, Value.int IntKind.u8 0, Value.int IntKind.u8 0, Value.int IntKind.u8 0, Value.int IntKind.u8 0, Value.int IntKind.u8 0, Value.int IntKind.u8 0, Value.int IntKind.u8 0, Value.int IntKind.u8 0, Value.int IntKind.u8 0, Value.int IntKind.u8 0, Value.int IntKind.u8 0, Value.int IntKind.u8 0, Value.int IntKind.u8 0, Value.int IntKind.u8 0, Value.int IntKind.u8 0, Value.int IntKind.u8 0, Value.int IntKind.u8 0, Value.int IntKind.u8 0, Value.int IntKind.u8 0, Value.int IntKind.u8 0, Value.int IntKind.u8 0, Value.int IntKind.u8 0, Value.int IntKind.u8 0, Value.int IntKind.u8 0, Value.int IntKind.u8 0, Value.int IntKind.u8 0, Value.int IntKind.u8 0, Value.int IntKind.u8 0, Value.int IntKind.u8 0, Value.int IntKind.u8 0, Value.int IntKind.u8 0, Value.int IntKind.u8 0, Value.int IntKind.u8 0, Value.int IntKind.u8 0, Value.int IntKind.u8 0, Value.int IntKind.u8 0, Value.int IntKind.u8 0, Value.int IntKind.u8 0, Value.int IntKind.u8 0, Value.int IntKind.u8 0, Value.int IntKind.u8 0, Value.int IntKind.u8 0, Value.int IntKind.u8 0] 47)).alloc B).drew.there (w.heap.size + 1) 0 64 = True := fun A B => eq_true (World.there_alloc (thereNew (w.alloc A) _ _ _ (by simp)) B)
  have htm : (m.length : Int).tmod 64 = ((m.length % 64 : Nat) : Int) := by
    rw [Int.tmod_eq_emod_of_nonneg (by omega)]
    omega
  go_enter Tryd.func33, Tryd.ntmps33
  go_wp2
  go_cut [2, 3, 4, 5] from 11 (fun x2 x3 x4 x5 W => ∃ r s k : Nat, x2 = .pointer (some ⟨r, 0, none⟩) ∧ x3 = .pointer (some ⟨s, 0, none⟩) ∧ x4 = .pointer (some ⟨k, 0, none⟩) ∧ x5 = .int .i64 ((m.length % 64 : Nat) : Int) ∧
    w.heap.size ≤ r ∧ w.heap.size ≤ s ∧ w.heap.size ≤ k ∧ r ≠ s ∧ r ≠ k ∧ s ≠ k ∧ Upd [] w W ∧ Blk W r 28 (List.replicate 32 (.int .u8 0)) ∧ Blk W s 46 ((Sha.state m).list.map w32) ∧ Blk W k 47 (rest.map b8))
  case first =>
    --[P
    go_region_held3 (fun W => Upd [] w W ∧ W.cell? ⟨b, 0, none⟩ = some (.int .i64 (m.length : Int)) ∧ (W.cell? ⟨b, 1, none⟩ = some (.int .u32 (Sha.state m).a.toNat) ∧ W.cell? ⟨b, 2, none⟩ = some (.int .u32 (Sha.state m).b.toNat) ∧ W.cell? ⟨b, 3, none⟩ = some (.int .u32 (Sha.state m).c.toNat) ∧ W.cell? ⟨b, 4, none⟩ = some (.int .u32 (Sha.state m).d.toNat) ∧ W.cell? ⟨b, 5, none⟩ = some (.int .u32 (Sha.state m).e.toNat) ∧ W.cell? ⟨b, 6, none⟩ = some (.int .u32 (Sha.state m).f.toNat) ∧ W.cell? ⟨b, 7, none⟩ = some (.int .u32 (Sha.state m).g.toNat) ∧ W.cell? ⟨b, 8, none⟩ = some (.int .u32 (Sha.state m).h.toNat)) ∧ W.rangeAt b 9 (rest.map b8))
      ((go_split_ands; refine HS _ ?_; (repeat' (first | assumption | (with_reducible refine Upd.refl _ _) | (with_reducible refine Upd.drew ?_) | (with_reducible refine Upd.alloc ?_ _) | (with_reducible refine Upd.setCell ?_ _ _ (.inr ?_)) | (with_reducible refine Upd.setCells (.inr ?_) _ _ _ ?_) | (have := (‹Upd [] w _›).size; simp; omega) | simp))))
      (fail)
    all_goals
      clear HT1 HT2 HS hu46 hu47 hn46 hn47 hl46 hl47 ho46 ho47
      generalize hW : World.setCells _ _ _ _ = W at *
    · have hB1 : Blk W w.heap.size 28 (List.replicate 32 (.int .u8 0)) := by
        rw [← hW]
        exact Blk.setCellsOther (by omega) _ _ _ (((Blk.new w 28 (List.replicate 32 (.int .u8 0))).alloc _).alloc _).drew
      have hB2 : Blk W (w.heap.size + 1) 46 ((Sha.state m).list.map w32) := by
        rw [← hW]
        refine Blk.setCellsOther (by omega) _ _ _ (Blk.drew (Blk.alloc ?_ _))
        have := Blk.new (w.alloc (Obj.cells (List.replicate 32 (.int .u8 0)).toArray 28)) 46 ((Sha.state m).list.map w32)
        rwa [World.size_alloc] at this
      have hB3 : Blk W (w.heap.size + 1 + 1) 47 (rest.map b8) := by
        rw [← hW]
        have h0 := Blk.new ((w.alloc (Obj.cells (List.replicate 32 (.int .u8 0)).toArray 28)).alloc (Obj.cells ((Sha.state m).list.map w32).toArray 46)) 47 (List.replicate 64 (.int .u8 0))
        rw [World.size_alloc, World.size_alloc] at h0
        have h1 := Blk.setCells (rest.map b8) 0 _ _ h0.drew
        rwa [splice_eq _ _ _ (by simp [hr]), List.take_zero, List.nil_append, List.drop_of_length_le (by simp [hr]), List.append_nil] at h1
      have hU : Upd [] w W := by
        rw [← hW]
        exact Upd.setCells (.inr (by omega)) _ _ _ ((((Upd.refl _ _).alloc _).alloc _).alloc _).drew
      clear hW
      go_wp2
      go_meet
      exact ⟨w.heap.size, w.heap.size + 1, w.heap.size + 1 + 1, rfl, rfl, rfl, by first | rfl | rw [htm], Nat.le_refl _, by omega, by omega, by omega, by omega, by omega, hU, hB1, hB2, hB3⟩
    · have hB1 : Blk W w.heap.size 28 (List.replicate 32 (.int .u8 0)) := by
        rw [← hW]
        exact Blk.setCellsOther (by omega) _ _ _ (((Blk.new w 28 (List.replicate 32 (.int .u8 0))).alloc _).alloc _).drew
      have hB2 : Blk W (w.heap.size + 1 + 1) 46 ((Sha.state m).list.map w32) := by
        rw [← hW]
        refine Blk.setCellsOther (by omega) _ _ _ (Blk.drew ?_)
        have := Blk.new ((w.alloc (Obj.cells (List.replicate 32 (.int .u8 0)).toArray 28)).alloc (Obj.cells (List.replicate 64 (.int .u8 0)).toArray 47)) 46 ((Sha.state m).list.map w32)
        rwa [World.size_alloc, World.size_alloc] at this
      have hB3 : Blk W (w.heap.size + 1) 47 (rest.map b8) := by
        rw [← hW]
        have h0 := Blk.new (w.alloc (Obj.cells (List.replicate 32 (.int .u8 0)).toArray 28)) 47 (List.replicate 64 (.int .u8 0))
        rw [World.size_alloc] at h0
        have h1 := Blk.setCells (rest.map b8) 0 _ _ (h0.alloc (Obj.cells ((Sha.state m).list.map w32).toArray 46)).drew
        rwa [splice_eq _ _ _ (by simp [hr]), List.take_zero, List.nil_append, List.drop_of_length_le (by simp [hr]), List.append_nil] at h1
      have hU : Upd [] w W := by
        rw [← hW]
        exact Upd.setCells (.inr (by omega)) _ _ _ ((((Upd.refl _ _).alloc _).alloc _).alloc _).drew
      clear hW
      go_wp2
      go_meet
      exact ⟨w.heap.size, w.heap.size + 1 + 1, w.heap.size + 1, rfl, rfl, rfl, by first | rfl | rw [htm], Nat.le_refl _, by omega, by omega, by omega, by omega, by omega, hU, hB1, hB2, hB3⟩
    --P]
  case rest =>
    clear HT1 HT2 HS hu46 hu47 hn46 hn47 hl46 hl47 ho46 ho47 htm s0 s1 s2 s3 s4 s5 s6 s7 r2
    obtain ⟨r, s, k, rfl, rfl, rfl, rfl, hr0, hs0, hk0, hrs, hrk, hsk, hU, hBr, hBs, hBk⟩ := hcut
    have c0 : wc.cell? ⟨b, 0, none⟩ = some (.int .i64 (m.length : Int)) := (hU.cell hlt (by simp)).trans c0
    have hth8 : wc.there s 0 8 := hBs.there 0 8 (by simp [Sha.V.list_length])
    have hinit := (hU.blk HI.out (by simp)).range 0 8
    have HU := hid hU
    have HBr := hid hBr
    have HBs := hid hBs
    have HBk := hid hBk
    clear hU hBr hBs hBk
    go_upto_if 31 with fail
    go_cut [2] from 32 (fun x2 W => x2 = .pointer (some ⟨r, 0, none⟩) ∧ Upd [] w W ∧ Blk W r 28 (List.replicate 32 (.int .u8 0)) ∧ Blk W s 46 ((Sha.blocks Sha.initial m (m.length / 64)).list.map w32) ∧ Blk W k 47 (rest.map b8))
    case first =>
      --[P
      have hbl : m = [] → Sha.blocks Sha.initial m (m.length / 64) = Sha.initial := by
        intro e
        rw [e]
        exact Sha.blocks_zero _ _
      by_cases hz : m.length = 0
      · have hbl := hbl (List.length_eq_zero_iff.1 hz)
        have hz2 : (m.length : Int) = 0 := by omega
        have hth := HBs.out.there 0 8 (by simp [Sha.V.list_length])
        go_wp2_with (first
          | (refine arm_load46 rfl _ rfl 0 0 rfl (Sha.initial.list.map w32) hinit rfl ?_)
          | (refine arm_store46 rfl rfl _ _ rfl s 0 rfl (Sha.initial.list.map w32) rfl hth rfl (w32_one _) ?_))
        go_meet
        refine ⟨rfl, Upd.setCells (.inr hs0) _ _ _ HU.out, HBr.out.setCellsOther (by omega) _ _ _, ?_, HBk.out.setCellsOther (by omega) _ _ _⟩
        rw [hbl]
        exact HBs.out.setCells _ _
      · have hz2 : ¬ ((m.length : Int) = 0) := by omega
        go_wp2
        go_meet
        refine ⟨rfl, HU.out, HBr.out, ?_, HBk.out⟩
        have := HBs.out
        rwa [Sha.state_eq, if_neg (by intro e; exact hz (by rw [e]; rfl))] at this
      --P]
    case rest =>
      clear hth8 hinit c0 HU HBr HBs HBk
      obtain ⟨rfl, hU, hBr, hBs, hBk⟩ := hcut
      obtain ⟨n, hn⟩ : ∃ n, m.length % 64 = n := ⟨_, rfl⟩
      rw [hn]
      have hn64 : n < 64 := by omega
      have c0 : wc.cell? ⟨b, 0, none⟩ = some (.int .i64 (m.length : Int)) := (hU.cell hlt (by simp)).trans (HB.out.cellD rfl)
      obtain ⟨x0, d0⟩ := hBk.ex n (by simp [hr]; omega)
      have d1 := hBk.frozen n
      have HU := hid hU
      have HBr := hid hBr
      have HBs := hid hBs
      have HBk := hid hBk
      clear hU hBr hBs hBk
      go_upto_region 7 with fail
      go_cut [] from 35 (fun W => Upd [] w W ∧ Blk W r 28 (List.replicate 32 (.int .u8 0)) ∧ Blk W s 46 ((Sha.blocks Sha.initial m (m.length / 64)).list.map w32) ∧
        Blk W k 47 ((rest.take n ++ (128 :: List.replicate (63 - n) 0)).map b8))
      case first =>
        --[P
        have hBk2 : Blk (wc.setCell ⟨k, n, none⟩ (.int .u8 128)) k 47 ((rest.map b8).set n (b8 128)) := HBk.out.set n _
        have hth := hBk2.there (n + 1) (63 - n) (by simp [hr]; omega)
        have HBk2 := hid hBk2
        have hth0 := hBk2.there 0 0 (by simp)
        clear hBk2
        have hlist : splice ((rest.map b8).set n (b8 128)) (n + 1) ((List.replicate (63 - n) (0 : UInt8)).map b8) = (rest.take n ++ (128 :: List.replicate (63 - n) 0)).map b8 := by
          rw [splice_eq _ _ _ (by simp [hr]; omega), List.drop_of_length_le (by simp [hr]; omega), List.append_nil, ← List.map_set, ← List.map_take, ← List.map_append]
          congr 1
          rw [List.take_succ_eq_append_getElem (by simp [hr]; omega), List.getElem_set_self, List.take_set_of_le (Nat.le_refl _), List.append_assoc]
          rfl
        have HL := hid hlist
        by_cases h63 : n = 63
        · have hsl := slice47_end k 0 ((n : Int) + 1) (by omega)
          have H63 := hid h63
          clear h63
          go_wp2_with (refine arm_clear rfl rfl _ rfl k 0 0 0 rfl hth0 ?_)
          go_meet
          refine ⟨HU.out.setCell _ _ (.inr hk0), HBr.out.setOther (by exact fun e => hrk e.symm) _, HBs.out.setOther (by exact fun e => hsk e.symm) _, ?_⟩
          have := HBk2.out
          rw [← HL.out, show 63 - n = 0 from by have := H63.out; omega]
          exact this
        · have hsl := slice47_lo k 0 ((n : Int) + 1) (n + 1) (by omega) (by omega) (by omega)
          rw [Nat.zero_add, show 64 - (n + 1) = 63 - n from by omega] at hsl
          go_wp2_with (refine arm_clear rfl rfl _ rfl k (n + 1) (63 - n) _ rfl hth ?_)
          go_meet
          refine ⟨Upd.setCells (.inr hk0) _ _ _ (HU.out.setCell _ _ (.inr hk0)), (HBr.out.setOther (by exact fun e => hrk e.symm) _).setCellsOther (fun e => hrk e.symm) _ _ _, (HBs.out.setOther (by exact fun e => hsk e.symm) _).setCellsOther (fun e => hsk e.symm) _ _ _, ?_⟩
          rw [← HL.out]
          exact HBk2.out.setCells _ _
        --P]
      case rest =>
        clear c0 HU HBr HBs HBk
        obtain ⟨hU, hBr, hBs, hBk⟩ := hcut
        have c0 : wc.cell? ⟨b, 0, none⟩ = some (.int .i64 (m.length : Int)) := (hU.cell hlt (by simp)).trans (HB.out.cellD rfl)
        have HU := hid hU
        have HBr := hid hBr
        have HBs := hid hBs
        have HBk := hid hBk
        clear hU hBr hBs hBk
        go_upto_if 39 with fail
        go_cut [] from 35 (fun W => Upd [] w W ∧ Blk W r 28 (List.replicate 32 (.int .u8 0)) ∧ ∃ (st1 : Sha.V) (F : List UInt8), F.length = 56 ∧ Blk W s 46 (st1.list.map w32) ∧ Blk W k 47 ((F ++ List.replicate 8 0).map b8) ∧
          Sha.digest m = Sha.bytes (Sha.compress st1 (F ++ Sha.be64 (8 * m.length))))
        case first =>
          --[P
          by_cases hge : 56 ≤ n
          · have hlb : (rest.take n ++ (128 :: List.replicate (63 - n) 0)).length = 64 := by simp [hr]; omega
            have hcomp := compress_any s 0 k 0 _ _ Tk _ _ (Sha.blocks Sha.initial m (m.length / 64)) (rest.take n ++ (128 :: List.replicate (63 - n) 0)) wc HBs.out HBk.out (HU.out.blk HK.out (by simp))
              (by
                intro i hi
                rw [Nat.zero_add, List.getElem?_map, List.getElem?_eq_getElem (by exact hi)]
                rfl)
              (by
                intro i hi
                rw [Nat.zero_add, List.getElem?_map, List.getElem?_eq_getElem (by omega)]
                rfl) (by omega) (by omega)
            have HC := hid hcomp
            clear hcomp
            have hgz : (56 : Int) ≤ (n : Int) := by omega
            have hsl := slice47_all k 0
            go_wp2_with (first
              | (go_at_call 86; (with_reducible refine HC.out.mono ?_); rintro e w3 ⟨rfl, hU3, hB3⟩; have hk3 := hU3.blk HBk.out (by simpa using fun e => hsk e.symm); have hth3 := hk3.there 0 64 (by rw [List.length_map]; omega); have HU3 := hid hU3; have HB3 := hid hB3; have HK3 := hid hk3; clear hU3 hB3 hk3)
              | (refine arm_clear rfl rfl _ rfl k 0 64 64 rfl hth3 ?_))
            go_meet
            refine ⟨Upd.setCells (.inr hk0) _ _ _ (HU.out.trans' HU3.out (by intro i hi; rw [List.mem_singleton] at hi; exact .inr (by omega))), (HU3.out.blk HBr.out (by simpa using hrs)).setCellsOther (fun e => hrk e.symm) _ _ _, _, List.replicate 56 0, by simp, HB3.out.setCellsOther (fun e => hsk e.symm) _ _ _, ?_, ?_⟩
            · have := HK3.out.setCells ((List.replicate 64 (0 : UInt8)).map b8) 0
              rw [splice_eq _ _ _ (by simp [hr]; omega), List.take_zero, List.nil_append, List.drop_of_length_le (by simp [hr]; omega), List.append_nil] at this
              exact this
            · rw [Sha.digest_long m rest hr hrest (by omega), hn]
          · have hgz : ¬ (56 : Int) ≤ (n : Int) := by omega
            go_wp2
            go_meet
            refine ⟨HU.out, HBr.out, _, rest.take n ++ (128 :: List.replicate (55 - n) 0), by simp [hr]; omega, HBs.out, ?_, ?_⟩
            · have := HBk.out
              rw [show 63 - n = (55 - n) + 8 from by omega, ← List.replicate_append_replicate] at this
              simpa using this
            · rw [Sha.digest_short m rest hr hrest (by omega), hn]
              simp
          --P]
        case rest =>
          clear c0 HU HBr HBs HBk
          obtain ⟨hU, hBr, st1, F, hF, hBs, hBk, hdig⟩ := hcut
          have c0 : wc.cell? ⟨b, 0, none⟩ = some (.int .i64 (m.length : Int)) := (hU.cell hlt (by simp)).trans (HB.out.cellD rfl)
          have HU := hid hU
          have HBr := hid hBr
          have HBs := hid hBs
          have HD := hid hdig
          obtain ⟨y56, e56⟩ := hBk.ex 56 (by simp [hF])
          obtain ⟨y57, e57⟩ := hBk.ex 57 (by simp [hF])
          obtain ⟨y58, e58⟩ := hBk.ex 58 (by simp [hF])
          obtain ⟨y59, e59⟩ := hBk.ex 59 (by simp [hF])
          obtain ⟨y60, e60⟩ := hBk.ex 60 (by simp [hF])
          obtain ⟨y61, e61⟩ := hBk.ex 61 (by simp [hF])
          obtain ⟨y62, e62⟩ := hBk.ex 62 (by simp [hF])
          obtain ⟨y63, e63⟩ := hBk.ex 63 (by simp [hF])
          have zk : ∀ i, wc.frozen? ⟨k, i, none⟩ = false := fun i => hBk.frozen i
          have HBk := hid hBk
          clear hU hBr hBs hBk hdig
          go_upto_block 0 with fail
          go_cut [] from 48 (fun W => Upd [] w W ∧ Blk W r 28 (List.replicate 32 (.int .u8 0)) ∧ Blk W s 46 (st1.list.map w32) ∧ Blk W k 47 ((F ++ Sha.be64 (8 * m.length)).map b8))
          case first =>
            --[P
            go_wp2
            refine wp_loop_rounds 9 ?_
            iterate 8
              rw [rounds_succ]
              go_wp2
            rw [rounds_succ]
            go_wp2
            go_meet
            refine ⟨?_, ?_, ?_, ?_⟩
            · repeat (with_reducible refine Upd.setFar ?_ hk0 _)
              with_reducible exact HU.out
            · repeat (with_reducible refine Blk.setFar ?_ (Ne.symm hrk) _)
              with_reducible exact HBr.out
            · repeat (with_reducible refine Blk.setFar ?_ (Ne.symm hsk) _)
              with_reducible exact HBs.out
            · have e8 : ((8 * m.length : Nat) : Int) = 8 * (m.length : Int) := by omega
              rw [List.map_append, be64_cells _ (by omega), e8, ← set_tail (F.map b8) (by rw [List.length_map, hF]) (b8 0)]
              repeat (with_reducible refine Blk.set ?_ _ _)
              have := HBk.out
              rwa [List.map_append, List.map_replicate] at this
            --P]
          case rest =>
            clear c0 HU HBr HBs HBk e56 e57 e58 e59 e60 e61 e62 e63 zk
            obtain ⟨hU, hBr, hBs, hBk⟩ := hcut
            have hbl : (F ++ Sha.be64 (8 * m.length)).length = 64 := by rw [List.length_append, hF, Sha.be64_length]
            have hcomp := compress_any s 0 k 0 _ _ Tk _ _ st1 (F ++ Sha.be64 (8 * m.length)) wc hBs hBk (hU.blk HK.out (by simp))
              (by
                intro i hi
                rw [Nat.zero_add, List.getElem?_map, List.getElem?_eq_getElem (by exact hi)]
                rfl)
              (by
                intro i hi
                rw [Nat.zero_add, List.getElem?_map, List.getElem?_eq_getElem (by omega)]
                rfl) (by omega) (by omega)
            have HC := hid hcomp
            obtain ⟨st2, hst2⟩ : ∃ v, v = Sha.compress st1 (F ++ Sha.be64 (8 * m.length)) := ⟨_, rfl⟩
            rw [← hst2] at HC HD
            have HU := hid hU
            have HBr := hid hBr
            clear hU hBr hBs hBk hcomp hst2
            go_upto_block 2 with (first
              | (go_at_call 86; (with_reducible refine HC.out.mono ?_); rintro e w3 ⟨rfl, hU3, hB3⟩; have hr3 := hU3.blk HBr.out (by simpa using hrs); have hu3 := HU.out.trans' hU3 (by intro i hi; rw [List.mem_singleton] at hi; exact .inr (by omega)); have hu3s := hu3.size; have hs3 := hB3.lt; have hr3s := hr3.lt; have HU3 := hid hu3; have HB3 := hid hB3; have HR3 := hid hr3; clear hu3 hU3 hB3 hr3)
              | (refine arm_load46 rfl _ rfl s 0 rfl [.int .u32 st2.a.toNat, .int .u32 st2.b.toNat, .int .u32 st2.c.toNat, .int .u32 st2.d.toNat, .int .u32 st2.e.toNat, .int .u32 st2.f.toNat, .int .u32 st2.g.toNat, .int .u32 st2.h.toNat] ((HB3.out.alloc _).range 0 8) rfl ?_))
            go_cut [] from 61 (fun W => Upd [] w W ∧ Blk W r 28 (List.replicate 32 (.int .u8 0)) ∧ Blk W w3.heap.size 28 ((Sha.bytes st2).map b8))
            case first =>
              go_wp2
              refine wp_loop_rounds 9 ?_
              iterate 8
                rw [rounds_succ]
                go_wp2
              rw [rounds_succ]
              go_wp2
              go_meet
              refine ⟨HU3.out.alloc _, HR3.out.alloc _, ?_⟩
              have := Blk.new w3 28 ((Sha.bytes st2).map b8)
              rw [bytes_cells] at this ⊢
              exact this
            case rest =>
              obtain ⟨hU, hBr, hBd⟩ := hcut
              have hl32 : ((Sha.bytes st2).map b8).length = 32 := by rw [List.length_map, Sha.bytes_length]
              have hrange : wc.rangeAt w3.heap.size 0 ((Sha.bytes st2).map b8) := by
                have := hBd.range 0 32
                rwa [List.drop_zero, List.take_of_length_le (by omega)] at this
              have hth32 := hBr.there 0 32 (by simp)
              have HU := hid hU
              have HBr := hid hBr
              clear hU hBr hBd
              go_wp2_with (first
                | (refine arm_load28 rfl _ rfl w3.heap.size 0 rfl _ hrange hl32 ?_)
                | (refine arm_store28 rfl rfl _ _ rfl r 0 rfl ((Sha.bytes st2).map b8) rfl hth32 hl32 (b8_one _) ?_))
              have hfin : Blk (wc.setCells r 0 ((Sha.bytes st2).map b8)) r 28 ((Sha.bytes st2).map b8) := by
                have := HBr.out.setCells ((Sha.bytes st2).map b8) 0
                rwa [splice_eq _ _ _ (by rw [hl32]; simp), List.take_zero, List.nil_append, hl32, List.drop_of_length_le (by simp), List.append_nil] at this
              refine bodyPost_ret_by (v := .agg ((Sha.bytes st2).map b8).toArray) ?_ rfl ⟨?_, ?_⟩
              · exact results_cell_row rfl _ _ r 28 _ (0, 0) _ rfl hfin Tryd.underlying28 rfl (by rw [List.size_toArray, hl32]; kernel_rfl)
              · rw [HD.out]
              · exact Upd.setCells (.inr hr0) _ _ _ HU.out
end Go.Proofs.YtfilokdleehklaaDoor
