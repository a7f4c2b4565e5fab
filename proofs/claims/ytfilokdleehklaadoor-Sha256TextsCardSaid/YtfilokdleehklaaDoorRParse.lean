/- The walks of the document's digit and Parse, and of Text. -/
import Derived.Test.YtfilokdleehklaaDoorParse
set_option linter.all false
namespace Go.Proofs.YtfilokdleehklaaDoor
open Go.RowKit
set_option maxHeartbeats 2000000
set_option maxRecDepth 100000

theorem hexv_hexd (n : Nat) (h : n < 16) : hexv (hexd n) = some n := by
  have : ∀ n : Fin 16, hexv (hexd n.val) = some n.val := by unfold hexv hexd; decide +kernel
  exact this ⟨n, h⟩
theorem hexd_hexv (c : UInt8) (v : Nat) (h : hexv c = some v) : hexd v = c := by
  have : ∀ c : Fin 256, ∀ v : Fin 16, hexv (UInt8.ofNat c.val) = some v.val → hexd v.val = UInt8.ofNat c.val := by unfold hexv hexd; decide +kernel
  have h2 := this ⟨c.toNat, c.toNat_lt⟩ ⟨v, hexv_lt h⟩
  simp only [UInt8.ofNat_toNat] at h2
  exact h2 h

def dval (c : UInt8) : Int := match hexv c with | some v => (v : Int) | none => -1
theorem dval_some {c : UInt8} {v : Nat} (h : hexv c = some v) : dval c = (v : Int) := by unfold dval; rw [h]
theorem dval_none {c : UInt8} (h : hexv c = none) : dval c = -1 := by unfold dval; rw [h]
attribute [irreducible] dval
theorem rdigit_any (c : UInt8) (w : World) :
    Calls Tryd.prog 85 #[.int .u8 c.toNat] w fun e w' => e = .returned (.int .i64 (dval c)) ∧ w = w' := by
  go_enter Tryd.func85, Tryd.ntmps85
  go_wp2
  go_loopw [3] (fun x3 wr => ∃ i : Nat, i ≤ 16 ∧ x3 = .int .i64 i ∧ (∀ j, j < i → hexd j ≠ c) ∧ w = wr) (fun x3 _ => 16 - (intOf x3).toNat)
  case atStart => exact ⟨0, by omega, rfl, fun j hj => by omega, rfl⟩
  case round =>
    obtain ⟨i, hi, rfl, hg, rfl⟩ := hrel
    have HG := hid hg
    clear hg
    by_cases hlt : i < 16
    · have hd := index_digits .i64 i hlt
      by_cases he : hexd i = c
      · have HV := hid (hexv_hexd i hlt)
        rw [he] at hd HV
        go_wp2
        go_ret
        refine ⟨?_, rfl⟩
        rw [dval_some HV.out]
        rfl
      · have hne : ¬ ((hexd i).toNat : Int) = (c.toNat : Int) := by
          intro e
          exact he (UInt8.toNat_inj.1 (by omega))
        have HE := hid he
        clear he
        go_wp2
        go_roundw
        case measure => simp [intOf]; omega
        case rel =>
          refine ⟨i + 1, by omega, by go_num, fun j hj => ?_, by trivial⟩
          by_cases hji : j = i
          · rw [hji]; exact HE.out
          · exact HG.out j (by omega)
    · have e : i = 16 := by omega
      have hn : hexv c = none := by
        cases hv : hexv c with
        | none => rfl
        | some v => exact (HG.out v (by have := hexv_lt hv; omega) (hexd_hexv c v hv)).elim
      go_wp2
      go_ret
      refine ⟨?_, rfl⟩
      rw [dval_none hn]
      rfl

theorem arm_load27 {ops : Array Oper} {rest : List Oper} {o : Oper} {a : Act} {w : World} {Q : Exit → Act → World → Prop} (hgd : Region.wanted o (yielded ops a.tmps) = true) (x : Operand) (ho : o.op = .load 27 x) (b off : Nat) (hx : a.eval x = .pointer (some ⟨b, off, none⟩)) (cs : List Value)
    (hc : w.rangeAt b off cs) (hl : cs.length = 32) (h : wpList Tryd.prog ops Q rest (a.put o.dst (.agg cs.toArray)) w) : wpList Tryd.prog ops Q (o :: rest) a w :=
  arm_load _ _ Tryd.underlying27 rfl hgd x ho b off hx cs hc (by rw [hl]; kernel_rfl) h
theorem arm_store27 {ops : Array Oper} {rest : List Oper} {o : Oper} {a : Act} {w : World} {Q : Exit → Act → World → Prop} (hgd : Region.wanted o (yielded ops a.tmps) = true) (hdst : o.dst = none) (x y : Operand) (ho : o.op = .store 27 x y) (b off : Nat) (hx : a.eval x = .pointer (some ⟨b, off, none⟩)) (cs : List Value) (hy : a.eval y = .agg cs.toArray)
    (ht : w.there b off 32) (hl : cs.length = 32) (h1 : ∀ v ∈ cs, v.oneCell' = true) (h : wpList Tryd.prog ops Q rest a (w.setCells b off cs)) : wpList Tryd.prog ops Q (o :: rest) a w :=
  arm_store _ hgd hdst x y ho b off hx cs hy (by rw [hl]; exact ht) (by rw [hl]; kernel_rfl) h1 h
theorem ret_array3 {fn : Func} {R : Ending → World → Prop} {a : Act} {w : World} (p u v : Tmp) (hf : fn.results = #[.cell p 27, .tmp u, .tmp v]) (r : Nat) (cs : List Value) (hp : a.tmps.getD p undef = .pointer (some ⟨r, 0, none⟩))
    (x y : Value) (hx : a.tmps.getD u undef = x) (hy : a.tmps.getD v undef = y) (hb : w.rangeAt r 0 cs) (hl : cs.length = 32) (hd : a.defers = []) (hR : R (.returned (.tuple #[.agg cs.toArray, x, y])) w) : bodyPost Tryd.prog fn R .ret a w := by
  subst hx hy
  exact bodyPost_ret_by (results_row3 hf _ _ _ r cs _ hp hb Tryd.underlying27 rfl (by rw [hl]; kernel_rfl)) hd hR
theorem rParse_any (s : ByteArray) (w : World) :
    Calls Tryd.prog 27 #[.string s] w fun e w' => e = .returned (.tuple #[.agg ((parse s.data.toList).1.map b8).toArray, .int .i64 ((parse s.data.toList).2.1 : Nat), .int .i64 ((parse s.data.toList).2.2 : Nat)]) ∧ Upd [] w w' := by
  have hsz : s.data.toList.length = s.size := rfl
  have hA := Blk.new w 27 (List.replicate 32 (.int .u8 0))
  have hB := Blk.new (w.alloc (Obj.cells (List.replicate 32 (.int .u8 0)).toArray 27)) 27 (List.replicate 32 (.int .u8 0))
  rw [World.size_alloc] at hB
  have HA := hid (hA.alloc (Obj.cells (List.replicate 32 (.int .u8 0)).toArray 27))
  have HB := hid hB
  clear hA hB
  go_enter Tryd.func27, Tryd.ntmps27
  have HU1 := hid (((Upd.refl [] w).alloc (Obj.cells (List.replicate 32 (.int .u8 0)).toArray 27)).alloc (Obj.cells (List.replicate 32 (.int .u8 0)).toArray 27))
  obtain ⟨M, hM⟩ : ∃ M, min s.size 64 = M := ⟨_, rfl⟩
  go_wp2
  go_loopw [6] (fun x12 wr => ∃ i : Nat, i ≤ M ∧ x12 = .int .i64 i ∧ Blk wr w.heap.size 27 (List.replicate 32 (.int .u8 0)) ∧ Blk wr (w.heap.size + 1) 27 ((acc s.data.toList i).map b8) ∧
    (∀ j, j < i → (hexv (s.data.toList[j]?.getD 0)).isSome = true) ∧ Upd [] w wr) (fun x12 _ => M - (intOf x12).toNat)
  case atStart => exact ⟨0, by omega, rfl, HA.out, by rw [acc_zero, List.map_replicate]; exact HB.out, fun j hj => by omega, HU1.out⟩
  case round =>
    clear HA HB HU1
    obtain ⟨i, hi, rfl, hA, hB, hg, hU⟩ := hrel
    have hfA := hA.frozen
    by_cases hlt : i < M
    · have hix := index_text s .i64 i (by omega)
      obtain ⟨c, hc⟩ : ∃ c, s.data.toList[i]?.getD 0 = c := ⟨_, rfl⟩
      rw [hc] at hix
      have hthA := hA.there 0 32 (by simp)
      have hacl := acc_length s.data.toList i
      have hcell : wr.cell? ⟨w.heap.size + 1, i / 2, none⟩ = some (b8 ((acc s.data.toList i)[i / 2]?.getD 0)) := by
        refine hB.cellD ?_
        rw [List.getElem?_map, List.getElem?_eq_getElem (by omega)]
        rfl
      obtain ⟨y, hy⟩ : ∃ y, (acc s.data.toList i)[i / 2]?.getD 0 = y := ⟨_, rfl⟩
      rw [hy] at hcell
      unfold b8 at hcell
      have hfz : wr.frozen? ⟨w.heap.size + 1, i / 2, none⟩ = false := hB.frozen _
      have HA := hid hA
      have HB := hid hB
      have HG := hid hg
      have HU := hid hU
      clear hA hB hg hU hfA
      cases hv : hexv c with
      | none =>
        go_wp2_with (first
          | (go_at_call 85; (with_reducible refine (rdigit_any c _).mono ?_); (first | rw [dval_some hv] | rw [dval_none hv]); rintro e w' ⟨rfl, rfl⟩)
          | (refine arm_store27 rfl rfl _ _ rfl w.heap.size 0 rfl (List.replicate 32 (.int .u8 0)) rfl hthA (by simp) (by intro v hv; rw [List.eq_of_mem_replicate hv]; rfl) ?_))
        refine ret_array3 2 3 4 rfl w.heap.size ((List.replicate 32 (0 : UInt8)).map b8) rfl (.int .i64 (i : Int)) (.int .i64 6) rfl rfl (whole_set HA.out (by simp)) (by simp) rfl ⟨?_, Upd.setCells (.inr (Nat.le_refl _)) _ _ _ HU.out⟩
        rw [parse_bad _ i (by omega) (by rw [hc]; exact hv) HG.out]
        rfl
      | some v =>
        have hv16 := hexv_lt hv
        have h4 := or4 y v hv16
        go_wp2_with (first
          | (go_at_call 85; (with_reducible refine (rdigit_any c _).mono ?_); (first | rw [dval_some hv] | rw [dval_none hv]); rintro e w' ⟨rfl, rfl⟩))
        go_roundw
        case measure => simp [intOf]; omega
        case rel =>
          have hsz2 := HU.out.size
          refine ⟨i + 1, by omega, by go_num, HA.out.setFar (by omega) _, ?_, ?_, HU.out.setFar (by omega) _⟩
          · rw [acc_succ, hy, hc, hv, List.map_set, b8_ofNat, Option.getD_some, show (((y.toNat * 16 + v) % 256 : Nat) : Int) = (y.toNat : Int) * 16 % 256 + v from by omega]
            exact HB.out.set _ _
          · intro j hj
            by_cases hji : j = i
            · rw [hji, hc, hv]; rfl
            · exact HG.out j (by omega)
    · have e : i = M := by omega
      have hthA := hA.there 0 32 (by simp)
      have hacl := acc_length s.data.toList i
      have hBw := hB.whole
      have HA := hid hA
      have HG := hid hg
      have HU := hid hU
      clear hA hg hU hfA hB
      have hl64 : s.size < 64 ∨ 64 < s.size ∨ s.size = 64 := by omega
      have hone : ∀ v ∈ List.replicate 32 (Value.int .u8 0), v.oneCell' = true := by intro v hv; rw [List.eq_of_mem_replicate hv]; rfl
      have HO := hid hone
      clear hone
      have HP := hid (parse_good s.data.toList (fun j hj => HG.out j (by omega)))
      rcases hl64 with hl | hl | hl
      · have HL := hid hl
        go_wp2_with (first
            | (refine arm_store27 rfl rfl _ _ rfl w.heap.size 0 rfl (List.replicate 32 (.int .u8 0)) rfl hthA (by simp) HO.out ?_)
            | (refine arm_load27 rfl _ rfl (w.heap.size + 1) 0 rfl ((acc s.data.toList i).map b8) hBw (by rw [List.length_map, hacl]) ?_)
            | (refine arm_store27 rfl rfl _ _ rfl w.heap.size 0 rfl ((acc s.data.toList i).map b8) rfl hthA (by rw [List.length_map, hacl]) (b8_one _) ?_))
        refine ret_array3 2 3 4 rfl w.heap.size ((List.replicate 32 (0 : UInt8)).map b8) rfl (.int .i64 (s.size : Int)) (.int .i64 4) rfl rfl (whole_set HA.out (by simp)) (by simp) rfl ⟨?_, Upd.setCells (.inr (Nat.le_refl _)) _ _ _ HU.out⟩
        rw [HP.out, if_pos (by have := HL.out; omega)]
        rfl
      · have HL := hid hl
        go_wp2_with (first
            | (refine arm_store27 rfl rfl _ _ rfl w.heap.size 0 rfl (List.replicate 32 (.int .u8 0)) rfl hthA (by simp) HO.out ?_)
            | (refine arm_load27 rfl _ rfl (w.heap.size + 1) 0 rfl ((acc s.data.toList i).map b8) hBw (by rw [List.length_map, hacl]) ?_)
            | (refine arm_store27 rfl rfl _ _ rfl w.heap.size 0 rfl ((acc s.data.toList i).map b8) rfl hthA (by rw [List.length_map, hacl]) (b8_one _) ?_))
        refine ret_array3 2 3 4 rfl w.heap.size ((List.replicate 32 (0 : UInt8)).map b8) rfl (.int .i64 64) (.int .i64 5) rfl rfl (whole_set HA.out (by simp)) (by simp) rfl ⟨?_, Upd.setCells (.inr (Nat.le_refl _)) _ _ _ HU.out⟩
        rw [HP.out, if_neg (by have := HL.out; omega), if_pos (by have := HL.out; omega)]
        rfl
      · have HL := hid hl
        have hM64 : M = 64 := by omega
        have HM := hid hM64
        clear hM64
        go_wp2_with (first
            | (refine arm_store27 rfl rfl _ _ rfl w.heap.size 0 rfl (List.replicate 32 (.int .u8 0)) rfl hthA (by simp) HO.out ?_)
            | (refine arm_load27 rfl _ rfl (w.heap.size + 1) 0 rfl ((acc s.data.toList i).map b8) hBw (by rw [List.length_map, hacl]) ?_)
            | (refine arm_store27 rfl rfl _ _ rfl w.heap.size 0 rfl ((acc s.data.toList i).map b8) rfl hthA (by rw [List.length_map, hacl]) (b8_one _) ?_))
        refine ret_array3 2 3 4 rfl w.heap.size ((acc s.data.toList M).map b8) rfl (.int .i64 0) (.int .i64 0) rfl rfl (whole_set HA.out (by rw [List.length_map, acc_length]; simp)) (by rw [List.length_map, acc_length]) rfl ⟨?_, Upd.setCells (.inr (Nat.le_refl _)) _ _ _ HU.out⟩
        rw [HP.out, if_neg (by have := HL.out; omega), if_neg (by have := HL.out; omega), HM.out]
        rfl
end Go.Proofs.YtfilokdleehklaaDoor
