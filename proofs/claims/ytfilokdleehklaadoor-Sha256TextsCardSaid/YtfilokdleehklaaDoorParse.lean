/- The walks of digit and Parse, in the program and in the document. -/
import Derived.Test.YtfilokdleehklaaDoorStr
set_option linter.all false
namespace Go.Proofs.YtfilokdleehklaaDoor
open Go.RowKit
set_option maxHeartbeats 2000000
set_option maxRecDepth 100000

/-- The value of a hexadecimal digit. -/
def hexv (c : UInt8) : Option Nat := if 48 ≤ c.toNat ∧ c.toNat ≤ 57 then some (c.toNat - 48) else if 97 ≤ c.toNat ∧ c.toNat ≤ 102 then some (c.toNat - 87) else none
theorem hexv_lt {c : UInt8} {v : Nat} (h : hexv c = some v) : v < 16 := by
  unfold hexv at h
  split at h
  · cases h; omega
  · split at h
    · cases h; omega
    · cases h
attribute [irreducible] hexv

theorem digit_any (c : UInt8) (w : World) :
    Calls Tryd.prog 84 #[.int .u8 c.toNat] w fun e w' => e = .returned (.tuple #[.int .u8 (((hexv c).getD 0 : Nat) : Int), .bool (hexv c).isSome]) ∧ w = w' := by
  have hc := c.toNat_lt
  unfold hexv
  by_cases h1 : 48 ≤ c.toNat
  all_goals by_cases h2 : c.toNat ≤ 57
  all_goals by_cases h3 : 97 ≤ c.toNat
  all_goals by_cases h4 : c.toNat ≤ 102
  all_goals try omega
  all_goals
    go_enter Tryd.func84, Tryd.ntmps84
    go_wp2
    all_goals go_ret2
    all_goals refine ⟨?_, rfl⟩
    all_goals first
      | rfl
      | (show Ending.returned (.tuple #[.int .u8 ((c.toNat : Int) - 48), .bool true]) = _; rw [show ((c.toNat : Int) - 48) = ((c.toNat - 48 : Nat) : Int) from by omega])
      | (show Ending.returned (.tuple #[.int .u8 ((c.toNat : Int) - 97 + 10), .bool true]) = _; rw [show ((c.toNat : Int) - 97 + 10) = ((c.toNat - 87 : Nat) : Int) from by omega])

theorem index_text (s : ByteArray) (k : IntKind) (i : Nat) (h : i < s.size) (w : World) :
    (Instr.index 9 (.string s) (.int k (i : Int))).run Tryd.prog w = .ok (.int .u8 ((s.data.toList[i]?.getD 0).toNat : Int)) w := by
  rw [run_index_string w 9 _ k (i : Int) Tryd.underlying9, dif_pos ⟨by omega, by omega⟩]
  have : s.data.toList[i]? = some (s[i]'h) := by
    rw [Array.getElem?_toList, Array.getElem?_eq_getElem (by exact h)]
    rfl
  rw [this]
  rfl

/-- The digest after i digits. -/
def acc (s : List UInt8) : Nat → List UInt8
  | 0 => List.replicate 32 0
  | i + 1 => (acc s i).set (i / 2) (UInt8.ofNat (((acc s i)[i / 2]?.getD 0).toNat * 16 + (hexv (s[i]?.getD 0)).getD 0))
theorem acc_length (s : List UInt8) : ∀ i, (acc s i).length = 32
  | 0 => by simp [acc]
  | i + 1 => by rw [acc, List.length_set, acc_length s i]
theorem acc_succ (s : List UInt8) (i : Nat) : acc s (i + 1) = (acc s i).set (i / 2) (UInt8.ofNat (((acc s i)[i / 2]?.getD 0).toNat * 16 + (hexv (s[i]?.getD 0)).getD 0)) := rfl
theorem acc_zero (s : List UInt8) : acc s 0 = List.replicate 32 0 := rfl
/-- The digest with a text, the offset and the number of the error. -/
def parse (s : List UInt8) : List UInt8 × Nat × Nat :=
  match (List.range (min s.length 64)).find? (fun i => (hexv (s[i]?.getD 0)).isNone) with
  | some i => (List.replicate 32 0, i, 6)
  | none => if s.length < 64 then (List.replicate 32 0, s.length, 4) else if 64 < s.length then (List.replicate 32 0, 64, 5) else (acc s 64, 0, 0)
theorem parse_bad (s : List UInt8) (i : Nat) (hi : i < min s.length 64) (hb : hexv (s[i]?.getD 0) = none) (hg : ∀ j, j < i → (hexv (s[j]?.getD 0)).isSome = true) : parse s = (List.replicate 32 0, i, 6) := by
  have : (List.range (min s.length 64)).find? (fun i => (hexv (s[i]?.getD 0)).isNone) = some i := by
    rw [List.find?_range_eq_some]
    refine ⟨by rw [hb]; rfl, by simpa using hi, fun j hj => ?_⟩
    have := hg j hj
    cases h : hexv (s[j]?.getD 0) with
    | none => rw [h] at this; cases this
    | some v => rfl
  unfold parse
  rw [this]
theorem parse_good (s : List UInt8) (hg : ∀ j, j < min s.length 64 → (hexv (s[j]?.getD 0)).isSome = true) :
    parse s = if s.length < 64 then (List.replicate 32 0, s.length, 4) else if 64 < s.length then (List.replicate 32 0, 64, 5) else (acc s 64, 0, 0) := by
  have : (List.range (min s.length 64)).find? (fun i => (hexv (s[i]?.getD 0)).isNone) = none := by
    rw [List.find?_eq_none]
    intro i hi h
    have := hg i (by simpa using hi)
    cases h2 : hexv (s[i]?.getD 0) with
    | none => rw [h2] at this; cases this
    | some v => rw [h2] at h; cases h
  unfold parse
  rw [this]
attribute [irreducible] acc parse
theorem or4 (x : UInt8) (v : Nat) (hv : v < 16) : bits .or .u8 ((x.toNat : Int) * 16 % 256) (v : Int) = ((x.toNat * 16 + v) % 256 : Nat) := by
  have : ∀ x : Fin 256, ∀ v : Fin 16, bits .or .u8 ((x.val : Int) * 16 % 256) (v.val : Int) = ((x.val * 16 + v.val) % 256 : Nat) := by decide +kernel
  exact this ⟨x.toNat, x.toNat_lt⟩ ⟨v, hv⟩
theorem results_row3 {fn : Func} {p u v : Tmp} {ty : TypeId} (h : fn.results = #[.cell p ty, .tmp u, .tmp v]) (tmps : Array Value) (P : Program) (w : World) (g : Nat) (cs : List Value) (d : TypeDesc)
    (hp : tmps.getD p undef = .pointer (some ⟨g, 0, none⟩)) (hg : w.rangeAt g 0 cs)
    (hu : P.underlying ty = some d) (hd : d.isRow = true) (hi : (P.info? ty).map (·.size) = some cs.length) :
    (results fn tmps).run P w = .ok (.tuple #[.agg cs.toArray, tmps.getD u undef, tmps.getD v undef]) w := by
  have hp' : tmps[p]?.getD undef = .pointer (some ⟨g, 0, none⟩) := by simpa using hp
  simp [results, h, hp', asAddr, run_loadVar_mid w g 0 ty cs d hg hu hd hi]
theorem Blk.whole {w : World} {b : Nat} {T : TypeId} {l : List Value} (h : Blk w b T l) : w.rangeAt b 0 l := by
  have := h.range 0 l.length
  rwa [List.drop_zero, List.take_of_length_le (Nat.le_refl _)] at this

theorem ret_digest3 {fn : Func} {R : Ending → World → Prop} {a : Act} {w : World} (p u v : Tmp) (hf : fn.results = #[.cell p 28, .tmp u, .tmp v]) (r : Nat) (cs : List Value) (hp : a.tmps.getD p undef = .pointer (some ⟨r, 0, none⟩))
    (x y : Value) (hx : a.tmps.getD u undef = x) (hy : a.tmps.getD v undef = y) (hb : w.rangeAt r 0 cs) (hl : cs.length = 32) (hd : a.defers = []) (hR : R (.returned (.tuple #[.agg cs.toArray, x, y])) w) : bodyPost Tryd.prog fn R .ret a w := by
  subst hx hy
  exact bodyPost_ret_by (results_row3 hf _ _ _ r cs _ hp hb Tryd.underlying28 rfl (by rw [hl]; kernel_rfl)) hd hR
theorem whole_set {w : World} {r T : Nat} {l cs : List Value} (h : Blk w r T l) (hl : cs.length = l.length) : (w.setCells r 0 cs).rangeAt r 0 cs := by
  have := h.setCells cs 0
  rw [splice_eq _ _ _ (by omega), List.take_zero, List.nil_append, List.drop_of_length_le (by omega), List.append_nil] at this
  exact this.whole
theorem Parse_any (s : ByteArray) (w : World) :
    Calls Tryd.prog 26 #[.string s] w fun e w' => e = .returned (.tuple #[.agg ((parse s.data.toList).1.map b8).toArray, .int .i64 ((parse s.data.toList).2.1 : Nat), .int .i64 ((parse s.data.toList).2.2 : Nat)]) ∧ Upd [] w w' := by
  have hsz : s.data.toList.length = s.size := rfl
  have hA := Blk.new w 28 (List.replicate 32 (.int .u8 0))
  have hB := Blk.new (w.alloc (Obj.cells (List.replicate 32 (.int .u8 0)).toArray 28)) 28 (List.replicate 32 (.int .u8 0))
  rw [World.size_alloc] at hB
  have HA := hid (hA.alloc (Obj.cells (List.replicate 32 (.int .u8 0)).toArray 28))
  have HB := hid hB
  clear hA hB
  go_enter Tryd.func26, Tryd.ntmps26
  go_upto_region 2 with fail
  go_cut [11, 12] from 9 (fun x11 x12 W => x11 = .int .i64 ((min s.size 64 : Nat) : Int) ∧ x12 = .int .i64 ((0 : Nat) : Int) ∧ Blk W w.heap.size 28 (List.replicate 32 (.int .u8 0)) ∧ Blk W (w.heap.size + 1) 28 (List.replicate 32 (.int .u8 0)) ∧ Upd [] w W)
  case first =>
    --[P
    go_wp2
    all_goals
      go_meet
      refine ⟨?_, rfl, HA.out, HB.out, ((Upd.refl _ _).alloc _).alloc _⟩
      show Value.int .i64 _ = Value.int .i64 _
      congr 1
      omega
    --P]
  case rest =>
    obtain ⟨rfl, rfl, hA, hB, hU⟩ := hcut
    have HA1 := hid hA
    have HB1 := hid hB
    have HU1 := hid hU
    clear hA hB hU HA HB
    obtain ⟨M, hM⟩ : ∃ M, min s.size 64 = M := ⟨_, rfl⟩
    rw [hM]
    go_wp2
    go_loopw [12] (fun x12 wr => ∃ i : Nat, i ≤ M ∧ x12 = .int .i64 i ∧ Blk wr w.heap.size 28 (List.replicate 32 (.int .u8 0)) ∧ Blk wr (w.heap.size + 1) 28 ((acc s.data.toList i).map b8) ∧
      (∀ j, j < i → (hexv (s.data.toList[j]?.getD 0)).isSome = true) ∧ Upd [] w wr) (fun x12 _ => M - (intOf x12).toNat)
    case atStart => exact ⟨0, by omega, rfl, HA1.out, by rw [acc_zero, List.map_replicate]; exact HB1.out, fun j hj => by omega, HU1.out⟩
    case round =>
      clear HA1 HB1 HU1
      obtain ⟨i, hi, rfl, hA, hB, hg, hU⟩ := hrel
      have hfA := hA.frozen
      by_cases hlt : i < M
      · have hix := index_text s .i64 i (by omega)
        obtain ⟨c, hc⟩ : ∃ c, s.data.toList[i]?.getD 0 = c := ⟨_, rfl⟩
        rw [hc] at hix
        have hthA := hA.there 0 32 (by simp)
        have hacl := acc_length s.data.toList i
        have hcell : wr.cell? ⟨w.heap.size + 1, i / 2, none⟩ = some (b8 ((acc s.data.toList i)[i / 2]?.getD 0)) := by
          refine hB.cellD ?_
          rw [List.getElem?_map, List.getElem?_eq_getElem (by omega)]
          rfl
        obtain ⟨y, hy⟩ : ∃ y, (acc s.data.toList i)[i / 2]?.getD 0 = y := ⟨_, rfl⟩
        rw [hy] at hcell
        unfold b8 at hcell
        have hfz : wr.frozen? ⟨w.heap.size + 1, i / 2, none⟩ = false := hB.frozen _
        have HA := hid hA
        have HB := hid hB
        have HG := hid hg
        have HU := hid hU
        clear hA hB hg hU hfA
        cases hv : hexv c with
        | none =>
          go_wp2_with (first
            | (go_at_call 84; (with_reducible refine (digit_any c _).mono ?_); rw [hv]; rintro e w' ⟨rfl, rfl⟩)
            | (refine arm_store28 rfl rfl _ _ rfl w.heap.size 0 rfl (List.replicate 32 (.int .u8 0)) rfl hthA (by simp) (by intro v hv; rw [List.eq_of_mem_replicate hv]; rfl) ?_))
          refine ret_digest3 2 3 4 rfl w.heap.size ((List.replicate 32 (0 : UInt8)).map b8) rfl (.int .i64 (i : Int)) (.int .i64 6) rfl rfl (whole_set HA.out (by simp)) (by simp) rfl ⟨?_, Upd.setCells (.inr (Nat.le_refl _)) _ _ _ HU.out⟩
          rw [parse_bad _ i (by omega) (by rw [hc]; exact hv) HG.out]
          rfl
        | some v =>
          have hv16 := hexv_lt hv
          have h4 := or4 y v hv16
          go_wp2_with (first
            | (go_at_call 84; (with_reducible refine (digit_any c _).mono ?_); rw [hv]; rintro e w' ⟨rfl, rfl⟩))
          go_roundw
          case measure => simp [intOf]; omega
          case rel =>
            have hsz2 := HU.out.size
            refine ⟨i + 1, by omega, by go_num, HA.out.setFar (by omega) _, ?_, ?_, HU.out.setFar (by omega) _⟩
            · rw [acc_succ, hy, hc, hv, List.map_set, b8_ofNat, Option.getD_some, show (((y.toNat * 16 + v) % 256 : Nat) : Int) = ((y.toNat : Int) * 16 + v) % 256 from by omega]
              exact HB.out.set _ _
            · intro j hj
              by_cases hji : j = i
              · rw [hji, hc, hv]; rfl
              · exact HG.out j (by omega)
      · have e : i = M := by omega
        have hthA := hA.there 0 32 (by simp)
        have hacl := acc_length s.data.toList i
        have hBw := hB.whole
        have HA := hid hA
        have HG := hid hg
        have HU := hid hU
        clear hA hg hU hfA hB
        have hl64 : s.size < 64 ∨ 64 < s.size ∨ s.size = 64 := by omega
        have hone : ∀ v ∈ List.replicate 32 (Value.int .u8 0), v.oneCell' = true := by intro v hv; rw [List.eq_of_mem_replicate hv]; rfl
        have HO := hid hone
        clear hone
        have HP := hid (parse_good s.data.toList (fun j hj => HG.out j (by omega)))
        rcases hl64 with hl | hl | hl
        · have HL := hid hl
          go_wp2_with (first
              | (refine arm_store28 rfl rfl _ _ rfl w.heap.size 0 rfl (List.replicate 32 (.int .u8 0)) rfl hthA (by simp) HO.out ?_)
              | (refine arm_load28 rfl _ rfl (w.heap.size + 1) 0 rfl ((acc s.data.toList i).map b8) hBw (by rw [List.length_map, hacl]) ?_)
              | (refine arm_store28 rfl rfl _ _ rfl w.heap.size 0 rfl ((acc s.data.toList i).map b8) rfl hthA (by rw [List.length_map, hacl]) (b8_one _) ?_))
          refine ret_digest3 2 3 4 rfl w.heap.size ((List.replicate 32 (0 : UInt8)).map b8) rfl (.int .i64 (s.size : Int)) (.int .i64 4) rfl rfl (whole_set HA.out (by simp)) (by simp) rfl ⟨?_, Upd.setCells (.inr (Nat.le_refl _)) _ _ _ HU.out⟩
          rw [HP.out, if_pos (by have := HL.out; omega)]
          rfl
        · have HL := hid hl
          go_wp2_with (first
              | (refine arm_store28 rfl rfl _ _ rfl w.heap.size 0 rfl (List.replicate 32 (.int .u8 0)) rfl hthA (by simp) HO.out ?_)
              | (refine arm_load28 rfl _ rfl (w.heap.size + 1) 0 rfl ((acc s.data.toList i).map b8) hBw (by rw [List.length_map, hacl]) ?_)
              | (refine arm_store28 rfl rfl _ _ rfl w.heap.size 0 rfl ((acc s.data.toList i).map b8) rfl hthA (by rw [List.length_map, hacl]) (b8_one _) ?_))
          refine ret_digest3 2 3 4 rfl w.heap.size ((List.replicate 32 (0 : UInt8)).map b8) rfl (.int .i64 64) (.int .i64 5) rfl rfl (whole_set HA.out (by simp)) (by simp) rfl ⟨?_, Upd.setCells (.inr (Nat.le_refl _)) _ _ _ HU.out⟩
          rw [HP.out, if_neg (by have := HL.out; omega), if_pos (by have := HL.out; omega)]
          rfl
        · have HL := hid hl
          have hM64 : M = 64 := by omega
          have HM := hid hM64
          clear hM64
          go_wp2_with (first
              | (refine arm_store28 rfl rfl _ _ rfl w.heap.size 0 rfl (List.replicate 32 (.int .u8 0)) rfl hthA (by simp) HO.out ?_)
              | (refine arm_load28 rfl _ rfl (w.heap.size + 1) 0 rfl ((acc s.data.toList i).map b8) hBw (by rw [List.length_map, hacl]) ?_)
              | (refine arm_store28 rfl rfl _ _ rfl w.heap.size 0 rfl ((acc s.data.toList i).map b8) rfl hthA (by rw [List.length_map, hacl]) (b8_one _) ?_))
          refine ret_digest3 2 3 4 rfl w.heap.size ((acc s.data.toList M).map b8) rfl (.int .i64 0) (.int .i64 0) rfl rfl (whole_set HA.out (by rw [List.length_map, acc_length]; simp)) (by rw [List.length_map, acc_length]) rfl ⟨?_, Upd.setCells (.inr (Nat.le_refl _)) _ _ _ HU.out⟩
          rw [HP.out, if_neg (by have := HL.out; omega), if_neg (by have := HL.out; omega), HM.out]
          rfl
end Go.Proofs.YtfilokdleehklaaDoor
