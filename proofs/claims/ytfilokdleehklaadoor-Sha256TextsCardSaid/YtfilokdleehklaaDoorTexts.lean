/- The walks of Text, IsZero, short, known. -/
import Derived.Test.YtfilokdleehklaaDoorRParse
import Derived.Test.YtfilokdleehklaaDoorAbc
import Derived.Stop.BytesEq
set_option linter.all false
namespace Go.Proofs.YtfilokdleehklaaDoor
open Go.RowKit
set_option maxHeartbeats 2000000
set_option maxRecDepth 100000

theorem size_byte (w : World) : (sizeOf 5).run Tryd.prog w = .ok 1 w := by
  obtain ⟨i, hi, _, h1, _⟩ := byteInfo
  simp [sizeOf, typeInfo, hi, h1]
theorem eql27 (xs ys : List UInt8) (hx : xs.length = 32) (hy : ys.length = 32) (w : World) : (binOp .eql 27 (.agg (xs.map b8).toArray) (.agg (ys.map b8).toArray)).run Tryd.prog w = .ok (.bool (xs == ys)) w :=
  run_eql_bytes w 27 5 32 Tryd.underlying27 Tryd.underlying5 size_byte xs ys hx hy
theorem eql28 (xs ys : List UInt8) (hx : xs.length = 32) (hy : ys.length = 32) (w : World) : (binOp .eql 28 (.agg (xs.map b8).toArray) (.agg (ys.map b8).toArray)).run Tryd.prog w = .ok (.bool (xs == ys)) w :=
  run_eql_bytes w 28 5 32 Tryd.underlying28 Tryd.underlying5 size_byte xs ys hx hy

theorem arm_new28 {ops : Array Oper} {rest : List Oper} {o : Oper} {a : Act} {Q : Exit → Act → World → Prop} {w0 : World} {c : Array Value} (hgd : Region.wanted o (yielded ops a.tmps) = true) (hdst : o.dst = none) (x y : Operand) (ho : o.op = .store 28 x y)
    (hc : c.size = 32) (hx : a.eval x = .pointer (some ⟨w0.heap.size, 0, none⟩)) (cs : List Value) (hy : a.eval y = .agg cs.toArray) (hl : cs.length = 32) (h1 : ∀ v ∈ cs, v.oneCell' = true)
    (h : ∀ w2, Blk w2 w0.heap.size 28 cs → Upd [] w0 w2 → wpList Tryd.prog ops Q rest a w2) : wpList Tryd.prog ops Q (o :: rest) a (w0.alloc (Obj.cells c 28)) := by
  have hb := Blk.new w0 28 c.toList
  rw [Array.toArray_toList] at hb
  refine arm_store28 hgd hdst x y ho w0.heap.size 0 hx cs hy (hb.there 0 32 (by simp [hc])) hl h1 (h _ ?_ (Upd.setCells (.inr (Nat.le_refl _)) _ _ _ ((Upd.refl _ _).alloc _)))
  have := hb.setCells cs 0
  rwa [splice_eq _ _ _ (by simp [hc, hl]), List.take_zero, List.nil_append, List.drop_of_length_le (by simp [hc, hl]), List.append_nil] at this
theorem arm_new27 {ops : Array Oper} {rest : List Oper} {o : Oper} {a : Act} {Q : Exit → Act → World → Prop} {w0 : World} {c : Array Value} (hgd : Region.wanted o (yielded ops a.tmps) = true) (hdst : o.dst = none) (x y : Operand) (ho : o.op = .store 27 x y)
    (hc : c.size = 32) (hx : a.eval x = .pointer (some ⟨w0.heap.size, 0, none⟩)) (cs : List Value) (hy : a.eval y = .agg cs.toArray) (hl : cs.length = 32) (h1 : ∀ v ∈ cs, v.oneCell' = true)
    (h : ∀ w2, Blk w2 w0.heap.size 27 cs → Upd [] w0 w2 → wpList Tryd.prog ops Q rest a w2) : wpList Tryd.prog ops Q (o :: rest) a (w0.alloc (Obj.cells c 27)) := by
  have hb := Blk.new w0 27 c.toList
  rw [Array.toArray_toList] at hb
  refine arm_store27 hgd hdst x y ho w0.heap.size 0 hx cs hy (hb.there 0 32 (by simp [hc])) hl h1 (h _ ?_ (Upd.setCells (.inr (Nat.le_refl _)) _ _ _ ((Upd.refl _ _).alloc _)))
  have := hb.setCells cs 0
  rwa [splice_eq _ _ _ (by simp [hc, hl]), List.take_zero, List.nil_append, List.drop_of_length_le (by simp [hc, hl]), List.append_nil] at this

theorem known02_any (w : World) (Ti Tk : Nat) (hi : Blk w 0 Ti (Sha.initial.list.map w32)) (hk : Blk w 2 Tk (Sha.ks.map w32)) :
    Calls Tryd.prog 23 #[] w fun e w' => e = .returned (.bool true) ∧ Upd [] w w' := by
  have hs := Sum_any ⟨#[97, 98, 99]⟩ w Ti Tk hi hk (by decide)
  have HS := hid hs
  clear hs hi hk
  have hd32 : (Sha.digest [97, 98, 99]).length = 32 := Sha.digest_length _
  have h0 := abc_digest.1
  have h31 := abc_digest.2
  generalize hD : Sha.digest [97, 98, 99] = d at hd32 h0 h31
  have hsz : (⟨(hex d).toArray⟩ : ByteArray).size = 64 := by
    show (hex d).toArray.size = 64
    rw [List.size_toArray, hex_length, hd32]
  have H0 := hid h0
  have H31 := hid h31
  have HD := hid hD
  clear h0 h31 hD
  go_enter Tryd.func23, Tryd.ntmps23
  go_wp2_with (first
    | (go_at_call 81; (refine HS.out.mono ?_); rintro e w1 ⟨rfl, hU1⟩;
        rw [show ((Sha.digest (⟨#[97, 98, 99]⟩ : ByteArray).data.toList)) = d from HD.out];
        have hth := (Blk.new w1 28 (List.replicate 32 (.int .u8 0))).there 0 32 (by simp); have HU1 := hid hU1; clear hU1)
    | (refine arm_new28 rfl rfl _ _ rfl rfl rfl (d.map b8) rfl (by rw [List.length_map, hd32]) (b8_one _) ?_; intro w2 hB2 hU2;
        have c0 : w2.cell? ⟨w1.heap.size, 0, none⟩ = some (.int .u8 186) := hB2.cellD (by rw [List.getElem?_map, H0.out]; rfl);
        have c31 : w2.cell? ⟨w1.heap.size, 31, none⟩ = some (.int .u8 173) := hB2.cellD (by rw [List.getElem?_map, H31.out]; rfl);
        have hBw := hB2.whole; have HU2 := hid (HU1.out.trans hU2); clear hB2 hU2)
    | (refine arm_load28 rfl _ rfl w1.heap.size 0 rfl (d.map b8) hBw (by rw [List.length_map, hd32]) ?_)
    | (go_at_call 28; (refine (String_any d hd32 _).mono ?_); rintro e w3 ⟨rfl, hU3⟩; have HU3 := hid (HU2.out.trans hU3); clear hU3))
  go_ret
  exact ⟨rfl, HU3.out⟩
end Go.Proofs.YtfilokdleehklaaDoor
