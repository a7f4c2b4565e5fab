/- The walks of the functions on digests' texts. -/
import Derived.Test.YtfilokdleehklaaDoorSumAll
set_option linter.all false
namespace Go.Proofs.YtfilokdleehklaaDoor
open Go.RowKit
set_option maxHeartbeats 2000000
set_option maxRecDepth 100000

/-- A slice of bytes that the call has built. -/
def Bs (w : World) (B : Nat) (v : Value) (l : List UInt8) : Prop := Own w B 5 1 v l.length (l.map b8)
theorem Bs.upd {w w' : World} {B : Nat} {v : Value} {l : List UInt8} {S : List Nat} (h : Bs w B v l) (hU : Upd S w w') (hS : ∀ g, v.ownBlock = some g → g ∉ S) : Bs w' B v l := Own.upd h hU hS
theorem Bs.alloc {w : World} {B : Nat} {v : Value} {l : List UInt8} (h : Bs w B v l) (o : Obj) : Bs (w.alloc o) B v l := Own.alloc h o
theorem Bs.drew {w : World} {B : Nat} {v : Value} {l : List UInt8} (h : Bs w B v l) : Bs w.drew B v l := Own.drew h
theorem byteInfo : ∃ i : TypeInfo, Tryd.prog.info? 5 = some i ∧ i.zero = some (.int .u8 0) ∧ i.size = 1 ∧ i.bytes = 1 := by
  have h2 : (Tryd.prog.info? 5).map (fun i => (i.zero, i.size, i.bytes)) = some (some (.int .u8 0), 1, 1) := by kernel_rfl
  cases hi : Tryd.prog.info? 5 with
  | none => rw [hi] at h2; cases h2
  | some inf =>
    rw [hi] at h2
    simp only [Option.map_some, Option.some.injEq, Prod.mk.injEq] at h2
    exact ⟨inf, rfl, h2.1, h2.2.1, h2.2.2⟩
section
variable {ops : Array Oper} {rest : List Oper} {o : Oper} {a : Act} {w : World} {Q : Exit → Act → World → Prop}
theorem arm_append_src (hgd : Region.wanted o (yielded ops a.tmps) = true) (s x : Operand) (t tx : TypeId) (ho : o.op = .call { callee := .builtin .append, args := #[s, x], argTypes := #[t, tx] }) (ht : Tryd.prog.underlying t = some (.slice 5))
    (B : Nat) (v : Value) (l ks : List UInt8) (hs : a.eval s = v) (hown : Bs w B v l) (xv : Value) (hx : a.eval x = xv) (hsrc : Src Tryd.prog 1 tx xv ks.length (ks.map b8) w)
    (hB : B ≤ w.heap.size) (hsz : l.length + ks.length ≤ 1000000000000)
    (h : ∀ v' w', Bs w' B v' (l ++ ks) → Upd v.ownBlock.toList w w' → wpList Tryd.prog ops Q rest (a.put o.dst v') w') : wpList Tryd.prog ops Q (o :: rest) a w := by
  obtain ⟨i, hi, hz, h1, hb⟩ := byteInfo
  obtain ⟨v', w', hr, ho', hU⟩ := Own.append (P := Tryd.prog) t tx o.type i (.int .u8 0) 1 ht hi hz h1 hb rfl hown xv ks.length (ks.map b8) hsrc (by simp only [maxLen]; omega) (by omega) hB
  refine arm hgd v' w' ?_ (h v' w' ?_ hU)
  · unfold execOp
    simp only [ho, resolve, invoke, builtin, Sem.run_bind, Sem.run_pure, Result.andThen_ok, List.map_toArray, List.map_cons, List.map_nil, hs, hx, hr]
  · unfold Bs
    rw [List.length_append, List.map_append]
    exact ho'
theorem arm_append (hgd : Region.wanted o (yielded ops a.tmps) = true) (s x : Operand) (ho : o.op = .call { callee := .builtin .append, args := #[s, x], argTypes := #[59, 59] })
    (B : Nat) (v : Value) (l ks : List UInt8) (hs : a.eval s = v) (hown : Bs w B v l) (g m c T : Nat) (hx : a.eval x = .slice (some ⟨g, 0, none⟩) m c) (hb : Blk w g T (ks.map b8)) (hm : ks.length = m)
    (hB : B ≤ w.heap.size) (hsz : l.length + ks.length ≤ 1000000000000)
    (h : ∀ v' w', Bs w' B v' (l ++ ks) → Upd v.ownBlock.toList w w' → wpList Tryd.prog ops Q rest (a.put o.dst v') w') : wpList Tryd.prog ops Q (o :: rest) a w :=
  arm_append_src hgd s x _ _ ho Tryd.underlying59 B v l ks hs hown _ hx (by subst hm; exact Src.blk Tryd.underlying59 hb _ c (by simp) (b8_one _)) hB hsz h
theorem arm_make (hgd : Region.wanted o (yielded ops a.tmps) = true) (c : Int) (ho : o.op = .makeSlice 59 (.const (.int .i64 0)) (.const (.int .i64 c))) (B : Nat) (h0 : 0 ≤ c) (h1 : c ≤ 1000000000) (hB : B ≤ w.heap.size)
    (h : ∀ v' w', Bs w' B v' [] → Upd [] w w' → wpList Tryd.prog ops Q rest (a.put o.dst v') w') : wpList Tryd.prog ops Q (o :: rest) a w := by
  obtain ⟨i, hi, hz, hs1, hb⟩ := byteInfo
  obtain ⟨v', w', hr, ho', hU⟩ := Own.make (P := Tryd.prog) (e := 5) (size := 1) w B 59 i (.int .u8 0) Tryd.underlying59 hi hz hs1 c h0 (by rw [hb]; omega) (by omega) hB
  refine arm hgd v' w' ?_ (h v' w' ho' hU)
  unfold execOp
  simp only [ho, Act.eval, Sem.run_bind, hr, Result.andThen_ok, Sem.run_pure]
theorem arm_text (hgd : Region.wanted o (yielded ops a.tmps) = true) (x : Operand) (ho : o.op = .convert 59 9 x) (B : Nat) (v : Value) (l : List UInt8) (hx : a.eval x = v) (hown : Bs w B v l)
    (h : wpList Tryd.prog ops Q rest (a.put o.dst (.string ⟨l.toArray⟩)) w) : wpList Tryd.prog ops Q (o :: rest) a w := by
  refine arm hgd (.string ⟨l.toArray⟩) w ?_ h
  have hr := Own.text (P := Tryd.prog) l hown 59 9 Tryd.underlying59 Tryd.underlying5 Tryd.underlying9
  unfold execOp
  simp only [ho, hx, Sem.run_bind, hr, Result.andThen_ok, Sem.run_pure]
end

theorem index28 (cs : Array Value) (i : Int) (w : World) (h0 : 0 ≤ i) (h1 : i < 32) :
    (Instr.index 28 (.agg cs) (.int .i64 i)).run Tryd.prog w = match cs[i.toNat]? with | some v => .ok v w | none => .halt (.stuck "part: no such cell") w :=
  run_index_agg Tryd.underlying28 Tryd.underlying5 (by kernel_rfl) cs i w h0 h1

/-- The digit of a number under 16. -/
def hexd (n : Nat) : UInt8 := UInt8.ofNat (if n < 10 then 48 + n else 87 + n)
def hex (d : List UInt8) : List UInt8 := d.flatMap fun x => [hexd (x.toNat / 16), hexd (x.toNat % 16)]
attribute [irreducible] hexd

theorem hex_length (d : List UInt8) : (hex d).length = 2 * d.length := by
  induction d with
  | nil => rfl
  | cons x d ih => simp only [hex, List.flatMap_cons, List.length_append, List.length_cons, List.length_nil] at *; omega
theorem hex_take (d : List UInt8) (t : Nat) (x : UInt8) (hx : d[t]?.getD 0 = x) (ht : t < d.length) : hex (d.take (t + 1)) = hex (d.take t) ++ [hexd (x.toNat / 16), hexd (x.toNat % 16)] := by
  have e : d[t] = x := by rw [List.getElem?_eq_getElem ht] at hx; exact hx
  rw [List.take_succ_eq_append_getElem ht, e]
  simp [hex]
theorem Bs.lt {w : World} {B : Nat} {v : Value} {l : List UInt8} (h : Bs w B v l) : ∀ g, v.ownBlock = some g → B ≤ g ∧ g < w.heap.size := Own.lt h
theorem index28b (d : List UInt8) (t : Nat) (ht : t < d.length) (h32 : d.length = 32) (w : World) :
    (Instr.index 28 (.agg (d.map b8).toArray) (.int .i64 (t : Int))).run Tryd.prog w = .ok (.int .u8 ((d[t]?.getD 0).toNat : Int)) w := by
  rw [index28 _ _ _ (by omega) (by omega)]
  simp [ht, b8]
def hexText : ByteArray := { data := #[48, 49, 50, 51, 52, 53, 54, 55, 56, 57, 97, 98, 99, 100, 101, 102] }
theorem index_digits (k : IntKind) (n : Nat) (h : n < 16) (w : World) :
    (Instr.index 9 (.string { data := #[48, 49, 50, 51, 52, 53, 54, 55, 56, 57, 97, 98, 99, 100, 101, 102] }) (.int k (n : Int))).run Tryd.prog w = .ok (.int .u8 ((hexd n).toNat : Int)) w := by
  have key : ∀ m : Fin 16, hexText.data[m.val]? = some (hexd m.val) := by unfold hexd; decide
  have h2 := key ⟨n, h⟩
  rw [run_index_string w 9 _ k (n : Int) Tryd.underlying9]
  obtain ⟨h3, h4⟩ := Array.getElem?_eq_some_iff.1 h2
  rw [dif_pos ⟨by omega, by show (n : Int) < 16; omega⟩]
  rw [← h4]
  rfl
theorem and15 (x : UInt8) : bits .and .u8 (x.toNat : Int) 15 = (x.toNat : Int) % 16 := by
  have : ∀ x : Fin 256, bits .and .u8 (x.val : Int) 15 = (x.val : Int) % 16 := by decide +kernel
  exact this ⟨x.toNat, x.toNat_lt⟩

theorem String_any (d : List UInt8) (hd : d.length = 32) (w : World) :
    Calls Tryd.prog 28 #[.agg (d.map b8).toArray] w fun e w' => e = .returned (.string ⟨(hex d).toArray⟩) ∧ Upd [] w w' := by
  go_enter Tryd.func28, Tryd.ntmps28
  have hb0 := Blk.new w 28 (d.map b8)
  have HB0 := hid hb0
  clear hb0
  go_wp2_with (first
    | (refine arm_make rfl 64 rfl w.heap.size (by omega) (by omega) (by simp) ?_; intro v1 w1 hB1 hU1; have HB1 := hid hB1; have hr1 := (hU1.blk HB0.out (by simp)).range 0 32; have HU1 := hid ((Upd.refl [] w).alloc _ |>.trans' hU1 (by simp)); clear hB1 hU1; rw [List.drop_zero, List.take_of_length_le (by rw [List.length_map]; omega)] at hr1)
    | (refine arm_load28 rfl _ rfl w.heap.size 0 rfl (d.map b8) hr1 (by rw [List.length_map, hd]) ?_))
  go_loopw [3, 8] (fun x3 x8 wr => ∃ (t : Nat) (v3 : Value), v3 = x3 ∧ t ≤ 32 ∧ x8 = .int .i64 t ∧ Bs wr w.heap.size v3 (hex (d.take t)) ∧ Upd [] w wr) (fun _ x8 _ => 32 - (intOf x8).toNat)
  case atStart => exact ⟨0, v1, rfl, by omega, rfl, HB1.out, HU1.out⟩
  case round =>
    obtain ⟨t, v3, rfl, ht, rfl, hB, hU⟩ := hrel
    have hsz0 := hU.size
    have hln : (hex (d.take t)).length = 2 * t := by rw [hex_length, List.length_take, hd, Nat.min_eq_left ht]
    have hown := hB.lt
    have HB := hid hB
    have HU := hid hU
    clear hB hU
    by_cases hlt : t < 32
    · have hix := index28b d t (by omega) hd
      obtain ⟨x, hx⟩ : ∃ x, d[t]?.getD 0 = x := ⟨_, rfl⟩
      rw [hx] at hix
      have hx256 : x.toNat < 256 := x.toNat_lt
      have ha := and15 x
      have hd1 := index_digits .u8 (x.toNat / 16) (by omega)
      have hd2 := index_digits .u8 (x.toNat % 16) (by omega)
      rw [show ((x.toNat / 16 : Nat) : Int) = (x.toNat : Int) / 16 from by omega] at hd1
      rw [show ((x.toNat % 16 : Nat) : Int) = (x.toNat : Int) % 16 from by omega] at hd2
      go_wp2
      refine Ord.region mixed (by kernel_rfl) ?_
      have hBn := (Blk.new wr 5 ([hexd (x.toNat / 16), hexd (x.toNat % 16)].map b8)).drew
      have HBn := hid hBn
      clear hBn
      have HO := hid hown
      clear hown
      go_wp2_with (refine arm_append rfl _ _ rfl w.heap.size v3 (hex (d.take t)) [hexd (x.toNat / 16), hexd (x.toNat % 16)] rfl (HB.out.drew.alloc _) wr.heap.size 2 2 _ rfl HBn.out rfl (by simp; omega) (by simp; omega) ?_; intro v2 w2 hB2 hU2; have HB2 := hid hB2; have HU2 := hid ((HU.out.drew.alloc _).trans' hU2 (by intro i hi; simp at hi; exact .inr (HO.out i hi).1)); clear hB2 hU2)
      refine Ord.Fin.mk (by kernel_rfl) ?_
      go_wp2
      go_roundw
      case measure => simp [intOf]; omega
      case rel =>
        refine ⟨t + 1, v2, rfl, by omega, by go_num, ?_, HU2.out⟩
        rw [hex_take _ _ _ hx (by omega)]
        exact HB2.out
    · have e32 : t = 32 := by omega
      go_wp2_with (refine arm_text rfl _ rfl w.heap.size v3 (hex (d.take t)) rfl HB.out ?_)
      go_ret
      refine ⟨?_, HU.out⟩
      show Ending.returned (.string ⟨(hex (d.take 32)).toArray⟩) = _
      rw [List.take_of_length_le (by omega)]
end Go.Proofs.YtfilokdleehklaaDoor
