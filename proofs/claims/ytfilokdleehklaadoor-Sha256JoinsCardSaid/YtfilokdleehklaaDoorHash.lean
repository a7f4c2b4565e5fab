/- The walk of (*Hash).Write: what a Hash holds behind it. -/
import Derived.Test.YtfilokdleehklaaDoorComp
import Derived.Test.YtfilokdleehklaaDoorSl
set_option linter.all false
namespace Go.Proofs.YtfilokdleehklaaDoor
open Go.RowKit
set_option maxHeartbeats 2000000
set_option maxRecDepth 100000

namespace Sha
/-- The state behind n blocks of a text. -/
def blocks (v : V) (l : List UInt8) : Nat → V
  | 0 => v
  | n + 1 => compress (blocks v l n) (l.drop (64 * n))
def zero : V := ⟨0, 0, 0, 0, 0, 0, 0, 0⟩
/-- What a Hash holds for its state. -/
def state (l : List UInt8) : V := if l = [] then zero else blocks initial l (l.length / 64)
theorem words_congr (l m : List UInt8) (h : ∀ i, i < 64 → l[i]?.getD 0 = m[i]?.getD 0) : ∀ t, t ≤ 16 → words l t = words m t
  | 0, _ => by simp [words]
  | t + 1, ht => by
    rw [words_succ, words_succ, words_congr l m h t (by omega)]
    congr 2
    unfold wordAt
    rw [h _ (by omega), h _ (by omega), h _ (by omega), h _ (by omega)]
theorem compress_congr (v : V) (l m : List UInt8) (h : ∀ i, i < 64 → l[i]?.getD 0 = m[i]?.getD 0) : compress v l = compress v m := by
  rw [compress_eq, compress_eq, schedule_eq, schedule_eq, words_congr l m h 16 (by omega)]
theorem blocks_zero (v : V) (l : List UInt8) : blocks v l 0 = v := rfl
theorem blocks_succ (v : V) (l : List UInt8) (n : Nat) : blocks v l (n + 1) = compress (blocks v l n) (l.drop (64 * n)) := rfl
theorem blocks_append (v : V) (l m : List UInt8) : ∀ n, 64 * n ≤ l.length → blocks v (l ++ m) n = blocks v l n
  | 0, _ => rfl
  | n + 1, h => by
    rw [blocks_succ, blocks_succ, blocks_append v l m n (by omega)]
    refine compress_congr _ _ _ (fun i hi => ?_)
    rw [List.getElem?_drop, List.getElem?_drop, List.getElem?_append_left (by omega)]
attribute [irreducible] blocks
theorem V.list_length (v : V) : v.list.length = 8 := rfl
end Sha

/-- Block b is a Hash with the state st, to which m was written. -/
def Hsh (w : World) (b : Nat) (st : Sha.V) (m : List UInt8) : Prop :=
  ∃ rest : List UInt8, rest.length = 64 ∧ (∀ i, i < m.length % 64 → rest[i]? = m[64 * (m.length / 64) + i]?) ∧
    Blk w b 49 (.int .i64 (m.length : Int) :: (st.list.map w32 ++ rest.map b8))
def HashAt (w : World) (b : Nat) (m : List UInt8) : Prop := Hsh w b (Sha.state m) m

theorem Hsh.upd {w w' : World} {S : List Nat} {b : Nat} {st : Sha.V} {m : List UInt8} (h : Hsh w b st m) (hU : Upd S w w') (hn : b ∉ S) : Hsh w' b st m := by
  obtain ⟨rest, h1, h2, h3⟩ := h
  exact ⟨rest, h1, h2, hU.blk h3 hn⟩

section
variable {ops : Array Oper} {rest : List Oper} {o : Oper} {a : Act} {w : World} {Q : Exit → Act → World → Prop}
theorem arm_load46 (hgd : Region.wanted o (yielded ops a.tmps) = true) (x : Operand) (ho : o.op = .load 46 x) (b off : Nat) (hx : a.eval x = .pointer (some ⟨b, off, none⟩)) (cs : List Value)
    (hc : w.rangeAt b off cs) (hl : cs.length = 8) (h : wpList Tryd.prog ops Q rest (a.put o.dst (.agg cs.toArray)) w) : wpList Tryd.prog ops Q (o :: rest) a w :=
  arm_load _ _ Tryd.underlying46 rfl hgd x ho b off hx cs hc (by rw [hl]; kernel_rfl) h
theorem arm_store46 (hgd : Region.wanted o (yielded ops a.tmps) = true) (hdst : o.dst = none) (x y : Operand) (ho : o.op = .store 46 x y) (b off : Nat) (hx : a.eval x = .pointer (some ⟨b, off, none⟩)) (cs : List Value) (hy : a.eval y = .agg cs.toArray)
    (ht : w.there b off 8) (hl : cs.length = 8) (h1 : ∀ v ∈ cs, v.oneCell' = true) (h : wpList Tryd.prog ops Q rest a (w.setCells b off cs)) : wpList Tryd.prog ops Q (o :: rest) a w :=
  arm_store _ hgd hdst x y ho b off hx cs hy (by rw [hl]; exact ht) (by rw [hl]; kernel_rfl) h1 h
theorem arm_copy_text (hgd : Region.wanted o (yielded ops a.tmps) = true) (d x : Operand) (dT sT : TypeId) (ho : o.op = .call { callee := .builtin .copy, args := #[d, x], argTypes := #[dT, sT] }) (elem : TypeId)
    (hu : Tryd.prog.underlying dT = some (.slice elem)) (hs : (Tryd.prog.info? elem).map (·.size) = some 1) (b off dLen dCap : Nat) (hd : a.eval d = .slice (some ⟨b, off, none⟩) dLen dCap) (t : ByteArray) (hx : a.eval x = .string t)
    (hc : w.there b off (min t.size dLen)) (h : wpList Tryd.prog ops Q rest (a.put o.dst (goInt (min t.size dLen : Nat))) (w.setCells b off ((t.data.toList.take dLen).map b8))) : wpList Tryd.prog ops Q (o :: rest) a w := by
  refine arm hgd _ _ ?_ h
  have hr := run_copy_text (P := Tryd.prog) w dT sT o.type elem b off dLen dCap t hu hs hc
  unfold execOp
  simp only [ho, resolve, invoke, builtin, Sem.run_bind, Sem.run_pure, Result.andThen_ok, List.map_toArray, List.map_cons, List.map_nil, hd, hx, hr]
end

theorem w32_one (l : List Sha.W) : ∀ v ∈ l.map w32, v.oneCell' = true := by
  intro v hv
  obtain ⟨x, _, rfl⟩ := List.mem_map.1 hv
  rfl

theorem slice47_lo (b o : Nat) (i : Int) (k : Nat) (hk : i.toNat = k) (h0 : 0 ≤ i) (h1 : i < 64) (w : World) : (Instr.sliceAt 47 (.pointer (some ⟨b, o, none⟩)) (some (.int .i64 i)) none none).run Tryd.prog w =
    .ok (.slice (some ⟨b, o + k, none⟩) (64 - k) (64 - k)) w := by
  subst hk
  have hl : Tryd.prog.arrayLen 47 = 64 := by kernel_rfl
  have hs : (sizeOf (Tryd.prog.elem 47)).run Tryd.prog w = .ok 1 w := by
    have : Tryd.prog.elem 47 = 5 := by kernel_rfl
    rw [this]
    have h2 : (Tryd.prog.info? 5).map (·.size) = some 1 := by kernel_rfl
    cases hi : Tryd.prog.info? 5 with
    | none => rw [hi] at h2; cases h2
    | some inf =>
      rw [hi] at h2
      have : inf.size = 1 := by simpa using h2
      simp [sizeOf, typeInfo, hi, this]
  rw [run_sliceAt_array_l (P := Tryd.prog) w _ _ (by rw [hl]; exact Tryd.underlying47) .i64 i h0 (by rw [hl]; omega), hs, Result.andThen_ok, hl]
  simp only [slicedAt]
  rw [if_neg (by omega), Addr.add_mid, Nat.mul_one]
theorem fill_rest (x : Value) (st : List Value) (hst : st.length = 8) (rest : List UInt8) (k : Nat) (ts : List UInt8) (h : k + ts.length ≤ rest.length) :
    splice (x :: (st ++ rest.map b8)) (9 + k) (ts.map b8) = x :: (st ++ (rest.take k ++ ts ++ rest.drop (k + ts.length)).map b8) := by
  rw [splice_eq _ _ _ (by simp [hst]; omega), show 9 + k = (8 + k) + 1 from by omega, List.take_succ_cons, List.length_map, show 8 + k + 1 + ts.length = (8 + (k + ts.length)) + 1 from by omega, List.drop_succ_cons,
    ← hst, List.take_length_add_append, List.drop_length_add_append, List.map_append, List.map_append, List.map_take, List.map_drop]
  simp
theorem rest_grow (m rest ts : List UInt8) (hr : rest.length = 64) (hrest : ∀ i, i < m.length % 64 → rest[i]? = m[64 * (m.length / 64) + i]?) (h : m.length % 64 + ts.length ≤ 64) :
    ∀ i, i < m.length % 64 + ts.length → (rest.take (m.length % 64) ++ ts ++ rest.drop (m.length % 64 + ts.length))[i]? = (m ++ ts)[64 * (m.length / 64) + i]? := by
  intro i hi
  have hdm := Nat.div_add_mod m.length 64
  rw [List.getElem?_append_left (by simp [hr]; omega)]
  by_cases h1 : i < m.length % 64
  · rw [List.getElem?_append_left (by simp [hr]; omega), List.getElem?_take_of_lt h1, hrest i h1, List.getElem?_append_left (by omega)]
  · rw [List.getElem?_append_right (by simp [hr]; omega), List.length_take, hr, Nat.min_eq_left (by omega), List.getElem?_append_right (by omega)]
    congr 1
    omega
theorem rest_len (rest ts : List UInt8) (k : Nat) (hr : rest.length = 64) (h : k + ts.length ≤ 64) : (rest.take k ++ ts ++ rest.drop (k + ts.length)).length = 64 := by
  simp [hr]; omega
theorem blocks_grow (m rest ts : List UInt8) (hr : rest.length = 64) (hrest : ∀ i, i < m.length % 64 → rest[i]? = m[64 * (m.length / 64) + i]?) (h : m.length % 64 + ts.length = 64) (v : Sha.V) :
    Sha.blocks v (m ++ ts) ((m ++ ts).length / 64) = Sha.compress (Sha.blocks v m (m.length / 64)) (rest.take (m.length % 64) ++ ts ++ rest.drop (m.length % 64 + ts.length)) := by
  have hdm := Nat.div_add_mod m.length 64
  rw [List.length_append, show (m.length + ts.length) / 64 = m.length / 64 + 1 from by omega, Sha.blocks_succ, Sha.blocks_append v m ts _ (by omega)]
  refine Sha.compress_congr _ _ _ (fun i hi => ?_)
  rw [List.getElem?_drop, rest_grow m rest ts hr hrest (by omega) i (by omega)]
theorem splice_state (x : Value) (u v : Sha.V) (r : List Value) : splice (x :: (u.list.map w32 ++ r)) 1 (v.list.map w32) = x :: (v.list.map w32 ++ r) := rfl
def strSize : Value → Nat
  | .string s => s.size
  | _ => 0

theorem Write_any (b : Nat) (l : List UInt8) (s : ByteArray) (w : World) (Ti Tk : Nat) (hh : HashAt w b l) (hi : Blk w 0 Ti (Sha.initial.list.map w32)) (hk : Blk w 2 Tk (Sha.ks.map w32))
    (hbi : b ≠ 0) (hbk : b ≠ 2) (hl : l.length + s.size ≤ 1000000000000) :
    Calls Tryd.prog 31 #[.pointer (some ⟨b, 0, none⟩), .string s] w fun e w' => e = .returned (.int .i64 0) ∧ Upd [b] w w' ∧ HashAt w' b (l ++ s.data.toList) := by
  have hsz : s.data.toList.length = s.size := rfl
  by_cases hs : s.size = 0
  · have hnil : s.data.toList = [] := List.length_eq_zero_iff.1 (by omega)
    rw [hnil, List.append_nil]
    have hh2 := hh
    obtain ⟨rest, hr, hrest, hB⟩ := hh2
    have c0 : w.cell? ⟨b, 0, none⟩ = some (.int .i64 (l.length : Int)) := hB.cellD rfl
    clear hr hrest hB
    have HH := hid hh
    clear hh
    go_enter Tryd.func31, Tryd.ntmps31
    go_wp2
    all_goals
      refine wp_loop_rounds 1 ?_
      rw [rounds_succ]
      go_wp2
      go_ret
      exact ⟨rfl, Upd.refl _ _, HH.out⟩
  · have hne : ¬ (l ++ s.data.toList = []) := by
      intro e
      have := congrArg List.length e
      simp only [List.length_append, List.length_nil] at this
      omega
    by_cases hle : l = []
    all_goals
      obtain ⟨rest, hr, hrest, hB⟩ := hh
      have c0 : w.cell? ⟨b, 0, none⟩ = some (.int .i64 (l.length : Int)) := hB.cellD rfl
      have HB := hid hB
      have hthere : w.there b 1 8 := hB.there 1 8 (by simp [Sha.V.list_length, hr])
      clear hB
      go_enter Tryd.func31, Tryd.ntmps31
      go_wp2_with (first
        | (refine arm_load46 rfl _ rfl 0 0 rfl (Sha.initial.list.map w32) (hi.range 0 8) rfl ?_)
        | (refine arm_store46 rfl rfl _ _ rfl b 1 rfl (Sha.initial.list.map w32) rfl hthere rfl (w32_one _) ?_))
    · have hL : Hsh (w.setCells b 1 (Sha.initial.list.map w32)) b (Sha.blocks Sha.initial l (l.length / 64)) l := by
        subst hle
        refine ⟨rest, hr, hrest, ?_⟩
        have := HB.out.setCells (Sha.initial.list.map w32) 1
        simp only [Sha.V.list, List.map_cons, List.map_nil, List.cons_append, splice, List.set_cons_succ, List.set_cons_zero, Nat.reduceAdd] at this
        rw [show Sha.blocks Sha.initial [] (([] : List UInt8).length / 64) = Sha.initial from Sha.blocks_zero _ _]
        exact this
      have hU : Upd [b] w (w.setCells b 1 (Sha.initial.list.map w32)) := Upd.setCells (.inl (by simp)) _ _ _ (Upd.refl _ _)
      have HN := hid hne
      have HL := hid hL
      have HU := hid hU
      clear hL hU HB hthere hr hrest c0 hne
      go_loopw [1] (fun x wr => ∃ (t : ByteArray) (m : List UInt8), x = .string t ∧ m ++ t.data.toList = l ++ s.data.toList ∧ Upd [b] w wr ∧ Hsh wr b (Sha.blocks Sha.initial m (m.length / 64)) m) (fun x _ => strSize x)
      case atStart => exact ⟨s, l, rfl, rfl, HU.out, HL.out⟩
      case round =>
        clear HL HU
        obtain ⟨t, m, rfl, hm, hUr, hHr⟩ := hrel
        have hml : m.length + t.size = l.length + s.size := by
          have := congrArg List.length hm
          simpa using this
        by_cases ht : t.size = 0
        · have htn : t.data.toList = [] := List.length_eq_zero_iff.1 ht
          rw [htn, List.append_nil] at hm
          subst hm
          have HU := hid hUr
          have HH := hid hHr
          clear hUr hHr
          go_wp2
          go_ret
          refine ⟨rfl, HU.out, ?_⟩
          have := HH.out
          unfold HashAt Sha.state
          rw [if_neg HN.out]
          exact this
        · obtain ⟨rest, hr, hrest, hB⟩ := hHr
          have c0 : wr.cell? ⟨b, 0, none⟩ = some (.int .i64 (m.length : Int)) := hB.cellD rfl
          have z0 : wr.frozen? ⟨b, 0, none⟩ = false := hB.frozen 0
          have hsl := slice47_lo b 9 ((m.length : Int) % 64) (m.length % 64) (by omega) (by omega) (by omega)
          have hth : wr.there b (9 + m.length % 64) (64 - m.length % 64) := hB.there _ _ (by simp [Sha.V.list_length, hr]; omega)
          have HB := hid hB
          have HU := hid hUr
          clear hB hUr
          obtain ⟨n, hn⟩ : ∃ n, n = min t.size (64 - m.length % 64) := ⟨_, rfl⟩
          obtain ⟨ts, hts⟩ : ∃ ts, ts = t.data.toList.take (64 - m.length % 64) := ⟨_, rfl⟩
          have htl : ts.length = n := by
            have : t.data.toList.length = t.size := rfl
            rw [hts, hn, List.length_take, this, Nat.min_comm]
          have hn1 : m.length % 64 + n ≤ 64 := by omega
          obtain ⟨rest', hrest'⟩ : ∃ r, r = rest.take (m.length % 64) ++ ts ++ rest.drop (m.length % 64 + ts.length) := ⟨_, rfl⟩
          have hr' : rest'.length = 64 := by rw [hrest']; exact rest_len _ _ _ hr (by omega)
          have HG := hid (rest_grow m rest ts hr hrest (by omega))
          have HG2 := hid (fun h => blocks_grow m rest ts hr hrest h Sha.initial)
          rw [← hrest'] at HG HG2
          have hext : m ++ ts ++ (t.extract n t.size).data.toList = l ++ s.data.toList ∧ (t.extract n t.size).size < t.size := by
            have h0 : t.data.toList.length = t.size := rfl
            refine ⟨?_, ?_⟩
            · rw [← hm, List.append_assoc]
              congr 1
              have : (t.extract n t.size).data.toList = t.data.toList.drop n := by
                simp only [ByteArray.data_extract, Array.toList_extract, List.extract_eq_take_drop]
                rw [List.take_of_length_le (by rw [List.length_drop]; omega)]
              rw [this, hts, hn]
              by_cases h1 : t.size ≤ 64 - m.length % 64
              · rw [Nat.min_eq_left h1, List.take_of_length_le (by omega), List.drop_of_length_le (by omega), List.append_nil]
              · rw [Nat.min_eq_right (by omega), List.take_append_drop]
            · rw [ByteArray.size_extract]
              omega
          have HM := hid hext
          clear hm hrest hext
          have h8b : (Sha.blocks Sha.initial m (m.length / 64)).list.length = 8 := rfl
          by_cases hfull : m.length % 64 + n = 64
          all_goals
            go_wp2_with (
              (refine arm_copy_text rfl _ _ _ _ rfl _ Tryd.underlying59 (by kernel_rfl) b _ _ _ rfl t rfl (fun j hj => hth j (by omega)) ?_)
              rw [← hn, ← hts]
              obtain ⟨w1, e1, hB1, hU1⟩ : ∃ w1, wr.setCells b (9 + m.length % 64) (ts.map b8) = w1 ∧ Blk w1 b 49 (.int .i64 (m.length : Int) :: ((Sha.blocks Sha.initial m (m.length / 64)).list.map w32 ++ rest'.map b8)) ∧ Upd [b] w w1 :=
                ⟨_, rfl, by rw [hrest', ← fill_rest _ _ rfl _ _ _ (by omega)]; exact HB.out.setCells _ _, Upd.setCells (.inl (by simp)) _ _ _ HU.out⟩
              rw [e1]
              have c1 : w1.cell? ⟨b, 0, none⟩ = some (.int .i64 (m.length : Int)) := hB1.cellD rfl
              have z1 : w1.frozen? ⟨b, 0, none⟩ = false := hB1.frozen 0
              have HB1 := hid hB1
              have HU1 := hid hU1
              clear hB1 hU1 HB HU c0 z0 e1 hth hsl)
          · have hB2 : Blk (w1.setCell ⟨b, 0, none⟩ (.int .i64 ((m.length : Int) + ((min t.size (64 - m.length % 64) : Nat) : Int)))).drew b 49 (.int .i64 ((m.length : Int) + ((min t.size (64 - m.length % 64) : Nat) : Int)) :: ((Sha.blocks Sha.initial m (m.length / 64)).list.map w32 ++ rest'.map b8)) := (HB1.out.set 0 _).drew
            have hU2 : Upd [b] w (w1.setCell ⟨b, 0, none⟩ (.int .i64 ((m.length : Int) + ((min t.size (64 - m.length % 64) : Nat) : Int)))).drew := (HU1.out.setCell _ _ (.inl (by simp))).drew
            have hk2 := hU2.blk hk (by simpa using fun e => hbk e.symm)
            refine Ord.region mixed (by kernel_rfl) ?_
            generalize (w1.setCell ⟨b, 0, none⟩ (.int .i64 ((m.length : Int) + ((min t.size (64 - m.length % 64) : Nat) : Int)))).drew = w2 at *
            have hcomp := compress_any b 1 b 9 _ _ Tk _ _ (Sha.blocks Sha.initial m (m.length / 64)) rest' w2 hB2 hB2 hk2
              (by
                intro i hi
                rw [Nat.add_comm 1 i, List.getElem?_cons_succ, List.getElem?_append_left (by rw [List.length_map]; omega), List.getElem?_map, List.getElem?_eq_getElem (by omega)]
                rfl)
              (by
                intro i hi
                rw [show 9 + i = (8 + i) + 1 from by omega, List.getElem?_cons_succ, List.getElem?_append_right (by rw [List.length_map]; omega), List.length_map, h8b, Nat.add_sub_cancel_left, List.getElem?_map, List.getElem?_eq_getElem (by omega)]
                rfl) (by omega) (by omega)
            have HC := hid hcomp
            clear hcomp
            have HB2 := hid hB2
            have HU2 := hid hU2
            clear hB2 hU2 hk2
            go_wp2_with (go_at_call 86; ((with_reducible refine HC.out.mono ?_); rintro e w3 ⟨rfl, hU3, hB3⟩))
            refine Ord.Fin.mk (by kernel_rfl) ?_
            go_wp2
            rw [← hn] at hB3 ⊢
            have hml2 : (m ++ ts).length = m.length + n := by rw [List.length_append, htl]
            have hdm := Nat.div_add_mod m.length 64
            refine ⟨⟨_, m ++ ts, rfl, HM.out.1, HU2.out.trans hU3, rest', hr', ?_, ?_⟩, HM.out.2⟩
            · intro i hi
              omega
            · rw [HG2.out (by omega), hml2, Int.natCast_add]
              rw [splice_state] at hB3
              exact hB3
          · rw [← hn]
            have hml2 : (m ++ ts).length = m.length + n := by rw [List.length_append, htl]
            have hdm := Nat.div_add_mod m.length 64
            have hq : (m ++ ts).length / 64 = m.length / 64 := by rw [hml2]; omega
            refine ⟨⟨_, m ++ ts, rfl, HM.out.1, HU1.out.setCell _ _ (.inl (by simp)), rest', hr', ?_, ?_⟩, HM.out.2⟩
            · intro i hi
              rw [hq]
              exact HG.out i (by omega)
            · rw [hq, Sha.blocks_append _ _ _ _ (by omega), hml2, Int.natCast_add]
              exact HB1.out.set 0 _
    · have hL : Hsh w b (Sha.blocks Sha.initial l (l.length / 64)) l := by
        refine ⟨rest, hr, hrest, ?_⟩
        have := HB.out
        rwa [Sha.state, if_neg hle] at this
      have hU : Upd [b] w w := Upd.refl _ _
      have HN := hid hne
      have HL := hid hL
      have HU := hid hU
      clear hL hU HB hthere hr hrest c0 hne
      go_loopw [1] (fun x wr => ∃ (t : ByteArray) (m : List UInt8), x = .string t ∧ m ++ t.data.toList = l ++ s.data.toList ∧ Upd [b] w wr ∧ Hsh wr b (Sha.blocks Sha.initial m (m.length / 64)) m) (fun x _ => strSize x)
      case atStart => exact ⟨s, l, rfl, rfl, HU.out, HL.out⟩
      case round =>
        clear HL HU
        obtain ⟨t, m, rfl, hm, hUr, hHr⟩ := hrel
        have hml : m.length + t.size = l.length + s.size := by
          have := congrArg List.length hm
          simpa using this
        by_cases ht : t.size = 0
        · have htn : t.data.toList = [] := List.length_eq_zero_iff.1 ht
          rw [htn, List.append_nil] at hm
          subst hm
          have HU := hid hUr
          have HH := hid hHr
          clear hUr hHr
          go_wp2
          go_ret
          refine ⟨rfl, HU.out, ?_⟩
          have := HH.out
          unfold HashAt Sha.state
          rw [if_neg HN.out]
          exact this
        · obtain ⟨rest, hr, hrest, hB⟩ := hHr
          have c0 : wr.cell? ⟨b, 0, none⟩ = some (.int .i64 (m.length : Int)) := hB.cellD rfl
          have z0 : wr.frozen? ⟨b, 0, none⟩ = false := hB.frozen 0
          have hsl := slice47_lo b 9 ((m.length : Int) % 64) (m.length % 64) (by omega) (by omega) (by omega)
          have hth : wr.there b (9 + m.length % 64) (64 - m.length % 64) := hB.there _ _ (by simp [Sha.V.list_length, hr]; omega)
          have HB := hid hB
          have HU := hid hUr
          clear hB hUr
          obtain ⟨n, hn⟩ : ∃ n, n = min t.size (64 - m.length % 64) := ⟨_, rfl⟩
          obtain ⟨ts, hts⟩ : ∃ ts, ts = t.data.toList.take (64 - m.length % 64) := ⟨_, rfl⟩
          have htl : ts.length = n := by
            have : t.data.toList.length = t.size := rfl
            rw [hts, hn, List.length_take, this, Nat.min_comm]
          have hn1 : m.length % 64 + n ≤ 64 := by omega
          obtain ⟨rest', hrest'⟩ : ∃ r, r = rest.take (m.length % 64) ++ ts ++ rest.drop (m.length % 64 + ts.length) := ⟨_, rfl⟩
          have hr' : rest'.length = 64 := by rw [hrest']; exact rest_len _ _ _ hr (by omega)
          have HG := hid (rest_grow m rest ts hr hrest (by omega))
          have HG2 := hid (fun h => blocks_grow m rest ts hr hrest h Sha.initial)
          rw [← hrest'] at HG HG2
          have hext : m ++ ts ++ (t.extract n t.size).data.toList = l ++ s.data.toList ∧ (t.extract n t.size).size < t.size := by
            have h0 : t.data.toList.length = t.size := rfl
            refine ⟨?_, ?_⟩
            · rw [← hm, List.append_assoc]
              congr 1
              have : (t.extract n t.size).data.toList = t.data.toList.drop n := by
                simp only [ByteArray.data_extract, Array.toList_extract, List.extract_eq_take_drop]
                rw [List.take_of_length_le (by rw [List.length_drop]; omega)]
              rw [this, hts, hn]
              by_cases h1 : t.size ≤ 64 - m.length % 64
              · rw [Nat.min_eq_left h1, List.take_of_length_le (by omega), List.drop_of_length_le (by omega), List.append_nil]
              · rw [Nat.min_eq_right (by omega), List.take_append_drop]
            · rw [ByteArray.size_extract]
              omega
          have HM := hid hext
          clear hm hrest hext
          have h8b : (Sha.blocks Sha.initial m (m.length / 64)).list.length = 8 := rfl
          by_cases hfull : m.length % 64 + n = 64
          all_goals
            go_wp2_with (
              (refine arm_copy_text rfl _ _ _ _ rfl _ Tryd.underlying59 (by kernel_rfl) b _ _ _ rfl t rfl (fun j hj => hth j (by omega)) ?_)
              rw [← hn, ← hts]
              obtain ⟨w1, e1, hB1, hU1⟩ : ∃ w1, wr.setCells b (9 + m.length % 64) (ts.map b8) = w1 ∧ Blk w1 b 49 (.int .i64 (m.length : Int) :: ((Sha.blocks Sha.initial m (m.length / 64)).list.map w32 ++ rest'.map b8)) ∧ Upd [b] w w1 :=
                ⟨_, rfl, by rw [hrest', ← fill_rest _ _ rfl _ _ _ (by omega)]; exact HB.out.setCells _ _, Upd.setCells (.inl (by simp)) _ _ _ HU.out⟩
              rw [e1]
              have c1 : w1.cell? ⟨b, 0, none⟩ = some (.int .i64 (m.length : Int)) := hB1.cellD rfl
              have z1 : w1.frozen? ⟨b, 0, none⟩ = false := hB1.frozen 0
              have HB1 := hid hB1
              have HU1 := hid hU1
              clear hB1 hU1 HB HU c0 z0 e1 hth hsl)
          · have hB2 : Blk (w1.setCell ⟨b, 0, none⟩ (.int .i64 ((m.length : Int) + ((min t.size (64 - m.length % 64) : Nat) : Int)))).drew b 49 (.int .i64 ((m.length : Int) + ((min t.size (64 - m.length % 64) : Nat) : Int)) :: ((Sha.blocks Sha.initial m (m.length / 64)).list.map w32 ++ rest'.map b8)) := (HB1.out.set 0 _).drew
            have hU2 : Upd [b] w (w1.setCell ⟨b, 0, none⟩ (.int .i64 ((m.length : Int) + ((min t.size (64 - m.length % 64) : Nat) : Int)))).drew := (HU1.out.setCell _ _ (.inl (by simp))).drew
            have hk2 := hU2.blk hk (by simpa using fun e => hbk e.symm)
            refine Ord.region mixed (by kernel_rfl) ?_
            generalize (w1.setCell ⟨b, 0, none⟩ (.int .i64 ((m.length : Int) + ((min t.size (64 - m.length % 64) : Nat) : Int)))).drew = w2 at *
            have hcomp := compress_any b 1 b 9 _ _ Tk _ _ (Sha.blocks Sha.initial m (m.length / 64)) rest' w2 hB2 hB2 hk2
              (by
                intro i hi
                rw [Nat.add_comm 1 i, List.getElem?_cons_succ, List.getElem?_append_left (by rw [List.length_map]; omega), List.getElem?_map, List.getElem?_eq_getElem (by omega)]
                rfl)
              (by
                intro i hi
                rw [show 9 + i = (8 + i) + 1 from by omega, List.getElem?_cons_succ, List.getElem?_append_right (by rw [List.length_map]; omega), List.length_map, h8b, Nat.add_sub_cancel_left, List.getElem?_map, List.getElem?_eq_getElem (by omega)]
                rfl) (by omega) (by omega)
            have HC := hid hcomp
            clear hcomp
            have HB2 := hid hB2
            have HU2 := hid hU2
            clear hB2 hU2 hk2
            go_wp2_with (go_at_call 86; ((with_reducible refine HC.out.mono ?_); rintro e w3 ⟨rfl, hU3, hB3⟩))
            refine Ord.Fin.mk (by kernel_rfl) ?_
            go_wp2
            rw [← hn] at hB3 ⊢
            have hml2 : (m ++ ts).length = m.length + n := by rw [List.length_append, htl]
            have hdm := Nat.div_add_mod m.length 64
            refine ⟨⟨_, m ++ ts, rfl, HM.out.1, HU2.out.trans hU3, rest', hr', ?_, ?_⟩, HM.out.2⟩
            · intro i hi
              omega
            · rw [HG2.out (by omega), hml2, Int.natCast_add]
              rw [splice_state] at hB3
              exact hB3
          · rw [← hn]
            have hml2 : (m ++ ts).length = m.length + n := by rw [List.length_append, htl]
            have hdm := Nat.div_add_mod m.length 64
            have hq : (m ++ ts).length / 64 = m.length / 64 := by rw [hml2]; omega
            refine ⟨⟨_, m ++ ts, rfl, HM.out.1, HU1.out.setCell _ _ (.inl (by simp)), rest', hr', ?_, ?_⟩, HM.out.2⟩
            · intro i hi
              rw [hq]
              exact HG.out i (by omega)
            · rw [hq, Sha.blocks_append _ _ _ _ (by omega), hml2, Int.natCast_add]
              exact HB1.out.set 0 _
theorem Sha.state_eq (l : List UInt8) : Sha.state l = if l = [] then Sha.zero else Sha.blocks Sha.initial l (l.length / 64) := rfl
attribute [irreducible] Sha.state
end Go.Proofs.YtfilokdleehklaaDoor
