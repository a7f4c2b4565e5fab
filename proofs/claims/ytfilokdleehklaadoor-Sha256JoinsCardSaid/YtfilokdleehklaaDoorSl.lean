/- Rows of many cells: loads and stores of whole arrays, copy, clear, and slices that a call has built by append, make or a conversion. No program in sight. -/
import Derived.Test.YtfilokdleehklaaDoorMem
import Derived.Deep.AppendSrc
import Derived.Deep.MidRow
import Derived.Laws.IdiomStrings
import Derived.Lib.SliceRun
import Derived.Lib.LazyBuf
set_option linter.all false
namespace Go.Proofs.YtfilokdleehklaaDoor
open Go.RowKit
set_option linter.unusedSimpArgs false

theorem Blk.setCells {b : Nat} {T : TypeId} : ∀ (xs : List Value) (o : Nat) (w : World) (l : List Value), Blk w b T l → Blk (w.setCells b o xs) b T (splice l o xs)
  | [], _, _, _, h => h
  | v :: r, o, w, l, h => Blk.setCells r (o + 1) _ _ (h.set o v)
theorem Blk.setCellsOther {b c : Nat} {T : TypeId} (hne : c ≠ b) {l : List Value} : ∀ (xs : List Value) (o : Nat) (w : World), Blk w b T l → Blk (w.setCells c o xs) b T l
  | [], _, _, h => h
  | v :: r, o, w, h => Blk.setCellsOther hne r (o + 1) _ (h.setOther (by exact hne) v)
theorem Upd.setCells {S : List Nat} {a : World} {b : Nat} (hb : b ∈ S ∨ a.heap.size ≤ b) : ∀ (xs : List Value) (o : Nat) (w : World), Upd S a w → Upd S a (w.setCells b o xs)
  | [], _, _, h => h
  | v :: r, o, w, h => Upd.setCells hb r (o + 1) _ (h.setCell _ _ (by exact hb))
theorem Blk.there {w : World} {b : Nat} {T : TypeId} {l : List Value} (h : Blk w b T l) (o n : Nat) (hl : o + n ≤ l.length) : w.there b o n := fun j hj => by
  refine ⟨?_, h.frozen _⟩
  rw [h.cell (o + j) (by omega)]; rfl
theorem Blk.range {w : World} {b : Nat} {T : TypeId} {l : List Value} (h : Blk w b T l) (o n : Nat) : w.rangeAt b o ((l.drop o).take n) := fun j v hv => by
  refine h.cellD ?_
  rw [List.getElem?_take] at hv
  split at hv
  · rwa [List.getElem?_drop] at hv
  · cases hv
theorem splice_eq (xs : List Value) (L : List Value) (o : Nat) (h : o + xs.length ≤ L.length) : splice L o xs = L.take o ++ xs ++ L.drop (o + xs.length) := by
  apply List.ext_getElem?
  intro j
  by_cases h1 : j < o
  · rw [splice_other _ _ _ _ (.inl h1), List.append_assoc, List.getElem?_append_left (by rw [List.length_take]; omega), List.getElem?_take_of_lt h1]
  · by_cases h2 : j < o + xs.length
    · obtain ⟨i, rfl⟩ := Nat.exists_eq_add_of_le (Nat.le_of_not_lt h1)
      rw [splice_at _ _ _ _ (by omega) h, List.append_assoc, List.getElem?_append_right (by rw [List.length_take]; omega), List.length_take, Nat.min_eq_left (by omega), Nat.add_sub_cancel_left,
        List.getElem?_append_left (by omega)]
    · rw [splice_other _ _ _ _ (.inr (by omega)), List.getElem?_append_right (by rw [List.length_append, List.length_take]; omega), List.getElem?_drop, List.length_append, List.length_take, Nat.min_eq_left (by omega)]
      congr 1
      omega

section
variable {P : Program}

/-- One operation that is carried out and gives a value. -/
theorem arm {ops : Array Oper} {rest : List Oper} {o : Oper} {a : Act} {w : World} {Q : Exit → Act → World → Prop} (hgd : Region.wanted o (yielded ops a.tmps) = true) (v : Value) (w' : World)
    (hr : (execOp a.eval o).run P w = .ok (.value v) w') (h : wpList P ops Q rest (a.put o.dst v) w') : wpList P ops Q (o :: rest) a w :=
  wpList_step fun K hK => by
    rw [if_pos hgd]
    unfold Oper.wp
    rw [hr]
    exact hK _ _ h
theorem armSkip {ops : Array Oper} {rest : List Oper} {o : Oper} {a : Act} {w : World} {Q : Exit → Act → World → Prop} (hgd : Region.wanted o (yielded ops a.tmps) = true) (w' : World)
    (hr : (execOp a.eval o).run P w = .ok .skip w') (h : wpList P ops Q rest (a.put o.dst undef) w') : wpList P ops Q (o :: rest) a w :=
  wpList_step fun K hK => by
    rw [if_pos hgd]
    unfold Oper.wp
    rw [hr]
    exact hK _ _ h
theorem arm_load {ops : Array Oper} {rest : List Oper} {o : Oper} {a : Act} {w : World} {Q : Exit → Act → World → Prop} (ty : TypeId) (d : TypeDesc) (hu : P.underlying ty = some d) (hd : d.isRow = true) (hgd : Region.wanted o (yielded ops a.tmps) = true) (x : Operand) (ho : o.op = .load ty x)
    (b off : Nat) (hx : a.eval x = .pointer (some ⟨b, off, none⟩)) (cs : List Value) (hc : w.rangeAt b off cs) (hi : (P.info? ty).map (·.size) = some cs.length) (h : wpList P ops Q rest (a.put o.dst (.agg cs.toArray)) w) : wpList P ops Q (o :: rest) a w := by
  refine arm hgd (.agg cs.toArray) w ?_ h
  unfold execOp
  simp only [ho, hx, Sem.run_bind, run_loadAt_mid w b off ty cs d hc hu hd hi, Result.andThen_ok, Sem.run_pure]
theorem arm_store {ops : Array Oper} {rest : List Oper} {o : Oper} {a : Act} {w : World} {Q : Exit → Act → World → Prop} (ty : TypeId) (hgd : Region.wanted o (yielded ops a.tmps) = true) (hdst : o.dst = none) (x y : Operand) (ho : o.op = .store ty x y)
    (b off : Nat) (hx : a.eval x = .pointer (some ⟨b, off, none⟩)) (cs : List Value) (hy : a.eval y = .agg cs.toArray) (ht : w.there b off cs.length) (hi : (P.info? ty).map (·.size) = some cs.length) (h1 : ∀ v ∈ cs, v.oneCell' = true)
    (h : wpList P ops Q rest a (w.setCells b off cs)) : wpList P ops Q (o :: rest) a w := by
  refine armSkip hgd (w.setCells b off cs) ?_ (by rw [hdst]; exact h)
  have := run_storeAt_mid (P := P) w b off ty cs.toArray (by simpa using ht) (by simpa using hi) (all_oneCell_toArray h1)
  unfold execOp
  simp only [ho, hx, hy, Sem.run_bind, this, Result.andThen_ok, Sem.run_pure, List.toList_toArray]

theorem strCells (s : ByteArray) : s.data.toList.map (fun x => Value.int .u8 (x.toNat : Int)) = s.data.toList.map b8 := rfl
theorem b8_one (l : List UInt8) : ∀ v ∈ l.map b8, v.oneCell' = true := by
  intro v hv
  obtain ⟨x, _, rfl⟩ := List.mem_map.1 hv
  rfl

/-- 'copy(dst, s)' of a text. -/
theorem run_copy_text (w : World) (dT sT ty elem : TypeId) (b o dLen dCap : Nat) (t : ByteArray)
    (hu : P.underlying dT = some (.slice elem)) (hs : (P.info? elem).map (·.size) = some 1) (hc : w.there b o (min t.size dLen)) :
    (Builtin.copy_ #[dT, sT] ty #[.slice (some ⟨b, o, none⟩) dLen dCap, .string t]).run P w = .ok (goInt (min t.size dLen : Nat)) (w.setCells b o ((t.data.toList.take dLen).map b8)) := by
  have hmm : Nat.min t.size dLen = min t.size dLen := rfl
  have hl : ((t.data.toList.take dLen).map b8).length = min t.size dLen := by
    rw [List.length_map, List.length_take, Nat.min_comm]; rfl
  have hst := run_storeCells_cells (P := P) b o ((t.data.toList.take dLen).map b8) 0 w (by rw [hl]; simpa using fun j hj => (hc j hj).1) (by rw [hl]; simpa using fun j hj => (hc j hj).2) (b8_one _)
  cases hq : P.info? elem with
  | none => simp [hq] at hs
  | some i =>
    have hi : i.size = 1 := by simpa [hq] using hs
    have e : ((t.extract 0 (min t.size dLen)).data.map fun b => Value.int .u8 (b.toNat : Int)).toList = (t.data.toList.take dLen).map b8 := by
      have e0 : t.data.toList.length = t.size := rfl
      simp only [ByteArray.data_extract, Array.toList_map, Array.toList_extract, List.extract_eq_take_drop, List.drop_zero, Nat.sub_zero]
      by_cases h : t.size ≤ dLen
      · rw [Nat.min_eq_left h, List.take_of_length_le (Nat.le_of_eq e0), List.take_of_length_le (by omega)]
        rfl
      · rw [Nat.min_eq_right (by omega)]
        rfl
    simp only [Nat.add_zero] at hst
    simp only [Builtin.copy_, run_underlying hu, Builtin.lenOf, Builtin.firstCells, sizeOf, typeInfo, hq, Sem.run_bind, Sem.run_pure, Result.andThen_ok, hmm, e, List.getElem?_toArray, List.getElem?_cons_zero, List.getElem?_cons_succ, hst, program, Sem.run]

/-- A slice that owns its row (which may bear a mark past its end). -/
def Own (w : World) (B : Nat) (e : TypeId) (size : Nat) (v : Value) (n : Nat) (xs : List Value) : Prop :=
  xs.length = n * size ∧ ((v = .slice none 0 0 ∧ n = 0) ∨
    ∃ g cap cur fz, v = .slice (some ⟨g, 0, none⟩) n cap ∧ B ≤ g ∧ w.heap[g]? = some (.cells cur e fz) ∧ (fz.2 ≤ fz.1 ∨ cap * size ≤ fz.1) ∧ n ≤ cap ∧ cap ≤ maxLen ∧ cur.size = cap * size ∧ cur.toList.take (n * size) = xs)

variable {w : World} {B : Nat} {e : TypeId} {size : Nat} {v : Value} {n : Nat} {xs : List Value}

theorem Own.upd {w' : World} {S : List Nat} (h : Own w B e size v n xs) (hU : Upd S w w') (hS : ∀ g, v.ownBlock = some g → g ∉ S) : Own w' B e size v n xs := by
  refine ⟨h.1, ?_⟩
  rcases h.2 with hn | ⟨g, cap, cur, fz, hv, hb, hg, rest⟩
  · exact .inl hn
  · refine .inr ⟨g, cap, cur, fz, hv, hb, ?_, rest⟩
    rw [hU.block g (Array.getElem?_eq_some_iff.1 hg).1 (hS g (by rw [hv]; rfl))]
    exact hg
theorem Own.nil (w : World) (B : Nat) (e : TypeId) (size : Nat) : Own w B e size (.slice none 0 0) 0 [] := ⟨by simp, .inl ⟨rfl, rfl⟩⟩
theorem Own.low {B' : Nat} (h : Own w B e size v n xs) (hB : B' ≤ B) : Own w B' e size v n xs := by
  refine ⟨h.1, ?_⟩
  rcases h.2 with hn | ⟨g, cap, cur, fz, hv, hb, rest⟩
  · exact .inl hn
  · exact .inr ⟨g, cap, cur, fz, hv, Nat.le_trans hB hb, rest⟩
theorem Own.lt (h : Own w B e size v n xs) : ∀ g, v.ownBlock = some g → B ≤ g ∧ g < w.heap.size := by
  intro g hg
  rcases h.2 with ⟨rfl, _⟩ | ⟨g', cap, cur, fz, rfl, hb, hg', rest⟩
  · cases hg
  · cases hg
    exact ⟨hb, (Array.getElem?_eq_some_iff.1 hg').1⟩
theorem Own.drew (h : Own w B e size v n xs) : Own w.drew B e size v n xs := h.upd ((Upd.refl [] w).drew) (by simp)
theorem Own.alloc (h : Own w B e size v n xs) (o : Obj) : Own (w.alloc o) B e size v n xs := h.upd ((Upd.refl [] w).alloc o) (by simp)
/-- The value is a slice of its length; its cells are there. -/
theorem Own.form (h : Own w B e size v n xs) : (v = .slice none 0 0 ∧ n = 0 ∧ xs = []) ∨ ∃ g cap, v = .slice (some ⟨g, 0, none⟩) n cap ∧ B ≤ g ∧ g < w.heap.size ∧ n ≤ cap ∧ cap ≤ maxLen ∧
    (∀ j u, xs[j]? = some u → w.cell? ⟨g, j, none⟩ = some u) ∧ (∀ j, j < n * size → w.frozen? ⟨g, j, none⟩ = false) := by
  rcases h.2 with ⟨hv, hn⟩ | ⟨g, cap, cur, fz, hv, hb, hg, hf, hc, hm, hs, ht⟩
  · refine .inl ⟨hv, hn, ?_⟩
    have := h.1
    rw [hn, Nat.zero_mul] at this
    exact List.length_eq_zero_iff.1 this
  · refine .inr ⟨g, cap, hv, hb, (Array.getElem?_eq_some_iff.1 hg).1, hc, hm, ?_, ?_⟩
    · intro j u hu
      rw [← ht, List.getElem?_take] at hu
      split at hu
      · simp [World.cell?, hg]
        simpa using hu
      · cases hu
    · intro j hj
      have : n * size ≤ cap * size := Nat.mul_le_mul_right _ hc
      simp [World.frozen?, hg]
      intro h1
      omega

/-- APPEND onto an owned row, whatever is appended. -/
theorem Own.append (t tx ty : TypeId) (i : TypeInfo) (z : Value) (bytes : Nat) (ht : P.underlying t = some (.slice e)) (hi : P.info? e = some i) (hz : i.zero = some z)
    (hsize : i.size = size) (hby : i.bytes = bytes) (hzs : z.cells.size = size) (hown : Own w B e size v n xs) (x : Value) (m : Nat) (news : List Value) (hx : Src P size tx x m news w)
    (h63 : n + m ≤ maxLen) (hbytes : (n + m) * bytes ≤ 140737488355328) (hB : B ≤ w.heap.size) :
    ∃ v' w', (Builtin.append_ #[t, tx] ty #[v, x]).run P w = .ok v' w' ∧ Own w' B e size v' (n + m) (xs ++ news) ∧ Upd v.ownBlock.toList w w' := by
  subst hsize
  subst hby
  have hsmall : n + m ≤ 9223372036854775807 := by simp only [maxLen] at h63; omega
  have hlen : (xs ++ news).length = (n + m) * i.size := by rw [List.length_append, hown.1, hx.newsLen, Nat.add_mul]
  have grow : ∀ (b : Option Addr) (cap : Nat), v = .slice b n cap → cap < n + m → (Builtin.firstCells i.size n (.slice b n cap)).run P w.drew = .ok xs.toArray w.drew →
      ∃ v' w', (Builtin.append_ #[t, tx] ty #[v, x]).run P w = .ok v' w' ∧ Own w' B e i.size v' (n + m) (xs ++ news) ∧ Upd v.ownBlock.toList w w' := by
    intro b cap hv hg hold
    subst hv
    have hge := grownCap_ge w (n + m) cap e
    have hcm : grownCap w (n + m) cap e ≤ maxLen := grownCap_le_maxLen w (n + m) cap e h63
    have hr := run_append_grow_src (P := P) w t tx ty e i z ht hi hz b n cap xs hold x m news hx hg (by omega) (growslice_fits hg hbytes)
    refine ⟨_, _, hr, ⟨hlen, .inr ⟨w.heap.size, _, _, (0, 0), rfl, hB, heap_alloc_new w.drew _, .inl (Nat.le_refl _), hge, hcm, ?_, ?_⟩⟩, (Upd.refl _ _).drew.alloc _⟩
    · simp only [Array.size_append, List.size_toArray, size_zeroCells, hzs, hown.1, hx.newsLen, List.length_append, ← Nat.add_mul]
      congr 1
      omega
    · simp only [Array.toList_append]
      rw [← hlen]
      exact List.take_left
  rcases hown.2 with ⟨hv, hn⟩ | ⟨g, cap, cur, fz, hv, hb, hg, hf, hc, hm, hs, htk⟩
  · subst hn
    have hxs : xs = [] := List.length_eq_zero_iff.1 (by simpa using hown.1)
    subst hxs
    by_cases hm0 : m = 0
    · subst hm0
      have hnl : news = [] := List.length_eq_zero_iff.1 (by simpa using hx.newsLen)
      subst hnl
      refine ⟨v, w, ?_, by simpa using hown, Upd.refl _ _⟩
      rw [hv]
      rcases hx.kind with ⟨e', hk⟩ | hk <;> simp [Builtin.append_, run_underlying ht, run_underlying hk, sizeOf, typeInfo, hi, hx.len, hx.cells]
    · exact grow none 0 hv (by omega) (run_firstCells_none w.drew i.size 0 0 0)
  · by_cases hroom : n + m ≤ cap
    · subst hv
      have hle : n * i.size + m * i.size ≤ cap * i.size := by rw [← Nat.add_mul]; exact Nat.mul_le_mul_right _ hroom
      have hcell : ∀ j, j < news.length → (w.cell? ⟨g, 0 + n * i.size + j, none⟩).isSome = true := fun j hj => by
        rw [hx.newsLen] at hj
        simp [World.cell?, hg]
        omega
      have hfro : ∀ j, j < news.length → w.frozen? ⟨g, 0 + n * i.size + j, none⟩ = false := fun j hj => by
        rw [hx.newsLen] at hj
        simp [World.frozen?, hg]
        intro h1
        omega
      have hr := run_append_room_src (P := P) w t tx ty e i ht hi g 0 n cap x m news hx hroom hcell hfro
      refine ⟨_, _, hr, ⟨hlen, .inr ⟨g, cap, (splice cur.toList (0 + n * i.size) news).toArray, fz, rfl, hb, ?_, hf, hroom, hm, ?_, ?_⟩⟩, Upd.setCells (.inl (by simp [Value.ownBlock])) _ _ _ (Upd.refl _ _)⟩
      · have key : ∀ (xs : List Value) (o : Nat) (w : World) (cur : Array Value), w.heap[g]? = some (.cells cur e fz) → (w.setCells g o xs).heap[g]? = some (.cells (splice cur.toList o xs).toArray e fz) := by
          intro xs
          induction xs with
          | nil => intro o w cur h; simpa [World.setCells, splice] using h
          | cons x xs ih =>
            intro o w cur h
            have h2 : (w.setCell ⟨g, o, none⟩ x).heap[g]? = some (.cells (cur.setIfInBounds o x) e fz) := by
              unfold World.setCell
              simp [Array.getElem?_modify, h]
            have := ih (o + 1) _ _ h2
            simpa [World.setCells, splice] using this
        exact key news _ w cur hg
      · simp [splice_length, hs]
      · show List.take _ (splice cur.toList (0 + n * i.size) news).toArray.toList = _
        rw [List.toList_toArray, splice_eq _ _ _ (by rw [hx.newsLen]; simpa [hs] using hle), Nat.zero_add, htk, ← hlen]
        exact List.take_left
    · refine grow (some ⟨g, 0, none⟩) cap hv (by omega) ?_
      refine run_firstCells_some w.drew i.size n ⟨g, 0, none⟩ n cap xs hown.1 (fun j u hu => ?_)
      rw [Addr.add_mid, Nat.zero_add]
      rcases hown.form with ⟨h1, _, _⟩ | ⟨g', cap', h1, _, _, _, _, h2, _⟩
      · rw [hv] at h1; cases h1
      · rw [hv] at h1; cases h1
        simpa using h2 j u hu

theorem Own.make (w : World) (B : Nat) (t : TypeId) (i : TypeInfo) (z : Value) (ht : P.underlying t = some (.slice e)) (hi : P.info? e = some i) (hz : i.zero = some z) (hsize : i.size = size)
    (c : Int) (h0 : 0 ≤ c) (hbytes : (i.bytes : Int) * c ≤ 281474976710656) (h63 : c ≤ 9223372036854775807) (hB : B ≤ w.heap.size) :
    ∃ v' w', (Instr.makeSlice t (.int .i64 0) (.int .i64 c)).run P w = .ok v' w' ∧ Own w' B e size v' 0 [] ∧ Upd [] w w' := by
  subst hsize
  obtain ⟨k, rfl⟩ := Int.eq_ofNat_of_zero_le h0
  have hr := run_make (P := P) w t e i z ht hi hz .i64 .i64 0 k (Int.le_refl _) (by omega) hbytes h63
  refine ⟨_, _, hr, ⟨by simp, .inr ⟨w.heap.size, k, _, (0, 0), rfl, hB, heap_alloc_new w _, .inl (Nat.le_refl _), Nat.zero_le _, by simp only [maxLen]; omega, by simp [size_madeCells], by simp⟩⟩, (Upd.refl _ _).alloc _⟩

/-- '[]byte(s)'. -/
theorem Own.ofText (w : World) (B : Nat) (src dst : TypeId) (s : ByteArray) (hs : P.underlying src = some .string) (hd : P.underlying dst = some (.slice e)) (he : P.underlying e = some (.int .u8)) (hl : s.size ≤ maxLen) (hB : B ≤ w.heap.size) :
    ∃ v' w', (convert src dst (.string s)).run P w = .ok v' w' ∧ Own w' B e 1 v' s.size (s.data.toList.map b8) ∧ Upd [] w w' := by
  have hr := run_bytes_of_string (P := P) w src dst e s hs hd he
  have e0 : s.data.size = s.size := rfl
  have hge := grownCap_ge w s.size 0 e
  have hsz : (bytesRow s (grownCap w s.size 0 e)).size = grownCap w s.size 0 e := by
    simp only [bytesRow, Array.size_append, Array.size_map, Array.size_replicate, e0]
    omega
  refine ⟨_, _, hr, ⟨by simp [e0], .inr ⟨w.heap.size, _, _, _, rfl, hB, heap_alloc_new w.drew _, .inr ?_, hge, grownCap_le_maxLen w _ 0 e hl, by rw [hsz, Nat.mul_one], ?_⟩⟩, (Upd.refl _ _).drew.alloc _⟩
  · show _ ≤ (bytesRow s (grownCap w s.size 0 e)).size
    rw [hsz]; omega
  · simp only [bytesRow, Array.toList_append, Array.toList_map, Nat.mul_one]
    rw [List.take_left' (by simp [e0])]
    rfl

/-- 'string(b)'. -/
theorem Own.text (l : List UInt8) (h : Own w B e 1 v n (l.map b8)) (src dst : TypeId) (hs : P.underlying src = some (.slice e)) (he : P.underlying e = some (.int .u8)) (hd : P.underlying dst = some .string) :
    (convert src dst v).run P w = .ok (.string ⟨l.toArray⟩) w := by
  have hl : l.length = n := by simpa using h.1
  rcases h.form with ⟨hv, _, hx⟩ | ⟨g, cap, hv, _, _, _, _, hc, _⟩
  · have : l = [] := by simpa using hx
    subst this
    rw [hv]
    exact run_convert_bytes_nil (P := P) w src e hs he 0 0 dst hd
  · rw [hv, ← hl]
    refine run_convert_bytes_back (P := P) w src dst e ⟨g, 0, none⟩ cap l hs he hd (fun j hj => ?_)
    rw [Addr.add_mid, Nat.zero_add]
    exact hc j _ (by simp [hj, b8])

/-- What a small new row yields to an append. -/
theorem Src.blk {tx e' : TypeId} (hk : P.underlying tx = some (.slice e')) {g T : Nat} {news : List Value} (hb : Blk w g T news) (m c : Nat) (hl : news.length = m * size) (h1 : ∀ u ∈ news, u.oneCell' = true) :
    Src P size tx (.slice (some ⟨g, 0, none⟩) m c) m news w :=
  Src.ofSlice w hk _ m c news hl (fun j u hu => by rw [Addr.add_mid, Nat.zero_add]; exact hb.cellD hu) h1
end
end Go.Proofs.YtfilokdleehklaaDoor
