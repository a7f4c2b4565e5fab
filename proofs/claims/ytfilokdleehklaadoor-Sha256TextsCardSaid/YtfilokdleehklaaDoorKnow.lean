/- What a walk knows of memory: a list of things that it holds, each with the blocks in which it lies; they are apart. And the operations over it. No program in sight. -/
import Derived.Test.YtfilokdleehklaaDoorSl
import Derived.Great.BuildSlice
set_option linter.all false
namespace Go.Proofs.YtfilokdleehklaaDoor
open Go.RowKit
set_option linter.unusedSimpArgs false

/-- A thing in memory: the blocks in which it lies, and what holds of them. -/
structure Res where
  fp : List Nat
  holds : World → Prop
  loc : ∀ w w' : World, (∀ b ∈ fp, w'.heap[b]? = w.heap[b]?) → holds w → holds w'
  dom : ∀ w : World, holds w → ∀ b ∈ fp, b < w.heap.size
def fps (L : List Res) : List Nat := L.flatMap Res.fp

/-- From w0 on, only blocks of S and new ones were written; the things of L lie apart in blocks of S or new ones. -/
structure K (S : List Nat) (w0 w : World) (L : List Res) : Prop where
  upd : Upd S w0 w
  all : ∀ r ∈ L, r.holds w
  nodup : (fps L).Nodup
  mine : ∀ b ∈ fps L, b ∈ S ∨ w0.heap.size ≤ b

section
variable {S : List Nat} {w0 w w' : World} {L : List Res} {r r' : Res} {i : Nat}

theorem at0 {α : Type} {x : α} {l : List α} : (x :: l)[0]? = some x := rfl
theorem at1 {α : Type} {x x0 : α} {l : List α} : (x0 :: x :: l)[1]? = some x := rfl
theorem at2 {α : Type} {x x0 x1 : α} {l : List α} : (x0 :: x1 :: x :: l)[2]? = some x := rfl
theorem at3 {α : Type} {x x0 x1 x2 : α} {l : List α} : (x0 :: x1 :: x2 :: x :: l)[3]? = some x := rfl
theorem at4 {α : Type} {x x0 x1 x2 x3 : α} {l : List α} : (x0 :: x1 :: x2 :: x3 :: x :: l)[4]? = some x := rfl
theorem at5 {α : Type} {x x0 x1 x2 x3 x4 : α} {l : List α} : (x0 :: x1 :: x2 :: x3 :: x4 :: x :: l)[5]? = some x := rfl
theorem at6 {α : Type} {x x0 x1 x2 x3 x4 x5 : α} {l : List α} : (x0 :: x1 :: x2 :: x3 :: x4 :: x5 :: x :: l)[6]? = some x := rfl
theorem at7 {α : Type} {x x0 x1 x2 x3 x4 x5 x6 : α} {l : List α} : (x0 :: x1 :: x2 :: x3 :: x4 :: x5 :: x6 :: x :: l)[7]? = some x := rfl

theorem mem_fps {b : Nat} : b ∈ fps L ↔ ∃ r ∈ L, b ∈ r.fp := List.mem_flatMap
theorem K.get (h : K S w0 w L) (hi : L[i]? = some r) : r.holds w := h.all r (List.mem_of_getElem? hi)
theorem K.lt (h : K S w0 w L) : ∀ b ∈ fps L, b < w.heap.size := fun b hb => by
  obtain ⟨r, hr, hb⟩ := mem_fps.1 hb
  exact r.dom w (h.all r hr) b hb
theorem K.init (S : List Nat) (w : World) : K S w w [] := ⟨Upd.refl _ _, by simp, by simp [fps], by simp [fps]⟩
theorem K.start (S : List Nat) (w : World) (L : List Res) (h : ∀ r ∈ L, r.holds w) (hn : (fps L).Nodup) (hS : ∀ b ∈ fps L, b ∈ S) : K S w w L := ⟨Upd.refl _ _, h, hn, fun b hb => .inl (hS b hb)⟩
/-- Nothing that was there turns. -/
theorem K.frame (h : K S w0 w L) (hU : Upd [] w w') : K S w0 w' L :=
  ⟨h.upd.trans' hU (by simp), fun r hr => r.loc w w' (fun b hb => hU.block b (r.dom w (h.all r hr) b hb) (by simp)) (h.all r hr), h.nodup, h.mine⟩
theorem K.drew (h : K S w0 w L) : K S w0 w.drew L := h.frame ((Upd.refl [] w).drew)
/-- Something new. -/
theorem K.push (h : K S w0 w L) (hU : Upd [] w w') (hr : r.holds w') (hn : r.fp.Nodup) (hf : ∀ b ∈ r.fp, w.heap.size ≤ b) : K S w0 w' (r :: L) := by
  have h2 := h.frame hU
  refine ⟨h2.upd, ?_, ?_, ?_⟩
  · intro x hx
    rcases List.mem_cons.1 hx with rfl | hx
    · exact hr
    · exact h2.all x hx
  · show (r.fp ++ fps L).Nodup
    refine List.nodup_append.2 ⟨hn, h.nodup, ?_⟩
    rintro b hb c hc rfl
    have := h.lt b hc
    have := hf b hb
    omega
  · intro b hb
    rcases List.mem_append.1 (show b ∈ r.fp ++ fps L from hb) with hb | hb
    · exact .inr (Nat.le_trans h.upd.size (hf b hb))
    · exact h.mine b hb
theorem fps_set {A B : List Res} : fps (A ++ r :: B) = fps A ++ (r.fp ++ fps B) := by simp [fps]
/-- One thing turns into another, in its own blocks or new ones. -/
theorem K.turn (h : K S w0 w L) (hi : L[i]? = some r) (hU : Upd r.fp w w') (hr : r'.holds w') (hn : r'.fp.Nodup) (hf : ∀ b ∈ r'.fp, b ∈ r.fp ∨ w.heap.size ≤ b) : K S w0 w' (L.set i r') := by
  obtain ⟨hlt, he⟩ := List.getElem?_eq_some_iff.1 hi
  have hL : L = L.take i ++ r :: L.drop (i + 1) := by
    rw [← he, List.getElem_cons_drop, List.take_append_drop]
  have hset : L.set i r' = L.take i ++ r' :: L.drop (i + 1) := by
    rw [List.set_eq_take_append_cons_drop, if_pos hlt]
  rw [hset]
  have hnd := h.nodup
  have hm := h.mine
  have hl := h.lt
  have ha := h.all
  have hu := h.upd
  rw [hL, fps_set] at hnd hm hl
  rw [hL] at ha
  clear h hi hset he hlt hL
  generalize L.take i = A at *
  generalize L.drop (i + 1) = B at *
  obtain ⟨hA, hrB, hAB⟩ := List.nodup_append.1 hnd
  obtain ⟨hrn, hB, hrB'⟩ := List.nodup_append.1 hrB
  have far : ∀ x ∈ A ++ B, ∀ b ∈ x.fp, b ∉ r.fp := by
    intro x hx b hb hbr
    rcases List.mem_append.1 hx with hx | hx
    · exact hAB b (mem_fps.2 ⟨x, hx, hb⟩) b (List.mem_append.2 (.inl hbr)) rfl
    · exact hrB' b hbr b (mem_fps.2 ⟨x, hx, hb⟩) rfl
  have keep : ∀ x ∈ A ++ B, x.holds w' := by
    intro x hx
    have hw : x.holds w := ha x (by
      rcases List.mem_append.1 hx with hx | hx
      · exact List.mem_append.2 (.inl hx)
      · exact List.mem_append.2 (.inr (List.mem_cons_of_mem _ hx)))
    exact x.loc w w' (fun b hb => hU.block b (x.dom w hw b hb) (far x hx b hb)) hw
  refine ⟨hu.trans' hU (fun b hb => hm b (by simp [hb])), ?_, ?_, ?_⟩
  · intro x hx
    rcases List.mem_append.1 hx with hx | hx
    · exact keep x (List.mem_append.2 (.inl hx))
    · rcases List.mem_cons.1 hx with rfl | hx
      · exact hr
      · exact keep x (List.mem_append.2 (.inr hx))
  · rw [fps_set]
    refine List.nodup_append.2 ⟨hA, List.nodup_append.2 ⟨hn, hB, ?_⟩, ?_⟩
    · rintro b hb c hc rfl
      rcases hf b hb with h1 | h1
      · exact hrB' b h1 b hc rfl
      · have := hl b (by simp [hc]); omega
    · rintro b hb c hc rfl
      rcases List.mem_append.1 hc with hc | hc
      · rcases hf b hc with h1 | h1
        · exact hAB b hb b (List.mem_append.2 (.inl h1)) rfl
        · have := hl b (by simp [hb]); omega
      · exact hAB b hb b (List.mem_append.2 (.inr hc)) rfl
  · intro b hb
    rw [fps_set] at hb
    rcases List.mem_append.1 hb with hb | hb
    · exact hm b (by simp [hb])
    · rcases List.mem_append.1 hb with hb | hb
      · rcases hf b hb with h1 | h1
        · exact hm b (by simp [h1])
        · exact .inr (Nat.le_trans hu.size h1)
      · exact hm b (by simp [hb])
/-- Things may be forgotten, and taken in another order. -/
theorem K.sub {L' : List Res} (h : K S w0 w L) (hs : L'.Sublist L) : K S w0 w L' := by
  have hf : (fps L').Sublist (fps L) := by
    clear h
    induction hs with
    | slnil => exact .slnil
    | cons x hs ih => exact ih.trans (List.sublist_append_right _ _)
    | cons_cons x hs ih => exact List.Sublist.append (List.Sublist.refl _) ih
  exact ⟨h.upd, fun r hr => h.all r (hs.subset hr), h.nodup.sublist hf, fun b hb => h.mine b (hf.subset hb)⟩
theorem K.perm {L' : List Res} (h : K S w0 w L) (hp : L'.Perm L) : K S w0 w L' := by
  have hf : (fps L').Perm (fps L) := List.Perm.flatMap_right _ hp
  exact ⟨h.upd, fun r hr => h.all r (hp.subset hr), hf.nodup_iff.2 h.nodup, fun b hb => h.mine b (hf.subset hb)⟩
theorem K.drop (h : K S w0 w L) (i : Nat) : K S w0 w (L.eraseIdx i) := h.sub (List.eraseIdx_sublist _ _)
theorem K.toUpd (h : K S w0 w L) : Upd S w0 w := h.upd
theorem K.nil (h : K S w0 w L) : K S w0 w [] := h.sub (List.nil_sublist _)
/-- A thing may be seen as another one that lies in some of its blocks. -/
theorem K.see (h : K S w0 w L) (hi : L[i]? = some r) (hr : r'.holds w) (hf : r'.fp.Sublist r.fp) : K S w0 w (L.set i r') := by
  have hnr : r.fp.Nodup := by
    have : r ∈ L := List.mem_of_getElem? hi
    have h1 := h.nodup
    obtain ⟨A, B, rfl⟩ := List.append_of_mem this
    rw [fps_set] at h1
    exact (List.nodup_append.1 (List.nodup_append.1 h1).2.1).1
  exact h.turn hi (Upd.refl _ _) hr (hnr.sublist hf) (fun b hb => .inl (hf.subset hb))
/-- A caller's K across a callee that was handed the thing at place i. -/
theorem K.handed {w1 : World} (h : K S w0 w L) (hi : L[i]? = some r) (hk : K r.fp w w1 [r']) : K S w0 w1 (L.set i r') :=
  h.turn hi hk.upd (hk.all r' (by simp)) (by have := hk.nodup; simpa [fps] using this) (fun b hb => hk.mine b (by simpa [fps] using hb))
theorem K.fresh {w1 : World} (h : K S w0 w L) (hk : K [] w w1 [r]) : K S w0 w1 (r :: L) :=
  h.push hk.upd (hk.all r (by simp)) (by have := hk.nodup; simpa [fps] using this) (fun b hb => (hk.mine b (by simpa [fps] using hb)).elim (by simp) id)

section
variable {P : Program} {w : World} {B : Nat} {e : TypeId} {size : Nat} {v : Value} {n : Nat} {xs : List Value}
/-- APPEND onto an owned row, whatever is appended. -/
theorem Own.appendAt (t tx ty : TypeId) (i : TypeInfo) (z : Value) (bytes : Nat) (ht : P.underlying t = some (.slice e)) (hi : P.info? e = some i) (hz : i.zero = some z)
    (hsize : i.size = size) (hby : i.bytes = bytes) (hzs : z.cells.size = size) (hown : Own w B e size v n xs) (x : Value) (m : Nat) (news : List Value) (hx : Src P size tx x m news w)
    (h63 : n + m ≤ maxLen) (hbytes : (n + m) * bytes ≤ 140737488355328) (hB : B ≤ w.heap.size) :
    ∃ v' w', (Builtin.append_ #[t, tx] ty #[v, x]).run P w = .ok v' w' ∧ Own w' B e size v' (n + m) (xs ++ news) ∧ Upd v.ownBlock.toList w w' ∧ (v'.ownBlock = v.ownBlock ∨ v'.ownBlock = some w.heap.size) := by
  subst hsize
  subst hby
  have hsmall : n + m ≤ 9223372036854775807 := by simp only [maxLen] at h63; omega
  have hlen : (xs ++ news).length = (n + m) * i.size := by rw [List.length_append, hown.1, hx.newsLen, Nat.add_mul]
  have grow : ∀ (b : Option Addr) (cap : Nat), v = .slice b n cap → cap < n + m → (Builtin.firstCells i.size n (.slice b n cap)).run P w.drew = .ok xs.toArray w.drew →
      ∃ v' w', (Builtin.append_ #[t, tx] ty #[v, x]).run P w = .ok v' w' ∧ Own w' B e i.size v' (n + m) (xs ++ news) ∧ Upd v.ownBlock.toList w w' ∧ (v'.ownBlock = v.ownBlock ∨ v'.ownBlock = some w.heap.size) := by
    intro b cap hv hg hold
    subst hv
    have hge := grownCap_ge w (n + m) cap e
    have hcm : grownCap w (n + m) cap e ≤ maxLen := grownCap_le_maxLen w (n + m) cap e h63
    have hr := run_append_grow_src (P := P) w t tx ty e i z ht hi hz b n cap xs hold x m news hx hg (by omega) (growslice_fits hg hbytes)
    refine ⟨_, _, hr, ⟨hlen, .inr ⟨w.heap.size, _, _, (0, 0), rfl, hB, heap_alloc_new w.drew _, .inl (Nat.le_refl _), hge, hcm, ?_, ?_⟩⟩, (Upd.refl _ _).drew.alloc _, .inr rfl⟩
    · simp only [Array.size_append, List.size_toArray, size_zeroCells, hzs, hown.1, hx.newsLen, List.length_append, ← Nat.add_mul]
      congr 1
      omega
    · simp only [Array.toList_append]
      rw [← hlen]
      exact List.take_left
  rcases hown.2 with ⟨hv, hn⟩ | ⟨g, cap, cur, fz, hv, hb, hg, hf, hc, hm, hs, htk⟩
  · subst hn
    have hxs : xs = [] := List.length_eq_zero_iff.1 (by simpa using hown.1)
    subst hxs
    by_cases hm0 : m = 0
    · subst hm0
      have hnl : news = [] := List.length_eq_zero_iff.1 (by simpa using hx.newsLen)
      subst hnl
      refine ⟨v, w, ?_, by simpa using hown, Upd.refl _ _, .inl rfl⟩
      rw [hv]
      rcases hx.kind with ⟨e', hk⟩ | hk <;> simp [Builtin.append_, run_underlying ht, run_underlying hk, sizeOf, typeInfo, hi, hx.len, hx.cells]
    · exact grow none 0 hv (by omega) (run_firstCells_none w.drew i.size 0 0 0)
  · by_cases hroom : n + m ≤ cap
    · subst hv
      have hle : n * i.size + m * i.size ≤ cap * i.size := by rw [← Nat.add_mul]; exact Nat.mul_le_mul_right _ hroom
      have hcell : ∀ j, j < news.length → (w.cell? ⟨g, 0 + n * i.size + j, none⟩).isSome = true := fun j hj => by
        rw [hx.newsLen] at hj
        simp [World.cell?, hg]
        omega
      have hfro : ∀ j, j < news.length → w.frozen? ⟨g, 0 + n * i.size + j, none⟩ = false := fun j hj => by
        rw [hx.newsLen] at hj
        simp [World.frozen?, hg]
        intro h1
        omega
      have hr := run_append_room_src (P := P) w t tx ty e i ht hi g 0 n cap x m news hx hroom hcell hfro
      refine ⟨_, _, hr, ⟨hlen, .inr ⟨g, cap, (splice cur.toList (0 + n * i.size) news).toArray, fz, rfl, hb, ?_, hf, hroom, hm, ?_, ?_⟩⟩, Upd.setCells (.inl (by simp [Value.ownBlock])) _ _ _ (Upd.refl _ _), .inl rfl⟩
      · have key : ∀ (xs : List Value) (o : Nat) (w : World) (cur : Array Value), w.heap[g]? = some (.cells cur e fz) → (w.setCells g o xs).heap[g]? = some (.cells (splice cur.toList o xs).toArray e fz) := by
          intro xs
          induction xs with
          | nil => intro o w cur h; simpa [World.setCells, splice] using h
          | cons x xs ih =>
            intro o w cur h
            have h2 : (w.setCell ⟨g, o, none⟩ x).heap[g]? = some (.cells (cur.setIfInBounds o x) e fz) := by
              unfold World.setCell
              simp [Array.getElem?_modify, h]
            have := ih (o + 1) _ _ h2
            simpa [World.setCells, splice] using this
        exact key news _ w cur hg
      · simp [splice_length, hs]
      · show List.take _ (splice cur.toList (0 + n * i.size) news).toArray.toList = _
        rw [List.toList_toArray, splice_eq _ _ _ (by rw [hx.newsLen]; simpa [hs] using hle), Nat.zero_add, htk, ← hlen]
        exact List.take_left
    · refine grow (some ⟨g, 0, none⟩) cap hv (by omega) ?_
      refine run_firstCells_some w.drew i.size n ⟨g, 0, none⟩ n cap xs hown.1 (fun j u hu => ?_)
      rw [Addr.add_mid, Nat.zero_add]
      rcases hown.form with ⟨h1, _, _⟩ | ⟨g', cap', h1, _, _, _, _, h2, _⟩
      · rw [hv] at h1; cases h1
      · rw [hv] at h1; cases h1
        simpa using h2 j u hu

end

/-! ### The things -/
/-- A block that is just a row of cells. -/
def cellsR (b : Nat) (T : TypeId) (l : List Value) : Res :=
  ⟨[b], fun w => Blk w b T l, fun w w' h hb => by unfold Blk at *; rw [h b (by simp)]; exact hb, fun w h b' hb' => by rw [List.mem_singleton.1 hb']; exact h.lt⟩
/-- A slice that owns its row. -/
def ownR (e : TypeId) (size : Nat) (v : Value) (n : Nat) (xs : List Value) : Res :=
  ⟨v.ownBlock.toList, fun w => Own w 0 e size v n xs, fun w w' h hb => by
    refine ⟨hb.1, ?_⟩
    rcases hb.2 with hn | ⟨g, cap, cur, fz, hv, h0, hg, rest⟩
    · exact .inl hn
    · exact .inr ⟨g, cap, cur, fz, hv, h0, by rw [h g (by simp [hv, Value.ownBlock])]; exact hg, rest⟩,
    fun w h b hb => (h.lt b (by simpa using hb)).2⟩
theorem K.cells {b : Nat} {T : TypeId} {l : List Value} (h : K S w0 w L) (hi : L[i]? = some (cellsR b T l)) : Blk w b T l := h.get hi
theorem K.own {e : TypeId} {size : Nat} {v : Value} {n : Nat} {xs : List Value} (h : K S w0 w L) (hi : L[i]? = some (ownR e size v n xs)) : Own w 0 e size v n xs := h.get hi
theorem K.pushCells (h : K S w0 w L) (T : TypeId) (l : List Value) : K S w0 (w.alloc (.cells l.toArray T)) (cellsR w.heap.size T l :: L) :=
  h.push ((Upd.refl [] w).alloc _) (Blk.new w T l) (by simp [cellsR]) (by simp [cellsR])
theorem K.setCells {b : Nat} {T : TypeId} {l : List Value} (h : K S w0 w L) (hi : L[i]? = some (cellsR b T l)) (o : Nat) (xs : List Value) : K S w0 (w.setCells b o xs) (L.set i (cellsR b T (splice l o xs))) :=
  h.turn hi (Upd.setCells (.inl (by simp [cellsR])) _ _ _ (Upd.refl _ _)) (Blk.setCells xs o w l (h.cells hi)) (by simp [cellsR]) (fun b hb => .inl hb)
theorem K.setCell {b : Nat} {T : TypeId} {l : List Value} (h : K S w0 w L) (hi : L[i]? = some (cellsR b T l)) (o : Nat) (v : Value) : K S w0 (w.setCell ⟨b, o, none⟩ v) (L.set i (cellsR b T (l.set o v))) :=
  h.turn hi ((Upd.refl _ _).setCell _ _ (.inl (by simp [cellsR]))) ((h.cells hi).set o v) (by simp [cellsR]) (fun b hb => .inl hb)
end

/-! ### The operations -/
section
variable {P : Program} {S : List Nat} {w0 w : World} {L : List Res} {ops : Array Oper} {rest : List Oper} {o : Oper} {a : Act} {Q : Exit → Act → World → Prop}

/-- The cells of a type's zero. -/
def zeroCells (P : Program) (T : TypeId) : Option (List Value) := ((P.info? T).bind (·.zero)).map (·.cells.toList)
/-- A type of one cell. -/
def scalarB (P : Program) (T : TypeId) : Bool := match P.underlying T with
  | some (.struct _) | some (.array _ _) | none => false
  | some _ => (P.info? T).map (·.size) == some 1
/-- How many cells an array or a struct has. -/
def rowN (P : Program) (T : TypeId) : Option Nat := match P.underlying T with
  | some (.struct _) | some (.array _ _) => (P.info? T).map (·.size)
  | _ => none
theorem scalarB_agg {T : TypeId} (h : scalarB P T = true) (w : World) : (isAgg T).run P w = .ok false w := by
  unfold scalarB at h
  unfold isAgg
  cases hd : P.underlying T with
  | none => rw [hd] at h; simp at h
  | some d =>
    rw [Sem.run_bind, run_underlying hd w]
    rw [hd] at h
    cases d <;> first | rfl | (exfalso; simp at h)
theorem scalarB_size {T : TypeId} (h : scalarB P T = true) : (P.info? T).map (·.size) = some 1 := by
  unfold scalarB at h
  split at h <;> first | cases h | simpa using h
theorem rowN_row {T : TypeId} {n : Nat} (h : rowN P T = some n) : ∃ d, P.underlying T = some d ∧ d.isRow = true ∧ (P.info? T).map (·.size) = some n := by
  unfold rowN at h
  split at h
  · rename_i hd; exact ⟨_, hd, rfl, h⟩
  · rename_i hd; exact ⟨_, hd, rfl, h⟩
  · cases h

theorem put_some {l : List Value} {d : List Deferred} {t : Nat} {v : Value} : (⟨l.toArray, d⟩ : Act).put (some t) v = ⟨(l.set t v).toArray, d⟩ := by
  simp [Act.put]
theorem put_none {a : Act} {v : Value} : a.put none v = a := rfl
theorem one_of {l : List Value} (h : l.all (fun v => v.oneCell') = true) : ∀ v ∈ l, v.oneCell' = true := by simpa using h
theorem eval_tmp {l : List Value} {d : List Deferred} {t : Nat} {v : Value} (h : l[t]? = some v) : (⟨l.toArray, d⟩ : Act).eval (.tmp t) = v := by
  simp [Act.eval, h]
theorem eval_const {a : Act} {v : Value} : a.eval (.const v) = v := rfl
theorem k_alloc (hK : K S w0 w L) (hgd : Region.wanted o (yielded ops a.tmps) = true) (T : TypeId) (ho : o.op = .alloc T) (l : List Value) (hz : zeroCells P T = some l)
    (h : ∀ w' n, K S w0 w' (cellsR n T l :: L) → wpList P ops Q rest (a.put o.dst (.pointer (some ⟨n, 0, none⟩))) w') : wpList P ops Q (o :: rest) a w := by
  refine arm hgd _ _ ?_ (h (w.alloc (.cells l.toArray T)) w.heap.size (hK.pushCells T l))
  unfold zeroCells at hz
  cases hi : P.info? T with
  | none => rw [hi] at hz; cases hz
  | some inf =>
    rw [hi] at hz
    cases hq : inf.zero with
    | none => simp [hq] at hz
    | some z =>
      simp [hq] at hz
      unfold execOp
      simp [ho, Instr.alloc, zeroValue, typeInfo, hi, hq, newVar, newRow, ← hz]
theorem k_box (hK : K S w0 w L) (hgd : Region.wanted o (yielded ops a.tmps) = true) (T : TypeId) (x : Operand) (ho : o.op = .box T x) (l : List Value) (hx : a.eval x = .agg l.toArray)
    (h : ∀ w' n, K S w0 w' (cellsR n T l :: L) → wpList P ops Q rest (a.put o.dst (.pointer (some ⟨n, 0, none⟩))) w') : wpList P ops Q (o :: rest) a w := by
  refine arm hgd _ _ ?_ (h (w.alloc (.cells l.toArray T)) w.heap.size (hK.pushCells T l))
  unfold execOp
  simp [ho, Instr.box, newVar, newRow, hx, Value.cells]
theorem k_box1 (hK : K S w0 w L) (hgd : Region.wanted o (yielded ops a.tmps) = true) (T : TypeId) (x : Operand) (ho : o.op = .box T x) (v : Value) (hx : a.eval x = v) (hv : v.oneCell' = true)
    (h : ∀ w' n, K S w0 w' (cellsR n T [v] :: L) → wpList P ops Q rest (a.put o.dst (.pointer (some ⟨n, 0, none⟩))) w') : wpList P ops Q (o :: rest) a w := by
  refine arm hgd _ _ ?_ (h (w.alloc (.cells [v].toArray T)) w.heap.size (hK.pushCells T [v]))
  have hc : v.cells = #[v] := by cases v <;> first | rfl | cases hv
  unfold execOp
  simp [ho, Instr.box, newVar, newRow, hx, hc]
theorem k_load1 (hgd : Region.wanted o (yielded ops a.tmps) = true) (ty : TypeId) (x : Operand) (ho : o.op = .load ty x) (hs : scalarB P ty = true) {b off : Nat} (hx : a.eval x = .pointer (some ⟨b, off, none⟩))
    {T : TypeId} {l : List Value} (hb : Blk w b T l) {v : Value} (hv : l[off]? = some v) (h : wpList P ops Q rest (a.put o.dst v) w) : wpList P ops Q (o :: rest) a w := by
  refine arm hgd v w ?_ h
  have hc := hb.cellD hv
  unfold execOp
  simp only [ho, hx, Instr.loadAt, Instr.sureAddr, Sem.run_bind, Sem.run_pure, Result.andThen_ok, loadVar, scalarB_agg hs]
  simp [load, Sem.run, hc]
theorem k_loadR (hgd : Region.wanted o (yielded ops a.tmps) = true) (ty : TypeId) (x : Operand) (ho : o.op = .load ty x) {n : Nat} (hr : rowN P ty = some n) {b off : Nat} (hx : a.eval x = .pointer (some ⟨b, off, none⟩))
    {T : TypeId} {l : List Value} (hb : Blk w b T l) {cs : List Value} (hc : (l.drop off).take n = cs) (hn : cs.length = n) (h : wpList P ops Q rest (a.put o.dst (.agg cs.toArray)) w) : wpList P ops Q (o :: rest) a w := by
  obtain ⟨d, hu, hd, hi⟩ := rowN_row hr
  exact arm_load ty d hu hd hgd x ho b off hx cs (by rw [← hc]; exact hb.range off n) (by rw [hn]; exact hi) h
/-- The whole of a block. -/
theorem k_loadW (hgd : Region.wanted o (yielded ops a.tmps) = true) (ty : TypeId) (x : Operand) (ho : o.op = .load ty x) {n : Nat} (hr : rowN P ty = some n) {b : Nat} (hx : a.eval x = .pointer (some ⟨b, 0, none⟩))
    {T : TypeId} {l : List Value} (hb : Blk w b T l) (hn : l.length = n) (h : wpList P ops Q rest (a.put o.dst (.agg l.toArray)) w) : wpList P ops Q (o :: rest) a w :=
  k_loadR hgd ty x ho hr hx hb (by rw [List.drop_zero, List.take_of_length_le (by omega)]) hn h
theorem k_store1 (hK : K S w0 w L) (hgd : Region.wanted o (yielded ops a.tmps) = true) (ty : TypeId) (x y : Operand) (ho : o.op = .store ty x y) (hd : o.dst = none) (hs : scalarB P ty = true) {b off : Nat} (hx : a.eval x = .pointer (some ⟨b, off, none⟩))
    {v : Value} (hy : a.eval y = v) (hv : v.oneCell' = true) {i : Nat} {T : TypeId} {l : List Value} (hi : L[i]? = some (cellsR b T l)) (hl : off < l.length)
    (h : ∀ w', K S w0 w' (L.set i (cellsR b T (l.set off v))) → wpList P ops Q rest a w') : wpList P ops Q (o :: rest) a w := by
  refine armSkip hgd (w.setCell ⟨b, off, none⟩ v) ?_ (by rw [hd]; exact h _ (hK.setCell hi off v))
  have hb := hK.cells hi
  have hc := hb.cell off hl
  have hf := hb.frozen off
  have hcs : v.cells = #[v] := by cases v <;> first | rfl | cases hv
  have hsz := scalarB_size hs
  cases hq : P.info? ty with
  | none => simp [hq] at hsz
  | some inf =>
    have h1 : inf.size = 1 := by simpa [hq] using hsz
    unfold execOp
    simp only [ho, hx, hy, Instr.storeAt, Instr.sureAddr, Sem.run_bind, Sem.run_pure, Result.andThen_ok, storeVar, sizeOf, typeInfo, hq, program, Sem.run, h1, hcs]
    cases v <;> first | (cases hv; done) | simp [storeCells, store, Sem.run, hc, hf, Addr.add]
theorem k_storeR (hK : K S w0 w L) (hgd : Region.wanted o (yielded ops a.tmps) = true) (ty : TypeId) (x y : Operand) (ho : o.op = .store ty x y) (hd : o.dst = none) {n : Nat} (hr : rowN P ty = some n) {b off : Nat} (hx : a.eval x = .pointer (some ⟨b, off, none⟩))
    {cs : List Value} (hy : a.eval y = .agg cs.toArray) (hn : cs.length = n) (h1 : ∀ v ∈ cs, v.oneCell' = true) {i : Nat} {T : TypeId} {l : List Value} (hi : L[i]? = some (cellsR b T l)) (hl : off + n ≤ l.length)
    {l' : List Value} (hl' : l.take off ++ cs ++ l.drop (off + n) = l')
    (h : ∀ w', K S w0 w' (L.set i (cellsR b T l')) → wpList P ops Q rest a w') : wpList P ops Q (o :: rest) a w := by
  obtain ⟨d, hu, _, hi'⟩ := rowN_row hr
  have hk := hK.setCells hi off cs
  rw [splice_eq _ _ _ (by omega), hn, hl'] at hk
  exact arm_store ty hgd hd x y ho b off hx cs hy ((hK.cells hi).there off _ (by omega)) (by rw [hn]; exact hi') h1 (h _ hk)
/-- The whole of a block. -/
theorem k_storeW (hK : K S w0 w L) (hgd : Region.wanted o (yielded ops a.tmps) = true) (ty : TypeId) (x y : Operand) (ho : o.op = .store ty x y) (hd : o.dst = none) {n : Nat} (hr : rowN P ty = some n) {b : Nat} (hx : a.eval x = .pointer (some ⟨b, 0, none⟩))
    {cs : List Value} (hy : a.eval y = .agg cs.toArray) (hn : cs.length = n) (h1 : ∀ v ∈ cs, v.oneCell' = true) {i : Nat} {T : TypeId} {l : List Value} (hi : L[i]? = some (cellsR b T l)) (hl : l.length = n)
    (h : ∀ w', K S w0 w' (L.set i (cellsR b T cs)) → wpList P ops Q rest a w') : wpList P ops Q (o :: rest) a w :=
  k_storeR hK hgd ty x y ho hd hr hx hy hn h1 hi (by omega) (by rw [List.take_zero, List.nil_append, List.drop_of_length_le (by omega), List.append_nil]) h

/-- What a type's elements are like. -/
def Elem (P : Program) (e : TypeId) (size bytes : Nat) : Prop := ∃ i : TypeInfo, ∃ z : Value, P.info? e = some i ∧ i.zero = some z ∧ i.size = size ∧ i.bytes = bytes ∧ z.cells.size = size
theorem elem_of {e : TypeId} {size bytes : Nat} (h : (P.info? e).map (fun i => (i.zero.map (·.cells.size), i.size, i.bytes)) = some (some size, size, bytes)) : Elem P e size bytes := by
  cases hi : P.info? e with
  | none => rw [hi] at h; cases h
  | some i =>
    have h0 := h
    rw [hi] at h0
    simp only [Option.map_some, Option.some.injEq, Prod.mk.injEq] at h0
    obtain ⟨h1, h2, h3⟩ := h0
    cases hz : i.zero with
    | none => rw [hz] at h1; cases h1
    | some z =>
      rw [hz] at h1
      exact ⟨i, z, hi, hz, h2, h3, by simpa using h1⟩
theorem k_append (hK : K S w0 w L) (hgd : Region.wanted o (yielded ops a.tmps) = true) (s x : Operand) (t tx : TypeId) (ho : o.op = .call { callee := .builtin .append, args := #[s, x], argTypes := #[t, tx] })
    {e : TypeId} {size bytes : Nat} (ht : P.underlying t = some (.slice e)) (hE : Elem P e size bytes) {v : Value} (hs : a.eval s = v) {i n : Nat} {xs : List Value} (hi : L[i]? = some (ownR e size v n xs))
    {xv : Value} (hx : a.eval x = xv) {m : Nat} {news : List Value} (hsrc : Src P size tx xv m news w) (h63 : n + m ≤ maxLen) (hbytes : (n + m) * bytes ≤ 140737488355328)
    (h : ∀ v' w', K S w0 w' (L.set i (ownR e size v' (n + m) (xs ++ news))) → wpList P ops Q rest (a.put o.dst v') w') : wpList P ops Q (o :: rest) a w := by
  obtain ⟨inf, z, hinf, hz, h1, hb, hzc⟩ := hE
  have hown := hK.own hi
  obtain ⟨v', w', hr, ho', hU, hat⟩ := Own.appendAt (P := P) t tx o.type inf z bytes ht hinf hz h1 hb hzc (B := 0) hown xv m news hsrc h63 hbytes (Nat.zero_le _)
  refine arm hgd v' w' ?_ (h v' w' (hK.turn hi (by exact hU) (by exact ho') (by simp only [ownR]; cases v'.ownBlock <;> simp) (fun b hb => ?_)))
  · unfold execOp
    simp only [ho, resolve, invoke, builtin, Sem.run_bind, Sem.run_pure, Result.andThen_ok, List.map_toArray, List.map_cons, List.map_nil, hs, hx, hr]
  · simp only [ownR] at hb ⊢
    rcases hat with e1 | e1
    · rw [e1] at hb; exact .inl hb
    · rw [e1] at hb; simp at hb; exact .inr (by omega)

/-! ### Slices that are read -/
/-- The slice v of n elements reads xs (size cells an element). -/
def Rd (w : World) (size : Nat) (v : Value) (n : Nat) (xs : List Value) : Prop :=
  xs.length = n * size ∧ ((n = 0 ∧ ∃ ad cap, v = .slice ad 0 cap) ∨ ∃ b off cap, v = .slice (some ⟨b, off, none⟩) n cap ∧ b < w.heap.size ∧ n ≤ cap ∧ w.rangeAt b off xs)
theorem Own.rd {B e size n : Nat} {v : Value} {xs : List Value} (h : Own w B e size v n xs) : Rd w size v n xs := by
  refine ⟨h.1, ?_⟩
  rcases h.form with ⟨hv, hn, _⟩ | ⟨g, cap, hv, _, hlt, hc, _, hx, _⟩
  · exact .inl ⟨hn, none, 0, hv⟩
  · exact .inr ⟨g, 0, cap, hv, hlt, hc, fun j u hu => by rw [Nat.zero_add]; exact hx j u hu⟩
theorem Rd.upd {S : List Nat} {size n : Nat} {v : Value} {xs : List Value} (h : Rd w size v n xs) {w' : World} (hU : Upd S w w') (hS : ∀ b off c, v = .slice (some ⟨b, off, none⟩) n c → b ∉ S) : Rd w' size v n xs := by
  refine ⟨h.1, ?_⟩
  rcases h.2 with hn | ⟨b, off, cap, hv, hb, hc, hr⟩
  · exact .inl hn
  · exact .inr ⟨b, off, cap, hv, Nat.lt_of_lt_of_le hb hU.size, hc, fun j u hu => by rw [hU.cell hb (hS b off cap hv)]; exact hr j u hu⟩
theorem Rd.keep {size n : Nat} {v : Value} {xs : List Value} (h : Rd w size v n xs) {w' : World} (hU : Upd [] w w') : Rd w' size v n xs := h.upd hU (by simp)
theorem K.rd {i e size n : Nat} {v : Value} {xs : List Value} (h : K S w0 w L) (hi : L[i]? = some (ownR e size v n xs)) : Rd w size v n xs := (h.own hi).rd
theorem K.rd0 {w1 : World} {size n : Nat} {v : Value} {xs : List Value} (h : K [] w1 w L) (hr : Rd w1 size v n xs) : Rd w size v n xs := hr.keep h.upd
theorem Rd.src {tx e' size n : Nat} {v : Value} {xs : List Value} (h : Rd w size v n xs) (hk : P.underlying tx = some (.slice e')) (h1 : ∀ u ∈ xs, u.oneCell' = true) : Src P size tx v n xs w := by
  rcases h.2 with ⟨rfl, ad, cap, rfl⟩ | ⟨b, off, cap, rfl, _, _, hr⟩
  · have : xs = [] := List.length_eq_zero_iff.1 (by simpa using h.1)
    subst this
    cases ad with
    | none => exact Src.ofNil w hk _
    | some ad => exact Src.ofSlice w hk ad 0 cap [] (by simp) (by simp) (by simp)
  · exact Src.ofSlice w hk _ n cap xs h.1 (fun j u hu => by rw [Addr.add_mid]; exact hr j u hu) h1
theorem k_len (hgd : Region.wanted o (yielded ops a.tmps) = true) (x : Operand) (t : TypeId) (ho : o.op = .call { callee := .builtin .len, args := #[x], argTypes := #[t] }) {e' : TypeId} (ht : P.underlying t = some (.slice e'))
    {size n : Nat} {v : Value} {xs : List Value} (hx : a.eval x = v) (hr : Rd w size v n xs) (h : wpList P ops Q rest (a.put o.dst (.int .i64 (n : Int))) w) : wpList P ops Q (o :: rest) a w := by
  refine arm hgd _ w ?_ h
  have hv : ∃ ad cap, v = .slice ad n cap := by
    rcases hr.2 with ⟨rfl, ad, cap, rfl⟩ | ⟨b, off, cap, rfl, _⟩
    · exact ⟨ad, cap, rfl⟩
    · exact ⟨_, cap, rfl⟩
  obtain ⟨ad, cap, rfl⟩ := hv
  unfold execOp
  simp only [ho, resolve, invoke, builtin, Sem.run_bind, Sem.run_pure, Result.andThen_ok, List.map_toArray, List.map_cons, List.map_nil, hx]
  simp [Builtin.len_, run_underlying ht, goInt]
theorem k_index (hgd : Region.wanted o (yielded ops a.tmps) = true) (x y : Operand) (t : TypeId) (ho : o.op = .indexAddr t x y) {e' : TypeId} (ht : P.underlying t = some (.slice e')) {size : Nat} (hsz : (P.info? e').map (·.size) = some size)
    {n : Nat} {v : Value} {xs : List Value} (hx : a.eval x = v) {k : IntKind} {i : Int} (hy : a.eval y = .int k i) (hr : Rd w size v n xs) (j : Nat) (hj : i = (j : Int)) (hlt : j < n) {q : Nat} (hq' : j * size = q)
    (h : ∀ b off cap, v = .slice (some ⟨b, off, none⟩) n cap → w.rangeAt b off xs → wpList P ops Q rest (a.put o.dst (.pointer (some ⟨b, off + q, none⟩))) w) : wpList P ops Q (o :: rest) a w := by
  subst hq'
  rcases hr.2 with ⟨rfl, ad, cap, rfl⟩ | ⟨b, off, cap, hv, _, _, hrg⟩
  · omega
  · refine arm hgd _ w ?_ (h b off cap hv hrg)
    subst hv
    subst hj
    cases hq : P.info? e' with
    | none => simp [hq] at hsz
    | some inf =>
      have h1 : inf.size = size := by simpa [hq] using hsz
      unfold execOp
      simp only [ho, hx, hy, Instr.indexAt, asIntOf, Sem.run_bind, Sem.run_pure, Result.andThen_ok, run_underlying ht, sizeOf, typeInfo, hq, program, Sem.run, h1]
      simp [Int.natCast_nonneg, hlt, h1, Addr.add_mid, typeInfo, hq, program, Sem.run]
theorem k_loadAt1 (hgd : Region.wanted o (yielded ops a.tmps) = true) (ty : TypeId) (x : Operand) (ho : o.op = .load ty x) (hs : scalarB P ty = true) {b off j : Nat} (hx : a.eval x = .pointer (some ⟨b, off + j, none⟩))
    {xs : List Value} (hr : w.rangeAt b off xs) {v : Value} (hv : xs[j]? = some v) (h : wpList P ops Q rest (a.put o.dst v) w) : wpList P ops Q (o :: rest) a w := by
  refine arm hgd v w ?_ h
  have hc := hr j v hv
  unfold execOp
  simp only [ho, hx, Instr.loadAt, Instr.sureAddr, Sem.run_bind, Sem.run_pure, Result.andThen_ok, loadVar, scalarB_agg hs]
  simp [load, Sem.run, hc]
theorem k_loadAtR (hgd : Region.wanted o (yielded ops a.tmps) = true) (ty : TypeId) (x : Operand) (ho : o.op = .load ty x) {m : Nat} (hn : rowN P ty = some m) {b off j : Nat} (hx : a.eval x = .pointer (some ⟨b, off + j, none⟩))
    {xs : List Value} (hr : w.rangeAt b off xs) {cs : List Value} (hv : (xs.drop j).take m = cs) (hm : cs.length = m) (h : wpList P ops Q rest (a.put o.dst (.agg cs.toArray)) w) : wpList P ops Q (o :: rest) a w := by
  obtain ⟨d, hu, hd, hi⟩ := rowN_row hn
  refine arm_load ty d hu hd hgd x ho b (off + j) hx cs ?_ (by rw [hm]; exact hi) h
  intro q u hq
  rw [← hv, List.getElem?_take] at hq
  split at hq
  · rw [List.getElem?_drop] at hq
    rw [Nat.add_assoc]
    exact hr (j + q) u hq
  · cases hq

/-! ### Slices that are made -/
theorem K.nilOwn (h : K S w0 w L) (e size : Nat) : K S w0 w (ownR e size (.slice none 0 0) 0 [] :: L) :=
  h.push (Upd.refl _ _) (Own.nil w 0 e size) (by simp [ownR, Value.ownBlock]) (by simp [ownR, Value.ownBlock])
theorem K.asOwn {i b T size n : Nat} {l : List Value} (h : K S w0 w L) (hi : L[i]? = some (cellsR b T l)) (hl : l.length = n * size) (hm : n ≤ maxLen) : K S w0 w (L.set i (ownR T size (.slice (some ⟨b, 0, none⟩) n n) n l)) :=
  h.see hi (r' := ownR T size (.slice (some ⟨b, 0, none⟩) n n) n l) ⟨hl, .inr ⟨b, n, l.toArray, (0, 0), rfl, Nat.zero_le _, h.cells hi, .inl (Nat.le_refl _), Nat.le_refl _, hm, by simp [hl], by simp [← hl]⟩⟩ (by simp [ownR, cellsR, Value.ownBlock])
theorem k_make (hK : K S w0 w L) (hgd : Region.wanted o (yielded ops a.tmps) = true) (t : TypeId) (x y : Operand) (ho : o.op = .makeSlice t x y) {e : TypeId} {size bytes : Nat} (ht : P.underlying t = some (.slice e)) (hE : Elem P e size bytes)
    (hx : a.eval x = .int .i64 0) {c : Int} (hy : a.eval y = .int .i64 c) (h0 : 0 ≤ c) (hbytes : (bytes : Int) * c ≤ 281474976710656) (h63 : c ≤ 9223372036854775807)
    (h : ∀ v' w', K S w0 w' (ownR e size v' 0 [] :: L) → wpList P ops Q rest (a.put o.dst v') w') : wpList P ops Q (o :: rest) a w := by
  obtain ⟨inf, z, hinf, hz, h1, hb, hzc⟩ := hE
  subst hb
  obtain ⟨v', w', hr, ho', hU⟩ := Own.make (P := P) (e := e) (size := size) w w.heap.size t inf z ht hinf hz h1 c h0 hbytes h63 (Nat.le_refl _)
  refine arm hgd v' w' ?_ (h v' w' (hK.push hU (by exact ho'.low (Nat.zero_le _)) (by simp only [ownR]; cases v'.ownBlock <;> simp) (fun b hb => (ho'.lt b (by simpa [ownR] using hb)).1)))
  unfold execOp
  simp only [ho, Sem.run_bind, hx, hy, hr, Result.andThen_ok, Sem.run_pure]
/-- '[]byte(s)'. -/
theorem k_ofText (hK : K S w0 w L) (hgd : Region.wanted o (yielded ops a.tmps) = true) (src dst : TypeId) (x : Operand) (ho : o.op = .convert src dst x) {e : TypeId} (hs : P.underlying src = some .string) (hd : P.underlying dst = some (.slice e)) (he : P.underlying e = some (.int .u8))
    {s : ByteArray} (hx : a.eval x = .string s) (hl : s.size ≤ maxLen)
    (h : ∀ v' w', K S w0 w' (ownR e 1 v' s.size (s.data.toList.map b8) :: L) → wpList P ops Q rest (a.put o.dst v') w') : wpList P ops Q (o :: rest) a w := by
  obtain ⟨v', w', hr, ho', hU⟩ := Own.ofText (P := P) w w.heap.size src dst s hs hd he hl (Nat.le_refl _)
  refine arm hgd v' w' ?_ (h v' w' (hK.push hU (by exact ho'.low (Nat.zero_le _)) (by simp only [ownR]; cases v'.ownBlock <;> simp) (fun b hb => (ho'.lt b (by simpa [ownR] using hb)).1)))
  unfold execOp
  simp only [ho, Sem.run_bind, hx, hr, Result.andThen_ok, Sem.run_pure]
/-- 'string(b)'. -/
theorem k_text (hgd : Region.wanted o (yielded ops a.tmps) = true) (src dst : TypeId) (x : Operand) (ho : o.op = .convert src dst x) {e : TypeId} (hs : P.underlying src = some (.slice e)) (he : P.underlying e = some (.int .u8)) (hd : P.underlying dst = some .string)
    {v : Value} (hx : a.eval x = v) {n : Nat} {l : List UInt8} (hr : Rd w 1 v n (l.map b8)) (h : wpList P ops Q rest (a.put o.dst (.string ⟨l.toArray⟩)) w) : wpList P ops Q (o :: rest) a w := by
  refine arm hgd (.string ⟨l.toArray⟩) w ?_ h
  have hl : l.length = n := by simpa using hr.1
  unfold execOp
  simp only [ho, Sem.run_bind, hx]
  have key : (convert src dst v).run P w = .ok (.string ⟨l.toArray⟩) w := by
    rcases hr.2 with ⟨hn, ad, cap, rfl⟩ | ⟨b, off, cap, rfl, _, _, hrg⟩
    · have hl0 : l = [] := List.length_eq_zero_iff.1 (by omega)
      subst hl0
      cases ad with
      | none => exact run_convert_bytes_nil (P := P) w src e hs he 0 cap dst hd
      | some ad => exact run_convert_bytes_back (P := P) w src dst e ad cap [] hs he hd (fun j hj => by simp at hj)
    · rw [← hl]
      refine run_convert_bytes_back (P := P) w src dst e ⟨b, off, none⟩ cap l hs he hd (fun j hj => ?_)
      rw [Addr.add_mid]
      exact hrg j _ (by simp [hj, b8])
  simp only [key, Result.andThen_ok, Sem.run_pure]
/-- 'T{x, y, ..}', T a slice of one-cell elements: a new block. -/
theorem k_slice (hK : K S w0 w L) (hgd : Region.wanted o (yielded ops a.tmps) = true) (t : TypeId) (len : Nat) (parts : Array (Nat × Operand)) (ho : o.op = .buildSlice t len parts) {e : TypeId} {size bytes : Nat} (ht : P.underlying t = some (.slice e)) (hE : Elem P e size bytes)
    (hpos : 0 < len * size) (hsmall : len * size ≤ 2 ^ 24) {l : List Value}
    (hf : ∀ z : Value, z.cells.size = size → Instr.fill (fun i => some (i * size, size)) ((Array.range (len * size)).map (z.cells[· % z.cells.size]!)) (parts.map fun (i, x) => (i, a.eval x)).toList = some l.toArray)
    (h : ∀ w' n, K S w0 w' (cellsR n e l :: L) → wpList P ops Q rest (a.put o.dst (.slice (some ⟨n, 0, none⟩) len len)) w') : wpList P ops Q (o :: rest) a w := by
  obtain ⟨inf, z, hinf, hz, h1, hb, hzc⟩ := hE
  subst h1
  refine arm hgd _ _ ?_ (h (w.alloc (.cells l.toArray e)) w.heap.size (hK.pushCells e l))
  unfold execOp
  simp only [ho, Sem.run_bind, run_buildSlice w t e len _ l.toArray inf z ht hinf hz (by omega) (by omega) (hf z hzc), Result.andThen_ok, Sem.run_pure]
/-- The same, each element one cell: what it is made of. -/
theorem k_slice1 (hK : K S w0 w L) (hgd : Region.wanted o (yielded ops a.tmps) = true) (t : TypeId) (len : Nat) (parts : Array (Nat × Operand)) (ho : o.op = .buildSlice t len parts) {e : TypeId} {bytes : Nat} (ht : P.underlying t = some (.slice e)) (hE : Elem P e 1 bytes)
    (hpos : 0 < len) (hsmall : len ≤ 2 ^ 24) (l : List Value) (hl : l.length = len) (h1 : ∀ u ∈ l, u.oneCell' = true)
    (hf : (parts.map fun (i, x) => (i, a.eval x)).toList = (l.zipIdx 0).map fun x => (x.2, x.1))
    (h : ∀ w' n, K S w0 w' (cellsR n e l :: L) → wpList P ops Q rest (a.put o.dst (.slice (some ⟨n, 0, none⟩) len len)) w') : wpList P ops Q (o :: rest) a w := by
  refine k_slice hK hgd t len parts ho ht hE (by omega) (by omega) (l := l) (fun z hz => ?_) h
  rw [hf]
  exact Great.fill_flat _ _ (fun v hv => by have := h1 v hv; cases v <;> first | rfl | cases this) (by simp [hl])
/-- The same, one element. -/
theorem k_sliceV1 (hK : K S w0 w L) (hgd : Region.wanted o (yielded ops a.tmps) = true) (t : TypeId) (x : Operand) (ho : o.op = .buildSlice t 1 #[(0, x)]) {e : TypeId} {bytes : Nat} (ht : P.underlying t = some (.slice e)) (hE : Elem P e 1 bytes)
    {v : Value} (hx : a.eval x = v) (hv : v.oneCell' = true) (h : ∀ w' n, K S w0 w' (cellsR n e [v] :: L) → wpList P ops Q rest (a.put o.dst (.slice (some ⟨n, 0, none⟩) 1 1)) w') : wpList P ops Q (o :: rest) a w :=
  k_slice1 hK hgd t 1 _ ho ht hE (by omega) (by omega) [v] rfl (by simpa using hv) (by simp [hx]) h
theorem run_bound {v : Value} {k : Nat} {y : Nat} {c : BoundsCode} (hv : v = .int .i64 (k : Int)) (hk : k ≤ y) : (Instr.sliceBound v y c).run P w = .ok k w := by
  subst hv
  simp [Instr.sliceBound, asIntOf, hk, Int.natCast_nonneg]
/-- 'v[lo:hi]' of a slice that is read. -/
theorem k_sub (hgd : Region.wanted o (yielded ops a.tmps) = true) (t : TypeId) (x : Operand) (lo hi : Option Operand) (ho : o.op = .slice t x lo hi none) {e' : TypeId} (ht : P.underlying t = some (.slice e')) (hsz : (P.info? e').map (·.size) = some 1)
    {n : Nat} {v : Value} {xs : List Value} (hx : a.eval x = v) (hr : Rd w 1 v n xs) (i j : Nat) (hlo : (lo = none ∧ i = 0) ∨ ∃ q, lo = some q ∧ a.eval q = .int .i64 (i : Int)) (hhi : (hi = none ∧ j = n) ∨ ∃ q, hi = some q ∧ a.eval q = .int .i64 (j : Int))
    (hij : i ≤ j) (hjn : j ≤ n) (hn : 0 < n)
    (h : ∀ v', Rd w 1 v' (j - i) ((xs.drop i).take (j - i)) → wpList P ops Q rest (a.put o.dst v') w) : wpList P ops Q (o :: rest) a w := by
  obtain ⟨hl, h2⟩ := hr
  rcases h2 with ⟨h0, _⟩ | ⟨b, off, cap, rfl, hb, hc, hrg⟩
  · omega
  refine arm hgd (.slice (some (if cap = i then ⟨b, off, none⟩ else ⟨b, off + i, none⟩)) (j - i) (cap - i)) w ?_ (h _ ⟨?_, ?_⟩)
  · cases hq : P.info? e' with
    | none => simp [hq] at hsz
    | some inf =>
      have hs1 : inf.size = 1 := by simpa [hq] using hsz
      have hbd : (Instr.sliceBounds true n cap (lo.map a.eval) (hi.map a.eval) none).run P w = .ok (i, j, cap) w := by
        rcases hlo with ⟨rfl, rfl⟩ | ⟨q, rfl, hq'⟩ <;> rcases hhi with ⟨rfl, rfl⟩ | ⟨q2, rfl, hq2⟩
        · simp [Instr.sliceBounds]
        · simp [Instr.sliceBounds, run_bound hq2 (show j ≤ cap by omega)]
        · simp [Instr.sliceBounds, run_bound hq' (show i ≤ j by omega)]
        · simp [Instr.sliceBounds, run_bound hq2 (show j ≤ cap by omega), run_bound hq' (show i ≤ j by omega)]
      unfold execOp
      simp only [ho, hx, Instr.sliceAt, Instr.slice, Sem.run_bind, run_underlying ht, Result.andThen_ok, Option.map_none, hbd, sizeOf, typeInfo, program, Sem.run, hq, Sem.run_pure, hs1, Nat.mul_one]
      simp only [Option.map_some, Addr.add_mid]
      split <;> rfl
  · rw [List.length_take, List.length_drop]
    omega
  · by_cases hz : j - i = 0
    · exact .inl ⟨hz, _, _, by rw [hz]⟩
    · refine .inr ⟨b, off + i, cap - i, by rw [if_neg (by omega)], hb, by omega, fun q u hq => ?_⟩
      rw [List.getElem?_take] at hq
      split at hq
      · rw [List.getElem?_drop] at hq
        rw [Nat.add_assoc]
        exact hrg _ _ hq
      · cases hq

/-! ### Calls of named functions -/
def entersB (P : Program) (f : FuncId) : Bool := match P.funcs[f]? with
  | some fn => !(fn.name == "runtime.NumGoroutine") && fn.body.isSome
  | none => false
theorem run_enters {f : FuncId} (h : entersB P f = true) (args : Array Value) (w : World) : (callFunc f args).run P w = .ok (.enter f args) w := by
  unfold entersB at h
  cases hf : P.funcs[f]? with
  | none => rw [hf] at h; cases h
  | some fn =>
    rw [hf] at h
    simp only [Bool.and_eq_true, Bool.not_eq_true'] at h
    obtain ⟨h1, h2⟩ := h
    have h3 : fn.body.isNone = false := by cases hb : fn.body <;> simp_all
    simp only [callFunc, program, Sem.run_bind, Sem.run, Result.andThen_ok, hf, h1, h3, Bool.false_eq_true, if_false, Sem.run_pure]
theorem run_call {f : FuncId} (h : entersB P f = true) {xs : List Operand} {ats : Array TypeId} (ho : o.op = .call { callee := .value (.func f), args := xs.toArray, argTypes := ats }) {args : List Value} (ha : xs.map a.eval = args) (w : World) :
    (execOp a.eval o).run P w = .ok (.enter f args.toArray) w := by
  have e : execOp a.eval o = callFunc f (#[] ++ xs.toArray.map a.eval ++ #[]) := by
    unfold execOp
    rw [ho]
    rfl
  rw [e, run_enters h]
  simp [← ha]
theorem args0  : ([] : List Operand).map a.eval = [] := by simp []
theorem args1 {x0 : Operand} {v0 : Value} (h0 : a.eval x0 = v0) : ([x0] : List Operand).map a.eval = [v0] := by simp [h0]
theorem args2 {x0 x1 : Operand} {v0 v1 : Value} (h0 : a.eval x0 = v0) (h1 : a.eval x1 = v1) : ([x0, x1] : List Operand).map a.eval = [v0, v1] := by simp [h0, h1]
theorem args3 {x0 x1 x2 : Operand} {v0 v1 v2 : Value} (h0 : a.eval x0 = v0) (h1 : a.eval x1 = v1) (h2 : a.eval x2 = v2) : ([x0, x1, x2] : List Operand).map a.eval = [v0, v1, v2] := by simp [h0, h1, h2]
theorem args4 {x0 x1 x2 x3 : Operand} {v0 v1 v2 v3 : Value} (h0 : a.eval x0 = v0) (h1 : a.eval x1 = v1) (h2 : a.eval x2 = v2) (h3 : a.eval x3 = v3) : ([x0, x1, x2, x3] : List Operand).map a.eval = [v0, v1, v2, v3] := by simp [h0, h1, h2, h3]
theorem args5 {x0 x1 x2 x3 x4 : Operand} {v0 v1 v2 v3 v4 : Value} (h0 : a.eval x0 = v0) (h1 : a.eval x1 = v1) (h2 : a.eval x2 = v2) (h3 : a.eval x3 = v3) (h4 : a.eval x4 = v4) : ([x0, x1, x2, x3, x4] : List Operand).map a.eval = [v0, v1, v2, v3, v4] := by simp [h0, h1, h2, h3, h4]
theorem args6 {x0 x1 x2 x3 x4 x5 : Operand} {v0 v1 v2 v3 v4 v5 : Value} (h0 : a.eval x0 = v0) (h1 : a.eval x1 = v1) (h2 : a.eval x2 = v2) (h3 : a.eval x3 = v3) (h4 : a.eval x4 = v4) (h5 : a.eval x5 = v5) : ([x0, x1, x2, x3, x4, x5] : List Operand).map a.eval = [v0, v1, v2, v3, v4, v5] := by simp [h0, h1, h2, h3, h4, h5]
/-- A call of a named function whose contract leaves what was there as it was. -/
theorem k_call (hK : K S w0 w L) (hgd : Region.wanted o (yielded ops a.tmps) = true) {f : FuncId} {xs : List Operand} {ats : Array TypeId} (ho : o.op = .call { callee := .value (.func f), args := xs.toArray, argTypes := ats }) (h : entersB P f = true)
    {args : List Value} (ha : xs.map a.eval = args) (hcn : ∃ v, (Calls P f args.toArray w fun e w' => e = .returned v ∧ Upd [] w w') ∧ ∀ w', K S w0 w' L → wpList P ops Q rest (a.put o.dst v) w') : wpList P ops Q (o :: rest) a w :=
  wpList_step fun K' hK' => by
    obtain ⟨v, hc, hn⟩ := hcn
    rw [if_pos hgd]
    unfold Oper.wp
    rw [run_call h ho ha w]
    refine hc.mono ?_
    rintro e w' ⟨rfl, hU⟩
    exact hK' _ _ (hn w' (hK.frame hU))

/-! ### Results -/
inductive Gives (P : Program) (w : World) (tmps : Array Value) : ResultVar → Value → Prop
  | tmp (t : Tmp) (v : Value) (h : tmps.getD t undef = v) : Gives P w tmps (.tmp t) v
  | row (p : Tmp) (ty : TypeId) (b : Nat) (T : TypeId) (l : List Value) (n : Nat) (h : tmps.getD p undef = .pointer (some ⟨b, 0, none⟩)) (hn : rowN P ty = some n) (hb : Blk w b T l) (hl : l.length = n) : Gives P w tmps (.cell p ty) (.agg l.toArray)
  | one (p : Tmp) (ty : TypeId) (b : Nat) (T : TypeId) (v : Value) (h : tmps.getD p undef = .pointer (some ⟨b, 0, none⟩)) (hn : scalarB P ty = true) (hb : Blk w b T [v]) : Gives P w tmps (.cell p ty) v
def giveOne (tmps : Array Value) : ResultVar → Sem Value
  | .tmp t => pure (tmps.getD t undef)
  | .cell a t => do loadVar t (← asAddr (tmps.getD a undef))
theorem Gives.run {tmps : Array Value} {r : ResultVar} {v : Value} (h : Gives P w tmps r v) : (giveOne tmps r).run P w = .ok v w := by
  cases h with
  | tmp t v h => subst h; rfl
  | row p ty b T l n h hn hb hl =>
    obtain ⟨d, hu, hd, hi⟩ := rowN_row hn
    simp only [giveOne, h, asAddr, Sem.run_bind, Sem.run_pure, Result.andThen_ok]
    exact run_loadVar_mid w b 0 ty l d (by
      have := hb.range 0 l.length
      rwa [List.drop_zero, List.take_of_length_le (Nat.le_refl _)] at this) hu hd (by rw [hl]; exact hi)
  | one p ty b T v h hn hb =>
    have hc := hb.cell 0 (by simp)
    simp only [giveOne, h, asAddr, Sem.run_bind, Sem.run_pure, Result.andThen_ok, loadVar, scalarB_agg hn]
    simp [load, Sem.run, hc]
theorem results_one (fn : Func) (tmps : Array Value) : results fn tmps = (do let vs ← fn.results.mapM (giveOne tmps); pure (if h : vs.size = 1 then vs[0] else .tuple vs)) := rfl
variable {fn : Func} {R : Ending → World → Prop}
theorem k_ret1 {r1 : ResultVar} (hf : fn.results = #[r1]) {v1 : Value} (g1 : Gives P w a.tmps r1 v1) (hd : a.defers = []) (hR : R (.returned v1) w) : bodyPost P fn R .ret a w := by
  refine bodyPost_ret_by (v := v1) ?_ hd hR
  rw [results_one, hf]
  simp [g1.run]
theorem k_ret2 {r1 r2 : ResultVar} (hf : fn.results = #[r1, r2]) {v1 v2 : Value} (g1 : Gives P w a.tmps r1 v1) (g2 : Gives P w a.tmps r2 v2) (hd : a.defers = []) (hR : R (.returned (.tuple #[v1, v2])) w) : bodyPost P fn R .ret a w := by
  refine bodyPost_ret_by (v := .tuple #[v1, v2]) ?_ hd hR
  rw [results_one, hf]
  simp [g1.run, g2.run]
theorem k_ret3 {r1 r2 r3 : ResultVar} (hf : fn.results = #[r1, r2, r3]) {v1 v2 v3 : Value} (g1 : Gives P w a.tmps r1 v1) (g2 : Gives P w a.tmps r2 v2) (g3 : Gives P w a.tmps r3 v3) (hd : a.defers = []) (hR : R (.returned (.tuple #[v1, v2, v3])) w) : bodyPost P fn R .ret a w := by
  refine bodyPost_ret_by (v := .tuple #[v1, v2, v3]) ?_ hd hR
  rw [results_one, hf]
  simp [g1.run, g2.run, g3.run]
theorem k_ret4 {r1 r2 r3 r4 : ResultVar} (hf : fn.results = #[r1, r2, r3, r4]) {v1 v2 v3 v4 : Value} (g1 : Gives P w a.tmps r1 v1) (g2 : Gives P w a.tmps r2 v2) (g3 : Gives P w a.tmps r3 v3) (g4 : Gives P w a.tmps r4 v4) (hd : a.defers = []) (hR : R (.returned (.tuple #[v1, v2, v3, v4])) w) : bodyPost P fn R .ret a w := by
  refine bodyPost_ret_by (v := .tuple #[v1, v2, v3, v4]) ?_ hd hR
  rw [results_one, hf]
  simp [g1.run, g2.run, g3.run, g4.run]
end
attribute [irreducible] cellsR ownR
end Go.Proofs.YtfilokdleehklaaDoor
