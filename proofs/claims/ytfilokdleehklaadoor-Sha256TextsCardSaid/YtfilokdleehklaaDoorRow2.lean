/- From the rows to the walks: what an argument's reading gives, and that it reads again behind a call that leaves what was there as it was. -/
import Derived.Test.YtfilokdleehklaaDoorRow
import Derived.Test.YtfilokdleehklaaDoorKnow
import Derived.Deep.Strs
import Derived.WideKeyArgs
set_option linter.all false
namespace Go.Proofs.YtfilokdleehklaaDoor
open Go.ChangeShapes Go.WideShapes Go.ChangeAt Go.RowKit
section
variable {H : Type} {enc : TypeId × Value → H} {P : Program}

theorem trodAll_stays (hl : laidOutB P = true) {W W' : World} {sp : Nat → Bool} : ∀ {ts : List TypeId} {vs : List Value} {ds : List (DataW H)} {ps : List MemPlace}, (∀ t ∈ ts, P.readableRec t = true ∧ t < P.types.size) → DataW.TrodAll enc P W 0 (fun _ => true) true ts vs ds ps →
    (∀ p ∈ ps, W.sameAt W' p) → (∀ p ∈ ps, sp p.block = true) → DataW.TrodAll enc P W' 0 sp true ts vs ds ps
  | [], [], [], _, _, h, _, _ => h
  | t :: _, _ :: _, _ :: _, _, hr, ⟨p, q, h1, h2, e⟩, hs, hsp =>
    ⟨p, q, WideElems.Trod_stays hl (hr t (by simp)).1 (hr t (by simp)).2 h1 (fun x hx => hs x (by rw [e]; exact List.mem_append_left _ hx)) (fun x hx => hsp x (by rw [e]; exact List.mem_append_left _ hx)),
      trodAll_stays hl (fun t ht => hr t (List.mem_cons_of_mem _ ht)) h2 (fun x hx => hs x (by rw [e]; exact List.mem_append_right _ hx)) (fun x hx => hsp x (by rw [e]; exact List.mem_append_right _ hx)), e⟩
/-- The post of a law: it says true, and its arguments read as they did. -/
theorem post_law {f : Func} {s : ChangeSpec} {apart fresh handsOn again : Bool} {W W' : World} {args : Array Value} {ds : List (DataW H)} {before : List MemPlace} {tb : TypeId}
    (hW : DataW.Whole enc P f.params.toList s.vars apart W args.toList ds [] before) (hA : DataW.TrodAll enc P W 0 (fun _ => true) true f.params.toList args.toList ds before)
    (hl : laidOutB P = true) (hr : ∀ t ∈ f.params.toList, P.readableRec t = true ∧ t < P.types.size) (hrt : f.resultTypes = #[tb]) (hb : P.underlying tb = some .bool) (hvars : s.vars = [])
    (hres : (s.fn H (ds ++ [])).results = [.lit (.bool true)]) (hargs : (s.fn H (ds ++ [])).args = ds) (hv : (s.fn H (ds ++ [])).vars = []) (hU : Upd [] W W') :
    s.post enc P f apart fresh handsOn again W args (.bool true) W' := by
  refine post_same (pa := before) (pv := []) hW ?_ ?_ ?_ (by simp) hU (ok_one hrt rfl (okWide_bool_mk hb _))
  · intro b sp hd
    rw [hres, hrt]
    exact trodAll_cons_mk (shut_bool hb _) trodAll_mk0
  · intro sp hsp
    rw [hargs]
    exact trodAll_stays hl hr hA (fun p hp => hU.below.same (hW.lt p hp)) hsp
  · intro sp hsp
    rw [hvars, hv]
    rfl
/-- A byte. -/
theorem open_u8 {w : World} {base : Nat} {sp : Nat → Bool} {held : Bool} {r : Reach} {b0 : Nat} {t : TypeId} {v : Value} {d : DataW H} {ps : List MemPlace} (ht : P.underlying t = some (.int .u8)) (hval : Value.okWide P w r b0 t v) (hd : DataW.Trod enc P w base sp held t v d ps) :
    ∃ x : UInt8, v = .int .u8 x.toNat := by
  obtain ⟨z, rfl, _, _, hw⟩ := open_int ht hval hd
  have hz2 : 0 ≤ z ∧ z < 256 := by
    simp only [Lit.wf, IntKind.min, IntKind.max, IntKind.signed, IntKind.bits] at hw
    simp at hw
    omega
  refine ⟨UInt8.ofNat z.toNat, ?_⟩
  have : (UInt8.ofNat z.toNat).toNat = z.toNat := by simp; omega
  rw [this, Int.toNat_of_nonneg hz2.1]
/-- An array of bytes. -/
theorem open_bytes {w : World} {base : Nat} {sp : Nat → Bool} {held : Bool} {r : Reach} {b0 : Nat} {t e : TypeId} {n : Nat} {v : Value} {d : DataW H} {ps : List MemPlace} (ht : P.underlying t = some (.array n e)) (he : P.underlying e = some (.int .u8))
    (h1 : P.cellsOf e = 1) (hn : P.cellsOf t = n) (hval : Value.okWide P w r b0 t v) (hd : DataW.Trod enc P w base sp held t v d ps) : ∃ l : List UInt8, v = .agg (l.map b8).toArray ∧ l.length = n := by
  unfold Value.okWide at hval
  rw [ht] at hval
  obtain ⟨cs, rfl, hsz, _⟩ := hval
  rw [hn] at hsz
  obtain ⟨fuel, hf⟩ := hd
  cases fuel with
  | zero => simp [DataW.trod] at hf
  | succ m =>
    rw [DataW.trod_step] at hf
    unfold DataW.trodStep at hf
    simp only [ht, Value.cells, h1, Nat.mul_one] at hf
    rw [if_pos (by rw [hn]; simpa using hsz)] at hf
    simp only [Option.map_eq_some_iff] at hf
    obtain ⟨xs, hx, _⟩ := hf
    have each : ∀ i, i < n → ∃ x : UInt8, cs[i]? = some (b8 x) := by
      intro i hi
      have hg := mapM_some_get hx i i (by simp [hi])
      have hlen := mapM_some_length hx
      simp only [List.length_range] at hlen
      obtain ⟨y, hy⟩ : ∃ y, xs[i]? = some y := ⟨xs[i]'(by omega), List.getElem?_eq_getElem _⟩
      rw [hy] at hg
      obtain ⟨z, hz, _, hw⟩ := DataW.trod_int he hg
      have hci : cs.toList[i]? = some (.int .u8 z) := by
        have h2 : ((cs.toList.drop i).take 1)[0]? = some (Value.int .u8 z) := by rw [hz]; rfl
        simpa using h2
      have hz2 : 0 ≤ z ∧ z < 256 := by
        simp only [Lit.wf, IntKind.min, IntKind.max, IntKind.signed, IntKind.bits] at hw
        simp at hw
        omega
      refine ⟨UInt8.ofNat z.toNat, ?_⟩
      rw [← Array.getElem?_toList, hci]
      have : (UInt8.ofNat z.toNat).toNat = z.toNat := by simp; omega
      simp only [b8, this]
      rw [Int.toNat_of_nonneg hz2.1]
    obtain ⟨F, hF⟩ := Deep.choose_lt each
    refine ⟨(List.range n).map F, ?_, by simp⟩
    congr 1
    apply Array.ext'
    apply List.ext_getElem?
    intro i
    rw [List.map_map]
    by_cases hi : i < n
    · have := hF i hi
      rw [Array.getElem?_toList, this]
      simp [hi]
    · rw [List.getElem?_eq_none (by simp; omega), List.getElem?_eq_none (by simp; omega)]
/-- A slice of texts. -/
theorem open_texts {w : World} {sp : Nat → Bool} {held : Bool} {t e : TypeId} {v : Value} {d : DataW H} {ps : List MemPlace} {r : Reach} {b0 : Nat} (ht : P.underlying t = some (.slice e)) (he : P.underlying e = some .string) (hc : P.cellsOf e = 1)
    (hval : Value.okWide P w r b0 t v) (hd : DataW.Trod enc P w 0 sp held t v d ps) : ∃ l : List ByteArray, Rd w 1 v l.length (l.map Value.string) ∧ l.length ≤ maxLen := by
  have hvc : v.cells.toList = [v] := by
    unfold Value.okWide at hval
    rw [ht] at hval
    obtain ⟨fuel, hf⟩ := hd
    rcases Deep.open_strs ht he hc hf with ⟨h1, _⟩ | ⟨a, len, cap, m, S, h1, _⟩
    all_goals
      cases v <;> first
        | rfl
        | (exfalso; unfold Cell.okWide at hval; rw [ht] at hval; simp at hval; unfold Cell.ok at hval; rw [ht] at hval; simp at hval)
  obtain ⟨fuel, hf⟩ := hd
  rw [hvc] at hf
  rcases Deep.open_strs ht he hc hf with ⟨h1, _⟩ | ⟨a, len, cap, m, S, h1, _, hlc, hcm, hm, _, hS⟩
  · refine ⟨[], ⟨rfl, .inl ⟨rfl, none, 0, ?_⟩⟩, by simp⟩
    simpa using h1
  · have hv : v = .slice (some a) len cap := by simpa using h1
    have hlm : len ≤ m := by rw [hm]; split <;> omega
    refine ⟨(List.range len).map S, ⟨by simp, ?_⟩, by simp; omega⟩
    by_cases h0 : len = 0
    · subst h0
      exact .inl ⟨by simp, _, _, hv⟩
    · have hc0 := (hS 0 (by omega)).1
      rw [show a.add 0 = a from rfl] at hc0
      have hsp := World.cell?_spot hc0
      obtain ⟨b, off, spot⟩ := a
      obtain rfl : spot = none := hsp
      have hb : b < w.heap.size := by
        rcases Nat.lt_or_ge b w.heap.size with h | h
        · exact h
        · simp [World.cell?, Array.getElem?_eq_none h] at hc0
      refine .inr ⟨b, off, cap, by simpa using hv, hb, by simpa using hlc, fun j u hu => ?_⟩
      simp only [List.map_map] at hu
      rw [List.getElem?_map] at hu
      by_cases hj : j < len
      · rw [List.getElem?_range hj] at hu
        simp at hu
        rw [← hu, ← Addr.add_mid]
        exact (hS j (by omega)).1
      · rw [List.getElem?_eq_none (by simp; omega)] at hu
        cases hu
end
end Go.Proofs.YtfilokdleehklaaDoor
