/- The walks of Join, Tagged, list and the document's Join. -/
import Derived.Test.YtfilokdleehklaaDoorText2
import Derived.Test.YtfilokdleehklaaDoorParses
import Derived.Test.YtfilokdleehklaaDoorTab
set_option linter.all false
namespace Go.Proofs.YtfilokdleehklaaDoor
open Go.RowKit
set_option maxHeartbeats 2000000
set_option maxRecDepth 100000

def strs (ts : List ByteArray) : List Value := ts.map Value.string
theorem strs_one (ts : List ByteArray) : ∀ u ∈ strs ts, u.oneCell' = true := by
  intro u hu
  obtain ⟨t, _, rfl⟩ := List.mem_map.1 hu
  rfl
theorem strs_at (ts : List ByteArray) (i : Nat) (hi : i < ts.length) : (strs ts)[i]? = some (.string ts[i]) := by
  simp [strs, hi]
/-- A number in four bytes, the greatest first. -/
def be4 (n : Nat) : List UInt8 := [UInt8.ofNat (n / 16777216), UInt8.ofNat (n / 65536), UInt8.ofNat (n / 256), UInt8.ofNat n]
def joinBody (ts : List ByteArray) : List UInt8 := ts.flatMap fun t => be4 t.size ++ t.data.toList
def joined (tag : UInt8) (ts : List ByteArray) : List UInt8 := tag :: UInt8.ofNat ts.length :: joinBody ts
attribute [irreducible] be4 joinBody joined

def lower (l : List ByteArray) : List ByteArray := (l.take 12).map fun t => ⟨(t.data.toList.take 100).toArray⟩
theorem lower_take (l : List ByteArray) (t : Nat) (h1 : t < l.length) (h2 : t < 12) : (lower l).take (t + 1) = (lower l).take t ++ [⟨(l[t].data.toList.take 100).toArray⟩] := by
  have hlen : t < (lower l).length := by simp [lower]; omega
  rw [List.take_succ_eq_append_getElem hlen]
  simp [lower]
theorem strs_append (a b : List ByteArray) : strs (a ++ b) = strs a ++ strs b := by simp [strs]
theorem list02_any (l : List ByteArray) (v : Value) (w : World) (hv : Rd w 1 v l.length (strs l)) (hlen : l.length ≤ 9223372036854775807) :
    Calls Tryd.prog 19 #[v] w fun e w' => ∃ v' ts, e = .returned v' ∧ ts = lower l ∧ K [] w w' [ownR 9 1 v' ts.length (strs ts)] := by
  have hK := K.init [] w
  have hK := hK.nilOwn 9 1
  go_enter Tryd.func19, Tryd.ntmps19
  go_wp2
  go_loopw [3, 4] (fun x3 x4 wr => ∃ (t : Nat) (v3 : Value), v3 = x3 ∧ t ≤ l.length ∧ t ≤ 12 ∧ x4 = .int .i64 t ∧ K [] w wr [ownR 9 1 v3 t (strs ((lower l).take t))]) (fun _ x4 _ => 12 - (intOf x4).toNat)
  case atStart => exact ⟨0, _, rfl, by omega, by omega, rfl, hK⟩
  case round =>
    clear hK
    obtain ⟨t, v3, rfl, ht, ht12, rfl, hK⟩ := hrel
    by_cases hlt : t < l.length ∧ t < 12
    · obtain ⟨h1, h2⟩ := hlt
      have hat := strs_at l t h1
      obtain ⟨x, hx⟩ : ∃ x, l[t] = x := ⟨_, rfl⟩
      rw [hx] at hat
      go_wp2_with (first
        | (refine k_len (by rfl) _ _ (by rfl) (by first | exact Tryd.underlying22 | exact Tryd.underlying58 | exact Tryd.underlying59 | exact Tryd.underlying88 | exact Tryd.underlying90 | exact Tryd.underlying97 | exact Tryd.underlying100 | exact Tryd.underlying123 | exact Tryd.underlying129 | exact Tryd.underlying169 | exact Tryd.underlying189) (by first | exact eval_tmp rfl | exact eval_const | rfl) (by first | exact hK.rd at0 | exact hK.rd at1 | exact hK.rd at2 | exact hK.rd at3 | exact hK.rd at4 | exact hK.rd0 (by assumption)) ?_)
        | (refine k_index (by rfl) _ _ _ (by rfl) (by first | exact Tryd.underlying22 | exact Tryd.underlying58 | exact Tryd.underlying59 | exact Tryd.underlying88 | exact Tryd.underlying90 | exact Tryd.underlying97 | exact Tryd.underlying100 | exact Tryd.underlying123 | exact Tryd.underlying129 | exact Tryd.underlying169 | exact Tryd.underlying189) (by first | exact sz5 | exact sz9 | exact sz65 | exact sz68 | exact sz93 | exact sz95 | exact sz127 | exact sz176 | exact sz196) (by first | exact eval_tmp rfl | exact eval_const | rfl) (by rfl) (by first | exact hK.rd at0 | exact hK.rd at1 | exact hK.rd at2 | exact hK.rd at3 | exact hK.rd at4 | exact hK.rd0 (by assumption)) t (by first | rfl | omega | (simp; first | done | fail)) (by omega) (by first | exact Nat.mul_one _ | rfl) ?_; intro b1 o1 c1 hv1 hr1; have HV1 := hid hv1; clear hv1)
        | (refine k_loadAt1 (by rfl) _ _ (by rfl) (by exact sc _ (by decide)) (by rfl) hr1 (by first | assumption | rfl) ?_; clear hr1 HV1)
        | (go_at_call 25; (refine (short02_any x 100 _).mono ?_); rintro e w2 ⟨⟨y, rfl, hy1, hy2⟩, rfl⟩)
        | (refine k_slice1 hK (by rfl) _ _ _ (by rfl) (by first | exact Tryd.underlying22 | exact Tryd.underlying58 | exact Tryd.underlying59 | exact Tryd.underlying88 | exact Tryd.underlying90 | exact Tryd.underlying97 | exact Tryd.underlying100 | exact Tryd.underlying123 | exact Tryd.underlying129 | exact Tryd.underlying169 | exact Tryd.underlying189) (by first | exact el5 | exact el9 | exact el65 | exact el68 | exact el93 | exact el95 | exact el127 | exact el176 | exact el196) (by omega) (by omega) [.string y] (by first | rfl | assumption | (simp; first | done | fail)) (by first | exact b8_one _ | (simp [Value.oneCell']; first | done | fail)) (by first | rfl | (simp [b8, Act.eval]; first | done | fail) | (simp [b8, Act.eval]; omega) | (skip)) ?_; clear hK; intro w3 n3 hK)
        | (refine k_append hK (by rfl) _ _ _ _ (by rfl) (by first | exact Tryd.underlying22 | exact Tryd.underlying58 | exact Tryd.underlying59 | exact Tryd.underlying88 | exact Tryd.underlying90 | exact Tryd.underlying97 | exact Tryd.underlying100 | exact Tryd.underlying123 | exact Tryd.underlying129 | exact Tryd.underlying169 | exact Tryd.underlying189) (by first | exact el5 | exact el9 | exact el65 | exact el68 | exact el93 | exact el95 | exact el127 | exact el176 | exact el196) (by first | exact eval_tmp rfl | exact eval_const | rfl) (by first | exact at0 | exact at1 | exact at2 | exact at3 | exact at4 | exact at5 | exact at6 | exact at7) (by first | exact eval_tmp rfl | exact eval_const | rfl) (Src.blk (by first | exact Tryd.underlying22 | exact Tryd.underlying58 | exact Tryd.underlying59 | exact Tryd.underlying88 | exact Tryd.underlying90 | exact Tryd.underlying97 | exact Tryd.underlying100 | exact Tryd.underlying123 | exact Tryd.underlying129 | exact Tryd.underlying169 | exact Tryd.underlying189) (by first | exact hK.cells at0 | exact hK.cells at1 | exact hK.cells at2 | exact hK.cells at3 | exact hK.cells at4 | exact hK.cells at5 | exact hK.cells at6 | exact hK.cells at7 | exact hK.upd.blk (by assumption) (by simp)) _ _ (by first | rfl | assumption | (simp; first | done | fail)) (by first | exact b8_one _ | exact w32_one _ | exact strs_one _ | exact one_of rfl | assumption)) (by simp only [maxLen]; omega) (by omega) ?_; clear hK; intro v4 w4 hK; (try dsimp only [List.set_cons_zero, List.set_cons_succ, List.eraseIdx_zero, List.eraseIdx_cons_succ, List.eraseIdx_cons_zero, List.tail_cons] at hK)))
      go_roundw
      case measure => simp [intOf]; omega
      case rel =>
        refine ⟨t + 1, v4, rfl, by omega, by omega, by go_num, ?_⟩
        rw [lower_take l t h1 h2, hx, strs_append]
        have hy : y = ⟨(x.data.toList.take 100).toArray⟩ := by
          rw [← hy2]
        rw [← hy]
        exact hK.sub (List.Sublist.cons _ (List.Sublist.refl _))
    · have hT : (lower l).take t = lower l := by
        refine List.take_of_length_le ?_
        simp [lower]; omega
      have hn : t = (lower l).length := by simp [lower]; omega
      rw [hT] at hK
      have HN := hid hn
      clear hn hT
      by_cases h1 : t < l.length
      all_goals
        go_wp2_with (refine k_len (by rfl) _ _ (by rfl) (by first | exact Tryd.underlying22 | exact Tryd.underlying58 | exact Tryd.underlying59 | exact Tryd.underlying88 | exact Tryd.underlying90 | exact Tryd.underlying97 | exact Tryd.underlying100 | exact Tryd.underlying123 | exact Tryd.underlying129 | exact Tryd.underlying169 | exact Tryd.underlying189) (by first | exact eval_tmp rfl | exact eval_const | rfl) (by first | exact hK.rd at0 | exact hK.rd at1 | exact hK.rd at2 | exact hK.rd at3 | exact hK.rd at4 | exact hK.rd0 (by assumption)) ?_)
        go_ret
        exact ⟨v3, _, rfl, rfl, by rw [← HN.out]; exact hK⟩
theorem joinBody_take (ts : List ByteArray) (t : Nat) (x : ByteArray) (h : t < ts.length) (hx : ts[t] = x) : joinBody (ts.take (t + 1)) = joinBody (ts.take t) ++ (be4 x.size ++ x.data.toList) := by
  subst hx
  unfold joinBody
  rw [List.take_succ_eq_append_getElem h, List.flatMap_append, List.flatMap_cons, List.flatMap_nil, List.append_nil]
@[simp] theorem be4_length (n : Nat) : (be4 n).length = 4 := by unfold be4; rfl
theorem joinBody_succ (ts : List ByteArray) (t : Nat) (x : ByteArray) (h : t < ts.length) (hx : ts[t] = x) : (joinBody (ts.take (t + 1))).length = (joinBody (ts.take t)).length + 4 + x.size := by
  rw [joinBody_take ts t x h hx, List.length_append, List.length_append, be4_length]
  have : x.data.toList.length = x.size := rfl
  omega
theorem joinBody_mono (ts : List ByteArray) (t : Nat) : (joinBody (ts.take t)).length ≤ (joinBody ts).length := by
  conv => rhs; rw [← List.take_append_drop t ts]
  unfold joinBody
  rw [List.flatMap_append, List.length_append]
  omega
theorem joinBody_zero (ts : List ByteArray) : (joinBody (ts.take 0)).length = 0 := by
  unfold joinBody
  simp
theorem Join_any (tag : UInt8) (ts : List ByteArray) (v : Value) (w : World) (hv : Rd w 1 v ts.length (strs ts)) (h255 : ts.length ≤ 255) (hsz : (joinBody ts).length ≤ 1000000000) :
    Calls Tryd.prog 20 #[.int .u8 tag.toNat, v] w fun e w' => e = .returned (.tuple #[.string ⟨(joined tag ts).toArray⟩, .int .i64 0]) ∧ Upd [] w w' := by
  have hK := K.init [] w
  go_enter Tryd.func20, Tryd.ntmps20
  have h0 := joinBody_zero ts
  go_wp2_with (refine k_len (by rfl) _ _ (by rfl) (by first | exact Tryd.underlying22 | exact Tryd.underlying58 | exact Tryd.underlying59 | exact Tryd.underlying88 | exact Tryd.underlying90 | exact Tryd.underlying97 | exact Tryd.underlying100 | exact Tryd.underlying123 | exact Tryd.underlying129 | exact Tryd.underlying169 | exact Tryd.underlying189) (by first | exact eval_tmp rfl | exact eval_const | rfl) (by first | exact hK.rd at0 | exact hK.rd at1 | exact hK.rd at2 | exact hK.rd at3 | exact hK.rd at4 | exact hK.rd0 (by assumption)) ?_)
  go_loop [6, 8, 18] (fun x6 x8 x18 => ∃ t : Nat, t ≤ ts.length ∧ x18 = .int .i64 t ∧ x6 = .int .i64 (2 + (joinBody (ts.take t)).length : Nat)) (fun _ _ x18 => ts.length - (intOf x18).toNat)
  case atStart => exact ⟨0, by omega, rfl, by rw [h0]; rfl⟩
  case round =>
    clear h0
    obtain ⟨t, ht, rfl, rfl⟩ := hrel
    have hmono := joinBody_mono ts t
    by_cases hlt : t < ts.length
    · have hat := strs_at ts t hlt
      obtain ⟨x, hx⟩ : ∃ x, ts[t] = x := ⟨_, rfl⟩
      rw [hx] at hat
      have hs := joinBody_succ ts t x hlt hx
      have hm1 := joinBody_mono ts (t + 1)
      obtain ⟨p, hp⟩ : ∃ p, (joinBody (ts.take t)).length = p := ⟨_, rfl⟩
      rw [hp] at hs ⊢
      have hb : p + 4 + x.size ≤ 1000000000 := by omega
      have HS := hid hs
      clear hs hmono hm1 hx hp
      go_wp2_with (first
        | (refine k_index (by rfl) _ _ _ (by rfl) (by first | exact Tryd.underlying22 | exact Tryd.underlying58 | exact Tryd.underlying59 | exact Tryd.underlying88 | exact Tryd.underlying90 | exact Tryd.underlying97 | exact Tryd.underlying100 | exact Tryd.underlying123 | exact Tryd.underlying129 | exact Tryd.underlying169 | exact Tryd.underlying189) (by first | exact sz5 | exact sz9 | exact sz65 | exact sz68 | exact sz93 | exact sz95 | exact sz127 | exact sz176 | exact sz196) (by first | exact eval_tmp rfl | exact eval_const | rfl) (by rfl) (by first | exact hK.rd at0 | exact hK.rd at1 | exact hK.rd at2 | exact hK.rd at3 | exact hK.rd at4 | exact hK.rd0 (by assumption)) t (by first | rfl | omega | (simp; first | done | fail)) (by omega) (by first | exact Nat.mul_one _ | rfl) ?_; intro b1 o1 c1 hv1 hr1; have HV1 := hid hv1; clear hv1)
        | (refine k_loadAt1 (by rfl) _ _ (by rfl) (by exact sc _ (by decide)) (by rfl) hr1 (by first | assumption | rfl) ?_; clear hr1 HV1))
      go_round
      case measure => simp [intOf]; omega
      case rel => exact ⟨t + 1, by omega, by go_num, by rw [HS.out]; go_num⟩
    · have e : t = ts.length := by omega
      have hall : (joinBody (ts.take t)).length = (joinBody ts).length := by rw [e, List.take_length]
      rw [hall]
      clear hall hmono
      have HE := hid e
      clear e
      have hstr := Tryd.underlying9
      go_wp2_with (first
        | (refine k_len (by rfl) _ _ (by rfl) (by first | exact Tryd.underlying22 | exact Tryd.underlying58 | exact Tryd.underlying59 | exact Tryd.underlying88 | exact Tryd.underlying90 | exact Tryd.underlying97 | exact Tryd.underlying100 | exact Tryd.underlying123 | exact Tryd.underlying129 | exact Tryd.underlying169 | exact Tryd.underlying189) (by first | exact eval_tmp rfl | exact eval_const | rfl) (by first | exact hK.rd at0 | exact hK.rd at1 | exact hK.rd at2 | exact hK.rd at3 | exact hK.rd at4 | exact hK.rd0 (by assumption)) ?_)
        | (refine k_make hK (by rfl) _ _ _ (by rfl) (by first | exact Tryd.underlying22 | exact Tryd.underlying58 | exact Tryd.underlying59 | exact Tryd.underlying88 | exact Tryd.underlying90 | exact Tryd.underlying97 | exact Tryd.underlying100 | exact Tryd.underlying123 | exact Tryd.underlying129 | exact Tryd.underlying169 | exact Tryd.underlying189) (by first | exact el5 | exact el9 | exact el65 | exact el68 | exact el93 | exact el95 | exact el127 | exact el176 | exact el196) (by rfl) (by rfl) (by omega) (by omega) (by omega) ?_; clear hK; intro v1 w1 hK)
        | (refine k_slice1 hK (by rfl) _ _ _ (by rfl) (by first | exact Tryd.underlying22 | exact Tryd.underlying58 | exact Tryd.underlying59 | exact Tryd.underlying88 | exact Tryd.underlying90 | exact Tryd.underlying97 | exact Tryd.underlying100 | exact Tryd.underlying123 | exact Tryd.underlying129 | exact Tryd.underlying169 | exact Tryd.underlying189) (by first | exact el5 | exact el9 | exact el65 | exact el68 | exact el93 | exact el95 | exact el127 | exact el176 | exact el196) (by omega) (by omega) ([tag, UInt8.ofNat ts.length].map b8) (by first | rfl | assumption | (simp; first | done | fail)) (by first | exact b8_one _ | (simp [Value.oneCell']; first | done | fail)) (by first | rfl | (simp [b8, Act.eval]; first | done | fail) | (simp [b8, Act.eval]; omega) | (skip)) ?_; clear hK; intro w2 n2 hK)
        | (refine k_append hK (by rfl) _ _ _ _ (by rfl) (by first | exact Tryd.underlying22 | exact Tryd.underlying58 | exact Tryd.underlying59 | exact Tryd.underlying88 | exact Tryd.underlying90 | exact Tryd.underlying97 | exact Tryd.underlying100 | exact Tryd.underlying123 | exact Tryd.underlying129 | exact Tryd.underlying169 | exact Tryd.underlying189) (by first | exact el5 | exact el9 | exact el65 | exact el68 | exact el93 | exact el95 | exact el127 | exact el176 | exact el196) (by first | exact eval_tmp rfl | exact eval_const | rfl) (by first | exact at0 | exact at1 | exact at2 | exact at3 | exact at4 | exact at5 | exact at6 | exact at7) (by first | exact eval_tmp rfl | exact eval_const | rfl) (Src.blk (by first | exact Tryd.underlying22 | exact Tryd.underlying58 | exact Tryd.underlying59 | exact Tryd.underlying88 | exact Tryd.underlying90 | exact Tryd.underlying97 | exact Tryd.underlying100 | exact Tryd.underlying123 | exact Tryd.underlying129 | exact Tryd.underlying169 | exact Tryd.underlying189) (by first | exact hK.cells at0 | exact hK.cells at1 | exact hK.cells at2 | exact hK.cells at3 | exact hK.cells at4 | exact hK.cells at5 | exact hK.cells at6 | exact hK.cells at7 | exact hK.upd.blk (by assumption) (by simp)) _ _ (by first | rfl | assumption | (simp; first | done | fail)) (by first | exact b8_one _ | exact w32_one _ | exact strs_one _ | exact one_of rfl | assumption)) (by simp only [maxLen]; omega) (by omega) ?_; clear hK; intro v3 w3 hK; (try dsimp only [List.set_cons_zero, List.set_cons_succ, List.eraseIdx_zero, List.eraseIdx_cons_succ, List.eraseIdx_cons_zero, List.tail_cons] at hK)))
      go_loopw [9, 11, 12, 39] (fun x9 x11 x12 x39 wr => ∃ (t : Nat) (v9 : Value), v9 = x9 ∧ t ≤ ts.length ∧ x39 = .int .i64 t ∧ K [] w wr [ownR 5 1 v9 (2 + (joinBody (ts.take t)).length) ((tag :: UInt8.ofNat ts.length :: joinBody (ts.take t)).map b8)]) (fun _ _ _ x39 _ => ts.length - (intOf x39).toNat)
      case atStart =>
        refine ⟨0, v3, rfl, by omega, rfl, ?_⟩
        have h0 := joinBody_zero ts
        have h0' := List.length_eq_zero_iff.1 h0
        rw [h0']
        exact hK.sub (List.Sublist.cons _ (List.Sublist.refl _))
      case round =>
        clear hK
        obtain ⟨t, v9, rfl, ht, rfl, hK⟩ := hrel
        have hmono := joinBody_mono ts t
        by_cases hlt : t < ts.length
        · have hat := strs_at ts t hlt
          obtain ⟨x, hx⟩ : ∃ x, ts[t] = x := ⟨_, rfl⟩
          rw [hx] at hat
          have hs := joinBody_succ ts t x hlt hx
          have ht := joinBody_take ts t x hlt hx
          have hm1 := joinBody_mono ts (t + 1)
          have hb : (joinBody (ts.take t)).length + 4 + x.size ≤ 1000000000 := by omega
          have HS := hid hs
          have HT := hid ht
          clear hs ht hmono hm1 hx
          go_wp2_with (first
            | (refine k_index (by rfl) _ _ _ (by rfl) (by first | exact Tryd.underlying22 | exact Tryd.underlying58 | exact Tryd.underlying59 | exact Tryd.underlying88 | exact Tryd.underlying90 | exact Tryd.underlying97 | exact Tryd.underlying100 | exact Tryd.underlying123 | exact Tryd.underlying129 | exact Tryd.underlying169 | exact Tryd.underlying189) (by first | exact sz5 | exact sz9 | exact sz65 | exact sz68 | exact sz93 | exact sz95 | exact sz127 | exact sz176 | exact sz196) (by first | exact eval_tmp rfl | exact eval_const | rfl) (by rfl) (by first | exact hK.rd at0 | exact hK.rd at1 | exact hK.rd at2 | exact hK.rd at3 | exact hK.rd at4 | exact hK.rd0 (by assumption)) t (by first | rfl | omega | (simp; first | done | fail)) (by omega) (by first | exact Nat.mul_one _ | rfl) ?_; intro b1 o1 c1 hv1 hr1; have HV1 := hid hv1; clear hv1)
            | (refine k_loadAt1 (by rfl) _ _ (by rfl) (by exact sc _ (by decide)) (by rfl) hr1 (by first | assumption | rfl) ?_; clear hr1 HV1)
            | (refine k_slice1 hK (by rfl) _ _ _ (by rfl) (by first | exact Tryd.underlying22 | exact Tryd.underlying58 | exact Tryd.underlying59 | exact Tryd.underlying88 | exact Tryd.underlying90 | exact Tryd.underlying97 | exact Tryd.underlying100 | exact Tryd.underlying123 | exact Tryd.underlying129 | exact Tryd.underlying169 | exact Tryd.underlying189) (by first | exact el5 | exact el9 | exact el65 | exact el68 | exact el93 | exact el95 | exact el127 | exact el176 | exact el196) (by omega) (by omega) ((be4 x.size).map b8) (by first | rfl | assumption | (simp; first | done | fail)) (by first | exact b8_one _ | (simp [Value.oneCell']; first | done | fail)) (by first | rfl | (simp [b8, Act.eval]; first | done | fail) | (simp [b8, Act.eval]; omega) | (unfold be4; simp [b8, Act.eval]; omega)) ?_; clear hK; intro w5 n5 hK)
            | (refine k_append hK (by rfl) _ _ _ _ (by rfl) (by first | exact Tryd.underlying22 | exact Tryd.underlying58 | exact Tryd.underlying59 | exact Tryd.underlying88 | exact Tryd.underlying90 | exact Tryd.underlying97 | exact Tryd.underlying100 | exact Tryd.underlying123 | exact Tryd.underlying129 | exact Tryd.underlying169 | exact Tryd.underlying189) (by first | exact el5 | exact el9 | exact el65 | exact el68 | exact el93 | exact el95 | exact el127 | exact el176 | exact el196) (by first | exact eval_tmp rfl | exact eval_const | rfl) (by first | exact at0 | exact at1 | exact at2 | exact at3 | exact at4 | exact at5 | exact at6 | exact at7) (by first | exact eval_tmp rfl | exact eval_const | rfl) (Src.blk (by first | exact Tryd.underlying22 | exact Tryd.underlying58 | exact Tryd.underlying59 | exact Tryd.underlying88 | exact Tryd.underlying90 | exact Tryd.underlying97 | exact Tryd.underlying100 | exact Tryd.underlying123 | exact Tryd.underlying129 | exact Tryd.underlying169 | exact Tryd.underlying189) (by first | exact hK.cells at0 | exact hK.cells at1 | exact hK.cells at2 | exact hK.cells at3 | exact hK.cells at4 | exact hK.cells at5 | exact hK.cells at6 | exact hK.cells at7 | exact hK.upd.blk (by assumption) (by simp)) _ _ (by first | rfl | assumption | (simp; first | done | fail)) (by first | exact b8_one _ | exact w32_one _ | exact strs_one _ | exact one_of rfl | assumption)) (by simp only [maxLen]; omega) (by omega) ?_; clear hK; intro v6 w6 hK; (try dsimp only [List.set_cons_zero, List.set_cons_succ, List.eraseIdx_zero, List.eraseIdx_cons_succ, List.eraseIdx_cons_zero, List.tail_cons] at hK))
            | (refine k_append hK (by rfl) _ _ _ _ (by rfl) (by first | exact Tryd.underlying22 | exact Tryd.underlying58 | exact Tryd.underlying59 | exact Tryd.underlying88 | exact Tryd.underlying90 | exact Tryd.underlying97 | exact Tryd.underlying100 | exact Tryd.underlying123 | exact Tryd.underlying129 | exact Tryd.underlying169 | exact Tryd.underlying189) (by first | exact el5 | exact el9 | exact el65 | exact el68 | exact el93 | exact el95 | exact el127 | exact el176 | exact el196) (by first | exact eval_tmp rfl | exact eval_const | rfl) (by first | exact at0 | exact at1 | exact at2 | exact at3 | exact at4 | exact at5 | exact at6 | exact at7) (by first | exact eval_tmp rfl | exact eval_const | rfl) (Src.ofString _ Tryd.underlying9 _) (by simp only [maxLen]; omega) (by omega) ?_; clear hK; intro v7 w7 hK; (try dsimp only [List.set_cons_zero, List.set_cons_succ, List.eraseIdx_zero, List.eraseIdx_cons_succ, List.eraseIdx_cons_zero, List.tail_cons] at hK)))
          go_roundw
          case measure => simp [intOf]; omega
          case rel =>
            refine ⟨t + 1, v7, rfl, by omega, by go_num, ?_⟩
            have e1 : 2 + (joinBody (ts.take t)).length + 4 + x.size = 2 + (joinBody (ts.take (t + 1))).length := by rw [HS.out]; omega
            have e2 : List.map b8 (tag :: UInt8.ofNat ts.length :: joinBody (ts.take t)) ++ List.map b8 (be4 x.size) ++ byteCells x = List.map b8 (tag :: UInt8.ofNat ts.length :: joinBody (ts.take (t + 1))) := by
              rw [HT.out]
              simp only [List.map_cons, List.map_append, List.cons_append, List.append_assoc]
              rfl
            rw [e1, e2] at hK
            exact hK.sub (List.Sublist.cons _ (List.Sublist.refl _))
        · have e : t = ts.length := by omega
          have hall : ts.take t = ts := by rw [e, List.take_length]
          rw [hall] at hK
          clear hall hmono e
          go_wp2_with (refine k_text (by rfl) _ _ _ (by rfl) (by first | exact Tryd.underlying22 | exact Tryd.underlying58 | exact Tryd.underlying59 | exact Tryd.underlying88 | exact Tryd.underlying90 | exact Tryd.underlying97 | exact Tryd.underlying100 | exact Tryd.underlying123 | exact Tryd.underlying129 | exact Tryd.underlying169 | exact Tryd.underlying189) Tryd.underlying5 Tryd.underlying9 (by first | exact eval_tmp rfl | exact eval_const | rfl) (by first | exact hK.rd at0 | exact hK.rd at1 | exact hK.rd at2 | exact hK.rd at3 | exact hK.rd at4 | exact hK.rd0 (by assumption)) ?_)
          go_ret2
          refine ⟨?_, hK.upd⟩
          unfold joined
          rfl

theorem rJoin_any (tag : UInt8) (ts : List ByteArray) (v : Value) (w : World) (hv : Rd w 1 v ts.length (strs ts)) (h255 : ts.length ≤ 255) (hsz : (joinBody ts).length ≤ 1000000000) :
    Calls Tryd.prog 22 #[.int .u8 tag.toNat, v] w fun e w' => e = .returned (.tuple #[.string ⟨(joined tag ts).toArray⟩, .int .i64 0]) ∧ Upd [] w w' := by
  have hK := K.init [] w
  go_enter Tryd.func22, Tryd.ntmps22
  go_wp2_with (first
    | (refine k_len (by rfl) _ _ (by rfl) (by first | exact Tryd.underlying22 | exact Tryd.underlying58 | exact Tryd.underlying59 | exact Tryd.underlying88 | exact Tryd.underlying90 | exact Tryd.underlying97 | exact Tryd.underlying100 | exact Tryd.underlying123 | exact Tryd.underlying129 | exact Tryd.underlying169 | exact Tryd.underlying189) (by first | exact eval_tmp rfl | exact eval_const | rfl) (by first | exact hK.rd at0 | exact hK.rd at1 | exact hK.rd at2 | exact hK.rd at3 | exact hK.rd at4 | exact hK.rd0 (by assumption)) ?_)
    | (refine k_slice1 hK (by rfl) _ _ _ (by rfl) (by first | exact Tryd.underlying22 | exact Tryd.underlying58 | exact Tryd.underlying59 | exact Tryd.underlying88 | exact Tryd.underlying90 | exact Tryd.underlying97 | exact Tryd.underlying100 | exact Tryd.underlying123 | exact Tryd.underlying129 | exact Tryd.underlying169 | exact Tryd.underlying189) (by first | exact el5 | exact el9 | exact el65 | exact el68 | exact el93 | exact el95 | exact el127 | exact el176 | exact el196) (by omega) (by omega) ([tag, UInt8.ofNat ts.length].map b8) (by first | rfl | assumption | (simp; first | done | fail)) (by first | exact b8_one _ | (simp [Value.oneCell']; first | done | fail)) (by first | rfl | (simp [b8, Act.eval]; first | done | fail) | (simp [b8, Act.eval]; omega) | (skip)) ?_; clear hK; intro w2 n2 hK))
  have hK := hK.asOwn at0 (n := 2) (size := 1) (by simp) (by decide)
  dsimp only [List.set_cons_zero] at hK
  go_loopw [6, 7, 8] (fun x6 x7 x8 wr => ∃ (t : Nat) (v6 : Value), v6 = x6 ∧ t ≤ ts.length ∧ x7 = .int .i64 t ∧ K [] w wr [ownR 5 1 v6 (2 + (joinBody (ts.take t)).length) ((tag :: UInt8.ofNat ts.length :: joinBody (ts.take t)).map b8)]) (fun _ x7 _ _ => ts.length - (intOf x7).toNat)
  case atStart =>
    refine ⟨0, _, rfl, by omega, rfl, ?_⟩
    have h0 := joinBody_zero ts
    have h0' := List.length_eq_zero_iff.1 h0
    rw [h0']
    exact hK
  case round =>
    clear hK
    obtain ⟨t, v9, rfl, ht, rfl, hK⟩ := hrel
    have hmono := joinBody_mono ts t
    by_cases hlt : t < ts.length
    · have hat := strs_at ts t hlt
      obtain ⟨x, hx⟩ : ∃ x, ts[t] = x := ⟨_, rfl⟩
      rw [hx] at hat
      have hs := joinBody_succ ts t x hlt hx
      have ht := joinBody_take ts t x hlt hx
      have hm1 := joinBody_mono ts (t + 1)
      have hb : (joinBody (ts.take t)).length + 4 + x.size ≤ 1000000000 := by omega
      have HS := hid hs
      have HT := hid ht
      clear hs ht hmono hm1 hx
      go_wp2_with (first
        | (refine k_len (by rfl) _ _ (by rfl) (by first | exact Tryd.underlying22 | exact Tryd.underlying58 | exact Tryd.underlying59 | exact Tryd.underlying88 | exact Tryd.underlying90 | exact Tryd.underlying97 | exact Tryd.underlying100 | exact Tryd.underlying123 | exact Tryd.underlying129 | exact Tryd.underlying169 | exact Tryd.underlying189) (by first | exact eval_tmp rfl | exact eval_const | rfl) (by first | exact hK.rd at0 | exact hK.rd at1 | exact hK.rd at2 | exact hK.rd at3 | exact hK.rd at4 | exact hK.rd0 (by assumption)) ?_)
        | (refine k_index (by rfl) _ _ _ (by rfl) (by first | exact Tryd.underlying22 | exact Tryd.underlying58 | exact Tryd.underlying59 | exact Tryd.underlying88 | exact Tryd.underlying90 | exact Tryd.underlying97 | exact Tryd.underlying100 | exact Tryd.underlying123 | exact Tryd.underlying129 | exact Tryd.underlying169 | exact Tryd.underlying189) (by first | exact sz5 | exact sz9 | exact sz65 | exact sz68 | exact sz93 | exact sz95 | exact sz127 | exact sz176 | exact sz196) (by first | exact eval_tmp rfl | exact eval_const | rfl) (by rfl) (by first | exact hK.rd at0 | exact hK.rd at1 | exact hK.rd at2 | exact hK.rd at3 | exact hK.rd at4 | exact hK.rd0 (by assumption)) t (by first | rfl | omega | (simp; first | done | fail)) (by omega) (by first | exact Nat.mul_one _ | rfl) ?_; intro b1 o1 c1 hv1 hr1; have HV1 := hid hv1; clear hv1)
        | (refine k_loadAt1 (by rfl) _ _ (by rfl) (by exact sc _ (by decide)) (by rfl) hr1 (by first | assumption | rfl) ?_; clear hr1 HV1)
        | (refine k_slice1 hK (by rfl) _ _ _ (by rfl) (by first | exact Tryd.underlying22 | exact Tryd.underlying58 | exact Tryd.underlying59 | exact Tryd.underlying88 | exact Tryd.underlying90 | exact Tryd.underlying97 | exact Tryd.underlying100 | exact Tryd.underlying123 | exact Tryd.underlying129 | exact Tryd.underlying169 | exact Tryd.underlying189) (by first | exact el5 | exact el9 | exact el65 | exact el68 | exact el93 | exact el95 | exact el127 | exact el176 | exact el196) (by omega) (by omega) ((be4 x.size).map b8) (by first | rfl | assumption | (simp; first | done | fail)) (by first | exact b8_one _ | (simp [Value.oneCell']; first | done | fail)) (by first | rfl | (simp [b8, Act.eval]; first | done | fail) | (simp [b8, Act.eval]; omega) | (unfold be4; simp [b8, Act.eval]; omega)) ?_; clear hK; intro w5 n5 hK)
        | (refine k_append hK (by rfl) _ _ _ _ (by rfl) (by first | exact Tryd.underlying22 | exact Tryd.underlying58 | exact Tryd.underlying59 | exact Tryd.underlying88 | exact Tryd.underlying90 | exact Tryd.underlying97 | exact Tryd.underlying100 | exact Tryd.underlying123 | exact Tryd.underlying129 | exact Tryd.underlying169 | exact Tryd.underlying189) (by first | exact el5 | exact el9 | exact el65 | exact el68 | exact el93 | exact el95 | exact el127 | exact el176 | exact el196) (by first | exact eval_tmp rfl | exact eval_const | rfl) (by first | exact at0 | exact at1 | exact at2 | exact at3 | exact at4 | exact at5 | exact at6 | exact at7) (by first | exact eval_tmp rfl | exact eval_const | rfl) (Src.blk (by first | exact Tryd.underlying22 | exact Tryd.underlying58 | exact Tryd.underlying59 | exact Tryd.underlying88 | exact Tryd.underlying90 | exact Tryd.underlying97 | exact Tryd.underlying100 | exact Tryd.underlying123 | exact Tryd.underlying129 | exact Tryd.underlying169 | exact Tryd.underlying189) (by first | exact hK.cells at0 | exact hK.cells at1 | exact hK.cells at2 | exact hK.cells at3 | exact hK.cells at4 | exact hK.cells at5 | exact hK.cells at6 | exact hK.cells at7 | exact hK.upd.blk (by assumption) (by simp)) _ _ (by first | rfl | assumption | (simp; first | done | fail)) (by first | exact b8_one _ | exact w32_one _ | exact strs_one _ | exact one_of rfl | assumption)) (by simp only [maxLen]; omega) (by omega) ?_; clear hK; intro v6 w6 hK; (try dsimp only [List.set_cons_zero, List.set_cons_succ, List.eraseIdx_zero, List.eraseIdx_cons_succ, List.eraseIdx_cons_zero, List.tail_cons] at hK))
        | (refine k_append hK (by rfl) _ _ _ _ (by rfl) (by first | exact Tryd.underlying22 | exact Tryd.underlying58 | exact Tryd.underlying59 | exact Tryd.underlying88 | exact Tryd.underlying90 | exact Tryd.underlying97 | exact Tryd.underlying100 | exact Tryd.underlying123 | exact Tryd.underlying129 | exact Tryd.underlying169 | exact Tryd.underlying189) (by first | exact el5 | exact el9 | exact el65 | exact el68 | exact el93 | exact el95 | exact el127 | exact el176 | exact el196) (by first | exact eval_tmp rfl | exact eval_const | rfl) (by first | exact at0 | exact at1 | exact at2 | exact at3 | exact at4 | exact at5 | exact at6 | exact at7) (by first | exact eval_tmp rfl | exact eval_const | rfl) (Src.ofString _ Tryd.underlying9 _) (by simp only [maxLen]; omega) (by omega) ?_; clear hK; intro v7 w7 hK; (try dsimp only [List.set_cons_zero, List.set_cons_succ, List.eraseIdx_zero, List.eraseIdx_cons_succ, List.eraseIdx_cons_zero, List.tail_cons] at hK)))
      go_roundw
      case measure => simp [intOf]; omega
      case rel =>
        refine ⟨t + 1, v7, rfl, by omega, by go_num, ?_⟩
        have e1 : 2 + (joinBody (ts.take t)).length + 4 + x.size = 2 + (joinBody (ts.take (t + 1))).length := by rw [HS.out]; omega
        have e2 : List.map b8 (tag :: UInt8.ofNat ts.length :: joinBody (ts.take t)) ++ List.map b8 (be4 x.size) ++ byteCells x = List.map b8 (tag :: UInt8.ofNat ts.length :: joinBody (ts.take (t + 1))) := by
          rw [HT.out]
          simp only [List.map_cons, List.map_append, List.cons_append, List.append_assoc]
          rfl
        rw [e1, e2] at hK
        exact hK.sub (List.Sublist.cons _ (List.Sublist.refl _))
    · have e : t = ts.length := by omega
      have hall : ts.take t = ts := by rw [e, List.take_length]
      rw [hall] at hK
      have HE := hid e
      clear hall hmono e
      go_wp2_with (first | (refine k_len (by rfl) _ _ (by rfl) (by first | exact Tryd.underlying22 | exact Tryd.underlying58 | exact Tryd.underlying59 | exact Tryd.underlying88 | exact Tryd.underlying90 | exact Tryd.underlying97 | exact Tryd.underlying100 | exact Tryd.underlying123 | exact Tryd.underlying129 | exact Tryd.underlying169 | exact Tryd.underlying189) (by first | exact eval_tmp rfl | exact eval_const | rfl) (by first | exact hK.rd at0 | exact hK.rd at1 | exact hK.rd at2 | exact hK.rd at3 | exact hK.rd at4 | exact hK.rd0 (by assumption)) ?_) | (refine k_text (by rfl) _ _ _ (by rfl) (by first | exact Tryd.underlying22 | exact Tryd.underlying58 | exact Tryd.underlying59 | exact Tryd.underlying88 | exact Tryd.underlying90 | exact Tryd.underlying97 | exact Tryd.underlying100 | exact Tryd.underlying123 | exact Tryd.underlying129 | exact Tryd.underlying169 | exact Tryd.underlying189) Tryd.underlying5 Tryd.underlying9 (by first | exact eval_tmp rfl | exact eval_const | rfl) (by first | exact hK.rd at0 | exact hK.rd at1 | exact hK.rd at2 | exact hK.rd at3 | exact hK.rd at4 | exact hK.rd0 (by assumption)) ?_))
      go_ret2
      refine ⟨?_, hK.upd⟩
      unfold joined
      rfl

theorem Tagged_any (tag : UInt8) (ts : List ByteArray) (v : Value) (w : World) (hv : Rd w 1 v ts.length (strs ts)) (h255 : ts.length ≤ 255) (hsz : (joinBody ts).length ≤ 900000)
    (Ti Tk : Nat) (hi : Blk w 0 Ti (Sha.initial.list.map w32)) (hk : Blk w 2 Tk (Sha.ks.map w32)) :
    Calls Tryd.prog 21 #[.int .u8 tag.toNat, v] w fun e w' => e = .returned (.tuple #[.agg ((Sha.digest (joined tag ts)).map b8).toArray, .int .i64 0]) ∧ Upd [] w w' := by
  have hK := K.init [] w
  have HI := hid hi
  have HK := hid hk
  have hjl : (⟨(joined tag ts).toArray⟩ : ByteArray).size ≤ 1000000 := by
    show (joined tag ts).length ≤ _
    unfold joined
    simp only [List.length_cons]
    omega
  have HJ := hid hjl
  clear hi hk hjl
  have hd : ((Sha.digest (joined tag ts)).map b8).length = 32 := by rw [List.length_map, Sha.digest_length]
  go_enter Tryd.func21, Tryd.ntmps21
  go_wp2_with (first
    | (refine k_alloc (o := ⟨some 4, _, _, _, _, _⟩) hK (by rfl) _ (by rfl) _ (by first | exact zc9 | exact zc24 | exact zc27 | exact zc28 | exact zc46 | exact zc47 | exact zc49 | exact zc59 | exact zc65 | exact zc68 | exact zc115 | exact zc123 | exact zc152 | exact zc161 | exact zc164 | exact zc166 | exact zc168 | exact zc176 | exact zc194 | exact zc196 | exact zc200) ?_; clear hK; intro w1 n1 hK)
    | (go_at_call 20; (refine (Join_any tag ts v _ (hK.rd0 hv) h255 (by omega)).mono ?_); rintro e w2 ⟨rfl, hU⟩; have hK := hK.frame hU; clear hU)
    | (go_at_call 81; (refine (Sum_any _ _ Ti Tk (hK.upd.blk HI.out (by simp)) (hK.upd.blk HK.out (by simp)) HJ.out).mono ?_); rintro e w2 ⟨rfl, hU⟩; have hK := hK.frame hU; clear hU)
    | (refine k_storeW hK (by rfl) _ _ _ (by rfl) (by rfl) (by first | exact rn27 | exact rn28 | exact rn46 | exact rn47 | exact rn49 | exact rn62 | exact rn65 | exact rn68 | exact rn137 | exact rn152 | exact rn158 | exact rn161 | exact rn164 | exact rn166 | exact rn168 | exact rn176 | exact rn194 | exact rn196 | exact rn200) (by rfl) (by rfl) (by first | rfl | assumption | (simp; first | done | fail)) (by first | exact b8_one _ | exact w32_one _ | exact strs_one _ | exact one_of rfl | assumption) (by first | exact at0 | exact at1 | exact at2 | exact at3 | exact at4 | exact at5 | exact at6 | exact at7) (by first | rfl | assumption | (simp; first | done | fail)) ?_; clear hK; intro w5 hK; (try dsimp only [List.set_cons_zero, List.set_cons_succ, List.eraseIdx_zero, List.eraseIdx_cons_succ, List.eraseIdx_cons_zero, List.tail_cons] at hK)))
  (refine k_ret2 (by rfl) (by first | exact .tmp _ _ rfl | exact .row _ _ _ _ _ _ rfl (by first | exact rn27 | exact rn28 | exact rn46 | exact rn47 | exact rn49 | exact rn62 | exact rn65 | exact rn68 | exact rn137 | exact rn152 | exact rn158 | exact rn161 | exact rn164 | exact rn166 | exact rn168 | exact rn176 | exact rn194 | exact rn196 | exact rn200) (by first | exact hK.cells at0 | exact hK.cells at1 | exact hK.cells at2 | exact hK.cells at3 | exact hK.cells at4 | exact hK.cells at5 | exact hK.cells at6 | exact hK.cells at7 | exact hK.upd.blk (by assumption) (by simp)) (by first | rfl | assumption | (simp; first | done | fail)) | exact .one _ _ _ _ _ rfl (by exact sc _ (by decide)) (by first | exact hK.cells at0 | exact hK.cells at1 | exact hK.cells at2 | exact hK.cells at3 | exact hK.cells at4 | exact hK.cells at5 | exact hK.cells at6 | exact hK.cells at7 | exact hK.upd.blk (by assumption) (by simp))) (by first | exact .tmp _ _ rfl | exact .row _ _ _ _ _ _ rfl (by first | exact rn27 | exact rn28 | exact rn46 | exact rn47 | exact rn49 | exact rn62 | exact rn65 | exact rn68 | exact rn137 | exact rn152 | exact rn158 | exact rn161 | exact rn164 | exact rn166 | exact rn168 | exact rn176 | exact rn194 | exact rn196 | exact rn200) (by first | exact hK.cells at0 | exact hK.cells at1 | exact hK.cells at2 | exact hK.cells at3 | exact hK.cells at4 | exact hK.cells at5 | exact hK.cells at6 | exact hK.cells at7 | exact hK.upd.blk (by assumption) (by simp)) (by first | rfl | assumption | (simp; first | done | fail)) | exact .one _ _ _ _ _ rfl (by exact sc _ (by decide)) (by first | exact hK.cells at0 | exact hK.cells at1 | exact hK.cells at2 | exact hK.cells at3 | exact hK.cells at4 | exact hK.cells at5 | exact hK.cells at6 | exact hK.cells at7 | exact hK.upd.blk (by assumption) (by simp))) (by rfl) ?_)
  exact ⟨rfl, hK.upd⟩
end Go.Proofs.YtfilokdleehklaaDoor
