/- The walk of the statement Sha256Joins. -/
import Derived.Test.YtfilokdleehklaaDoorRef2
set_option linter.all false
namespace Go.Proofs.YtfilokdleehklaaDoor
open Go.RowKit
set_option maxHeartbeats 2000000
set_option maxRecDepth 100000

theorem joinBody_le (ts : List ByteArray) (n : Nat) (h : ∀ t ∈ ts, t.size ≤ n) : (joinBody ts).length ≤ (4 + n) * ts.length := by
  induction ts with
  | nil => unfold joinBody; simp
  | cons t ts ih =>
    have h1 := ih (fun x hx => h x (List.mem_cons_of_mem _ hx))
    have h2 := h t (by simp)
    unfold joinBody at h1 ⊢
    rw [List.flatMap_cons, List.length_append, List.length_append, be4_length, List.length_cons, Nat.mul_succ]
    have : t.data.toList.length = t.size := rfl
    omega
theorem lower_length (l : List ByteArray) : (lower l).length ≤ 12 := by
  unfold lower
  rw [List.length_map, List.length_take]
  omega
theorem lower_size (l : List ByteArray) : ∀ t ∈ lower l, t.size ≤ 100 := by
  intro t ht
  unfold lower at ht
  obtain ⟨x, _, rfl⟩ := List.mem_map.1 ht
  show (x.data.toList.take 100).toArray.size ≤ 100
  rw [List.size_toArray, List.length_take]
  omega
theorem joins_walk (tag : UInt8) (l : List ByteArray) (v : Value) (w : World) (hv : Rd w 1 v l.length (strs l)) (hlen : l.length ≤ 9223372036854775807)
    (Ti Tk : Nat) (hi : Blk w 0 Ti (Sha.initial.list.map w32)) (hk : Blk w 2 Tk (Sha.ks.map w32)) :
    Calls Tryd.prog 3 #[.int .u8 tag.toNat, v] w fun e w' => e = .returned (.bool true) ∧ Upd [] w w' := by
  have hK := K.init [] w
  have hl12 := lower_length l
  have hjb := joinBody_le (lower l) 100 (lower_size l)
  obtain ⟨ts, hts⟩ : ∃ ts, lower l = ts := ⟨_, rfl⟩
  rw [hts] at hl12 hjb
  have hjn : (joinBody ts).length ≤ 900000 := by omega
  have HTS := hid hts
  have HI := hid hi
  have HK := hid hk
  have hdl := Sha.digest_length (joined tag ts)
  obtain ⟨d, hd⟩ : ∃ d, Sha.digest (joined tag ts) = d := ⟨_, rfl⟩
  rw [hd] at hdl
  have hcl : (d.map b8).length = 32 := by rw [List.length_map, hdl]
  have HD := hid hd
  have he := eql27 d d hdl hdl
  rw [show (d == d) = true from by simp] at he
  have g27 := guard27
  obtain ⟨S, hS⟩ : ∃ S : ByteArray, (⟨(joined tag ts).toArray⟩ : ByteArray) = S := ⟨_, rfl⟩
  have hSs : S.size ≤ 1000000 := by rw [← hS]; exact joined_size tag ts hjn
  have hSl : S.data.toList = joined tag ts := by rw [← hS]
  have HS := hid hS
  have HSL := hid hSl
  have est := same_text S
  clear hts hi hk hd hdl hS hSl hjb
  go_enter Tryd.func3, Tryd.ntmps3
  go_wp2_with (first
    | (go_at_call 19; (refine (list02_any l v _ (hK.rd0 hv) hlen).mono ?_); rintro e w2 ⟨v', ts', rfl, hts', hk2⟩; rw [HTS.out] at hts'; subst hts'; replace hK := hK.fresh hk2; clear hk2)
    | (go_at_call 20; (refine (Join_any tag ts' v' _ (by first | exact hK.rd at0 | exact hK.rd at1 | exact hK.rd at2 | exact hK.rd at3 | exact hK.rd at4 | exact hK.rd0 (by assumption)) (by omega) (by omega)).mono ?_); rintro e w3 ⟨rfl, hU⟩; rw [HS.out]; replace hK := hK.frame hU; clear hU)
    | (go_at_call 21; (refine (Tagged_any tag ts' v' _ (by first | exact hK.rd at0 | exact hK.rd at1 | exact hK.rd at2 | exact hK.rd at3 | exact hK.rd at4 | exact hK.rd0 (by assumption)) (by omega) hjn Ti Tk (hK.upd.blk HI.out (by simp)) (hK.upd.blk HK.out (by simp))).mono ?_); rintro e w3 ⟨rfl, hU⟩; rw [HD.out]; replace hK := hK.frame hU; clear hU)
    | (go_at_call 22; (refine (rJoin_any tag ts' v' _ (by first | exact hK.rd at0 | exact hK.rd at1 | exact hK.rd at2 | exact hK.rd at3 | exact hK.rd at4 | exact hK.rd0 (by assumption)) (by omega) (by omega)).mono ?_); rintro e w3 ⟨rfl, hU⟩; rw [HS.out]; replace hK := hK.frame hU; clear hU)
    | (refine k_alloc (o := ⟨some 7, _, _, _, _, _⟩) hK (by rfl) _ (by rfl) _ (by first | exact zc9 | exact zc24 | exact zc27 | exact zc28 | exact zc46 | exact zc47 | exact zc49 | exact zc59 | exact zc65 | exact zc68 | exact zc115 | exact zc123 | exact zc152 | exact zc161 | exact zc164 | exact zc166 | exact zc168 | exact zc176 | exact zc194 | exact zc196 | exact zc200) ?_; clear hK; intro w4 n7 hK)
    | (refine k_storeW hK (by rfl) _ _ _ (by rfl) (by rfl) (by first | exact rn27 | exact rn28 | exact rn46 | exact rn47 | exact rn49 | exact rn62 | exact rn65 | exact rn68 | exact rn137 | exact rn152 | exact rn158 | exact rn161 | exact rn164 | exact rn166 | exact rn168 | exact rn176 | exact rn194 | exact rn196 | exact rn200) (by rfl) (by rfl) (by first | rfl | assumption | (simp; first | done | fail)) (by first | exact b8_one _ | exact w32_one _ | exact strs_one _ | exact one_of rfl | assumption) (by first | exact at0 | exact at1 | exact at2 | exact at3 | exact at4 | exact at5 | exact at6 | exact at7) (by first | rfl | assumption | (simp; first | done | fail)) ?_; clear hK; intro w5 hK; (try dsimp only [List.set_cons_zero, List.set_cons_succ, List.eraseIdx_zero, List.eraseIdx_cons_succ, List.eraseIdx_cons_zero, List.tail_cons] at hK))
    | (refine k_quiet hK (by kernel_rfl) ?_; clear hK)
    | (refine wpQuiet_nil ?_; intro w6 hK)
    | (refine qk_loadW (by rfl) _ _ (by rfl) (by first | exact rn27 | exact rn28 | exact rn46 | exact rn47 | exact rn49 | exact rn62 | exact rn65 | exact rn68 | exact rn137 | exact rn152 | exact rn158 | exact rn161 | exact rn164 | exact rn166 | exact rn168 | exact rn176 | exact rn194 | exact rn196 | exact rn200) (by rfl) (by first | exact fun _ hK => hK.cells at0 | exact fun _ hK => hK.cells at1 | exact fun _ hK => hK.cells at2 | exact fun _ hK => hK.cells at3 | exact fun _ hK => hK.cells at4 | exact fun _ hK => hK.cells at5 | exact fun _ hK => hK.upd.blk (by assumption) (by simp)) (by first | rfl | assumption | (simp; first | done | fail)) ?_; (conv => arg 6; simp only [put_some, put_none, List.set_cons_succ, List.set_cons_zero]))
    | (refine qk_skip (by rfl) ?_; (conv => arg 6; simp only [put_some, put_none, List.set_cons_succ, List.set_cons_zero]))
    | (refine qk_call (f := 23) (by rfl) (by rfl) (by exact entA _ (by decide)) (by first | exact args0 | exact args1 (by first | exact eval_tmp rfl | exact eval_const | rfl) | exact args2 (by first | exact eval_tmp rfl | exact eval_const | rfl) (by first | exact eval_tmp rfl | exact eval_const | rfl) | exact args3 (by first | exact eval_tmp rfl | exact eval_const | rfl) (by first | exact eval_tmp rfl | exact eval_const | rfl) (by first | exact eval_tmp rfl | exact eval_const | rfl) | exact args4 (by first | exact eval_tmp rfl | exact eval_const | rfl) (by first | exact eval_tmp rfl | exact eval_const | rfl) (by first | exact eval_tmp rfl | exact eval_const | rfl) (by first | exact eval_tmp rfl | exact eval_const | rfl) | exact args5 (by first | exact eval_tmp rfl | exact eval_const | rfl) (by first | exact eval_tmp rfl | exact eval_const | rfl) (by first | exact eval_tmp rfl | exact eval_const | rfl) (by first | exact eval_tmp rfl | exact eval_const | rfl) (by first | exact eval_tmp rfl | exact eval_const | rfl) | exact args6 (by first | exact eval_tmp rfl | exact eval_const | rfl) (by first | exact eval_tmp rfl | exact eval_const | rfl) (by first | exact eval_tmp rfl | exact eval_const | rfl) (by first | exact eval_tmp rfl | exact eval_const | rfl) (by first | exact eval_tmp rfl | exact eval_const | rfl) (by first | exact eval_tmp rfl | exact eval_const | rfl)) ?_; refine ⟨_, fun W hK => (known02_any W Ti Tk (hK.upd.blk HI.out (by simp)) (hK.upd.blk HK.out (by simp))), ?_⟩; (conv => arg 6; simp only [put_some, put_none, List.set_cons_succ, List.set_cons_zero]))
    | (refine qk_call (f := 24) (by rfl) (by rfl) (by exact entA _ (by decide)) (by first | exact args0 | exact args1 (by first | exact eval_tmp rfl | exact eval_const | rfl) | exact args2 (by first | exact eval_tmp rfl | exact eval_const | rfl) (by first | exact eval_tmp rfl | exact eval_const | rfl) | exact args3 (by first | exact eval_tmp rfl | exact eval_const | rfl) (by first | exact eval_tmp rfl | exact eval_const | rfl) (by first | exact eval_tmp rfl | exact eval_const | rfl) | exact args4 (by first | exact eval_tmp rfl | exact eval_const | rfl) (by first | exact eval_tmp rfl | exact eval_const | rfl) (by first | exact eval_tmp rfl | exact eval_const | rfl) (by first | exact eval_tmp rfl | exact eval_const | rfl) | exact args5 (by first | exact eval_tmp rfl | exact eval_const | rfl) (by first | exact eval_tmp rfl | exact eval_const | rfl) (by first | exact eval_tmp rfl | exact eval_const | rfl) (by first | exact eval_tmp rfl | exact eval_const | rfl) (by first | exact eval_tmp rfl | exact eval_const | rfl) | exact args6 (by first | exact eval_tmp rfl | exact eval_const | rfl) (by first | exact eval_tmp rfl | exact eval_const | rfl) (by first | exact eval_tmp rfl | exact eval_const | rfl) (by first | exact eval_tmp rfl | exact eval_const | rfl) (by first | exact eval_tmp rfl | exact eval_const | rfl) (by first | exact eval_tmp rfl | exact eval_const | rfl)) ?_; refine ⟨_, fun W hK => (by have h := rSum_any S W hSs; rw [HSL.out, HD.out] at h; exact h), ?_⟩; (conv => arg 6; simp only [put_some, put_none, List.set_cons_succ, List.set_cons_zero]))
    | (refine qk_pure (by rfl) (fun W hK => by go_simp; exact rfl) ?_; (conv => arg 6; simp only [put_some, put_none, List.set_cons_succ, List.set_cons_zero])))
  go_ret
  exact ⟨rfl, hK.upd⟩
end Go.Proofs.YtfilokdleehklaaDoor
