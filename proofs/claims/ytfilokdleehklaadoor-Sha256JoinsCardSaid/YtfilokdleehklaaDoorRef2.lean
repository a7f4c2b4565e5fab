/- The walks of the document's Pad, Sum and Tagged. -/
import Derived.Test.YtfilokdleehklaaDoorRef
import Derived.Deep.LoopGhost
set_option linter.all false
namespace Go.Proofs.YtfilokdleehklaaDoor
open Go.RowKit
set_option maxHeartbeats 2000000
set_option maxRecDepth 100000

theorem be64_small (n : Nat) (h : n ≤ 8000000) : (Sha.be64 n).map b8 = [.int .u8 ((n : Int) / 72057594037927936), .int .u8 ((n : Int) / 281474976710656), .int .u8 ((n : Int) / 1099511627776), .int .u8 ((n : Int) / 4294967296), .int .u8 ((n : Int) / 16777216), .int .u8 ((n : Int) / 65536), .int .u8 ((n : Int) / 256 % 256), .int .u8 ((n : Int) % 256)] := by
  rw [Sha.be64_eq]
  simp only [List.map_cons, List.map_nil, b8_ofNat]
  have e : ∀ a b : Int, a = b → Value.int .u8 a = Value.int .u8 b := fun a b h => by rw [h]
  congr 1 <;> first | (apply e; omega) | skip
  congr 1 <;> first | (apply e; omega) | skip
  congr 1 <;> first | (apply e; omega) | skip
  congr 1 <;> first | (apply e; omega) | skip
  congr 1 <;> first | (apply e; omega) | skip
  congr 1 <;> first | (apply e; omega) | skip
theorem Pad_any (s : ByteArray) (w : World) (hs : s.size ≤ 1000000) :
    Calls Tryd.prog 82 #[.string s] w fun e w' => ∃ v', e = .returned v' ∧ K [] w w' [ownR 5 1 v' (Sha.pad s.data.toList).length ((Sha.pad s.data.toList).map b8)] := by
  have hK := K.init [] w
  go_enter Tryd.func82, Tryd.ntmps82
  go_wp2_with (first
    | (refine k_ofText hK (by rfl) _ _ _ (by rfl) Tryd.underlying9 (by first | exact Tryd.underlying22 | exact Tryd.underlying58 | exact Tryd.underlying59 | exact Tryd.underlying88 | exact Tryd.underlying90 | exact Tryd.underlying97 | exact Tryd.underlying100 | exact Tryd.underlying123 | exact Tryd.underlying129 | exact Tryd.underlying169 | exact Tryd.underlying189) Tryd.underlying5 (by rfl) (by simp only [maxLen]; omega) ?_; clear hK; intro v1 w1 hK)
    | (refine k_slice1 hK (by rfl) _ _ _ (by rfl) (by first | exact Tryd.underlying22 | exact Tryd.underlying58 | exact Tryd.underlying59 | exact Tryd.underlying88 | exact Tryd.underlying90 | exact Tryd.underlying97 | exact Tryd.underlying100 | exact Tryd.underlying123 | exact Tryd.underlying129 | exact Tryd.underlying169 | exact Tryd.underlying189) (by first | exact el5 | exact el9 | exact el65 | exact el68 | exact el93 | exact el95 | exact el127 | exact el176 | exact el196) (by omega) (by omega) ([128].map b8) (by first | rfl | assumption | (simp; first | done | fail)) (by first | exact b8_one _ | (simp [Value.oneCell']; first | done | fail)) (by first | rfl | (simp [b8, Act.eval]; first | done | fail) | (simp [b8, Act.eval]; omega) | (skip)) ?_; clear hK; intro w2 n2 hK)
    | (refine k_append hK (by rfl) _ _ _ _ (by rfl) (by first | exact Tryd.underlying22 | exact Tryd.underlying58 | exact Tryd.underlying59 | exact Tryd.underlying88 | exact Tryd.underlying90 | exact Tryd.underlying97 | exact Tryd.underlying100 | exact Tryd.underlying123 | exact Tryd.underlying129 | exact Tryd.underlying169 | exact Tryd.underlying189) (by first | exact el5 | exact el9 | exact el65 | exact el68 | exact el93 | exact el95 | exact el127 | exact el176 | exact el196) (by first | exact eval_tmp rfl | exact eval_const | rfl) (by first | exact at0 | exact at1 | exact at2 | exact at3 | exact at4 | exact at5 | exact at6 | exact at7) (by first | exact eval_tmp rfl | exact eval_const | rfl) (Src.blk (by first | exact Tryd.underlying22 | exact Tryd.underlying58 | exact Tryd.underlying59 | exact Tryd.underlying88 | exact Tryd.underlying90 | exact Tryd.underlying97 | exact Tryd.underlying100 | exact Tryd.underlying123 | exact Tryd.underlying129 | exact Tryd.underlying169 | exact Tryd.underlying189) (by first | exact hK.cells at0 | exact hK.cells at1 | exact hK.cells at2 | exact hK.cells at3 | exact hK.cells at4 | exact hK.cells at5 | exact hK.cells at6 | exact hK.cells at7 | exact hK.upd.blk (by assumption) (by simp)) _ _ (by first | rfl | assumption | (simp; first | done | fail)) (by first | exact b8_one _ | exact w32_one _ | exact strs_one _ | exact one_of rfl | assumption)) (by simp only [maxLen]; omega) (by omega) ?_; clear hK; intro v3 w3 hK; (try dsimp only [List.set_cons_zero, List.set_cons_succ, List.eraseIdx_zero, List.eraseIdx_cons_succ, List.eraseIdx_cons_zero, List.tail_cons] at hK)))
  have hK := hK.sub (L' := [ownR 5 1 v3 (s.size + 1) (List.map b8 s.data.toList ++ List.map b8 [128])]) (by exact .cons _ (List.Sublist.refl _))
  obtain ⟨J, hJ⟩ : ∃ J, (119 - s.size % 64) % 64 = J := ⟨_, rfl⟩
  have hJ1 : J < 64 ∧ (s.size + 1 + J) % 64 = 56 := by omega
  have HJ := hid hJ
  clear hJ
  obtain ⟨hJ1, hJ2⟩ := hJ1
  have hmin : ∀ j, j < J → ¬ (s.size + 1 + j) % 64 = 56 := by omega
  have HM := hid hmin
  have H2 := hid hJ2
  clear hmin hJ2
  go_loopg [3] J (fun k x3 wr => ∃ (j : Nat) (v3 : Value), v3 = x3 ∧ j + k = J ∧ K [] w wr [ownR 5 1 v3 (s.size + 1 + j) (List.map b8 (s.data.toList ++ 128 :: List.replicate j 0))])
  case atStart => exact ⟨0, v3, rfl, by omega, by simpa using hK⟩
  case round =>
    clear hK
    obtain ⟨j, v3, rfl, hj, hK⟩ := hrel
    by_cases hlt : j < J
    · have hne := HM.out j hlt
      have hne' : ¬ (((s.size + 1 + j : Nat) : Int) % 64 = 56) := by omega
      go_wp2_with (first
        | (refine k_len (by rfl) _ _ (by rfl) (by first | exact Tryd.underlying22 | exact Tryd.underlying58 | exact Tryd.underlying59 | exact Tryd.underlying88 | exact Tryd.underlying90 | exact Tryd.underlying97 | exact Tryd.underlying100 | exact Tryd.underlying123 | exact Tryd.underlying129 | exact Tryd.underlying169 | exact Tryd.underlying189) (by first | exact eval_tmp rfl | exact eval_const | rfl) (by first | exact hK.rd at0 | exact hK.rd at1 | exact hK.rd at2 | exact hK.rd at3 | exact hK.rd at4 | exact hK.rd0 (by assumption)) ?_)
        | (refine k_slice1 hK (by rfl) _ _ _ (by rfl) (by first | exact Tryd.underlying22 | exact Tryd.underlying58 | exact Tryd.underlying59 | exact Tryd.underlying88 | exact Tryd.underlying90 | exact Tryd.underlying97 | exact Tryd.underlying100 | exact Tryd.underlying123 | exact Tryd.underlying129 | exact Tryd.underlying169 | exact Tryd.underlying189) (by first | exact el5 | exact el9 | exact el65 | exact el68 | exact el93 | exact el95 | exact el127 | exact el176 | exact el196) (by omega) (by omega) ([0].map b8) (by first | rfl | assumption | (simp; first | done | fail)) (by first | exact b8_one _ | (simp [Value.oneCell']; first | done | fail)) (by first | rfl | (simp [b8, Act.eval]; first | done | fail) | (simp [b8, Act.eval]; omega) | (skip)) ?_; clear hK; intro w5 n5 hK)
        | (refine k_append hK (by rfl) _ _ _ _ (by rfl) (by first | exact Tryd.underlying22 | exact Tryd.underlying58 | exact Tryd.underlying59 | exact Tryd.underlying88 | exact Tryd.underlying90 | exact Tryd.underlying97 | exact Tryd.underlying100 | exact Tryd.underlying123 | exact Tryd.underlying129 | exact Tryd.underlying169 | exact Tryd.underlying189) (by first | exact el5 | exact el9 | exact el65 | exact el68 | exact el93 | exact el95 | exact el127 | exact el176 | exact el196) (by first | exact eval_tmp rfl | exact eval_const | rfl) (by first | exact at0 | exact at1 | exact at2 | exact at3 | exact at4 | exact at5 | exact at6 | exact at7) (by first | exact eval_tmp rfl | exact eval_const | rfl) (Src.blk (by first | exact Tryd.underlying22 | exact Tryd.underlying58 | exact Tryd.underlying59 | exact Tryd.underlying88 | exact Tryd.underlying90 | exact Tryd.underlying97 | exact Tryd.underlying100 | exact Tryd.underlying123 | exact Tryd.underlying129 | exact Tryd.underlying169 | exact Tryd.underlying189) (by first | exact hK.cells at0 | exact hK.cells at1 | exact hK.cells at2 | exact hK.cells at3 | exact hK.cells at4 | exact hK.cells at5 | exact hK.cells at6 | exact hK.cells at7 | exact hK.upd.blk (by assumption) (by simp)) _ _ (by first | rfl | assumption | (simp; first | done | fail)) (by first | exact b8_one _ | exact w32_one _ | exact strs_one _ | exact one_of rfl | assumption)) (by simp only [maxLen]; omega) (by omega) ?_; clear hK; intro v6 w6 hK; (try dsimp only [List.set_cons_zero, List.set_cons_succ, List.eraseIdx_zero, List.eraseIdx_cons_succ, List.eraseIdx_cons_zero, List.tail_cons] at hK)))
      go_roundg (gk - 1)
      case measure => omega
      case rel =>
        refine ⟨j + 1, v6, rfl, by omega, ?_⟩
        have e : List.map b8 (s.data.toList ++ 128 :: List.replicate j 0) ++ List.map b8 [0] = List.map b8 (s.data.toList ++ 128 :: List.replicate (j + 1) 0) := by
          rw [← List.map_append, List.append_assoc, List.cons_append, List.replicate_succ']
        rw [e] at hK
        exact hK.sub (by exact .cons _ (List.Sublist.refl _))
    · have ej : j = J := by omega
      have h2 := H2.out
      rw [← ej] at h2
      have h2' : (((s.size + 1 + j : Nat) : Int) % 64 = 56) := by omega
      have HE := hid ej
      have hjb : j < 64 := by omega
      clear ej h2 hj
      go_wp2_with (refine k_len (by rfl) _ _ (by rfl) (by first | exact Tryd.underlying22 | exact Tryd.underlying58 | exact Tryd.underlying59 | exact Tryd.underlying88 | exact Tryd.underlying90 | exact Tryd.underlying97 | exact Tryd.underlying100 | exact Tryd.underlying123 | exact Tryd.underlying129 | exact Tryd.underlying169 | exact Tryd.underlying189) (by first | exact eval_tmp rfl | exact eval_const | rfl) (by first | exact hK.rd at0 | exact hK.rd at1 | exact hK.rd at2 | exact hK.rd at3 | exact hK.rd at4 | exact hK.rd0 (by assumption)) ?_)
      refine wp_loop_rounds 9 ?_
      iterate 8
        rw [rounds_succ]
        go_wp2_with (first
          | (refine k_sliceV1 hK (by rfl) _ _ (by rfl) (by first | exact Tryd.underlying22 | exact Tryd.underlying58 | exact Tryd.underlying59 | exact Tryd.underlying88 | exact Tryd.underlying90 | exact Tryd.underlying97 | exact Tryd.underlying100 | exact Tryd.underlying123 | exact Tryd.underlying129 | exact Tryd.underlying169 | exact Tryd.underlying189) (by first | exact el5 | exact el9 | exact el65 | exact el68 | exact el93 | exact el95 | exact el127 | exact el176 | exact el196) (by first | exact eval_tmp rfl | exact eval_const | rfl) (by rfl) ?_; clear hK; intro w5 n5 hK)
          | (refine k_append hK (by rfl) _ _ _ _ (by rfl) (by first | exact Tryd.underlying22 | exact Tryd.underlying58 | exact Tryd.underlying59 | exact Tryd.underlying88 | exact Tryd.underlying90 | exact Tryd.underlying97 | exact Tryd.underlying100 | exact Tryd.underlying123 | exact Tryd.underlying129 | exact Tryd.underlying169 | exact Tryd.underlying189) (by first | exact el5 | exact el9 | exact el65 | exact el68 | exact el93 | exact el95 | exact el127 | exact el176 | exact el196) (by first | exact eval_tmp rfl | exact eval_const | rfl) (by first | exact at0 | exact at1 | exact at2 | exact at3 | exact at4 | exact at5 | exact at6 | exact at7) (by first | exact eval_tmp rfl | exact eval_const | rfl) (Src.blk (by first | exact Tryd.underlying22 | exact Tryd.underlying58 | exact Tryd.underlying59 | exact Tryd.underlying88 | exact Tryd.underlying90 | exact Tryd.underlying97 | exact Tryd.underlying100 | exact Tryd.underlying123 | exact Tryd.underlying129 | exact Tryd.underlying169 | exact Tryd.underlying189) (by first | exact hK.cells at0 | exact hK.cells at1 | exact hK.cells at2 | exact hK.cells at3 | exact hK.cells at4 | exact hK.cells at5 | exact hK.cells at6 | exact hK.cells at7 | exact hK.upd.blk (by assumption) (by simp)) _ _ (by first | rfl | assumption | (simp; first | done | fail)) (by first | exact b8_one _ | exact w32_one _ | exact strs_one _ | exact one_of rfl | assumption)) (by simp only [maxLen]; omega) (by omega) ?_; clear hK; intro v6 w6 hK; (try dsimp only [List.set_cons_zero, List.set_cons_succ, List.eraseIdx_zero, List.eraseIdx_cons_succ, List.eraseIdx_cons_zero, List.tail_cons] at hK)))
        (replace hK := K.drop hK 0; dsimp only [List.eraseIdx_cons_zero] at hK)
      rw [rounds_succ]
      go_wp2
      go_ret
      refine ⟨_, rfl, ?_⟩
      have hm : s.data.toList.length = s.size := rfl
      have hp : Sha.pad s.data.toList = (s.data.toList ++ 128 :: List.replicate j 0) ++ Sha.be64 (8 * s.size) := by
        unfold Sha.pad
        rw [hm, HJ.out, ← HE.out, List.append_assoc, List.cons_append]
      have hbs := be64_small (8 * s.size) (by omega)
      have hl : (Sha.pad s.data.toList).length = s.size + 1 + j + 1 + 1 + 1 + 1 + 1 + 1 + 1 + 1 := by
        rw [hp]
        simp only [List.length_append, List.length_cons, List.length_replicate, Sha.be64_length, hm]
        omega
      rw [hl, hp, List.map_append, hbs]
      simp only [List.append_assoc, List.cons_append, List.nil_append, Int.natCast_mul] at hK ⊢
      exact hK

theorem rSum_any (s : ByteArray) (w : World) (hs : s.size ≤ 1000000) :
    Calls Tryd.prog 24 #[.string s] w fun e w' => e = .returned (.agg ((Sha.digest s.data.toList).map b8).toArray) ∧ Upd [] w w' := by
  have hK := K.init [] w
  obtain ⟨p, hp⟩ : ∃ p, Sha.pad s.data.toList = p := ⟨_, rfl⟩
  obtain ⟨N, hN⟩ : ∃ N, p.length / 64 = N := ⟨_, rfl⟩
  have hpl : p.length = 64 * N := by
    have := Sha.pad_length s.data.toList
    rw [hp] at this
    have hm : s.data.toList.length = s.size := rfl
    omega
  have hD : Sha.digest s.data.toList = Sha.bytes (Sha.blocks Sha.initial p N) := by
    unfold Sha.digest
    rw [hp, hN]
  have hNb : N ≤ 20000 := by
    have := Sha.pad_length s.data.toList
    rw [hp] at this
    have hm : s.data.toList.length = s.size := rfl
    omega
  have HPc := Pad_any s
  rw [hp] at HPc
  have HP := hid HPc
  have HD := hid hD
  have HL := hid hpl
  clear hp hN hD HPc
  go_enter Tryd.func24, Tryd.ntmps24
  go_wp2_with (first
    | (refine k_alloc (o := ⟨some 2, _, _, _, _, _⟩) hK (by rfl) _ (by rfl) _ (by first | exact zc9 | exact zc24 | exact zc27 | exact zc28 | exact zc46 | exact zc47 | exact zc49 | exact zc59 | exact zc65 | exact zc68 | exact zc115 | exact zc123 | exact zc152 | exact zc161 | exact zc164 | exact zc166 | exact zc168 | exact zc176 | exact zc194 | exact zc196 | exact zc200) ?_; clear hK; intro w1 nd hK)
    | (refine k_alloc (o := ⟨some 3, _, _, _, _, _⟩) hK (by rfl) _ (by rfl) _ (by first | exact zc9 | exact zc24 | exact zc27 | exact zc28 | exact zc46 | exact zc47 | exact zc49 | exact zc59 | exact zc65 | exact zc68 | exact zc115 | exact zc123 | exact zc152 | exact zc161 | exact zc164 | exact zc166 | exact zc168 | exact zc176 | exact zc194 | exact zc196 | exact zc200) ?_; clear hK; intro w1 nv hK)
    | (refine k_build (by rfl) _ _ (by rfl) (Sha.initial.list.map w32) (by kernel_rfl) ?_)
    | (refine k_storeW hK (by rfl) _ _ _ (by rfl) (by rfl) (by first | exact rn27 | exact rn28 | exact rn46 | exact rn47 | exact rn49 | exact rn62 | exact rn65 | exact rn68 | exact rn137 | exact rn152 | exact rn158 | exact rn161 | exact rn164 | exact rn166 | exact rn168 | exact rn176 | exact rn194 | exact rn196 | exact rn200) (by rfl) (by rfl) (by first | rfl | assumption | (simp; first | done | fail)) (by first | exact b8_one _ | exact w32_one _ | exact strs_one _ | exact one_of rfl | assumption) (by first | exact at0 | exact at1 | exact at2 | exact at3 | exact at4 | exact at5 | exact at6 | exact at7) (by first | rfl | assumption | (simp; first | done | fail)) ?_; clear hK; intro w2 hK; (try dsimp only [List.set_cons_zero, List.set_cons_succ, List.eraseIdx_zero, List.eraseIdx_cons_succ, List.eraseIdx_cons_zero, List.tail_cons] at hK))
    | (go_at_call 82; (refine (HP.out _ hs).mono ?_); rintro e w2 ⟨vp, rfl, hk2⟩; replace hK := hK.fresh hk2; clear hk2))
  go_loopw [5] (fun x5 wr => ∃ t : Nat, t ≤ N ∧ x5 = .int .i64 ((64 * t : Nat) : Int) ∧ K [] w wr [ownR 5 1 vp p.length (p.map b8), cellsR nv 46 ((Sha.blocks Sha.initial p t).list.map w32), cellsR nd 27 (List.replicate 32 (.int .u8 0))]) (fun x5 _ => (64 * N - (intOf x5).toNat))
  case atStart => exact ⟨0, by omega, rfl, by rw [Sha.blocks_zero]; exact hK⟩
  case round =>
    clear hK
    obtain ⟨t, ht, rfl, hK⟩ := hrel
    have hl := HL.out
    by_cases hlt : t < N
    · have hb1 : 64 * t + 64 ≤ p.length := by omega
      have hb2 : 64 * t < p.length := by omega
      have hlq : ((p.drop (64 * t)).take 64).length = 64 := by rw [List.length_take, List.length_drop]; omega
      have hcc : Sha.compress (Sha.blocks Sha.initial p t) (p.drop (64 * t)) = Sha.compress (Sha.blocks Sha.initial p t) ((p.drop (64 * t)).take 64) := by
        refine Sha.compress_congr _ _ _ (fun i hi => ?_)
        rw [List.getElem?_take_of_lt hi]
      have HC := hid hcc
      clear hcc hl
      go_wp2_with (first
        | (refine k_ord hK (by kernel_rfl) ?_; clear hK; intro w3 hK)
        | (refine Ord.Fin.mk (by kernel_rfl) ?_)
        | (refine k_len (by rfl) _ _ (by rfl) (by first | exact Tryd.underlying22 | exact Tryd.underlying58 | exact Tryd.underlying59 | exact Tryd.underlying88 | exact Tryd.underlying90 | exact Tryd.underlying97 | exact Tryd.underlying100 | exact Tryd.underlying123 | exact Tryd.underlying129 | exact Tryd.underlying169 | exact Tryd.underlying189) (by first | exact eval_tmp rfl | exact eval_const | rfl) (by first | exact hK.rd at0 | exact hK.rd at1 | exact hK.rd at2 | exact hK.rd at3 | exact hK.rd at4 | exact hK.rd0 (by assumption)) ?_)
        | (refine k_loadW (by rfl) _ _ (by rfl) (by first | exact rn27 | exact rn28 | exact rn46 | exact rn47 | exact rn49 | exact rn62 | exact rn65 | exact rn68 | exact rn137 | exact rn152 | exact rn158 | exact rn161 | exact rn164 | exact rn166 | exact rn168 | exact rn176 | exact rn194 | exact rn196 | exact rn200) (by rfl) (by first | exact hK.cells at0 | exact hK.cells at1 | exact hK.cells at2 | exact hK.cells at3 | exact hK.cells at4 | exact hK.cells at5 | exact hK.cells at6 | exact hK.cells at7 | exact hK.upd.blk (by assumption) (by simp)) (by first | rfl | assumption | (simp; first | done | fail)) ?_)
        | ((refine k_sub (by rfl) _ _ _ _ (by rfl) (by first | exact Tryd.underlying22 | exact Tryd.underlying58 | exact Tryd.underlying59 | exact Tryd.underlying88 | exact Tryd.underlying90 | exact Tryd.underlying97 | exact Tryd.underlying100 | exact Tryd.underlying123 | exact Tryd.underlying129 | exact Tryd.underlying169 | exact Tryd.underlying189) (by first | exact sz5 | exact sz9 | exact sz65 | exact sz68 | exact sz93 | exact sz95 | exact sz127 | exact sz176 | exact sz196) (by first | exact eval_tmp rfl | exact eval_const | rfl) (by first | exact hK.rd at0 | exact hK.rd at1 | exact hK.rd at2 | exact hK.rd at3 | exact hK.rd at4 | exact hK.rd0 (by assumption)) (64*t) (64*t+64) (by first | exact .inl ⟨rfl, rfl⟩ | exact .inr ⟨_, rfl, rfl⟩ | (refine .inr ⟨_, rfl, ?_⟩; simp [Act.eval]; first | done | fail)) (by first | exact .inl ⟨rfl, rfl⟩ | exact .inr ⟨_, rfl, rfl⟩ | (refine .inr ⟨_, rfl, ?_⟩; simp [Act.eval]; first | done | fail)) (by omega) (by omega) (by omega) ?_; intro v4 hr); rw [Nat.add_sub_cancel_left, ← List.map_drop, ← List.map_take] at hr)
        | (refine k_call hK (f := 83) (by rfl) (by rfl) (by exact entA _ (by decide)) (by first | exact args0 | exact args1 (by first | exact eval_tmp rfl | exact eval_const | rfl) | exact args2 (by first | exact eval_tmp rfl | exact eval_const | rfl) (by first | exact eval_tmp rfl | exact eval_const | rfl) | exact args3 (by first | exact eval_tmp rfl | exact eval_const | rfl) (by first | exact eval_tmp rfl | exact eval_const | rfl) (by first | exact eval_tmp rfl | exact eval_const | rfl) | exact args4 (by first | exact eval_tmp rfl | exact eval_const | rfl) (by first | exact eval_tmp rfl | exact eval_const | rfl) (by first | exact eval_tmp rfl | exact eval_const | rfl) (by first | exact eval_tmp rfl | exact eval_const | rfl) | exact args5 (by first | exact eval_tmp rfl | exact eval_const | rfl) (by first | exact eval_tmp rfl | exact eval_const | rfl) (by first | exact eval_tmp rfl | exact eval_const | rfl) (by first | exact eval_tmp rfl | exact eval_const | rfl) (by first | exact eval_tmp rfl | exact eval_const | rfl) | exact args6 (by first | exact eval_tmp rfl | exact eval_const | rfl) (by first | exact eval_tmp rfl | exact eval_const | rfl) (by first | exact eval_tmp rfl | exact eval_const | rfl) (by first | exact eval_tmp rfl | exact eval_const | rfl) (by first | exact eval_tmp rfl | exact eval_const | rfl) (by first | exact eval_tmp rfl | exact eval_const | rfl)) ?_; refine ⟨_, (block_any (Sha.blocks Sha.initial p t) ((p.drop (64 * t)).take 64) hlq _ _ hr), ?_⟩; clear hK; intro w4 hK)
        | (refine k_storeW hK (by rfl) _ _ _ (by rfl) (by rfl) (by first | exact rn27 | exact rn28 | exact rn46 | exact rn47 | exact rn49 | exact rn62 | exact rn65 | exact rn68 | exact rn137 | exact rn152 | exact rn158 | exact rn161 | exact rn164 | exact rn166 | exact rn168 | exact rn176 | exact rn194 | exact rn196 | exact rn200) (by rfl) (by rfl) (by first | rfl | assumption | (simp; first | done | fail)) (by first | exact b8_one _ | exact w32_one _ | exact strs_one _ | exact one_of rfl | assumption) (by first | exact at0 | exact at1 | exact at2 | exact at3 | exact at4 | exact at5 | exact at6 | exact at7) (by first | rfl | assumption | (simp; first | done | fail)) ?_; clear hK; intro w5 hK; (try dsimp only [List.set_cons_zero, List.set_cons_succ, List.eraseIdx_zero, List.eraseIdx_cons_succ, List.eraseIdx_cons_zero, List.tail_cons] at hK)))
      go_roundw
      case measure => simp [intOf]; omega
      case rel =>
        refine ⟨t + 1, by omega, by go_num, ?_⟩
        rw [Sha.blocks_succ, HC.out]
        exact hK
    · have e : t = N := by omega
      rw [e] at hK
      obtain ⟨R, hR⟩ : ∃ R, Sha.blocks Sha.initial p N = R := ⟨_, rfl⟩
      rw [hR, list_at R] at hK
      have HR := hid hR
      clear hR hl
      have HE := hid e
      clear e
      go_wp2_with (first | (refine k_len (by rfl) _ _ (by rfl) (by first | exact Tryd.underlying22 | exact Tryd.underlying58 | exact Tryd.underlying59 | exact Tryd.underlying88 | exact Tryd.underlying90 | exact Tryd.underlying97 | exact Tryd.underlying100 | exact Tryd.underlying123 | exact Tryd.underlying129 | exact Tryd.underlying169 | exact Tryd.underlying189) (by first | exact eval_tmp rfl | exact eval_const | rfl) (by first | exact hK.rd at0 | exact hK.rd at1 | exact hK.rd at2 | exact hK.rd at3 | exact hK.rd at4 | exact hK.rd0 (by assumption)) ?_) | (refine k_alloc (o := ⟨some 6, _, _, _, _, _⟩) hK (by rfl) _ (by rfl) _ (by first | exact zc9 | exact zc24 | exact zc27 | exact zc28 | exact zc46 | exact zc47 | exact zc49 | exact zc59 | exact zc65 | exact zc68 | exact zc115 | exact zc123 | exact zc152 | exact zc161 | exact zc164 | exact zc166 | exact zc168 | exact zc176 | exact zc194 | exact zc196 | exact zc200) ?_; clear hK; intro w5 nq hK))
      dsimp only [List.replicate] at hK
      refine wp_loop_rounds 33 ?_
      iterate 32
        rw [rounds_succ]
        go_wp2_with (first
          | (refine k_load1 (by rfl) _ _ (by rfl) (by exact sc _ (by decide)) (by rfl) (by first | exact hK.cells at0 | exact hK.cells at1 | exact hK.cells at2 | exact hK.cells at3 | exact hK.cells at4 | exact hK.cells at5 | exact hK.cells at6 | exact hK.cells at7 | exact hK.upd.blk (by assumption) (by simp)) (by first | assumption | rfl) ?_)
          | (refine k_store1 hK (by rfl) _ _ _ (by rfl) (by rfl) (by exact sc _ (by decide)) (by rfl) (by first | exact eval_tmp rfl | exact eval_const | rfl) (by rfl) (by first | exact at0 | exact at1 | exact at2 | exact at3 | exact at4 | exact at5 | exact at6 | exact at7) (by first | (simp; first | done | fail) | (simp; omega)) ?_; clear hK; intro w6 hK; (try dsimp only [List.set_cons_zero, List.set_cons_succ, List.eraseIdx_zero, List.eraseIdx_cons_succ, List.eraseIdx_cons_zero, List.tail_cons] at hK)))
      rw [rounds_succ]
      go_wp2_with (first
        | (refine k_loadW (by rfl) _ _ (by rfl) (by first | exact rn27 | exact rn28 | exact rn46 | exact rn47 | exact rn49 | exact rn62 | exact rn65 | exact rn68 | exact rn137 | exact rn152 | exact rn158 | exact rn161 | exact rn164 | exact rn166 | exact rn168 | exact rn176 | exact rn194 | exact rn196 | exact rn200) (by rfl) (by first | exact hK.cells at0 | exact hK.cells at1 | exact hK.cells at2 | exact hK.cells at3 | exact hK.cells at4 | exact hK.cells at5 | exact hK.cells at6 | exact hK.cells at7 | exact hK.upd.blk (by assumption) (by simp)) (by first | rfl | assumption | (simp; first | done | fail)) ?_)
        | (refine k_storeW hK (by rfl) _ _ _ (by rfl) (by rfl) (by first | exact rn27 | exact rn28 | exact rn46 | exact rn47 | exact rn49 | exact rn62 | exact rn65 | exact rn68 | exact rn137 | exact rn152 | exact rn158 | exact rn161 | exact rn164 | exact rn166 | exact rn168 | exact rn176 | exact rn194 | exact rn196 | exact rn200) (by rfl) (by rfl) (by first | rfl | assumption | (simp; first | done | fail)) (by first | exact b8_one _ | exact w32_one _ | exact strs_one _ | exact one_of rfl | assumption) (by first | exact at0 | exact at1 | exact at2 | exact at3 | exact at4 | exact at5 | exact at6 | exact at7) (by first | rfl | assumption | (simp; first | done | fail)) ?_; clear hK; intro w7 hK; (try dsimp only [List.set_cons_zero, List.set_cons_succ, List.eraseIdx_zero, List.eraseIdx_cons_succ, List.eraseIdx_cons_zero, List.tail_cons] at hK)))
      (refine k_ret1 (by rfl) (by first | exact .tmp _ _ rfl | exact .row _ _ _ _ _ _ rfl (by first | exact rn27 | exact rn28 | exact rn46 | exact rn47 | exact rn49 | exact rn62 | exact rn65 | exact rn68 | exact rn137 | exact rn152 | exact rn158 | exact rn161 | exact rn164 | exact rn166 | exact rn168 | exact rn176 | exact rn194 | exact rn196 | exact rn200) (by first | exact hK.cells at0 | exact hK.cells at1 | exact hK.cells at2 | exact hK.cells at3 | exact hK.cells at4 | exact hK.cells at5 | exact hK.cells at6 | exact hK.cells at7 | exact hK.upd.blk (by assumption) (by simp)) (by first | rfl | assumption | (simp; first | done | fail)) | exact .one _ _ _ _ _ rfl (by exact sc _ (by decide)) (by first | exact hK.cells at0 | exact hK.cells at1 | exact hK.cells at2 | exact hK.cells at3 | exact hK.cells at4 | exact hK.cells at5 | exact hK.cells at6 | exact hK.cells at7 | exact hK.upd.blk (by assumption) (by simp))) (by rfl) ?_)
      refine ⟨?_, hK.upd⟩
      rw [HD.out, HR.out, bytes_cells]

theorem joined_size (tag : UInt8) (ts : List ByteArray) (h : (joinBody ts).length ≤ 900000) : (⟨(joined tag ts).toArray⟩ : ByteArray).size ≤ 1000000 := by
  show (joined tag ts).length ≤ _
  unfold joined
  simp only [List.length_cons]
  omega
theorem rTagged_any (tag : UInt8) (ts : List ByteArray) (v : Value) (w : World) (hv : Rd w 1 v ts.length (strs ts)) (h255 : ts.length ≤ 255) (hsz : (joinBody ts).length ≤ 900000) :
    Calls Tryd.prog 92 #[.int .u8 tag.toNat, v] w fun e w' => e = .returned (.agg ((Sha.digest (joined tag ts)).map b8).toArray) ∧ Upd [] w w' := by
  have hK := K.init [] w
  have HJ := hid (joined_size tag ts hsz)
  have hd : ((Sha.digest (joined tag ts)).map b8).length = 32 := by rw [List.length_map, Sha.digest_length]
  go_enter Tryd.func92, Tryd.ntmps92
  go_wp2_with (first
    | (refine k_alloc (o := ⟨some 4, _, _, _, _, _⟩) hK (by rfl) _ (by rfl) _ (by first | exact zc9 | exact zc24 | exact zc27 | exact zc28 | exact zc46 | exact zc47 | exact zc49 | exact zc59 | exact zc65 | exact zc68 | exact zc115 | exact zc123 | exact zc152 | exact zc161 | exact zc164 | exact zc166 | exact zc168 | exact zc176 | exact zc194 | exact zc196 | exact zc200) ?_; clear hK; intro w1 n1 hK)
    | (refine k_call hK (f := 22) (by rfl) (by rfl) (by exact entA _ (by decide)) (by first | exact args0 | exact args1 (by first | exact eval_tmp rfl | exact eval_const | rfl) | exact args2 (by first | exact eval_tmp rfl | exact eval_const | rfl) (by first | exact eval_tmp rfl | exact eval_const | rfl) | exact args3 (by first | exact eval_tmp rfl | exact eval_const | rfl) (by first | exact eval_tmp rfl | exact eval_const | rfl) (by first | exact eval_tmp rfl | exact eval_const | rfl) | exact args4 (by first | exact eval_tmp rfl | exact eval_const | rfl) (by first | exact eval_tmp rfl | exact eval_const | rfl) (by first | exact eval_tmp rfl | exact eval_const | rfl) (by first | exact eval_tmp rfl | exact eval_const | rfl) | exact args5 (by first | exact eval_tmp rfl | exact eval_const | rfl) (by first | exact eval_tmp rfl | exact eval_const | rfl) (by first | exact eval_tmp rfl | exact eval_const | rfl) (by first | exact eval_tmp rfl | exact eval_const | rfl) (by first | exact eval_tmp rfl | exact eval_const | rfl) | exact args6 (by first | exact eval_tmp rfl | exact eval_const | rfl) (by first | exact eval_tmp rfl | exact eval_const | rfl) (by first | exact eval_tmp rfl | exact eval_const | rfl) (by first | exact eval_tmp rfl | exact eval_const | rfl) (by first | exact eval_tmp rfl | exact eval_const | rfl) (by first | exact eval_tmp rfl | exact eval_const | rfl)) ?_; refine ⟨_, (rJoin_any tag ts v _ (hK.rd0 hv) h255 (by omega)), ?_⟩; clear hK; intro w4 hK)
    | (refine k_call hK (f := 24) (by rfl) (by rfl) (by exact entA _ (by decide)) (by first | exact args0 | exact args1 (by first | exact eval_tmp rfl | exact eval_const | rfl) | exact args2 (by first | exact eval_tmp rfl | exact eval_const | rfl) (by first | exact eval_tmp rfl | exact eval_const | rfl) | exact args3 (by first | exact eval_tmp rfl | exact eval_const | rfl) (by first | exact eval_tmp rfl | exact eval_const | rfl) (by first | exact eval_tmp rfl | exact eval_const | rfl) | exact args4 (by first | exact eval_tmp rfl | exact eval_const | rfl) (by first | exact eval_tmp rfl | exact eval_const | rfl) (by first | exact eval_tmp rfl | exact eval_const | rfl) (by first | exact eval_tmp rfl | exact eval_const | rfl) | exact args5 (by first | exact eval_tmp rfl | exact eval_const | rfl) (by first | exact eval_tmp rfl | exact eval_const | rfl) (by first | exact eval_tmp rfl | exact eval_const | rfl) (by first | exact eval_tmp rfl | exact eval_const | rfl) (by first | exact eval_tmp rfl | exact eval_const | rfl) | exact args6 (by first | exact eval_tmp rfl | exact eval_const | rfl) (by first | exact eval_tmp rfl | exact eval_const | rfl) (by first | exact eval_tmp rfl | exact eval_const | rfl) (by first | exact eval_tmp rfl | exact eval_const | rfl) (by first | exact eval_tmp rfl | exact eval_const | rfl) (by first | exact eval_tmp rfl | exact eval_const | rfl)) ?_; refine ⟨_, (rSum_any _ _ HJ.out), ?_⟩; clear hK; intro w4 hK)
    | (refine k_storeW hK (by rfl) _ _ _ (by rfl) (by rfl) (by first | exact rn27 | exact rn28 | exact rn46 | exact rn47 | exact rn49 | exact rn62 | exact rn65 | exact rn68 | exact rn137 | exact rn152 | exact rn158 | exact rn161 | exact rn164 | exact rn166 | exact rn168 | exact rn176 | exact rn194 | exact rn196 | exact rn200) (by rfl) (by rfl) (by first | rfl | assumption | (simp; first | done | fail)) (by first | exact b8_one _ | exact w32_one _ | exact strs_one _ | exact one_of rfl | assumption) (by first | exact at0 | exact at1 | exact at2 | exact at3 | exact at4 | exact at5 | exact at6 | exact at7) (by first | rfl | assumption | (simp; first | done | fail)) ?_; clear hK; intro w5 hK; (try dsimp only [List.set_cons_zero, List.set_cons_succ, List.eraseIdx_zero, List.eraseIdx_cons_succ, List.eraseIdx_cons_zero, List.tail_cons] at hK)))
  (refine k_ret1 (by rfl) (by first | exact .tmp _ _ rfl | exact .row _ _ _ _ _ _ rfl (by first | exact rn27 | exact rn28 | exact rn46 | exact rn47 | exact rn49 | exact rn62 | exact rn65 | exact rn68 | exact rn137 | exact rn152 | exact rn158 | exact rn161 | exact rn164 | exact rn166 | exact rn168 | exact rn176 | exact rn194 | exact rn196 | exact rn200) (by first | exact hK.cells at0 | exact hK.cells at1 | exact hK.cells at2 | exact hK.cells at3 | exact hK.cells at4 | exact hK.cells at5 | exact hK.cells at6 | exact hK.cells at7 | exact hK.upd.blk (by assumption) (by simp)) (by first | rfl | assumption | (simp; first | done | fail)) | exact .one _ _ _ _ _ rfl (by exact sc _ (by decide)) (by first | exact hK.cells at0 | exact hK.cells at1 | exact hK.cells at2 | exact hK.cells at3 | exact hK.cells at4 | exact hK.cells at5 | exact hK.cells at6 | exact hK.cells at7 | exact hK.upd.blk (by assumption) (by simp))) (by rfl) ?_)
  exact ⟨rfl, hK.upd⟩
end Go.Proofs.YtfilokdleehklaaDoor
