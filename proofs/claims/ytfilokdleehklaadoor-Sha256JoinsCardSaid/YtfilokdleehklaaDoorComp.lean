/- The walk of compress. -/
import Derived.Test.YtfilokdleehklaaDoorBits
import Derived.BigQuiet
import Derived.Deep.QuietTactic
import Derived.Deep.LoopGhost
set_option linter.all false
namespace Go.Proofs.YtfilokdleehklaaDoor
open Go.RowKit
set_option maxHeartbeats 2000000
set_option maxRecDepth 100000

attribute [local go_sem] index8
theorem compress_any (s so b bo Ts Tb Tk : Nat) (Ls Lb : List Value) (v : Sha.V) (l : List UInt8) (w : World)
    (hs : Blk w s Ts Ls) (hb : Blk w b Tb Lb) (hk : Blk w 2 Tk (Sha.ks.map w32))
    (hv : ∀ i, i < 8 → Ls[so + i]? = some (w32 (v.list[i]?.getD 0))) (hl : ∀ i, i < 64 → Lb[bo + i]? = some (b8 (l[i]?.getD 0))) (hso : so ≤ 1000) (hbo : bo ≤ 1000) :
    Calls Tryd.prog 86 #[.pointer (some ⟨s, so, none⟩), .pointer (some ⟨b, bo, none⟩)] w fun e w' => e = .returned (.tuple #[]) ∧
      Upd [s] w w' ∧ Blk w' s Ts (splice Ls so ((Sha.compress v l).list.map w32)) := by
  go_enter Tryd.func86, Tryd.ntmps86
  go_wp2
  go_loopw [24] (fun i wr => ∃ t : Nat, t ≤ 16 ∧ i = .int .i64 t ∧ Blk wr w.heap.size 200 ((Sha.words l t ++ List.replicate (64 - t) 0).map w32) ∧ Upd [] w wr) (fun i _ => 16 - (intOf i).toNat)
  case atStart => exact ⟨0, by omega, rfl, (by unfold Sha.words; exact Blk.new w 200 ((List.replicate 64 (0 : Sha.W)).map w32)), (Upd.refl _ _).alloc _⟩
  case round =>
    obtain ⟨t, ht, rfl, hB, hU⟩ := hrel
    have hbr := hU.blk hb (by simp)
    by_cases hlt : t < 16
    · --[P
      have c0 : wr.cell? ⟨b, bo + 4 * t, none⟩ = some (b8 (l[4 * t]?.getD 0)) := hbr.cellD (hl _ (by omega))
      have c1 : wr.cell? ⟨b, bo + (4 * t + 1), none⟩ = some (b8 (l[4 * t + 1]?.getD 0)) := hbr.cellD (hl _ (by omega))
      have c2 : wr.cell? ⟨b, bo + (4 * t + 2), none⟩ = some (b8 (l[4 * t + 2]?.getD 0)) := hbr.cellD (hl _ (by omega))
      have c3 : wr.cell? ⟨b, bo + (4 * t + 3), none⟩ = some (b8 (l[4 * t + 3]?.getD 0)) := hbr.cellD (hl _ (by omega))
      obtain ⟨x0, d0⟩ := hB.ex t (by simp [Sha.words_length]; omega)
      have d1 := hB.frozen t
      unfold b8 at c0 c1 c2 c3
      have HU := hid hU
      have HB := hid hB
      clear hU hB hb hs hk hl hv hbr
      go_wp2
      refine Ord.region mixed (by kernel_rfl) ?_
      go_wp2
      refine Ord.Fin.mk (by kernel_rfl) ?_
      go_wp2
      go_roundw
      case rel =>
        have hB := HB.out
        have hU := HU.out
        refine ⟨t + 1, by omega, by go_num, ?_, (hU.setCell _ _ (by simp)).drew⟩
        have h1 := (hB.set t (w32 (Sha.wordAt l t))).drew
        rw [Sha.word_spec]
        have e := set_fill (Sha.words l t) (63 - t) 0 (Sha.wordAt l t)
        rw [Sha.words_length, show 63 - t + 1 = 64 - t from by omega] at e
        rw [← List.map_set, e] at h1
        rw [show 64 - (t + 1) = 63 - t from by omega, Sha.words_succ]
        exact h1
      case measure => simp [intOf]; omega
      --P]
    · have e16 : t = 16 := by omega
      rw [e16] at hB
      clear hl e16
      go_wp2
      go_loopw [6] (fun i wr => ∃ t : Nat, 16 ≤ t ∧ t ≤ 64 ∧ i = .int .i64 t ∧ Blk wr w.heap.size 200 ((Sha.more (Sha.words l 16) (t - 16) ++ List.replicate (64 - t) 0).map w32) ∧ Upd [] w wr) (fun i _ => 64 - (intOf i).toNat)
      case atStart => exact ⟨16, by omega, by omega, rfl, (by rw [Nat.sub_self, Sha.more_zero]; exact hB), hU⟩
      case round =>
        clear hB hU hbr hlt ht
        rename Nat => t9
        obtain ⟨t, ht0, ht, rfl, hB, hU⟩ := hrel
        have hm := Sha.more_length (Sha.words l 16) (t - 16)
        rw [Sha.words_length] at hm
        by_cases hlt : t < 64
        · --[P
          have c0 := hB.cellW (t - 15) (by omega)
          have c1 := hB.cellW (t - 2) (by omega)
          have c2 := hB.cellW (t - 16) (by omega)
          have c3 := hB.cellW (t - 7) (by omega)
          obtain ⟨x0, d0⟩ := hB.ex t (by simp [hm]; omega)
          have d1 := hB.frozen t
          have HU := hid hU
          have HB := hid hB
          have HM := hid hm
          clear hU hB hm hb hs hk hv
          go_wp2
          refine Ord.region mixed (by kernel_rfl) ?_
          go_wp2
          refine Ord.Fin.mk (by kernel_rfl) ?_
          go_wp2_with (go_at_call 123; ((with_reducible refine (right_at _ _ _ (by omega) (by omega)).mono ?_); rintro e w' ⟨rfl, rfl⟩))
          refine Ord.region mixed (by kernel_rfl) ?_
          go_wp2
          refine Ord.Fin.mk (by kernel_rfl) ?_
          go_wp2
          go_roundw
          case rel =>
            have hB := HB.out
            have hU := HU.out
            have hm := HM.out
            refine ⟨t + 1, by omega, by omega, by go_num, ?_, ((hU.setCell _ _ (by simp)).drew).drew⟩
            have e2 : Sha.more (Sha.words l 16) (t + 1 - 16) = Sha.more (Sha.words l 16) (t - 16) ++ [(Sha.more (Sha.words l 16) (t - 16))[t - 16]?.getD 0 + Sha.e0 ((Sha.more (Sha.words l 16) (t - 16))[t - 15]?.getD 0) + (Sha.more (Sha.words l 16) (t - 16))[t - 7]?.getD 0 + Sha.e1 ((Sha.more (Sha.words l 16) (t - 16))[t - 2]?.getD 0)] := by
              rw [show t + 1 - 16 = (t - 16) + 1 from by omega]
              rw [Sha.more_succ]
              rw [show t - 16 + 1 = t - 15 from by omega, show t - 16 + 9 = t - 7 from by omega, show t - 16 + 14 = t - 2 from by omega]
            rw [e2]
            generalize Sha.more (Sha.words l 16) (t - 16) = m at *
            have h1 := (hB.set t (w32 (m[t - 16]?.getD 0 + Sha.e0 (m[t - 15]?.getD 0) + m[t - 7]?.getD 0 + Sha.e1 (m[t - 2]?.getD 0)))).drew
            have e := set_fill m (63 - t) 0 (m[t - 16]?.getD 0 + Sha.e0 (m[t - 15]?.getD 0) + m[t - 7]?.getD 0 + Sha.e1 (m[t - 2]?.getD 0))
            rw [hm, show 63 - t + 1 = 64 - t from by omega, show 16 + (t - 16) = t from by omega] at e
            rw [← List.map_set, e] at h1
            rw [show 64 - (t + 1) = 63 - t from by omega]
            simp only [W32.bits_xor, W32.shr3, W32.shr10, W32.mod_add4]
            exact h1.drew
          case measure => simp [intOf]; omega
          --P]
        · have e64 : t = 64 := by omega
          rw [e64] at hB hm
          clear e64
          have hsr := hU.blk hs (by simp)
          have s0 : wr.cell? ⟨s, so, none⟩ = some (w32 v.a) := hsr.cellD (hv 0 (by omega))
          have s1 : wr.cell? ⟨s, so + 1, none⟩ = some (w32 v.b) := hsr.cellD (hv 1 (by omega))
          have s2 : wr.cell? ⟨s, so + 2, none⟩ = some (w32 v.c) := hsr.cellD (hv 2 (by omega))
          have s3 : wr.cell? ⟨s, so + 3, none⟩ = some (w32 v.d) := hsr.cellD (hv 3 (by omega))
          have s4 : wr.cell? ⟨s, so + 4, none⟩ = some (w32 v.e) := hsr.cellD (hv 4 (by omega))
          have s5 : wr.cell? ⟨s, so + 5, none⟩ = some (w32 v.f) := hsr.cellD (hv 5 (by omega))
          have s6 : wr.cell? ⟨s, so + 6, none⟩ = some (w32 v.g) := hsr.cellD (hv 6 (by omega))
          have s7 : wr.cell? ⟨s, so + 7, none⟩ = some (w32 v.h) := hsr.cellD (hv 7 (by omega))
          unfold w32 at s0 s1 s2 s3 s4 s5 s6 s7
          have HU := hid hU
          have HB := hid hB
          have HM := hid hm
          have HS := hid hs
          have HK := hid hk
          have HV := hid hv
          clear hU hB hm hb hs hk hv hsr
          go_wp2
          refine Ord.region mixed (by kernel_rfl) ?_
          go_wp2
          refine Ord.Fin.mk (by kernel_rfl) ?_
          go_wp2
          refine Ord.region mixed (by kernel_rfl) ?_
          go_wp2
          refine Ord.Fin.mk (by kernel_rfl) ?_
          go_wp2
          have hB0 := HB.out
          rw [show (64 - 64 : Nat) = 0 from rfl, List.replicate_zero, ← Sha.schedule_eq] at hB0
          have HB1 := hid hB0
          clear HB hB0
          obtain ⟨wo, rfl⟩ : ∃ wo : World, wo = wr := ⟨_, rfl⟩
          clear s0 s1 s2 s3 s4 s5 s6 s7 hlt ht ht0
          go_loopw [11, 12, 13, 14, 15, 16, 17, 18, 142] (fun x11 x12 x13 x14 x15 x16 x17 x18 i wq => ∃ t : Nat, t ≤ 64 ∧ i = .int .i64 t ∧ Upd [] wo wq ∧
              ∃ a b c d e f g h : Sha.W, Sha.rounds v Sha.ks (Sha.schedule l) t = ⟨a, b, c, d, e, f, g, h⟩ ∧ x11 = .int .u32 a.toNat ∧ x12 = .int .u32 b.toNat ∧ x13 = .int .u32 c.toNat ∧ x14 = .int .u32 d.toNat ∧
                x15 = .int .u32 e.toNat ∧ x16 = .int .u32 f.toNat ∧ x17 = .int .u32 g.toNat ∧ x18 = .int .u32 h.toNat) (fun _ _ _ _ _ _ _ _ i _ => 64 - (intOf i).toNat)
          case atStart => exact ⟨0, by omega, rfl, (Upd.refl _ _).drew.drew, v.a, v.b, v.c, v.d, v.e, v.f, v.g, v.h, Sha.rounds_zero _ _ _, rfl, rfl, rfl, rfl, rfl, rfl, rfl, rfl⟩
          case round =>
            obtain ⟨q, hq, rfl, hUq, ra, rb, rc, rd, re, rf, rg, rh, hr, rfl, rfl, rfl, rfl, rfl, rfl, rfl, rfl⟩ := hrel
            have HR := hid hr
            have HUq := hid hUq
            by_cases hlt : q < 64
            · --[P
              have c0 := (hUq.blk HB1.out (by simp)).cellW q (by rw [Sha.schedule_length]; exact hlt)
              have hk1 : Blk wr 2 Tk ((Sha.ks ++ []).map w32) := by
                rw [List.append_nil]
                exact hUq.blk (HU.out.blk HK.out (by simp)) (by simp)
              have c1 := hk1.cellW q hlt
              clear hr hUq hk1
              go_wp2
              go_quiet ((go_at_call 123; exact quietSame (right_at _ _ _ (by omega) (by omega))))
              go_wp2_with (go_at_call 123; ((with_reducible refine (right_at _ _ _ (by omega) (by omega)).mono ?_); rintro e w' ⟨rfl, rfl⟩))
              go_roundw
              case rel =>
                simp only [W32.ones, W32.bits_xor, W32.bits_and, W32.mod_add5, W32.mod_add]
                refine ⟨q + 1, by omega, by go_num, HUq.out.drewN nq, _, _, _, _, _, _, _, _, ?_, rfl, rfl, rfl, rfl, rfl, rfl, rfl, rfl⟩
                rw [Sha.rounds_succ, HR.out]
                rfl
              case measure => simp [intOf]; omega
              --P]
            · have e64 : q = 64 := by omega
              rw [e64] at hr
              have HR2 := hid hr
              clear e64 hq
              have hsr := hUq.blk (HU.out.blk HS.out (by simp)) (by simp)
              have hV := HV.out
              have s0 : wr.cell? ⟨s, so, none⟩ = some (w32 v.a) := hsr.cellD (hV 0 (by omega))
              have s1 : wr.cell? ⟨s, so + 1, none⟩ = some (w32 v.b) := hsr.cellD (hV 1 (by omega))
              have s2 : wr.cell? ⟨s, so + 2, none⟩ = some (w32 v.c) := hsr.cellD (hV 2 (by omega))
              have s3 : wr.cell? ⟨s, so + 3, none⟩ = some (w32 v.d) := hsr.cellD (hV 3 (by omega))
              have s4 : wr.cell? ⟨s, so + 4, none⟩ = some (w32 v.e) := hsr.cellD (hV 4 (by omega))
              have s5 : wr.cell? ⟨s, so + 5, none⟩ = some (w32 v.f) := hsr.cellD (hV 5 (by omega))
              have s6 : wr.cell? ⟨s, so + 6, none⟩ = some (w32 v.g) := hsr.cellD (hV 6 (by omega))
              have s7 : wr.cell? ⟨s, so + 7, none⟩ = some (w32 v.h) := hsr.cellD (hV 7 (by omega))
              have z0 : ∀ i, wr.frozen? ⟨s, i, none⟩ = false := fun i => hsr.frozen i
              have HSR := hid hsr
              unfold w32 at s0 s1 s2 s3 s4 s5 s6 s7
              clear hr hUq hsr hV
              go_wp2
              refine wp_loop_rounds 9 ?_
              iterate 8
                rw [rounds_succ]
                go_wp2
                refine Ord.region mixed (by kernel_rfl) ?_
                go_wp2
                refine Ord.Fin.mk (by kernel_rfl) ?_
                go_wp2
              rw [rounds_succ]
              go_wp2
              go_end0
              have ec : (Sha.compress v l).list.map w32 = [w32 (v.a + ra), w32 (v.b + rb), w32 (v.c + rc), w32 (v.d + rd), w32 (v.e + re), w32 (v.f + rf), w32 (v.g + rg), w32 (v.h + rh)] := by
                rw [Sha.compress_eq, HR2.out]
                rfl
              refine ⟨rfl, ?_⟩
              simp only [W32.mod_add]
              constructor
              · have hb := (HU.out.trans HUq.out).mono (S' := [s]) (by simp)
                repeat (with_reducible first | refine Upd.drew ?_ | refine Upd.setCell ?_ _ _ (.inl (by simp)))
                with_reducible exact hb
              · rw [ec]
                simp only [splice, Nat.add_assoc, Nat.reduceAdd, w32]
                repeat (with_reducible first | refine Blk.drew ?_ | refine Blk.set ?_ _ _)
                with_reducible exact HSR.out
end Go.Proofs.YtfilokdleehklaaDoor
