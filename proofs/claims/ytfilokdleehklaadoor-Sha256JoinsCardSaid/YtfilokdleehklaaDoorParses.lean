/- The walk of the statement Sha256Parses. -/
import Derived.Test.YtfilokdleehklaaDoorTexts
import Derived.Test.YtfilokdleehklaaDoorHexLaw
set_option linter.all false
namespace Go.Proofs.YtfilokdleehklaaDoor
open Go.RowKit
set_option maxHeartbeats 2000000
set_option maxRecDepth 100000

theorem short02_any (s : ByteArray) (n : Nat) (w : World) :
    Calls Tryd.prog 25 #[.string s, .int .i64 n] w fun e w' => (∃ t : ByteArray, e = .returned (.string t) ∧ t.size ≤ n ∧ t.data.toList = s.data.toList.take n) ∧ w = w' := by
  go_enter Tryd.func25, Tryd.ntmps25
  go_wp2
  all_goals go_ret
  · refine ⟨⟨s.extract 0 n, rfl, ?_, ?_⟩, rfl⟩
    · rw [ByteArray.size_extract]; omega
    · simp only [ByteArray.data_extract, Array.toList_extract, List.extract_eq_take_drop, List.drop_zero, Nat.sub_zero]
  · refine ⟨⟨s, rfl, by omega, ?_⟩, rfl⟩
    rw [List.take_of_length_le]
    have : s.data.toList.length = s.size := rfl
    omega
theorem guard27 (x y : Operand) (xs ys : Array Value) (w : World) : (eqGuard .eql 27 x y (.agg xs) (.agg ys)).run Tryd.prog w = .ok () w :=
  run_eqGuard_agg w .eql 27 x y xs ys (by kernel_rfl)
theorem same_text (t : ByteArray) (w : World) : (binOp .eql 9 (.string t) (.string t)).run Tryd.prog w = .ok (.bool true) w := by
  simp [binOp, Op.stringOp]
theorem parses_walk (s : ByteArray) (w : World) (Ti Tk : Nat) (hi : Blk w 0 Ti (Sha.initial.list.map w32)) (hk : Blk w 2 Tk (Sha.ks.map w32)) :
    Calls Tryd.prog 4 #[.string s] w fun e w' => e = .returned (.bool true) ∧ Upd [] w w' := by
  have HI := hid hi
  have HK := hid hk
  clear hi hk
  go_enter Tryd.func4, Tryd.ntmps4
  go_upto_region 4 with (first
    | (go_at_call 25; (refine (short02_any s 200 _).mono ?_); rintro e w0 ⟨⟨t, rfl, ht, -⟩, rfl⟩; have hp := parse_text t.data.toList; obtain ⟨d, hd⟩ : ∃ d, (parse t.data.toList).1 = d := ⟨_, rfl⟩; rw [hd] at hp; obtain ⟨hp1, hp2⟩ := hp; have e27 := eql27 d d hp1 hp1; rw [show (d == d) = true from by simp] at e27; have g27 := guard27; have est := same_text t; obtain ⟨q1, hq1⟩ : ∃ q, (parse t.data.toList).2.1 = q := ⟨_, rfl⟩; obtain ⟨q2, hq2⟩ : ∃ q, (parse t.data.toList).2.2 = q := ⟨_, rfl⟩; rw [hq2] at hp2; have HQ := hid (And.intro hq1 hq2); clear hq1 hq2; have HD := hid hd; have HP := hid hp2; clear hd hp2)
    | (go_at_call 26; (refine (Parse_any t _).mono ?_); rw [HD.out, HQ.out.1, HQ.out.2]; rintro e w1 ⟨rfl, hU1⟩; have HU1 := hid hU1; clear hU1)
    | (refine arm_new28 rfl rfl _ _ rfl rfl rfl (d.map b8) rfl (by rw [List.length_map, hp1]) (b8_one _) ?_; intro w2 hB2 hU2; have HB2 := hid hB2; have HU2 := hid (HU1.out.trans hU2); clear hB2 hU2)
    | (go_at_call 27; (refine (rParse_any t _).mono ?_); rw [HD.out, HQ.out.1, HQ.out.2]; rintro e w3 ⟨rfl, hU3⟩; have HB3 := hid (hU3.blk HB2.out (by simp)); have HU3 := hid (HU2.out.trans hU3); clear hU3)
    | (refine arm_new27 rfl rfl _ _ rfl rfl rfl (d.map b8) rfl (by rw [List.length_map, hp1]) (b8_one _) ?_; intro w4 hB4 hU4; have HB4 := hid hB4; have HB5 := hid (hU4.blk HB3.out (by simp)); have HU4 := hid (HU3.out.trans hU4); clear hB4 hU4))
  have hq : q2 = 0 ∨ q2 ≠ 0 := by omega
  rcases hq with hq | hq
  · subst hq
    have HT := hid (show (⟨(hex d).toArray⟩ : ByteArray) = t from by rw [HP.out rfl])
    go_wp2_with (first
    | (go_at_call 23; (refine (known02_any _ Ti Tk (HU4.out.blk HI.out (by simp)) (HU4.out.blk HK.out (by simp))).mono ?_); rintro e w5 ⟨rfl, hU5⟩; have hr28 := (hU5.blk HB5.out (by simp)).whole; have hr27 := (hU5.blk HB4.out (by simp)).whole; have HU5 := hid (HU4.out.trans hU5); clear hU5)
    | (refine arm_load28 rfl _ rfl w1.heap.size 0 rfl (d.map b8) hr28 (by rw [List.length_map, hp1]) ?_)
    | (refine arm_load27 rfl _ rfl w3.heap.size 0 rfl (d.map b8) hr27 (by rw [List.length_map, hp1]) ?_)
    | (go_at_call 28; (refine (String_any d hp1 _).mono ?_); rintro e w6 ⟨rfl, hU6⟩; rw [HT.out]; have HU6 := hid (HU5.out.trans hU6); clear hU6))
    go_ret
    exact ⟨rfl, HU6.out⟩
  · have hne : ¬ ((q2 : Int) = 0) := by omega
    go_wp2_with (first
    | (go_at_call 23; (refine (known02_any _ Ti Tk (HU4.out.blk HI.out (by simp)) (HU4.out.blk HK.out (by simp))).mono ?_); rintro e w5 ⟨rfl, hU5⟩; have hr28 := (hU5.blk HB5.out (by simp)).whole; have hr27 := (hU5.blk HB4.out (by simp)).whole; have HU5 := hid (HU4.out.trans hU5); clear hU5)
    | (refine arm_load28 rfl _ rfl w1.heap.size 0 rfl (d.map b8) hr28 (by rw [List.length_map, hp1]) ?_)
    | (refine arm_load27 rfl _ rfl w3.heap.size 0 rfl (d.map b8) hr27 (by rw [List.length_map, hp1]) ?_)
    | (go_at_call 28; (refine (String_any d hp1 _).mono ?_); rintro e w6 ⟨rfl, hU6⟩; rw [HT.out]; have HU6 := hid (HU5.out.trans hU6); clear hU6))
    go_ret
    exact ⟨rfl, HU5.out⟩
end Go.Proofs.YtfilokdleehklaaDoor
