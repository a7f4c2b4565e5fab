/- The walk of sha256.Sum. -/
import Derived.Test.YtfilokdleehklaaDoorSum
set_option linter.all false
namespace Go.Proofs.YtfilokdleehklaaDoor
open Go.RowKit
set_option maxHeartbeats 2000000
set_option maxRecDepth 100000

theorem ret_digest {fn : Func} {R : Ending → World → Prop} {a : Act} {w : World} (p : Tmp) (hf : fn.results = #[.cell p 28]) (r : Nat) (cs : List Value) (hp : a.tmps.getD p undef = .pointer (some ⟨r, 0, none⟩))
    (hb : Blk w r 28 cs) (hl : cs.length = 32) (hd : a.defers = []) (hR : R (.returned (.agg cs.toArray)) w) : bodyPost Tryd.prog fn R .ret a w :=
  bodyPost_ret_by (v := .agg cs.toArray) (results_cell_row hf _ _ r 28 _ (0, 0) _ hp hb Tryd.underlying28 rfl (by rw [List.size_toArray, hl]; kernel_rfl)) hd hR
theorem empty_hash (w : World) (b : Nat) (h : Blk w b 49 (.int .i64 0 :: (Sha.zero.list.map w32 ++ (List.replicate 64 (0 : UInt8)).map b8))) : HashAt w b [] := by
  unfold HashAt
  rw [Sha.state_eq, if_pos rfl]
  exact ⟨List.replicate 64 0, by simp, fun i hi => by simp at hi, h⟩
theorem Sum_any (s : ByteArray) (w : World) (Ti Tk : Nat) (hi : Blk w 0 Ti (Sha.initial.list.map w32)) (hk : Blk w 2 Tk (Sha.ks.map w32)) (hl : s.size ≤ 1000000) :
    Calls Tryd.prog 81 #[.string s] w fun e w' => e = .returned (.agg ((Sha.digest s.data.toList).map b8).toArray) ∧ Upd [] w w' := by
  have hi0 := hi.lt
  have hk0 := hk.lt
  have HI := hid hi
  have HK := hid hk
  clear hi hk
  go_enter Tryd.func81, Tryd.ntmps81
  go_wp2_with (first
    | (go_at_call 31; (refine (Write_any (w.heap.size + 1) [] s _ Ti Tk (empty_hash _ _ (by have := Blk.new (w.alloc (Obj.cells (List.replicate 32 (.int .u8 0)).toArray 28)) 49 (.int .i64 0 :: (Sha.zero.list.map w32 ++ (List.replicate 64 (0 : UInt8)).map b8)); rw [World.size_alloc] at this; exact this)) ((HI.out.alloc _).alloc _) ((HK.out.alloc _).alloc _) (by omega) (by omega) (by simp; omega)).mono ?_); rintro e w1 ⟨rfl, hU1, hH1⟩; rw [List.nil_append] at hH1;
        have HU1 := hid ((((Upd.refl [] w).alloc _).alloc _).trans' hU1 (by intro i hi; rw [List.mem_singleton] at hi; exact .inr (by omega)));
        have HR1 := hid (hU1.blk ((Blk.new w 28 (List.replicate 32 (.int .u8 0))).alloc _) (by simp)); have HH1 := hid hH1; clear hU1 hH1)
    | (go_at_call 33; (refine (HSum_any (w.heap.size + 1) s.data.toList _ Ti Tk HH1.out (HU1.out.blk HI.out (by simp)) (HU1.out.blk HK.out (by simp)) (by have : s.data.toList.length = s.size := rfl; omega)).mono ?_); rintro e w2 ⟨rfl, hU2⟩;
        have HU2 := hid (HU1.out.trans hU2); have HR2 := hid (hU2.blk HR1.out (by simp)); have hth2 := HR2.out.there 0 32 (by simp); have HU3 := hid hU2; clear hU2)
    | (refine arm_store28 rfl rfl _ _ rfl w.heap.size 0 rfl ((Sha.digest s.data.toList).map b8) rfl hth2 (by rw [List.length_map, Sha.digest_length]) (b8_one _) ?_))
  have hl32 : ((Sha.digest s.data.toList).map b8).length = 32 := by rw [List.length_map, Sha.digest_length]
  refine ret_digest 2 rfl w.heap.size ((Sha.digest s.data.toList).map b8) rfl ?_ hl32 rfl ⟨rfl, Upd.setCells (.inr (Nat.le_refl _)) _ _ _ HU2.out⟩
  have := HR2.out.setCells ((Sha.digest s.data.toList).map b8) 0
  rwa [splice_eq _ _ _ (by rw [hl32]; simp), List.take_zero, List.nil_append, hl32, List.drop_of_length_le (by simp), List.append_nil] at this
end Go.Proofs.YtfilokdleehklaaDoor
