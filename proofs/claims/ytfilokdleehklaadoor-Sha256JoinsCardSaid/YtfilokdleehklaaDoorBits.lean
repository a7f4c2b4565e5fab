/- The walks of right, RotateLeft32 and turn: a word turned to the right. -/
import Derived.Test.YtfilokdleehklaaDoorRows
import Derived.Test.YtfilokdleehklaaDoorWords
import Derived.Test.YtfilokdleehklaaDoorOrd
set_option linter.all false
namespace Go.Proofs.YtfilokdleehklaaDoor
open Go.RowKit
set_option maxHeartbeats 400000
set_option maxRecDepth 100000

theorem mixed : Tryd.prog.follows .mixedOrders = true := by kernel_rfl

theorem index8 (cs : Array Value) (i : Int) (w : World) (h0 : 0 ≤ i) (h1 : i < 8) :
    (Instr.index 46 (.agg cs) (.int .i64 i)).run Tryd.prog w = match cs[i.toNat]? with | some v => .ok v w | none => .halt (.stuck "part: no such cell") w :=
  run_index_agg Tryd.underlying46 Tryd.underlying45 (by kernel_rfl) cs i w h0 h1
theorem and31 (k : Nat) (h0 : 0 < k) (h1 : k < 32) : bits BinOp.and IntKind.u64 (IntKind.u64.wrap (-(k : Int))) 31 = ((32 - k : Nat) : Int) := by
  have : ∀ k : Fin 32, 0 < k.val → bits BinOp.and IntKind.u64 (IntKind.u64.wrap (-(k.val : Int))) 31 = ((32 - k.val : Nat) : Int) := by decide
  exact this ⟨k, h1⟩ h0

theorem rotl_any (k : Nat) (x : Sha.W) (w : World) (h0 : 0 < k) (h1 : k < 32) :
    Calls Tryd.prog 136 #[.int .u32 x.toNat, .int .i64 (-k)] w fun e w' => e = .returned (.int .u32 (Sha.rot k x).toNat) ∧ w = w' := by
  have hs := and31 k h0 h1
  go_enter Tryd.func136, Tryd.ntmps136
  go_wp2
  go_ret
  refine ⟨?_, rfl⟩
  have e : 32 - (32 - k) = k := by omega
  rw [e, W32.shl, W32.shr, W32.bits_or, BitVec.or_comm, Sha.rot_eq]
  rfl
theorem right_any (k : Nat) (x : Sha.W) (w : World) (h0 : 0 < k) (h1 : k < 32) :
    Calls Tryd.prog 123 #[.int .i64 k, .int .u32 x.toNat] w fun e w' => e = .returned (.int .u32 (Sha.rot k x).toNat) ∧ w = w' := by
  go_enter Tryd.func123, Tryd.ntmps123
  go_wp2_with (go_at_call 136; refine (rotl_any k x _ h0 h1).mono ?_; rintro e w' ⟨rfl, rfl⟩)
  go_ret
  exact ⟨rfl, rfl⟩
theorem right_at (n : Int) (x : Sha.W) (w : World) (h0 : 0 < n) (h1 : n < 32) :
    Calls Tryd.prog 123 #[.int .i64 n, .int .u32 x.toNat] w fun e w' => e = .returned (.int .u32 (Sha.rot n.toNat x).toNat) ∧ w = w' := by
  obtain ⟨k, rfl⟩ := Int.eq_ofNat_of_zero_le (Int.le_of_lt h0)
  exact right_any k x w (by omega) (by omega)
theorem turn_any (k : Nat) (x : Sha.W) (w : World) (h0 : 0 < k) (h1 : k < 32) :
    Calls Tryd.prog 122 #[.int .i64 k, .int .u32 x.toNat] w fun e w' => e = .returned (.int .u32 (Sha.rot k x).toNat) ∧ w' = w.drew := by
  go_enter Tryd.func122, Tryd.ntmps122
  go_wp2
  refine Ord.region mixed (by kernel_rfl) ?_
  go_wp2
  refine Ord.Fin.mk (by kernel_rfl) ?_
  go_wp2
  go_ret
  refine ⟨?_, rfl⟩
  rw [W32.shl, W32.shr, W32.bits_or, Sha.rot_eq]
  rfl
theorem turn_at (n : Int) (x : Sha.W) (w : World) (h0 : 0 < n) (h1 : n < 32) :
    Calls Tryd.prog 122 #[.int .i64 n, .int .u32 x.toNat] w fun e w' => e = .returned (.int .u32 (Sha.rot n.toNat x).toNat) ∧ w' = w.drew := by
  obtain ⟨k, rfl⟩ := Int.eq_ofNat_of_zero_le (Int.le_of_lt h0)
  exact turn_any k x w (by omega) (by omega)
end Go.Proofs.YtfilokdleehklaaDoor
