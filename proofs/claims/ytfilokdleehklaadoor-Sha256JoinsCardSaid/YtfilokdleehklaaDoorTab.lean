/- Written by program (tab.py): what the types of this seat are like. -/
import Derived.Test.YtfilokdleehklaaDoorKnow
import Derived.Test.YtfilokdleehklaaDoorProg
set_option linter.all false
namespace Go.Proofs.YtfilokdleehklaaDoor
set_option maxRecDepth 100000
theorem sc : ∀ t ∈ ([3, 4, 5, 9, 22, 24, 45, 58, 59, 60, 114, 115, 123, 150, 169, 187, 188, 189] : List Nat), scalarB Tryd.prog t = true := by decide +kernel
theorem rn27 : rowN Tryd.prog 27 = some 32 := by kernel_rfl
theorem rn28 : rowN Tryd.prog 28 = some 32 := by kernel_rfl
theorem rn46 : rowN Tryd.prog 46 = some 8 := by kernel_rfl
theorem rn47 : rowN Tryd.prog 47 = some 64 := by kernel_rfl
theorem rn49 : rowN Tryd.prog 49 = some 73 := by kernel_rfl
theorem rn62 : rowN Tryd.prog 62 = some 8 := by kernel_rfl
theorem rn65 : rowN Tryd.prog 65 = some 4 := by kernel_rfl
theorem rn68 : rowN Tryd.prog 68 = some 4 := by kernel_rfl
theorem rn137 : rowN Tryd.prog 137 = some 4 := by kernel_rfl
theorem rn152 : rowN Tryd.prog 152 = some 5 := by kernel_rfl
theorem rn158 : rowN Tryd.prog 158 = some 5 := by kernel_rfl
theorem rn161 : rowN Tryd.prog 161 = some 2 := by kernel_rfl
theorem rn164 : rowN Tryd.prog 164 = some 4 := by kernel_rfl
theorem rn166 : rowN Tryd.prog 166 = some 3 := by kernel_rfl
theorem rn168 : rowN Tryd.prog 168 = some 4 := by kernel_rfl
theorem rn176 : rowN Tryd.prog 176 = some 2 := by kernel_rfl
theorem rn194 : rowN Tryd.prog 194 = some 512 := by kernel_rfl
theorem rn196 : rowN Tryd.prog 196 = some 513 := by kernel_rfl
theorem rn200 : rowN Tryd.prog 200 = some 64 := by kernel_rfl
theorem zc9 : zeroCells Tryd.prog 9 = some ([.string { data := #[] }]) := by kernel_rfl
theorem zc24 : zeroCells Tryd.prog 24 = some ([.int .i64 0]) := by kernel_rfl
theorem zc27 : zeroCells Tryd.prog 27 = some (List.replicate 32 (.int .u8 0)) := by kernel_rfl
theorem zc28 : zeroCells Tryd.prog 28 = some (List.replicate 32 (.int .u8 0)) := by kernel_rfl
theorem zc46 : zeroCells Tryd.prog 46 = some ([.int .u32 0, .int .u32 0, .int .u32 0, .int .u32 0, .int .u32 0, .int .u32 0, .int .u32 0, .int .u32 0]) := by kernel_rfl
theorem zc47 : zeroCells Tryd.prog 47 = some (List.replicate 64 (.int .u8 0)) := by kernel_rfl
theorem zc49 : zeroCells Tryd.prog 49 = some ([.int .i64 0, .int .u32 0, .int .u32 0, .int .u32 0, .int .u32 0, .int .u32 0, .int .u32 0, .int .u32 0, .int .u32 0] ++ List.replicate 64 (.int .u8 0)) := by kernel_rfl
theorem zc59 : zeroCells Tryd.prog 59 = some ([.slice none 0 0]) := by kernel_rfl
theorem zc65 : zeroCells Tryd.prog 65 = some ([.int .i64 0, .int .i64 0, .int .i64 0, .string { data := #[] }]) := by kernel_rfl
theorem zc68 : zeroCells Tryd.prog 68 = some ([.int .i64 0, .int .i64 0, .int .i64 0, .string { data := #[] }]) := by kernel_rfl
theorem zc115 : zeroCells Tryd.prog 115 = some ([.pointer none]) := by kernel_rfl
theorem zc123 : zeroCells Tryd.prog 123 = some ([.slice none 0 0]) := by kernel_rfl
theorem zc152 : zeroCells Tryd.prog 152 = some ([.int .u64 0, .int .u64 0, .int .u64 0, .int .u64 0, .int .u64 0]) := by kernel_rfl
theorem zc161 : zeroCells Tryd.prog 161 = some ([.int .i64 0, .int .i64 0]) := by kernel_rfl
theorem zc164 : zeroCells Tryd.prog 164 = some ([.int .i64 0, .int .i64 0, .string { data := #[] }, .int .i64 0]) := by kernel_rfl
theorem zc166 : zeroCells Tryd.prog 166 = some ([.pointer none, .int .i64 0, .int .i64 0]) := by kernel_rfl
theorem zc168 : zeroCells Tryd.prog 168 = some ([.int .i64 0, .int .i64 0, .int .i64 0, .int .i64 0]) := by kernel_rfl
theorem zc176 : zeroCells Tryd.prog 176 = some ([.int .i64 0, .int .i64 0]) := by kernel_rfl
theorem zc194 : zeroCells Tryd.prog 194 = some (List.replicate 512 (.int .u8 0)) := by kernel_rfl
theorem zc196 : zeroCells Tryd.prog 196 = some ([.int .i64 0] ++ List.replicate 512 (.int .u8 0)) := by kernel_rfl
theorem zc200 : zeroCells Tryd.prog 200 = some (List.replicate 64 (.int .u32 0)) := by kernel_rfl
theorem el5 : Elem Tryd.prog 5 1 1 := elem_of (by kernel_rfl)
theorem el9 : Elem Tryd.prog 9 1 16 := elem_of (by kernel_rfl)
theorem el65 : Elem Tryd.prog 65 4 40 := elem_of (by kernel_rfl)
theorem el68 : Elem Tryd.prog 68 4 40 := elem_of (by kernel_rfl)
theorem el93 : Elem Tryd.prog 93 5 48 := elem_of (by kernel_rfl)
theorem el95 : Elem Tryd.prog 95 5 48 := elem_of (by kernel_rfl)
theorem el127 : Elem Tryd.prog 127 2 24 := elem_of (by kernel_rfl)
theorem el176 : Elem Tryd.prog 176 2 16 := elem_of (by kernel_rfl)
theorem el196 : Elem Tryd.prog 196 513 520 := elem_of (by kernel_rfl)
theorem sz5 : (Tryd.prog.info? 5).map (·.size) = some 1 := by kernel_rfl
theorem sz9 : (Tryd.prog.info? 9).map (·.size) = some 1 := by kernel_rfl
theorem sz65 : (Tryd.prog.info? 65).map (·.size) = some 4 := by kernel_rfl
theorem sz68 : (Tryd.prog.info? 68).map (·.size) = some 4 := by kernel_rfl
theorem sz93 : (Tryd.prog.info? 93).map (·.size) = some 5 := by kernel_rfl
theorem sz95 : (Tryd.prog.info? 95).map (·.size) = some 5 := by kernel_rfl
theorem sz127 : (Tryd.prog.info? 127).map (·.size) = some 2 := by kernel_rfl
theorem sz176 : (Tryd.prog.info? 176).map (·.size) = some 2 := by kernel_rfl
theorem sz196 : (Tryd.prog.info? 196).map (·.size) = some 513 := by kernel_rfl
theorem entA : ∀ f ∈ ([19, 20, 21, 22, 23, 24, 25, 26, 27, 28, 29, 30, 31, 32, 33, 34, 35, 36, 37, 38, 39, 40, 41, 42, 43, 44, 45, 46, 47, 48, 49, 50, 51, 52, 53, 54, 55, 56, 57, 58, 59, 60, 61, 62, 63, 64, 65, 66, 67, 68, 69, 70, 71, 72, 73, 74, 75, 76, 77, 78, 79, 80, 81, 82, 83, 84, 85, 86, 87, 88, 89, 90, 91, 92, 93, 95, 96, 97, 98, 99, 100, 101, 102, 104, 105, 106, 108, 109, 110, 111, 112, 113, 114, 115, 116, 117, 118, 119, 120, 121, 122, 123, 124, 125, 127, 128, 129, 130, 131, 132, 133, 135, 136, 137, 138, 139, 140, 141, 142, 143, 144, 146, 147] : List Nat), entersB Tryd.prog f = true := by decide +kernel
end Go.Proofs.YtfilokdleehklaaDoor
