/- Plain laws: 32-bit words in the model's integers, and SHA-256 on words. No program in sight. -/
import Derived.Test.YtfilokdleehklaaDoorMem
set_option linter.all false
namespace Go.Proofs.YtfilokdleehklaaDoor
open Go.RowKit

namespace W32
theorem ofInt_toNat (x : BitVec 32) : BitVec.ofInt 32 (x.toNat : Int) = x := by
  apply BitVec.eq_of_toNat_eq
  simp
theorem wrap_u32 (n : Int) : IntKind.u32.wrap n = n % 4294967296 := by simp [IntKind.wrap, IntKind.bits, IntKind.signed]
theorem wrap_nat (x : BitVec 32) : IntKind.u32.wrap (x.toNat : Int) = x.toNat := by
  rw [wrap_u32]; have := x.isLt; omega
theorem bits_xor (x y : BitVec 32) : bits .xor .u32 (x.toNat : Int) (y.toNat : Int) = ((x ^^^ y).toNat : Int) := by
  show IntKind.u32.wrap ((BitVec.ofInt 32 (x.toNat : Int) ^^^ BitVec.ofInt 32 (y.toNat : Int)).toNat : Int) = _
  rw [ofInt_toNat, ofInt_toNat, wrap_nat]
theorem bits_and (x y : BitVec 32) : bits .and .u32 (x.toNat : Int) (y.toNat : Int) = ((x &&& y).toNat : Int) := by
  show IntKind.u32.wrap ((BitVec.ofInt 32 (x.toNat : Int) &&& BitVec.ofInt 32 (y.toNat : Int)).toNat : Int) = _
  rw [ofInt_toNat, ofInt_toNat, wrap_nat]
theorem bits_or (x y : BitVec 32) : bits .or .u32 (x.toNat : Int) (y.toNat : Int) = ((x ||| y).toNat : Int) := by
  show IntKind.u32.wrap ((BitVec.ofInt 32 (x.toNat : Int) ||| BitVec.ofInt 32 (y.toNat : Int)).toNat : Int) = _
  rw [ofInt_toNat, ofInt_toNat, wrap_nat]
theorem bits_not (y : BitVec 32) : bits .xor .u32 4294967295 (y.toNat : Int) = ((4294967295#32 ^^^ y).toNat : Int) := by
  rw [show (4294967295 : Int) = (((4294967295#32 : BitVec 32).toNat : Nat) : Int) from by decide]
  exact bits_xor _ _
theorem wrap_add (x y : BitVec 32) : IntKind.u32.wrap ((x.toNat : Int) + (y.toNat : Int)) = ((x + y).toNat : Int) := by
  rw [wrap_u32, BitVec.toNat_add]; omega
theorem mod_add (x y : BitVec 32) : ((x.toNat : Int) + (y.toNat : Int)) % 4294967296 = ((x + y).toNat : Int) := by
  rw [BitVec.toNat_add]; omega
theorem shr (x : BitVec 32) (n : Nat) : (x.toNat : Int) / 2 ^ n = ((x >>> n).toNat : Int) := by
  rw [BitVec.toNat_ushiftRight, Nat.shiftRight_eq_div_pow, Int.natCast_ediv, Int.natCast_pow]
  rfl
theorem shl (x : BitVec 32) (n : Nat) : (x.toNat : Int) * 2 ^ n % 4294967296 = ((x <<< n).toNat : Int) := by
  rw [BitVec.toNat_shiftLeft, Nat.shiftLeft_eq, Int.natCast_emod, Int.natCast_mul, Int.natCast_pow]
  rfl
theorem mod_add4 (a b c d : BitVec 32) : ((a.toNat : Int) + (b.toNat : Int) + (c.toNat : Int) + (d.toNat : Int)) % 4294967296 = ((a + b + c + d).toNat : Int) := by
  rw [BitVec.toNat_add, BitVec.toNat_add, BitVec.toNat_add]; omega
theorem mod_add5 (a b c d e : BitVec 32) : ((a.toNat : Int) + (b.toNat : Int) + (c.toNat : Int) + (d.toNat : Int) + (e.toNat : Int)) % 4294967296 = ((a + b + c + d + e).toNat : Int) := by
  rw [BitVec.toNat_add, BitVec.toNat_add, BitVec.toNat_add, BitVec.toNat_add]; omega
theorem ones : (if IntKind.u32.signed = true then (-1 : Int) else IntKind.u32.max) = (((4294967295#32 : BitVec 32).toNat : Nat) : Int) := by decide
theorem shr3 (x : BitVec 32) : (x.toNat : Int) / (8 : Int) = ((x >>> 3).toNat : Int) := shr x 3
theorem shr10 (x : BitVec 32) : (x.toNat : Int) / (1024 : Int) = ((x >>> 10).toNat : Int) := shr x 10
theorem shr24 (x : BitVec 32) : (x.toNat : Int) / (16777216 : Int) = ((x >>> 24).toNat : Int) := shr x 24
theorem shr16 (x : BitVec 32) : (x.toNat : Int) / (65536 : Int) = ((x >>> 16).toNat : Int) := shr x 16
theorem shr8 (x : BitVec 32) : (x.toNat : Int) / (256 : Int) = ((x >>> 8).toNat : Int) := shr x 8
end W32

/-! The plain functions of SHA-256, on words. -/
namespace Sha
abbrev W := BitVec 32
def rot (n : Nat) (x : W) : W := (x >>> n) ||| (x <<< (32 - n))
def e0 (x : W) : W := rot 7 x ^^^ rot 18 x ^^^ (x >>> 3)
def e1 (x : W) : W := rot 17 x ^^^ rot 19 x ^^^ (x >>> 10)
def word (a b c d : UInt8) : W := (BitVec.ofNat 32 a.toNat <<< 24) ||| (BitVec.ofNat 32 b.toNat <<< 16) ||| (BitVec.ofNat 32 c.toNat <<< 8) ||| BitVec.ofNat 32 d.toNat
/-- word t of a block of 64 bytes -/
def wordAt (l : List UInt8) (t : Nat) : W := word (l[4 * t]?.getD 0) (l[4 * t + 1]?.getD 0) (l[4 * t + 2]?.getD 0) (l[4 * t + 3]?.getD 0)
def words (l : List UInt8) : Nat → List W
  | 0 => []
  | t + 1 => words l t ++ [wordAt l t]
/-- k words more -/
def more (l : List W) : Nat → List W
  | 0 => l
  | k + 1 => let m := more l k; m ++ [m[k]?.getD 0 + e0 (m[k + 1]?.getD 0) + m[k + 9]?.getD 0 + e1 (m[k + 14]?.getD 0)]
structure V where
  a : W
  b : W
  c : W
  d : W
  e : W
  f : W
  g : W
  h : W
  deriving DecidableEq
def f0 (v : V) : W := (rot 2 v.a ^^^ rot 13 v.a ^^^ rot 22 v.a) + (v.a &&& v.b ^^^ v.a &&& v.c ^^^ v.b &&& v.c)
def f1 (v : V) (k w : W) : W := v.h + (rot 6 v.e ^^^ rot 11 v.e ^^^ rot 25 v.e) + (v.e &&& v.f ^^^ (4294967295#32 ^^^ v.e) &&& v.g) + k + w
def step (v : V) (k w : W) : V := let p := f1 v k w; ⟨p + f0 v, v.a, v.b, v.c, v.d + p, v.e, v.f, v.g⟩
def rounds (v : V) (ks ws : List W) : Nat → V
  | 0 => v
  | t + 1 => step (rounds v ks ws t) (ks[t]?.getD 0) (ws[t]?.getD 0)
def add (x y : V) : V := ⟨x.a + y.a, x.b + y.b, x.c + y.c, x.d + y.d, x.e + y.e, x.f + y.f, x.g + y.g, x.h + y.h⟩
def ks : List W := [0x428a2f98, 0x71374491, 0xb5c0fbcf, 0xe9b5dba5, 0x3956c25b, 0x59f111f1, 0x923f82a4, 0xab1c5ed5,
  0xd807aa98, 0x12835b01, 0x243185be, 0x550c7dc3, 0x72be5d74, 0x80deb1fe, 0x9bdc06a7, 0xc19bf174,
  0xe49b69c1, 0xefbe4786, 0x0fc19dc6, 0x240ca1cc, 0x2de92c6f, 0x4a7484aa, 0x5cb0a9dc, 0x76f988da,
  0x983e5152, 0xa831c66d, 0xb00327c8, 0xbf597fc7, 0xc6e00bf3, 0xd5a79147, 0x06ca6351, 0x14292967,
  0x27b70a85, 0x2e1b2138, 0x4d2c6dfc, 0x53380d13, 0x650a7354, 0x766a0abb, 0x81c2c92e, 0x92722c85,
  0xa2bfe8a1, 0xa81a664b, 0xc24b8b70, 0xc76c51a3, 0xd192e819, 0xd6990624, 0xf40e3585, 0x106aa070,
  0x19a4c116, 0x1e376c08, 0x2748774c, 0x34b0bcb5, 0x391c0cb3, 0x4ed8aa4a, 0x5b9cca4f, 0x682e6ff3,
  0x748f82ee, 0x78a5636f, 0x84c87814, 0x8cc70208, 0x90befffa, 0xa4506ceb, 0xbef9a3f7, 0xc67178f2]
def schedule (l : List UInt8) : List W := more (words l 16) 48
/-- The state behind a block. -/
def compress (v : V) (l : List UInt8) : V := add v (rounds v ks (schedule l) 64)
def initial : V := ⟨0x6a09e667, 0xbb67ae85, 0x3c6ef372, 0xa54ff53a, 0x510e527f, 0x9b05688c, 0x1f83d9ab, 0x5be0cd19⟩
def V.list (v : V) : List W := [v.a, v.b, v.c, v.d, v.e, v.f, v.g, v.h]

theorem words_length (l : List UInt8) (t : Nat) : (words l t).length = t := by
  induction t with
  | zero => rfl
  | succ t ih => simp [words, ih]
theorem more_length (l : List W) (k : Nat) : (more l k).length = l.length + k := by
  induction k with
  | zero => rfl
  | succ k ih => simp [more, ih]; omega
theorem words_getD (l : List UInt8) (n : Nat) : ∀ t, t < n → (words l n).getD t 0 = wordAt l t := by
  induction n with
  | zero => intro t h; omega
  | succ n ih =>
    intro t h
    have hl := words_length l n
    by_cases e : t = n
    · subst e
      simp [words, List.getD_eq_getElem?_getD, hl]
    · have : t < n := by omega
      rw [← ih t this]
      simp only [words, List.getD_eq_getElem?_getD]
      rw [List.getElem?_append_left (by omega)]
theorem more_getD_old (l : List W) (k : Nat) : ∀ t, t < l.length + k → ∀ j, (more l (k + j)).getD t 0 = (more l k).getD t 0 := by
  intro t h j
  induction j with
  | zero => rfl
  | succ j ih =>
    rw [← ih]
    show (more l (k + j) ++ _).getD t 0 = _
    simp only [List.getD_eq_getElem?_getD]
    rw [List.getElem?_append_left (by rw [more_length]; omega)]
theorem rot_eq (n : Nat) (x : W) : rot n x = (x >>> n) ||| (x <<< (32 - n)) := rfl
theorem words_succ (l : List UInt8) (t : Nat) : words l (t + 1) = words l t ++ [wordAt l t] := rfl
theorem more_succ (l : List W) (k : Nat) : more l (k + 1) = more l k ++ [(more l k)[k]?.getD 0 + e0 ((more l k)[k + 1]?.getD 0) + (more l k)[k + 9]?.getD 0 + e1 ((more l k)[k + 14]?.getD 0)] := rfl
theorem more_zero (l : List W) : more l 0 = l := rfl
theorem rounds_succ (v : V) (ks ws : List W) (t : Nat) : rounds v ks ws (t + 1) = step (rounds v ks ws t) (ks[t]?.getD 0) (ws[t]?.getD 0) := rfl
theorem rounds_zero (v : V) (ks ws : List W) : rounds v ks ws 0 = v := rfl
theorem schedule_eq (l : List UInt8) : schedule l = more (words l 16) 48 := rfl
theorem schedule_length (l : List UInt8) : (schedule l).length = 64 := by rw [schedule_eq, more_length, words_length]
theorem compress_eq (v : V) (l : List UInt8) : compress v l = add v (rounds v ks (schedule l) 64) := rfl
theorem word_spec (a b c d : UInt8) : bits .or .u32 (bits .or .u32 (bits .or .u32 ((a.toNat : Int) % 4294967296 * 16777216 % 4294967296) ((b.toNat : Int) % 4294967296 * 65536 % 4294967296)) ((c.toNat : Int) % 4294967296 * 256 % 4294967296)) ((d.toNat : Int) % 4294967296) = ((word a b c d).toNat : Int) := by
  have hb : ∀ x : UInt8, (x.toNat : Int) % 4294967296 = ((BitVec.ofNat 32 x.toNat).toNat : Int) := by
    intro x
    have h1 : x.toNat < 256 := x.toNat_lt
    rw [BitVec.toNat_ofNat, Nat.mod_eq_of_lt (by omega)]
    omega
  rw [hb, hb, hb, hb, show (16777216 : Int) = 2 ^ 24 from by decide, show (65536 : Int) = 2 ^ 16 from by decide, show (256 : Int) = 2 ^ 8 from by decide, W32.shl, W32.shl, W32.shl, W32.bits_or, W32.bits_or, W32.bits_or]
  rfl
attribute [irreducible] words more rounds schedule compress word rot
end Sha

theorem set_fill {α : Type} (xs : List α) (n : Nat) (z x : α) : (xs ++ List.replicate (n + 1) z).set xs.length x = xs ++ [x] ++ List.replicate n z := by
  rw [List.set_append_right _ _ (Nat.le_refl _), Nat.sub_self, List.replicate_succ]
  simp
theorem Blk.cellW {w : World} {b : Nat} {T : TypeId} {m r : List Sha.W} (h : Blk w b T ((m ++ r).map w32)) (i : Nat) (hi : i < m.length) : w.cell? ⟨b, i, none⟩ = some (.int .u32 ((m[i]?.getD 0).toNat : Int)) := by
  refine h.cellD ?_
  rw [List.getElem?_map, List.getElem?_append_left hi, List.getElem?_eq_getElem hi]
  rfl
end Go.Proofs.YtfilokdleehklaaDoor
