/- The padded text and the digest: plain facts. -/
import Derived.Test.YtfilokdleehklaaDoorHash
set_option linter.all false
namespace Go.Proofs.YtfilokdleehklaaDoor
open Go.RowKit
set_option maxRecDepth 100000
namespace Sha
/-- A number as eight bytes. -/
def be64 (n : Nat) : List UInt8 := [UInt8.ofNat (n / 72057594037927936), UInt8.ofNat (n / 281474976710656), UInt8.ofNat (n / 1099511627776), UInt8.ofNat (n / 4294967296), UInt8.ofNat (n / 16777216), UInt8.ofNat (n / 65536), UInt8.ofNat (n / 256), UInt8.ofNat n]
theorem be64_eq (n : Nat) : be64 n = [UInt8.ofNat (n / 72057594037927936), UInt8.ofNat (n / 281474976710656), UInt8.ofNat (n / 1099511627776), UInt8.ofNat (n / 4294967296), UInt8.ofNat (n / 16777216), UInt8.ofNat (n / 65536), UInt8.ofNat (n / 256), UInt8.ofNat n] := rfl
theorem be64_length (n : Nat) : (be64 n).length = 8 := rfl
def pad (m : List UInt8) : List UInt8 := m ++ (128 :: (List.replicate ((119 - m.length % 64) % 64) 0 ++ be64 (8 * m.length)))
def wbytes (w : W) : List UInt8 := [UInt8.ofNat (w.toNat / 16777216), UInt8.ofNat (w.toNat / 65536), UInt8.ofNat (w.toNat / 256), UInt8.ofNat w.toNat]
def bytes (v : V) : List UInt8 := wbytes v.a ++ wbytes v.b ++ wbytes v.c ++ wbytes v.d ++ wbytes v.e ++ wbytes v.f ++ wbytes v.g ++ wbytes v.h
theorem bytes_length (v : V) : (bytes v).length = 32 := rfl
def digest (m : List UInt8) : List UInt8 := bytes (blocks initial (pad m) ((pad m).length / 64))
theorem pad_length (m : List UInt8) : (pad m).length = m.length + 9 + (119 - m.length % 64) % 64 := by
  unfold pad
  rw [List.length_append, List.length_cons, List.length_append, List.length_replicate, be64_length]
  omega
theorem digest_length (m : List UInt8) : (digest m).length = 32 := rfl
section
variable (m rest : List UInt8) (hr : rest.length = 64) (hrest : ∀ i, i < m.length % 64 → rest[i]? = m[64 * (m.length / 64) + i]?)
include hr hrest
omit hr in
theorem head_pad (i : Nat) (hi : i < m.length % 64) : (pad m)[64 * (m.length / 64) + i]? = rest[i]? := by
  have hdm := Nat.div_add_mod m.length 64
  rw [hrest i hi]
  unfold pad
  rw [List.getElem?_append_left (by omega)]
theorem digest_short (h : m.length % 64 < 56) :
    digest m = bytes (compress (blocks initial m (m.length / 64)) (rest.take (m.length % 64) ++ (128 :: (List.replicate (55 - m.length % 64) 0 ++ be64 (8 * m.length))))) := by
  have hdm := Nat.div_add_mod m.length 64
  unfold digest
  rw [pad_length, show (m.length + 9 + (119 - m.length % 64) % 64) / 64 = m.length / 64 + 1 from by omega, blocks_succ]
  have hb : blocks initial (pad m) (m.length / 64) = blocks initial m (m.length / 64) := blocks_append _ _ _ _ (by omega)
  rw [hb]
  congr 1
  refine compress_congr _ _ _ (fun i hi => ?_)
  congr 1
  rw [List.getElem?_drop]
  by_cases h1 : i < m.length % 64
  · rw [head_pad m rest hrest i h1, List.getElem?_append_left (by rw [List.length_take]; omega), List.getElem?_take_of_lt h1]
  · rw [List.getElem?_append_right (by rw [List.length_take]; omega), List.length_take, hr, Nat.min_eq_left (by omega)]
    unfold pad
    rw [List.getElem?_append_right (by omega), show (119 - m.length % 64) % 64 = 55 - m.length % 64 from by omega]
    congr 1
    omega
theorem digest_long (h : 56 ≤ m.length % 64) :
    digest m = bytes (compress (compress (blocks initial m (m.length / 64)) (rest.take (m.length % 64) ++ (128 :: List.replicate (63 - m.length % 64) 0))) (List.replicate 56 0 ++ be64 (8 * m.length))) := by
  have hdm := Nat.div_add_mod m.length 64
  unfold digest
  rw [pad_length, show (m.length + 9 + (119 - m.length % 64) % 64) / 64 = m.length / 64 + 1 + 1 from by omega, blocks_succ, blocks_succ]
  have hb : blocks initial (pad m) (m.length / 64) = blocks initial m (m.length / 64) := blocks_append _ _ _ _ (by omega)
  rw [hb]
  have h1 : compress (blocks initial m (m.length / 64)) ((pad m).drop (64 * (m.length / 64))) = compress (blocks initial m (m.length / 64)) (rest.take (m.length % 64) ++ (128 :: List.replicate (63 - m.length % 64) 0)) := by
    refine compress_congr _ _ _ (fun i hi => ?_)
    congr 1
    rw [List.getElem?_drop]
    by_cases h1 : i < m.length % 64
    · rw [head_pad m rest hrest i h1, List.getElem?_append_left (by rw [List.length_take]; omega), List.getElem?_take_of_lt h1]
    · rw [List.getElem?_append_right (by rw [List.length_take]; omega), List.length_take, hr, Nat.min_eq_left (by omega)]
      unfold pad
      rw [List.getElem?_append_right (by omega), show 64 * (m.length / 64) + i - m.length = i - m.length % 64 from by omega]
      by_cases h2 : i = m.length % 64
      · rw [h2, Nat.sub_self]; rfl
      · obtain ⟨j, hj⟩ : ∃ j, i - m.length % 64 = j + 1 := ⟨i - m.length % 64 - 1, by omega⟩
        rw [hj, List.getElem?_cons_succ, List.getElem?_cons_succ, List.getElem?_append_left (by rw [List.length_replicate]; omega), List.getElem?_replicate, List.getElem?_replicate, if_pos (by omega), if_pos (by omega)]
  rw [h1]
  congr 1
  refine compress_congr _ _ _ (fun i hi => ?_)
  congr 1
  rw [List.getElem?_drop]
  unfold pad
  rw [List.getElem?_append_right (by omega)]
  obtain ⟨j, hj⟩ : ∃ j, 64 * (m.length / 64 + 1) + i - m.length = j + 1 := ⟨64 * (m.length / 64 + 1) + i - m.length - 1, by omega⟩
  rw [hj, List.getElem?_cons_succ]
  by_cases h2 : i < 56
  · rw [List.getElem?_append_left (by rw [List.length_replicate]; omega), List.getElem?_append_left (by rw [List.length_replicate]; omega), List.getElem?_replicate, List.getElem?_replicate, if_pos (by omega), if_pos (by omega)]
  · rw [List.getElem?_append_right (by rw [List.length_replicate]; omega), List.getElem?_append_right (by rw [List.length_replicate]; omega), List.length_replicate, List.length_replicate]
    congr 1
    omega
end
end Sha
/-- The eight bytes at the end, set one by one. -/
theorem set_tail (F : List Value) (hF : F.length = 56) (z : Value) (x0 x1 x2 x3 x4 x5 x6 x7 : Value) :
    ((((((((F ++ List.replicate 8 z).set 63 x7).set 62 x6).set 61 x5).set 60 x4).set 59 x3).set 58 x2).set 57 x1).set 56 x0 = F ++ [x0, x1, x2, x3, x4, x5, x6, x7] := by
  simp only [List.set_append_right _ _ (show F.length ≤ 63 by omega), List.set_append_right _ _ (show F.length ≤ 62 by omega), List.set_append_right _ _ (show F.length ≤ 61 by omega), List.set_append_right _ _ (show F.length ≤ 60 by omega),
    List.set_append_right _ _ (show F.length ≤ 59 by omega), List.set_append_right _ _ (show F.length ≤ 58 by omega), List.set_append_right _ _ (show F.length ≤ 57 by omega), List.set_append_right _ _ (show F.length ≤ 56 by omega), hF]
  rfl
theorem slice47_end (b o : Nat) (i : Int) (hk : i = 64) (w : World) : (Instr.sliceAt 47 (.pointer (some ⟨b, o, none⟩)) (some (.int .i64 i)) none none).run Tryd.prog w = .ok (.slice (some ⟨b, o, none⟩) 0 0) w := by
  subst hk
  have hl : Tryd.prog.arrayLen 47 = 64 := by kernel_rfl
  have hs : (sizeOf (Tryd.prog.elem 47)).run Tryd.prog w = .ok 1 w := by
    have : Tryd.prog.elem 47 = 5 := by kernel_rfl
    rw [this]
    have h2 : (Tryd.prog.info? 5).map (·.size) = some 1 := by kernel_rfl
    cases hi : Tryd.prog.info? 5 with
    | none => rw [hi] at h2; cases h2
    | some inf =>
      rw [hi] at h2
      have : inf.size = 1 := by simpa using h2
      simp [sizeOf, typeInfo, hi, this]
  rw [run_sliceAt_array_l (P := Tryd.prog) w _ _ (by rw [hl]; exact Tryd.underlying47) .i64 64 (by omega) (by rw [hl]; omega), hs, Result.andThen_ok, hl]
  rfl
theorem slice47_all (b o : Nat) (w : World) : (Instr.sliceAt 47 (.pointer (some ⟨b, o, none⟩)) none none none).run Tryd.prog w = .ok (.slice (some ⟨b, o, none⟩) 64 64) w := by
  have hl : Tryd.prog.arrayLen 47 = 64 := by kernel_rfl
  have hs : (sizeOf (Tryd.prog.elem 47)).run Tryd.prog w = .ok 1 w := by
    have : Tryd.prog.elem 47 = 5 := by kernel_rfl
    rw [this]
    have h2 : (Tryd.prog.info? 5).map (·.size) = some 1 := by kernel_rfl
    cases hi : Tryd.prog.info? 5 with
    | none => rw [hi] at h2; cases h2
    | some inf =>
      rw [hi] at h2
      have : inf.size = 1 := by simpa using h2
      simp [sizeOf, typeInfo, hi, this]
  rw [run_sliceAt_array_all (P := Tryd.prog) w _ _ (by rw [hl]; exact Tryd.underlying47), hs, Result.andThen_ok, hl]
  simp only [slicedAt]
  rw [if_neg (by omega), Addr.add_mid]
  simp
theorem zero_byte (w : World) : (zeroValue 5).run Tryd.prog w = .ok (.int .u8 0) w := by
  have h2 : (Tryd.prog.info? 5).bind (·.zero) = some (.int .u8 0) := by kernel_rfl
  cases hi : Tryd.prog.info? 5 with
  | none => rw [hi] at h2; cases h2
  | some inf =>
    rw [hi] at h2
    have h3 : inf.zero = some (.int .u8 0) := h2
    simp [zeroValue, typeInfo, hi, h3]
theorem Blk.setFar {w : World} {b k i : Nat} {T : TypeId} {l : List Value} (h : Blk w b T l) (hne : k ≠ b) (v : Value) : Blk (w.setCell ⟨k, i, none⟩ v) b T l := h.setOther (by exact hne) v
theorem Upd.setFar {S : List Nat} {a w : World} {k i : Nat} (h : Upd S a w) (hk : a.heap.size ≤ k) (v : Value) : Upd S a (w.setCell ⟨k, i, none⟩ v) := h.setCell _ _ (.inr hk)
theorem b8_ofNat (n : Nat) : b8 (UInt8.ofNat n) = .int .u8 ((n % 256 : Nat) : Int) := by
  unfold b8
  rw [UInt8.toNat_ofNat']
theorem be64_cells (n : Nat) (h : n ≤ 8000000000000) : (Sha.be64 n).map b8 = [.int .u8 ((n : Int) / 72057594037927936), .int .u8 ((n : Int) / 281474976710656), .int .u8 ((n : Int) / 1099511627776), .int .u8 ((n : Int) / 4294967296 % 256),
    .int .u8 ((n : Int) / 16777216 % 256), .int .u8 ((n : Int) / 65536 % 256), .int .u8 ((n : Int) / 256 % 256), .int .u8 ((n : Int) % 256)] := by
  rw [Sha.be64_eq]
  simp only [List.map_cons, List.map_nil, b8_ofNat]
  have e1 : ((n / 72057594037927936 % 256 : Nat) : Int) = (n : Int) / 72057594037927936 := by omega
  have e2 : ((n / 281474976710656 % 256 : Nat) : Int) = (n : Int) / 281474976710656 := by omega
  have e3 : ((n / 1099511627776 % 256 : Nat) : Int) = (n : Int) / 1099511627776 := by omega
  have e4 : ((n / 4294967296 % 256 : Nat) : Int) = (n : Int) / 4294967296 % 256 := by omega
  have e5 : ((n / 16777216 % 256 : Nat) : Int) = (n : Int) / 16777216 % 256 := by omega
  have e6 : ((n / 65536 % 256 : Nat) : Int) = (n : Int) / 65536 % 256 := by omega
  have e7 : ((n / 256 % 256 : Nat) : Int) = (n : Int) / 256 % 256 := by omega
  have e8 : ((n % 256 : Nat) : Int) = (n : Int) % 256 := by omega
  rw [e1, e2, e3, e4, e5, e6, e7, e8]
theorem wbytes_cells (w : Sha.W) : (Sha.wbytes w).map b8 = [.int .u8 ((w.toNat : Int) / 16777216), .int .u8 ((w.toNat : Int) / 65536 % 256), .int .u8 ((w.toNat : Int) / 256 % 256), .int .u8 ((w.toNat : Int) % 256)] := by
  have h := w.isLt
  unfold Sha.wbytes
  simp only [List.map_cons, List.map_nil, b8_ofNat]
  have e1 : ((w.toNat / 16777216 % 256 : Nat) : Int) = (w.toNat : Int) / 16777216 := by omega
  have e6 : ((w.toNat / 65536 % 256 : Nat) : Int) = (w.toNat : Int) / 65536 % 256 := by omega
  have e7 : ((w.toNat / 256 % 256 : Nat) : Int) = (w.toNat : Int) / 256 % 256 := by omega
  have e8 : ((w.toNat % 256 : Nat) : Int) = (w.toNat : Int) % 256 := by omega
  rw [e1, e6, e7, e8]
theorem bytes_cells (v : Sha.V) : (Sha.bytes v).map b8 = [.int .u8 ((v.a.toNat : Int) / 16777216), .int .u8 ((v.a.toNat : Int) / 65536 % 256), .int .u8 ((v.a.toNat : Int) / 256 % 256), .int .u8 ((v.a.toNat : Int) % 256), .int .u8 ((v.b.toNat : Int) / 16777216), .int .u8 ((v.b.toNat : Int) / 65536 % 256), .int .u8 ((v.b.toNat : Int) / 256 % 256), .int .u8 ((v.b.toNat : Int) % 256), .int .u8 ((v.c.toNat : Int) / 16777216), .int .u8 ((v.c.toNat : Int) / 65536 % 256), .int .u8 ((v.c.toNat : Int) / 256 % 256), .int .u8 ((v.c.toNat : Int) % 256), .int .u8 ((v.d.toNat : Int) / 16777216), .int .u8 ((v.d.toNat : Int) / 65536 % 256), .int .u8 ((v.d.toNat : Int) / 256 % 256), .int .u8 ((v.d.toNat : Int) % 256), .int .u8 ((v.e.toNat : Int) / 16777216), .int .u8 ((v.e.toNat : Int) / 65536 % 256), .int .u8 ((v.e.toNat : Int) / 256 % 256), .int .u8 ((v.e.toNat : Int) % 256), .int .u8 ((v.f.toNat : Int) / 16777216), .int .u8 ((v.f.toNat : Int) / 65536 % 256), .int .u8 ((v.f.toNat : Int) / 256 % 256), .int .u8 ((v.f.toNat : Int) % 256), .int .u8 ((v.g.toNat : Int) / 16777216), .int .u8 ((v.g.toNat : Int) / 65536 % 256), .int .u8 ((v.g.toNat : Int) / 256 % 256), .int .u8 ((v.g.toNat : Int) % 256), .int .u8 ((v.h.toNat : Int) / 16777216), .int .u8 ((v.h.toNat : Int) / 65536 % 256), .int .u8 ((v.h.toNat : Int) / 256 % 256), .int .u8 ((v.h.toNat : Int) % 256)] := by
  unfold Sha.bytes
  simp only [List.map_append, wbytes_cells, List.cons_append, List.nil_append]
theorem arm_load28 {ops : Array Oper} {rest : List Oper} {o : Oper} {a : Act} {w : World} {Q : Exit → Act → World → Prop} (hgd : Region.wanted o (yielded ops a.tmps) = true) (x : Operand) (ho : o.op = .load 28 x) (b off : Nat) (hx : a.eval x = .pointer (some ⟨b, off, none⟩)) (cs : List Value)
    (hc : w.rangeAt b off cs) (hl : cs.length = 32) (h : wpList Tryd.prog ops Q rest (a.put o.dst (.agg cs.toArray)) w) : wpList Tryd.prog ops Q (o :: rest) a w :=
  arm_load _ _ Tryd.underlying28 rfl hgd x ho b off hx cs hc (by rw [hl]; kernel_rfl) h
theorem arm_store28 {ops : Array Oper} {rest : List Oper} {o : Oper} {a : Act} {w : World} {Q : Exit → Act → World → Prop} (hgd : Region.wanted o (yielded ops a.tmps) = true) (hdst : o.dst = none) (x y : Operand) (ho : o.op = .store 28 x y) (b off : Nat) (hx : a.eval x = .pointer (some ⟨b, off, none⟩)) (cs : List Value) (hy : a.eval y = .agg cs.toArray)
    (ht : w.there b off 32) (hl : cs.length = 32) (h1 : ∀ v ∈ cs, v.oneCell' = true) (h : wpList Tryd.prog ops Q rest a (w.setCells b off cs)) : wpList Tryd.prog ops Q (o :: rest) a w :=
  arm_store _ hgd hdst x y ho b off hx cs hy (by rw [hl]; exact ht) (by rw [hl]; kernel_rfl) h1 h
theorem arm_clear {ops : Array Oper} {rest : List Oper} {o : Oper} {a : Act} {w : World} {Q : Exit → Act → World → Prop} (hgd : Region.wanted o (yielded ops a.tmps) = true) (hdst : o.dst = none) (d : Operand)
    (ho : o.op = .call { callee := .builtin .clear, args := #[d], argTypes := #[59] }) (b off n c : Nat) (hd : a.eval d = .slice (some ⟨b, off, none⟩) n c)
    (ht : w.there b off n) (h : wpList Tryd.prog ops Q rest a (w.setCells b off ((List.replicate n (0 : UInt8)).map b8))) : wpList Tryd.prog ops Q (o :: rest) a w := by
  refine arm hgd (.tuple #[]) (w.setCells b off ((List.replicate n (0 : UInt8)).map b8)) ?_ (by rw [hdst]; exact h)
  have e : (List.replicate n (0 : UInt8)).map b8 = List.replicate n (.int .u8 0) := by rw [List.map_replicate]; rfl
  have hr : (Builtin.clear_ #[59] o.type #[.slice (some ⟨b, off, none⟩) n c]).run Tryd.prog w = .ok (.tuple #[]) (w.setCells b off (List.replicate n (.int .u8 0))) := by
    by_cases hn : n = 0
    · subst hn
      simp [Builtin.clear_, run_underlying Tryd.underlying59, World.setCells]
    · exact Lib.run_clear_slice w _ _ _ _ Tryd.underlying59 zero_byte rfl rfl b off n c (by omega) (fun j hj => (ht j hj).1) (fun j hj => (ht j hj).2)
  unfold execOp
  simp only [ho, resolve, invoke, builtin, Sem.run_bind, Sem.run_pure, Result.andThen_ok, List.map_toArray, List.map_cons, List.map_nil, hd, hr, e]
attribute [irreducible] Sha.bytes Sha.digest Sha.be64
end Go.Proofs.YtfilokdleehklaaDoor
