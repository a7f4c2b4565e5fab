/- Plain facts on hexadecimal texts. No program in sight. -/
import Derived.Test.YtfilokdleehklaaDoorRParse
set_option linter.all false
namespace Go.Proofs.YtfilokdleehklaaDoor
open Go.RowKit
/-- The value of the digit at a place. -/
def dv (s : List UInt8) (k : Nat) : Nat := (hexv (s[k]?.getD 0)).getD 0
theorem dv_lt (s : List UInt8) (k : Nat) : dv s k < 16 := by
  unfold dv
  cases h : hexv (s[k]?.getD 0) with
  | none => simp
  | some v => simpa using hexv_lt h
theorem acc_spec (s : List UInt8) : ∀ i, i ≤ 64 → ∀ j, j < 32 → (acc s i)[j]? = some (UInt8.ofNat (if 2 * j + 1 < i then dv s (2 * j) * 16 + dv s (2 * j + 1) else if 2 * j < i then dv s (2 * j) else 0))
  | 0, _, j, hj => by
    rw [acc_zero, List.getElem?_replicate, if_pos hj]
    rfl
  | i + 1, hi, j, hj => by
    have ih := acc_spec s i (by omega)
    have hlen := acc_length s i
    rw [acc_succ]
    by_cases h : i / 2 = j
    · rw [h, List.getElem?_set_self (by omega), ih j hj]
      congr 2
      show (UInt8.ofNat _).toNat * 16 + dv s i = _
      by_cases h2 : i = 2 * j
      · subst h2
        rw [if_neg (by omega), if_neg (by omega), if_neg (by omega), if_pos (by omega)]
        simp
      · have h3 : i = 2 * j + 1 := by omega
        subst h3
        rw [if_neg (by omega), if_pos (by omega), if_pos (by omega), UInt8.toNat_ofNat', Nat.mod_eq_of_lt (by have := dv_lt s (2 * j); omega)]
    · rw [List.getElem?_set_ne h, ih j hj]
      congr 2
      have e1 : (2 * j + 1 < i) ↔ (2 * j + 1 < i + 1) := by omega
      have e2 : (2 * j < i) ↔ (2 * j < i + 1) := by omega
      simp only [e1, e2]
theorem hex_at : ∀ (d : List UInt8) (j : Nat), (hex d)[2 * j]? = d[j]?.map (fun x => hexd (x.toNat / 16)) ∧ (hex d)[2 * j + 1]? = d[j]?.map (fun x => hexd (x.toNat % 16))
  | [], j => by simp [hex]
  | x :: d, 0 => by simp [hex]
  | x :: d, j + 1 => by
    have ih := hex_at d j
    have e : hex (x :: d) = hexd (x.toNat / 16) :: hexd (x.toNat % 16) :: hex d := by simp [hex]
    rw [e, show 2 * (j + 1) = (2 * j + 1) + 1 from by omega, List.getElem?_cons_succ, List.getElem?_cons_succ, List.getElem?_cons_succ, List.getElem?_cons_succ, List.getElem?_cons_succ]
    exact ih
theorem hex_acc (s : List UInt8) (hs : s.length = 64) (hg : ∀ j, j < 64 → (hexv (s[j]?.getD 0)).isSome = true) : hex (acc s 64) = s := by
  have hd : ∀ k, k < 64 → s[k]? = some (hexd (dv s k)) := by
    intro k hk
    have h1 := hg k hk
    unfold dv
    cases h : hexv (s[k]?.getD 0) with
    | none => rw [h] at h1; cases h1
    | some v =>
      rw [Option.getD_some, hexd_hexv _ _ h, List.getElem?_eq_getElem (by omega)]
      rfl
  apply List.ext_getElem?
  intro k
  by_cases hk : k < 64
  · have hj : k / 2 < 32 := by omega
    have hat := hex_at (acc s 64) (k / 2)
    rw [acc_spec s 64 (by omega) (k / 2) hj, if_pos (by omega)] at hat
    have l1 := dv_lt s (2 * (k / 2))
    have l2 := dv_lt s (2 * (k / 2) + 1)
    simp only [Option.map_some, UInt8.toNat_ofNat'] at hat
    rw [Nat.mod_eq_of_lt (by omega), show (dv s (2 * (k / 2)) * 16 + dv s (2 * (k / 2) + 1)) / 16 = dv s (2 * (k / 2)) from by omega, show (dv s (2 * (k / 2)) * 16 + dv s (2 * (k / 2) + 1)) % 16 = dv s (2 * (k / 2) + 1) from by omega] at hat
    rw [hd k hk]
    by_cases h2 : k = 2 * (k / 2)
    · have := hat.1
      rw [← h2] at this
      exact this
    · have h3 : k = 2 * (k / 2) + 1 := by omega
      have := hat.2
      rw [← h3] at this
      exact this
  · rw [List.getElem?_eq_none (by rw [hex_length, acc_length]; omega), List.getElem?_eq_none (by omega)]
theorem acc_hex (d : List UInt8) (hd : d.length = 32) : acc (hex d) 64 = d := by
  apply List.ext_getElem?
  intro j
  by_cases hj : j < 32
  · rw [acc_spec _ 64 (by omega) j hj, if_pos (by omega)]
    have hat := hex_at d j
    rw [List.getElem?_eq_getElem (show j < d.length by omega)] at hat ⊢
    have hx := (d[j]).toNat_lt
    have e1 : dv (hex d) (2 * j) = d[j].toNat / 16 := by
      unfold dv
      rw [hat.1, Option.map_some, Option.getD_some, hexv_hexd _ (by omega)]
      rfl
    have e2 : dv (hex d) (2 * j + 1) = d[j].toNat % 16 := by
      unfold dv
      rw [hat.2, Option.map_some, Option.getD_some, hexv_hexd _ (by omega)]
      rfl
    rw [e1, e2, show d[j].toNat / 16 * 16 + d[j].toNat % 16 = d[j].toNat from by omega, UInt8.ofNat_toNat]
  · rw [List.getElem?_eq_none (by rw [acc_length]; omega), List.getElem?_eq_none (by omega)]
theorem hex_good (d : List UInt8) (hd : d.length = 32) : ∀ k, k < 64 → (hexv ((hex d)[k]?.getD 0)).isSome = true := by
  intro k hk
  have hat := hex_at d (k / 2)
  rw [List.getElem?_eq_getElem (show k / 2 < d.length by omega)] at hat
  have hx := (d[k / 2]'(by omega)).toNat_lt
  by_cases h2 : k = 2 * (k / 2)
  · have := hat.1
    rw [← h2] at this
    rw [this, Option.map_some, Option.getD_some, hexv_hexd _ (by omega)]
    rfl
  · have h3 : k = 2 * (k / 2) + 1 := by omega
    have := hat.2
    rw [← h3] at this
    rw [this, Option.map_some, Option.getD_some, hexv_hexd _ (by omega)]
    rfl
theorem parse_hex (d : List UInt8) (hd : d.length = 32) : parse (hex d) = (d, 0, 0) := by
  have hl : (hex d).length = 64 := by rw [hex_length, hd]
  rw [parse_good _ (fun j hj => hex_good d hd j (by omega)), if_neg (by omega), if_neg (by omega), acc_hex d hd]
/-- What Parse accepts is printed unchanged. -/
theorem parse_text (s : List UInt8) : (parse s).1.length = 32 ∧ ((parse s).2.2 = 0 → hex (parse s).1 = s) := by
  cases h : (List.range (min s.length 64)).find? (fun i => (hexv (s[i]?.getD 0)).isNone) with
  | some i =>
    rw [List.find?_range_eq_some] at h
    obtain ⟨h1, h2, h3⟩ := h
    rw [parse_bad s i (by simpa using h2) (by simpa using h1) (fun j hj => by have := h3 j hj; cases hx : hexv (s[j]?.getD 0) with | none => rw [hx] at this; simp at this | some v => rfl)]
    simp
  | none =>
    rw [List.find?_eq_none] at h
    have hg : ∀ j, j < min s.length 64 → (hexv (s[j]?.getD 0)).isSome = true := by
      intro j hj
      have := h j (by simpa using hj)
      cases hx : hexv (s[j]?.getD 0) with
      | none => rw [hx] at this; simp at this
      | some v => rfl
    rw [parse_good s hg]
    by_cases h1 : s.length < 64
    · rw [if_pos h1]; simp
    · by_cases h2 : 64 < s.length
      · rw [if_neg h1, if_pos h2]; simp
      · rw [if_neg h1, if_neg h2]
        exact ⟨acc_length s 64, fun _ => hex_acc s (by omega) (fun j hj => hg j (by omega))⟩
end Go.Proofs.YtfilokdleehklaaDoor
