/- Plain facts on thresholds. No program here. -/
import Derived.Test.YtlfcaigofakkoaaBits
namespace Go.Proofs.Ytlfcaigofakkoaa
namespace Bt

/-- The byte of a number. -/
def tcode (v : Nat) : Nat :=
  if v = 0 then 0 else if v % 4503599627370496 = 0 ∧ 780 ≤ v / 4503599627370496 ∧ v / 4503599627370496 ≤ 1033 then v / 4503599627370496 - 779 else 255

theorem tcode_zero : tcode 0 = 0 := by rw [tcode, if_pos rfl]
theorem tcode_pow {c : Nat} (h1 : 1 ≤ c) (h2 : c ≤ 254) : tcode ((c + 779) * 4503599627370496) = c := by
  rw [tcode, if_neg (by omega), if_pos (by omega)]
  omega
theorem tcode_cases (v : Nat) : (v = 0 ∧ tcode v = 0) ∨ (∃ c, 1 ≤ c ∧ c ≤ 254 ∧ v = (c + 779) * 4503599627370496 ∧ tcode v = c) ∨
    (v ≠ 0 ∧ tcode v = 255 ∧ (v % 4503599627370496 ≠ 0 ∨ v / 4503599627370496 < 780 ∨ 1033 < v / 4503599627370496)) := by
  by_cases h0 : v = 0
  · exact .inl ⟨h0, by rw [h0, tcode_zero]⟩
  · by_cases h : v % 4503599627370496 = 0 ∧ 780 ≤ v / 4503599627370496 ∧ v / 4503599627370496 ≤ 1033
    · refine .inr (.inl ⟨v / 4503599627370496 - 779, by omega, by omega, by omega, ?_⟩)
      rw [tcode, if_neg h0, if_pos h]
    · refine .inr (.inr ⟨h0, ?_, by omega⟩)
      rw [tcode, if_neg h0, if_neg h]
theorem tcode_le (v : Nat) : tcode v ≤ 255 := by
  rcases tcode_cases v with ⟨_, h⟩ | ⟨c, _, _, _, h⟩ | ⟨_, h, _⟩ <;> omega

/-- The bits of a threshold. -/
def tbits (v : Nat) : List Bool := if tcode v = 255 then bitsOf 255 8 ++ bitsOf v 64 else bitsOf (tcode v) 8
theorem tbits_far {v : Nat} (h : tcode v = 255) : tbits v = bitsOf 255 8 ++ bitsOf v 64 := by rw [tbits, if_pos h]
theorem tbits_near {v : Nat} (h : tcode v ≠ 255) : tbits v = bitsOf (tcode v) 8 := by rw [tbits, if_neg h]

/-- The threshold at the beginning of bits: the number, how many bits, an error's number. -/
def tp (l : List Bool) : Nat × Nat × Nat :=
  if l.length < 8 then (0, 0, 16)
  else if bval (l.take 8) = 0 then (0, 8, 0)
  else if bval (l.take 8) < 255 then ((bval (l.take 8) + 779) * 4503599627370496, 8, 0)
  else if l.length < 72 then (0, 0, 16)
  else if 9218868437227405312 ≤ bval ((l.drop 8).take 64) then (0, 0, 11)
  else if tcode (bval ((l.drop 8).take 64)) ≠ 255 then (0, 0, 10)
  else (bval ((l.drop 8).take 64), 72, 0)

theorem tp_tbits (v : Nat) (hv : v < 9218868437227405312) : tp (tbits v) = (v, (tbits v).length, 0) := by
  rcases tcode_cases v with ⟨rfl, h⟩ | ⟨c, h1, h2, h3, h⟩ | ⟨h0, h, _⟩
  · rw [tbits_near (by omega), h]; decide
  · have e : bval ((bitsOf c 8).take 8) = c := by
      rw [List.take_of_length_le (by rw [len_bitsOf]; omega), bval_bitsOf, Nat.mod_eq_of_lt (by omega)]
    rw [tbits_near (by omega), h, tp, e, len_bitsOf, if_neg (by omega), if_neg (by omega), if_pos (by omega), h3]
  · have e1 : bval ((bitsOf 255 8 ++ bitsOf v 64).take 8) = 255 := by
      rw [List.take_left' (len_bitsOf _ _), bval_bitsOf]
    have e2 : bval (((bitsOf 255 8 ++ bitsOf v 64).drop 8).take 64) = v := by
      rw [List.drop_left' (len_bitsOf _ _), List.take_of_length_le (by rw [len_bitsOf]; omega), bval_bitsOf, Nat.mod_eq_of_lt (by omega)]
    have e3 : (bitsOf 255 8 ++ bitsOf v 64).length = 72 := by rw [List.length_append, len_bitsOf, len_bitsOf]
    rw [tbits_far h, tp, e1, e2, e3, if_neg (by omega), if_neg (by omega), if_neg (by omega), if_neg (by omega), if_neg (by omega), if_neg (by simp [h])]

theorem tp_err (l : List Bool) : (tp l).2.2 = 0 ∨ (tp l).2.2 = 10 ∨ (tp l).2.2 = 11 ∨ (tp l).2.2 = 16 := by
  unfold tp
  repeat' split
  all_goals simp
end Bt
end Go.Proofs.Ytlfcaigofakkoaa
