/- Plain facts on numbers by seven bits. No program here. -/
import Derived.Test.YtlfcaigofakkoaaBits
namespace Go.Proofs.Ytlfcaigofakkoaa
namespace Bt

/-- The bytes of a number. -/
def vb (v : Nat) : List Nat := if v < 128 then [v] else (v % 128 + 128) :: vb (v / 128)
termination_by v
decreasing_by omega

theorem vb_lt {v : Nat} (h : v < 128) : vb v = [v] := by rw [vb, if_pos h]
theorem vb_ge {v : Nat} (h : ¬ v < 128) : vb v = (v % 128 + 128) :: vb (v / 128) := by rw [vb, if_neg h]

theorem vb_bytes (v : Nat) : ∀ b ∈ vb v, b < 256 := by
  induction v using vb.induct with
  | case1 v h => rw [vb_lt h]; intro b hb; simp at hb; omega
  | case2 v h ih =>
    rw [vb_ge h]
    intro b hb
    rcases List.mem_cons.1 hb with rfl | hb
    · omega
    · exact ih b hb

theorem vb_len (k v : Nat) (h : v < 128 ^ (k + 1)) : (vb v).length ≤ k + 1 := by
  induction k generalizing v with
  | zero => rw [vb_lt (by simpa using h)]; simp
  | succ k ih =>
    by_cases hv : v < 128
    · rw [vb_lt hv]; simp
    · rw [vb_ge hv, List.length_cons]
      have := ih (v / 128) (by rw [Nat.div_lt_iff_lt_mul (by decide)]; rwa [Nat.pow_succ] at h)
      omega

theorem vb_len64 (v : Nat) (h : v < 18446744073709551616) : (vb v).length ≤ 10 := vb_len 9 v (by omega)
theorem vb_pos (v : Nat) : 1 ≤ (vb v).length := by
  by_cases h : v < 128
  · rw [vb_lt h]; simp
  · rw [vb_ge h]; simp

/-- The bits of bytes, byte by byte. -/
def bits8 (bs : List Nat) : List Bool := bs.flatMap fun b => bitsOf b 8

theorem bits8_nil : bits8 [] = [] := rfl
theorem bits8_cons (b : Nat) (bs : List Nat) : bits8 (b :: bs) = bitsOf b 8 ++ bits8 bs := rfl
theorem bits8_append (a b : List Nat) : bits8 (a ++ b) = bits8 a ++ bits8 b := by simp [bits8]
theorem len_bits8 (bs : List Nat) : (bits8 bs).length = 8 * bs.length := by
  induction bs with
  | nil => rfl
  | cons b bs ih => rw [bits8_cons, List.length_append, len_bitsOf, ih, List.length_cons]; omega

theorem unpack_cons (b : Nat) (bs : List Nat) : unpack (b :: bs) = bitsOf b 8 ++ unpack bs := by
  unfold unpack
  rw [List.length_cons, show 8 * (bs.length + 1) = 8 + 8 * bs.length by omega, List.range_add, List.map_append]
  congr 1
  rw [List.map_map]
  apply List.map_congr_left
  intro i _
  simp only [Function.comp]
  rw [show (8 + i) / 8 = i / 8 + 1 by omega, show (8 + i) % 8 = i % 8 by omega, List.getD_cons_succ]

theorem unpack_bits8 (bs : List Nat) : unpack bs = bits8 bs := by
  induction bs with
  | nil => rfl
  | cons b bs ih => rw [unpack_cons, ih, bits8_cons]

theorem pack_bits8 (bs : List Nat) (h : ∀ b ∈ bs, b < 256) : pack (bits8 bs) = bs := by
  have := pack_take bs h (8 * bs.length) (Nat.le_refl _) (by omega)
  rw [unpack_bits8, ← len_bits8, List.take_length, len_bits8, show (8 * bs.length + 7) / 8 = bs.length by omega, List.take_length] at this
  exact this

theorem bitsOf_more (v : Nat) : bitsOf (v ||| 128) 8 = bitsOf (v % 128 + 128) 8 := by
  have h7 : ∀ j, j < 7 → (v ||| 128).testBit j = (v % 128 + 128).testBit j := fun j hj => by
    rw [Nat.testBit_or, show (128 : Nat) = 2 ^ 7 from rfl, Nat.testBit_two_pow, Nat.add_comm, Nat.testBit_two_pow_add_gt hj, Nat.testBit_mod_two_pow]
    simp [hj]
    omega
  have h8 : (v ||| 128).testBit 7 = (v % 128 + 128).testBit 7 := by
    rw [Nat.testBit_or, show (128 : Nat) = 2 ^ 7 from rfl, Nat.testBit_two_pow, Nat.add_comm, Nat.testBit_two_pow_add_eq, Nat.testBit_mod_two_pow]
    simp
  simp only [bitsOf, h8, h7 6 (by decide), h7 5 (by decide), h7 4 (by decide), h7 3 (by decide), h7 2 (by decide), h7 1 (by decide), h7 0 (by decide)]

/-- The number at the beginning of bytes, behind i of them that make v: the number, how many bytes, an error's number. -/
def vp : Nat → Nat → List Nat → Nat × Nat × Nat
  | _, _, [] => (0, 0, 16)
  | i, v, c :: cs =>
    if i = 9 ∧ 1 < c then (0, 0, 17)
    else if c < 128 then (if c = 0 ∧ 0 < i then (0, 0, 10) else (v + c % 128 * 128 ^ i, i + 1, 0))
    else vp (i + 1) (v + c % 128 * 128 ^ i) cs

theorem vp_vb (v : Nat) : ∀ (i u : Nat) (rest : List Nat), v < 2 ^ (64 - 7 * i) → i ≤ 9 → (v ≠ 0 ∨ i = 0) → vp i u (vb v ++ rest) = (u + v * 128 ^ i, i + (vb v).length, 0) := by
  induction v using vb.induct with
  | case1 v h =>
    intro i u rest hv hi h0
    rw [vb_lt h, List.singleton_append, vp, if_neg, if_pos h, if_neg, Nat.mod_eq_of_lt h, List.length_singleton]
    · omega
    · rintro ⟨rfl, h1⟩
      simp at hv
      omega
  | case2 v h ih =>
    intro i u rest hv hi h0
    have hi9 : i < 9 := by
      rcases Nat.lt_or_ge i 9 with h1 | h1
      · exact h1
      · have : i = 9 := by omega
        subst this
        simp at hv
        omega
    rw [vb_ge h, List.cons_append, vp, if_neg (by omega), if_neg (by omega), ih (i + 1) _ rest ?_ (by omega) (.inl (by omega)), List.length_cons]
    · congr 1
      · rw [show (v % 128 + 128) % 128 = v % 128 by omega, Nat.pow_succ, Nat.add_assoc]
        congr 1
        have : v = v % 128 + v / 128 * 128 := by omega
        conv => rhs; rw [this]
        rw [Nat.add_mul, Nat.mul_assoc, Nat.mul_comm (128 ^ i) 128]
      · congr 1
        omega
    · rw [Nat.div_lt_iff_lt_mul (by decide)]
      have e : 2 ^ (64 - 7 * i) = 2 ^ (64 - 7 * (i + 1)) * 128 := by
        rw [show (128 : Nat) = 2 ^ 7 from rfl, ← Nat.pow_add]
        congr 1
        omega
      omega

/-- Without a sign. -/
def zig (v : Int) : Nat := if 0 ≤ v then (2 * v).toNat else (2 * (-1 - v) + 1).toNat
/-- With one. -/
def zag (u : Nat) : Int := if u % 2 = 0 then (u / 2 : Nat) else -1 - (u / 2 : Nat)

theorem zag_zig (v : Int) : zag (zig v) = v := by
  unfold zag zig
  split <;> split <;> omega
theorem zig_zag (u : Nat) : zig (zag u) = u := by
  unfold zag zig
  split <;> split <;> omega
theorem zig_lt (v : Int) (h1 : -9223372036854775808 ≤ v) (h2 : v ≤ 9223372036854775807) : zig v < 18446744073709551616 := by
  unfold zig
  split <;> omega
theorem zag_le (u : Nat) (h : u < 18446744073709551616) : -9223372036854775808 ≤ zag u ∧ zag u ≤ 9223372036854775807 := by
  unfold zag
  split <;> omega
end Bt
end Go.Proofs.Ytlfcaigofakkoaa
