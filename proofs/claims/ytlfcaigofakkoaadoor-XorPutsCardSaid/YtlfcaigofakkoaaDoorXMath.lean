/- Plain facts on leading and trailing noughts, and the bits that the xor row puts: what is put is read again. -/
import Derived.Test.YtlfcaigofakkoaaDoorBits
import Derived.Lib.TrailingZeros
import Derived.Lib.BitFns
import Derived.Lib.ItoaNum
namespace Go.Proofs.YtlfcaigofakkoaaDoor
namespace Bt

/-- How many noughts are ahead of 64 bits, how many behind. -/
def lz (d : Nat) : Nat := 64 - Lib.bitLen d
def tz (d : Nat) : Nat := Lib.ctz 64 d

theorem bitLen_le64 (d : Nat) (h : d < 18446744073709551616) : Lib.bitLen d ≤ 64 := Lib.bitLen_le d 64 (Nat.le_refl _) h

theorem lz_spec (d : Nat) (h0 : d ≠ 0) (h : d < 18446744073709551616) : d < 2 ^ (64 - lz d) ∧ lz d ≤ 63 ∧ 2 ^ (63 - lz d) ≤ d := by
  obtain ⟨h1, h2, h3⟩ := Lib.bitLenAux_bounds 64 d h h0
  have h4 := bitLen_le64 d h
  unfold lz
  unfold Lib.bitLen at *
  refine ⟨?_, by omega, ?_⟩
  · rw [show 64 - (64 - Lib.bitLenAux 64 d) = Lib.bitLenAux 64 d by omega]; exact h3
  · rw [show 63 - (64 - Lib.bitLenAux 64 d) = Lib.bitLenAux 64 d - 1 by omega]; exact h2

theorem tz_spec (d : Nat) (h0 : d ≠ 0) (h : d < 18446744073709551616) : (∃ m, d = 2 ^ tz d * (2 * m + 1)) ∧ tz d < 64 := by
  obtain ⟨m, h1, h2⟩ := Lib.ctzFrom_spec 64 d (by omega) h
  unfold tz Lib.ctz
  rw [if_neg h0]
  exact ⟨⟨m, h1⟩, h2⟩

theorem lz_tz (d : Nat) (h0 : d ≠ 0) (h : d < 18446744073709551616) : lz d + tz d ≤ 63 := by
  obtain ⟨h1, h2, h3⟩ := lz_spec d h0 h
  obtain ⟨⟨m, h4⟩, h5⟩ := tz_spec d h0 h
  have h6 : 2 ^ tz d ≤ d := by
    have : 2 ^ tz d * 1 ≤ 2 ^ tz d * (2 * m + 1) := Nat.mul_le_mul_left _ (by omega)
    omega
  have h7 : 2 ^ tz d < 2 ^ (64 - lz d) := Nat.lt_of_le_of_lt h6 h1
  have := (Nat.pow_lt_pow_iff_right (a := 2) (by omega)).1 h7
  omega

/-- What is cut out of d and put back is d. -/
theorem cut_back (d a b z : Nat) (h0 : d ≠ 0) (h : d < 18446744073709551616) (ha : a ≤ lz d) (hz : z ≤ tz d) (hab : a + b + z = 64) : d / 2 ^ z < 2 ^ b ∧ (d / 2 ^ z) * 2 ^ z = d := by
  obtain ⟨h1, _, _⟩ := lz_spec d h0 h
  obtain ⟨⟨m, h4⟩, _⟩ := tz_spec d h0 h
  have hd : 2 ^ z ∣ d := by
    refine Nat.dvd_trans (Nat.pow_dvd_pow 2 hz) ⟨2 * m + 1, h4⟩
  refine ⟨?_, Nat.div_mul_cancel hd⟩
  apply Nat.div_lt_of_lt_mul
  rw [← Nat.pow_add]
  exact Nat.lt_of_lt_of_le h1 (Nat.pow_le_pow_right (by omega) (by omega))

/-- A row of values so far: the last one, how many, and the window. -/
structure XS where
  last : Nat
  n : Nat
  ahead : Nat
  bits : Nat

/-- A row that the functions make. -/
structure XS.Ok (s : XS) : Prop where
  last : s.last < 18446744073709551616
  n : s.n ≤ 1000000
  ahead : s.ahead ≤ 31
  win : s.ahead + s.bits ≤ 64

def XS.holds (s : XS) (d : Nat) : Bool := decide (0 < s.bits) && (decide (s.ahead ≤ lz d) && decide (64 - s.ahead - s.bits ≤ tz d))

def aheadOf (d : Nat) : Nat := min (lz d) 31
def bitsOfWin (d : Nat) : Nat := 64 - aheadOf d - tz d

/-- The bits of one more, and the row then. -/
def XS.put (s : XS) (v : Nat) : XS × List Bool :=
  if s.n = 0 then (⟨v, s.n + 1, s.ahead, s.bits⟩, bitsOf v 64)
  else if v ^^^ s.last = 0 then (⟨v, s.n + 1, s.ahead, s.bits⟩, [false])
  else if s.holds (v ^^^ s.last) = true then (⟨v, s.n + 1, s.ahead, s.bits⟩, [true, false] ++ bitsOf ((v ^^^ s.last) / 2 ^ (64 - s.ahead - s.bits)) s.bits)
  else (⟨v, s.n + 1, aheadOf (v ^^^ s.last), bitsOfWin (v ^^^ s.last)⟩,
    [true, true] ++ (bitsOf (aheadOf (v ^^^ s.last)) 5 ++ (bitsOf (bitsOfWin (v ^^^ s.last) % 64) 6 ++ bitsOf ((v ^^^ s.last) / 2 ^ (tz (v ^^^ s.last))) (bitsOfWin (v ^^^ s.last)))))

theorem xor_lt (v u : Nat) (hv : v < 18446744073709551616) (hu : u < 18446744073709551616) : v ^^^ u < 18446744073709551616 := Nat.xor_lt_two_pow (n := 64) hv hu

theorem win_of (d : Nat) (h0 : d ≠ 0) (h : d < 18446744073709551616) : 1 ≤ bitsOfWin d ∧ aheadOf d + bitsOfWin d + tz d = 64 ∧ aheadOf d ≤ lz d ∧ aheadOf d ≤ 31 := by
  have := lz_tz d h0 h
  unfold bitsOfWin aheadOf
  omega

theorem put_ok {s : XS} {v : Nat} (h : s.Ok) (hv : v < 18446744073709551616) (hn : s.n < 1000000) : (s.put v).1.Ok := by
  unfold XS.put
  split
  · exact ⟨hv, by simp only; omega, h.ahead, h.win⟩
  · split
    · exact ⟨hv, by simp only; omega, h.ahead, h.win⟩
    · rename_i h0
      split
      · exact ⟨hv, by simp only; omega, h.ahead, h.win⟩
      · have := win_of _ h0 (xor_lt v s.last hv h.last)
        exact ⟨hv, by simp only; omega, by simp only; omega, by simp only; omega⟩

theorem put_n (s : XS) (v : Nat) : (s.put v).1.n = s.n + 1 := by
  unfold XS.put
  split
  · rfl
  · split
    · rfl
    · split <;> rfl
theorem put_last (s : XS) (v : Nat) : (s.put v).1.last = v := by
  unfold XS.put
  split
  · rfl
  · split
    · rfl
    · split <;> rfl

theorem put_len (s : XS) (v : Nat) (h : s.Ok) (hv : v < 18446744073709551616) : (s.put v).2.length ≤ 77 := by
  unfold XS.put
  split
  · simp [len_bitsOf]
  · split
    · simp
    · rename_i h0
      split
      · have := h.win
        simp [len_bitsOf]; omega
      · have := win_of _ h0 (xor_lt v s.last hv h.last)
        simp [len_bitsOf]; omega

theorem xor_back (v u : Nat) : u ^^^ (v ^^^ u) = v := by
  rw [Nat.xor_comm v u, ← Nat.xor_assoc, Nat.xor_self, Nat.zero_xor]

theorem bval_small (x n : Nat) (h : x < 2 ^ n) : bval (bitsOf x n) = x := by rw [bval_bitsOf, Nat.mod_eq_of_lt h]
end Bt
end Go.Proofs.YtlfcaigofakkoaaDoor
