/- The reference's First, End and Put of layer 5: the text of one more is what the row's Put puts. -/
import Derived.Test.YtlfcaigofakkoaaDoorXRow
namespace Go.Proofs.YtlfcaigofakkoaaDoor
open Go.RowKit Bt

namespace Bt
theorem getD_bitsOf (v n i : Nat) (h : i < n) : (bitsOf v n).getD i false = v.testBit (n - 1 - i) := by
  induction n generalizing i with
  | zero => omega
  | succ n ih =>
    cases i with
    | zero => simp [bitsOf]
    | succ i =>
      rw [bitsOf, List.getD_cons_succ, ih i (by omega)]
      congr 1
      omega

theorem drop_bitsOf (v n a : Nat) (h : a ≤ n) : (bitsOf v n).drop a = bitsOf v (n - a) := by
  induction a generalizing n with
  | zero => rfl
  | succ a ih =>
    cases n with
    | zero => omega
    | succ n => rw [bitsOf, List.drop_succ_cons, ih n (by omega), Nat.succ_sub_succ]

theorem take_bitsOf (v b z : Nat) : (bitsOf v (b + z)).take b = bitsOf (v / 2 ^ z) b := by
  induction b with
  | zero => rfl
  | succ b ih =>
    rw [show b + 1 + z = b + z + 1 by omega, bitsOf, List.take_succ_cons, ih, bitsOf, Nat.testBit_div_two_pow]

theorem cut_bitsOf (v n a b : Nat) (h : a + b ≤ n) : ((bitsOf v n).drop a).take b = bitsOf (v / 2 ^ (n - a - b)) b := by
  rw [drop_bitsOf v n a (by omega), show n - a = b + (n - a - b) by omega, take_bitsOf]
  congr 3
  omega

theorem bitsOf_mod64 (c : Nat) : bitsOf (c % 64) 6 = bitsOf c 6 := by
  have h : ∀ j, j < 6 → (c % 64).testBit j = c.testBit j := fun j hj => by
    rw [show (64 : Nat) = 2 ^ 6 from rfl, Nat.testBit_mod_two_pow]
    simp [hj]
  simp only [bitsOf, h 5 (by decide), h 4 (by decide), h 3 (by decide), h 2 (by decide), h 1 (by decide), h 0 (by decide)]

theorem first_false (d : Nat) (h0 : d ≠ 0) (hd : d < 18446744073709551616) (i : Nat) (hi : i < lz d) : (bitsOf d 64).getD i false = false := by
  obtain ⟨h1, h2, h3⟩ := lz_spec d h0 hd
  rw [getD_bitsOf d 64 i (by omega)]
  exact Nat.testBit_lt_two_pow (Nat.lt_of_lt_of_le h1 (Nat.pow_le_pow_right (by omega) (by omega)))

theorem first_true (d : Nat) (h0 : d ≠ 0) (hd : d < 18446744073709551616) : (bitsOf d 64).getD (lz d) false = true := by
  obtain ⟨h1, h2, h3⟩ := lz_spec d h0 hd
  rw [getD_bitsOf d 64 (lz d) (by omega), Nat.testBit_eq_decide_div_mod_eq, show 64 - 1 - lz d = 63 - lz d by omega]
  have h4 : d / 2 ^ (63 - lz d) = 1 := by
    apply Nat.div_eq_of_lt_le
    · omega
    · rw [show 64 - lz d = 63 - lz d + 1 by omega, Nat.pow_succ] at h1
      omega
  rw [h4]; rfl

theorem end_false (d : Nat) (h0 : d ≠ 0) (hd : d < 18446744073709551616) (i : Nat) (hi : 64 - tz d ≤ i) (h64 : i < 64) : (bitsOf d 64).getD i false = false := by
  obtain ⟨⟨m, hm⟩, h2⟩ := tz_spec d h0 hd
  rw [getD_bitsOf d 64 i h64, Nat.testBit_eq_decide_div_mod_eq]
  have h3 : d / 2 ^ (64 - 1 - i) = 2 * (2 ^ (tz d - (64 - 1 - i) - 1) * (2 * m + 1)) := by
    conv => lhs; rw [hm]
    apply Nat.div_eq_of_eq_mul_right (Nat.two_pow_pos _)
    rw [← Nat.mul_assoc, ← Nat.mul_assoc]
    congr 1
    rw [← Nat.pow_succ, ← Nat.pow_add]
    congr 1
    omega
  rw [h3, Nat.mul_mod_right]; rfl

theorem end_true (d : Nat) (h0 : d ≠ 0) (hd : d < 18446744073709551616) : (bitsOf d 64).getD (64 - tz d - 1) false = true := by
  obtain ⟨⟨m, hm⟩, h2⟩ := tz_spec d h0 hd
  rw [getD_bitsOf d 64 _ (by omega), Nat.testBit_eq_decide_div_mod_eq, show 64 - 1 - (64 - tz d - 1) = tz d by omega]
  have h3 : d / 2 ^ tz d = 2 * m + 1 := Nat.div_eq_of_eq_mul_right (Nat.two_pow_pos _) hm
  rw [h3]
  simp
end Bt

theorem x_bit_txt {s : ByteArray} {l : List Bool} (hs : s = txt l) (k : Nat) (hk : k < s.size) (b : Bool) (hb : l.getD k false = b) : ((s[k].toNat : Int) == 49) = b := by
  have hl : k < l.length := by rw [hs, len_txt] at hk; exact hk
  rw [byte_txt hs k hk hl]
  rw [List.getD_eq_getElem?_getD, List.getElem?_eq_getElem hl, Option.getD_some] at hb
  rw [hb]
  cases b <;> rfl

set_option maxHeartbeats 400000 in
theorem xfirst_any (l : List Bool) (z : Nat) (hl : l.length ≤ 64) (hz : z < l.length) (hf : Hid (∀ i, i < z → l.getD i false = false)) (ht : Hid (l.getD z false = true)) (w : World) :
    Calls Tryd.prog 34 #[.string (txt l)] w fun e w' => e = .returned (.int .i64 z) ∧ w = w' := by
  obtain ⟨s, hs⟩ : ∃ s, s = txt l := ⟨_, rfl⟩
  have hsz : s.size = l.length := by rw [hs, len_txt]
  have hz1 : s.size ≤ 64 := by omega
  have hz2 : z < s.size := by omega
  rw [← hs]
  have HS := hid hs
  clear hs hsz hl hz
  go_enter Tryd.func34, Tryd.ntmps34
  go_wp2
  go_loop [3] (fun i => ∃ k : Nat, k ≤ z ∧ i = .int .i64 k) (fun i => z - (intOf i).toNat)
  case atStart => exact ⟨0, Nat.zero_le _, rfl⟩
  case round =>
    obtain ⟨k, hk, rfl⟩ := hrel
    have hlt : k < s.size := by omega
    by_cases hkz : k < z
    · have hb := x_bit_txt HS.out k hlt false (hf.out k hkz)
      go_wp2
      go_round
      case rel => exact ⟨k + 1, by omega, by go_num⟩
      case measure => simp [intOf]; omega
    · obtain rfl : k = z := by omega
      have hb := x_bit_txt HS.out k hlt true ht.out
      go_wp2
      go_ret
      exact ⟨rfl, rfl⟩

set_option maxHeartbeats 400000 in
theorem xend_any (l : List Bool) (z : Nat) (hl : l.length ≤ 64) (hz : z < l.length) (hf : Hid (∀ i, z + 1 ≤ i → i < l.length → l.getD i false = false)) (ht : Hid (l.getD z false = true)) (w : World) :
    Calls Tryd.prog 35 #[.string (txt l)] w fun e w' => e = .returned (.int .i64 (z + 1 : Nat)) ∧ w = w' := by
  obtain ⟨s, hs⟩ : ∃ s, s = txt l := ⟨_, rfl⟩
  have hsz : s.size = l.length := by rw [hs, len_txt]
  have hz1 : s.size ≤ 64 := by omega
  have hz2 : z < s.size := by omega
  rw [← hs]
  have HS := hid hs
  have HF := hid (fun i (h1 : z + 1 ≤ i) (h2 : i < s.size) => hf.out i h1 (by omega))
  clear hs hsz hl hz hf
  go_enter Tryd.func35, Tryd.ntmps35
  go_wp2
  go_loop [3] (fun i => ∃ k : Nat, z ≤ k ∧ k + 1 ≤ s.size ∧ i = .int .i64 (k + 1 : Nat)) (fun i => (intOf i).toNat)
  case atStart => exact ⟨s.size - 1, by omega, by omega, by go_num⟩
  case round =>
    obtain ⟨k, hk, hk2, rfl⟩ := hrel
    have hlt : k < s.size := by omega
    by_cases hkz : z < k
    · have hb := x_bit_txt HS.out k hlt false (HF.out k hkz hlt)
      obtain ⟨j, rfl⟩ : ∃ j, k = j + 1 := ⟨k - 1, by omega⟩
      go_wp2
      go_round
      case rel => exact ⟨j, by omega, by omega, by go_num⟩
      case measure => simp [intOf]; omega
    · obtain rfl : k = z := by omega
      have hb := x_bit_txt HS.out k hlt true ht.out
      go_wp2
      go_ret
      exact ⟨rfl, rfl⟩
end Go.Proofs.YtlfcaigofakkoaaDoor
