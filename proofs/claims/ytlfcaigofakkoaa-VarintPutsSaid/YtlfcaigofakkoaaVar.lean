/- The walks of the numbers by seven bits: signs, lengths. -/
import Derived.Test.YtlfcaigofakkoaaVMath
import Derived.Test.YtlfcaigofakkoaaArg
import Derived.Test.YtlfcaigofakkoaaSep
import Derived.Lib.Zigzag
namespace Go.Proofs.Ytlfcaigofakkoaa
open Go.RowKit Bt

theorem ret_int' {k : IntKind} {a b : Int} (h : a = b) : Ending.returned (.int k a) = .returned (.int k b) := by rw [h]

theorem zig_val (v : Int) (h1 : -9223372036854775808 ≤ v) (h2 : v ≤ 9223372036854775807) : bits .xor .u64 (IntKind.u64.wrap (IntKind.u64.wrap v * 2)) (IntKind.u64.wrap (v / 9223372036854775808)) = ((zig v : Nat) : Int) := by
  by_cases h : 0 ≤ v
  · have e2 : IntKind.u64.wrap (v / 9223372036854775808) = ((0 : Nat) : Int) := by rw [IntKind.wrap_u64]; omega
    have e1 : IntKind.u64.wrap (IntKind.u64.wrap v * 2) = (((2 * v).toNat : Nat) : Int) := by rw [IntKind.wrap_u64, IntKind.wrap_u64]; omega
    rw [e1, e2, bits_xor_u64_nat _ _ (by omega) (by decide), Nat.xor_zero]
    unfold zig
    rw [if_pos h]
  · have e2 : IntKind.u64.wrap (v / 9223372036854775808) = ((2 ^ 64 - 1 : Nat) : Int) := by rw [IntKind.wrap_u64]; omega
    have e1 : IntKind.u64.wrap (IntKind.u64.wrap v * 2) = (((2 * v + 18446744073709551616).toNat : Nat) : Int) := by rw [IntKind.wrap_u64, IntKind.wrap_u64]; omega
    rw [e1, e2, bits_xor_u64_nat _ _ (by omega) (by decide), Nat.xor_comm, Lib.xor_ones64 _ (by omega)]
    unfold zig
    rw [if_neg h]
    omega

theorem zig_any (v : Int) (h1 : -9223372036854775808 ≤ v) (h2 : v ≤ 9223372036854775807) (w : World) :
    Calls Try.prog 32 #[.int .i64 v] w fun e w' => e = .returned (.int .u64 (zig v : Nat)) ∧ w = w' := by
  have HZ := hid (zig_val v h1 h2)
  go_enter Try.func32, Try.ntmps32
  go_wp2
  go_ret
  exact ⟨ret_int' HZ.out, rfl⟩

theorem rzig_any (v : Int) (h1 : -9223372036854775808 ≤ v) (h2 : v ≤ 9223372036854775807) (w : World) :
    Calls Try.prog 33 #[.int .i64 v] w fun e w' => e = .returned (.int .u64 (zig v : Nat)) ∧ w = w' := by
  by_cases h : 0 ≤ v
  · obtain ⟨n, rfl⟩ := nat_of h
    go_enter Try.func33, Try.ntmps33
    go_wp2
    go_ret
    exact ⟨ret_int' (by unfold zig; rw [if_pos (by omega)]; omega), rfl⟩
  · go_enter Try.func33, Try.ntmps33
    go_wp2
    go_ret
    exact ⟨ret_int' (by unfold zig; rw [if_neg (by omega)]; omega), rfl⟩

theorem i64_xor0 (x : Nat) (hx : x < 9223372036854775808) : bits .xor .i64 (x : Int) 0 = (x : Int) := by
  show IntKind.i64.wrap ((BitVec.ofInt 64 (x : Int) ^^^ BitVec.ofInt 64 0).toNat : Int) = _
  have h1 : (BitVec.ofInt 64 0).toNat = 0 := by decide
  have h2 : (BitVec.ofInt 64 (x : Int)).toNat = x := by rw [BitVec.ofInt_natCast, BitVec.toNat_ofNat]; exact Nat.mod_eq_of_lt (by omega)
  rw [BitVec.toNat_xor, h1, h2, Nat.xor_zero, IntKind.wrap_i64]
  omega
theorem i64_xor1 (x : Nat) (hx : x < 9223372036854775808) : bits .xor .i64 (x : Int) (-1) = -1 - (x : Int) := by
  show IntKind.i64.wrap ((BitVec.ofInt 64 (x : Int) ^^^ BitVec.ofInt 64 (-1)).toNat : Int) = _
  have h1 : (BitVec.ofInt 64 (-1)).toNat = 2 ^ 64 - 1 := by decide
  have h2 : (BitVec.ofInt 64 (x : Int)).toNat = x := by rw [BitVec.ofInt_natCast, BitVec.toNat_ofNat]; exact Nat.mod_eq_of_lt (by omega)
  rw [BitVec.toNat_xor, h1, h2, Nat.xor_comm, Lib.xor_ones64 x (by omega), IntKind.wrap_i64]
  omega

theorem zag_any (u : Nat) (h : u < 18446744073709551616) (w : World) :
    Calls Try.prog 34 #[.int .u64 u] w fun e w' => e = .returned (.int .i64 (zag u)) ∧ w = w' := by
  have hand : bits .and .u64 (u : Int) 1 = ((u % 2 : Nat) : Int) := by rw [Lib.u64_and1 _ (by omega) (by omega)]; omega
  go_enter Try.func34, Try.ntmps34
  rcases Nat.mod_two_eq_zero_or_one u with h2 | h2
  · rw [h2] at hand
    go_wp2
    go_ret
    refine ⟨ret_int' ?_, rfl⟩
    rw [show ((u : Int) / 2) = ((u / 2 : Nat) : Int) by omega, i64_xor0 _ (by omega)]
    unfold zag
    rw [if_pos h2]
  · rw [h2] at hand
    go_wp2
    go_ret
    refine ⟨ret_int' ?_, rfl⟩
    rw [show ((u : Int) / 2) = ((u / 2 : Nat) : Int) by omega, i64_xor1 _ (by omega)]
    unfold zag
    rw [if_neg (by omega)]

set_option maxRecDepth 100000 in
theorem vlen_any (v : Nat) (hv : v < 18446744073709551616) (w : World) :
    Calls Try.prog 40 #[.int .u64 v] w fun e w' => e = .returned (.int .i64 ((vb v).length : Nat)) ∧ w = w' := by
  obtain ⟨N, hN⟩ : ∃ N, N = (vb v).length := ⟨_, rfl⟩
  have hb : N ≤ 10 := by rw [hN]; exact vb_len64 v hv
  rw [← hN]
  have HN := hid hN
  clear hN
  go_enter Try.func40, Try.ntmps40
  go_wp2
  go_loop [0, 3] (fun x n => ∃ k y : Nat, x = .int .u64 y ∧ n = .int .i64 k ∧ Hid (y ≤ v ∧ 1 ≤ k ∧ k ≤ 10 ∧ k + (vb y).length = N + 1)) (fun x _ => (intOf x).toNat)
  case atStart => exact ⟨1, v, rfl, rfl, hid ⟨Nat.le_refl _, by omega, by omega, by rw [HN.out]; exact Nat.add_comm _ _⟩⟩
  case round =>
    obtain ⟨k, y, rfl, rfl, H⟩ := hrel
    by_cases hlt : y < 128
    · clear HN
      go_wp2
      go_ret
      have hl := H.out.2.2.2
      rw [vb_lt hlt, List.length_singleton] at hl
      exact ⟨ret_nat (by omega), rfl⟩
    · obtain ⟨hy, hk1, hk, hl⟩ := H.out
      rw [vb_ge hlt, List.length_cons] at hl
      have HP := hid (vb_pos (y / 128))
      have hk9 : k ≤ 9 := by have := HP.out; omega
      have HH := hid hl
      clear hl H
      go_wp2
      go_round
      case rel => exact ⟨k + 1, y / 128, by go_num, by go_num, by omega, by omega, by have := HH.out; omega, hid (by have := HH.out; omega)⟩
      case measure => simp [intOf]; omega
end Go.Proofs.Ytlfcaigofakkoaa
