/- The walks of the numbers by seven bits: PutU, PutS. -/
import Derived.Test.YtlfcaigofakkoaaVar
namespace Go.Proofs.Ytlfcaigofakkoaa
open Go.RowKit Bt

set_option maxRecDepth 100000 in
theorem putu_step {w : World} {B a : Nat} {r : Option Nat} {l : List Bool} (h : Wr w B a r l) (v : Nat) (hv : v < 18446744073709551616) (hl : l.length + 900 < 8000000) :
    Calls Try.prog 38 #[.pointer (some ⟨a, 0, none⟩), .int .u64 v] w fun e w' => e = .returned (.tuple #[]) ∧ ∃ r', Hid (WStep w B a r w' r' (l ++ bits8 (vb v))) := by
  obtain ⟨F, hF⟩ : ∃ F, F = l ++ bits8 (vb v) := ⟨_, rfl⟩
  have hFl : F.length < 7999900 := by rw [hF, List.length_append, len_bits8]; have := vb_len64 v hv; omega
  rw [← hF]
  have H := hid (And.intro (WStep.start h) hF)
  clear h hF
  go_enter Try.func38, Try.ntmps38
  go_wp2_with fail
  go_loopw [1] (fun x wr => ∃ (y : Nat) (r' : Option Nat) (L : List Bool), x = .int .u64 y ∧ y < 18446744073709551616 ∧ Hid (WStep w B a r wr r' L ∧ F = L ++ bits8 (vb y))) (fun x _ => (intOf x).toNat)
  case atStart => exact ⟨v, r, l, rfl, hv, H⟩
  case round =>
    obtain ⟨y, r', L, rfl, hy, H2⟩ := hrel
    by_cases hlt : y < 128
    · have hF2 := hid H2.out.2
      have hLl : L.length < 7999900 := by have := hF2.out; rw [this, List.length_append] at hFl; omega
      go_wp2_with fail
      refine (put_yes _ _ a r' L y 8 hy (by decide) (by decide) (by omega) H2.out.1.wr).mono ?_
      rintro e w2 ⟨rfl, r2, h2⟩
      have h3 := hF2.out
      rw [vb_lt hlt, bits8_cons, bits8_nil, List.append_nil] at h3
      rw [← h3] at h2
      have H3 := hid (H2.out.1.trans h2)
      clear h2 h3
      go_wp2
      go_end0
      exact ⟨rfl, r2, H3⟩
    · have hF2 := hid H2.out.2
      have hLl : L.length < 7999900 := by have := hF2.out; rw [this, List.length_append] at hFl; omega
      have hor : bits BinOp.or .u64 (y : Int) 128 = ((y ||| 128 : Nat) : Int) := bits_or_u64_nat y 128 hy (by decide)
      have hor2 : y ||| 128 < 18446744073709551616 := Nat.or_lt_two_pow (n := 64) hy (by decide)
      go_wp2_with fail
      refine (put_yes _ _ a r' L (y ||| 128) 8 hor2 (by decide) (by decide) (by omega) H2.out.1.wr).mono ?_
      rintro e w2 ⟨rfl, r2, h2⟩
      have h3 := hF2.out
      rw [vb_ge hlt, bits8_cons, ← bitsOf_more, ← List.append_assoc] at h3
      have H3 := hid (And.intro (H2.out.1.trans h2) h3)
      clear h2 h3 hor
      go_wp2
      go_roundw
      case rel => exact ⟨y / 128, r2, _, by go_num, by omega, H3⟩
      case measure => simp [intOf]; omega

theorem puts_step {w : World} {B a : Nat} {r : Option Nat} {l : List Bool} (h : Wr w B a r l) (v : Int) (h1 : -9223372036854775808 ≤ v) (h2 : v ≤ 9223372036854775807) (hl : l.length + 900 < 8000000) :
    Calls Try.prog 39 #[.pointer (some ⟨a, 0, none⟩), .int .i64 v] w fun e w' => e = .returned (.tuple #[]) ∧ ∃ r', Hid (WStep w B a r w' r' (l ++ bits8 (vb (zig v)))) := by
  have H := hid h
  clear h
  have hz := zig_lt v h1 h2
  go_enter Try.func39, Try.ntmps39
  go_wp2_with fail
  refine (zig_any v h1 h2 _).mono ?_
  rintro e w1 ⟨rfl, rfl⟩
  go_wp2_with fail
  refine (putu_step H.out (zig v) hz hl).mono ?_
  rintro e w2 ⟨rfl, r2, h2⟩
  go_wp2
  go_end0
  exact ⟨rfl, r2, h2⟩

section
variable {w0 w : World} {a a2 pos : Nat} {r r2 : Option Nat} {l l2 : List Bool} {short : Bool}
theorem putu_any (h : W1 w0 w a r l) (v : Nat) (hv : v < 18446744073709551616) (hl : l.length + 900 < 8000000) :
    Calls Try.prog 38 #[.pointer (some ⟨a, 0, none⟩), .int .u64 v] w fun e w' => e = .returned (.tuple #[]) ∧ ∃ r', Hid (W1 w0 w' a r' (l ++ bits8 (vb v))) :=
  (putu_step h.wr v hv hl).mono fun _ _ ⟨he, r', hs⟩ => ⟨he, r', hid (h.step hs.out)⟩
theorem puts_any (h : W1 w0 w a r l) (v : Int) (h1 : -9223372036854775808 ≤ v) (h2 : v ≤ 9223372036854775807) (hl : l.length + 900 < 8000000) :
    Calls Try.prog 39 #[.pointer (some ⟨a, 0, none⟩), .int .i64 v] w fun e w' => e = .returned (.tuple #[]) ∧ ∃ r', Hid (W1 w0 w' a r' (l ++ bits8 (vb (zig v)))) :=
  (puts_step h.wr v h1 h2 hl).mono fun _ _ ⟨he, r', hs⟩ => ⟨he, r', hid (h.step hs.out)⟩
theorem wr_putu (h : WR w0 w a r l a2 r2 pos l2 short) (v : Nat) (hv : v < 18446744073709551616) (hl : l.length + 900 < 8000000) :
    Calls Try.prog 38 #[.pointer (some ⟨a, 0, none⟩), .int .u64 v] w fun e w' => e = .returned (.tuple #[]) ∧ ∃ r', Hid (WR w0 w' a r' (l ++ bits8 (vb v)) a2 r2 pos l2 short) :=
  (putu_step h.wr v hv hl).mono fun _ _ ⟨he, r', hs⟩ => ⟨he, r', hid (h.step hs.out)⟩
theorem wr_puts (h : WR w0 w a r l a2 r2 pos l2 short) (v : Int) (h1 : -9223372036854775808 ≤ v) (h2 : v ≤ 9223372036854775807) (hl : l.length + 900 < 8000000) :
    Calls Try.prog 39 #[.pointer (some ⟨a, 0, none⟩), .int .i64 v] w fun e w' => e = .returned (.tuple #[]) ∧ ∃ r', Hid (WR w0 w' a r' (l ++ bits8 (vb (zig v))) a2 r2 pos l2 short) :=
  (puts_step h.wr v h1 h2 hl).mono fun _ _ ⟨he, r', hs⟩ => ⟨he, r', hid (h.step hs.out)⟩
end
end Go.Proofs.Ytlfcaigofakkoaa
