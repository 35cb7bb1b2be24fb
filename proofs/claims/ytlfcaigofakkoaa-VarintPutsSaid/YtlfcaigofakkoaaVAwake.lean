/- The walk of the third layer's fixed answer. -/
import Derived.Test.YtlfcaigofakkoaaVRef
namespace Go.Proofs.Ytlfcaigofakkoaa
open Go.RowKit Bt

/-- A fresh slice literal of three bytes. -/
theorem bs_three (w : World) (b c d : Nat) : BS (w.alloc (.cells #[.int .u8 (b : Nat), .int .u8 (c : Nat), .int .u8 (d : Nat)] 5)) (.slice (some ⟨w.heap.size, 0, none⟩) 3 3) [b, c, d] := by
  refine .inr ⟨_, 3, rfl, Nat.le_refl 3, by decide, ?_⟩
  intro j u hj
  have h : j = 0 ∨ j = 1 ∨ j = 2 := by
    have := (List.getElem?_eq_some_iff.mp hj).1
    simp [byteVs] at this
    omega
  rcases h with rfl | rfl | rfl <;> (simp [byteVs] at hj; subst hj; simp [Addr.add])

section
variable {w0 w : World} {a a2 pos : Nat} {r r2 : Option Nat} {l l3 : List Bool}
theorem wr_getu (v : Nat) (h : WR w0 w a r l a2 r2 pos (bits8 (vb v) ++ l3) false) (hv : v < 18446744073709551616) :
    Calls Try.prog 36 #[.pointer (some ⟨a2, 0, none⟩)] w fun e w' => e = .returned (.tuple #[.int .u64 v, .int .i64 0]) ∧ ∃ pos', Hid (WR w0 w' a r l a2 r2 pos' l3 false) := by
  have e : vp 0 0 (vb v) = (v, (vb v).length, 0) := by
    have := vp_vb v 0 0 [] (by simpa using hv) (by omega) (.inr rfl)
    simpa using this
  refine (getu_any w w0.heap.size a2 pos r2 (vb v) l3 (vb_bytes v) h.rd (by rw [e]; intro h; simp at h)).mono ?_
  rintro e w' ⟨rfl, hf, hr⟩
  rw [e] at hr ⊢
  have := hr rfl
  simp only [List.drop_length, bits8_nil, List.nil_append] at this
  exact ⟨rfl, _, hid (h.read this hf)⟩
theorem wr_gets (v : Int) (h : WR w0 w a r l a2 r2 pos (bits8 (vb (zig v)) ++ l3) false) (h1 : -9223372036854775808 ≤ v) (h2 : v ≤ 9223372036854775807) :
    Calls Try.prog 42 #[.pointer (some ⟨a2, 0, none⟩)] w fun e w' => e = .returned (.tuple #[.int .i64 v, .int .i64 0]) ∧ ∃ pos', Hid (WR w0 w' a r l a2 r2 pos' l3 false) := by
  have hv := zig_lt v h1 h2
  have e : vp 0 0 (vb (zig v)) = (zig v, (vb (zig v)).length, 0) := by
    have := vp_vb (zig v) 0 0 [] (by simpa using hv) (by omega) (.inr rfl)
    simpa using this
  refine (gets_any w w0.heap.size a2 pos r2 (vb (zig v)) l3 (vb_bytes _) h.rd (by rw [e]; intro h; simp at h) (by rw [e]; exact hv)).mono ?_
  rintro e w' ⟨rfl, hf, hr⟩
  rw [e] at hr ⊢
  have := hr rfl
  simp only [List.drop_length, bits8_nil, List.nil_append] at this
  exact ⟨by simp only [zag_zig]; rfl, _, hid (h.read this hf)⟩
end

set_option maxHeartbeats 2000000 in
set_option maxRecDepth 100000 in
theorem awake3_any (w : World) : Calls Try.prog 35 #[] w fun e w' => e = .returned (.bool true) ∧ Fr (fun _ => False) w w' := by
  go_enter Try.func35, Try.ntmps35
  go_wp2_with fail
  refine (w1_new (w0 := w) (.slice none 0 0) [] 0 (Fr.refl _ _) (by decide) (.inl ⟨rfl, rfl⟩) (by simp) (by decide)).mono ?_
  rintro e w1 ⟨a, r, rfl, hw1, hf1⟩
  have HW1 := hid hw1
  clear hw1 hf1
  go_wp2_with fail
  refine (wr_new (.slice (some ⟨w1.heap.size, 0, none⟩) 3 3) [172, 2, 1] 24 (HW1.out.still ((Fr.refl _ _).alloc _)) (by decide) (bs_three w1 172 2 1) (by decide) (by decide)).mono ?_
  rintro e w2 ⟨a2, r2, rfl, h2, _⟩
  rw [show (unpack []).take 0 = [] from rfl, show (unpack [172, 2, 1]).take 24 = bits8 (vb 300) ++ (bits8 (vb (zig (-1))) ++ []) from by decide +kernel] at h2
  have H2 := hid h2
  clear HW1 h2
  go_wp2_with fail
  refine (wr_putu H2.out 300 (by decide) (by decide)).mono ?_
  rintro e w3 ⟨rfl, r3, H3⟩
  clear H2
  go_wp2_with fail
  refine (wr_puts H3.out (-1) (by decide) (by decide) (by rw [List.nil_append, len_bits8]; have := vb_len64 300 (by decide); omega)).mono ?_
  rintro e w4 ⟨rfl, r4, H4⟩
  clear H3
  go_wp2_with fail
  refine (wr_getu 300 H4.out (by decide)).mono ?_
  rintro e w5 ⟨rfl, pos5, H5⟩
  clear H4
  go_wp2_with fail
  refine (wr_gets (-1) H5.out (by decide) (by decide)).mono ?_
  rintro e w6 ⟨rfl, pos6, H6⟩
  clear H5
  go_wp2_with fail
  refine (wr_bytes H6.out (by decide +kernel)).mono ?_
  rintro e w7 ⟨ao, N, cap, rfl, h7, hb⟩
  have hcv := conv_bs hb
  rw [show str (pack (([] ++ bits8 (vb 300)) ++ bits8 (vb (zig (-1))))) = ⟨#[172, 2, 1]⟩ from by decide +kernel] at hcv
  have H7 := hid h7
  clear H6 hb h7
  go_wp2_with fail
  refine (vlen_any 300 (by decide) _).mono ?_
  rintro e w8 ⟨rfl, rfl⟩
  have hl : (vb 300).length = 2 := by decide +kernel
  rw [hl]
  go_wp2
  go_ret
  exact ⟨rfl, H7.out.fr⟩
end Go.Proofs.Ytlfcaigofakkoaa
