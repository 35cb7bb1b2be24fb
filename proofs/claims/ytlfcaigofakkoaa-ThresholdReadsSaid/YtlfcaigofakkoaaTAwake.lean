/- The walk of the twelfth layer's fixed answer. -/
import Derived.Test.YtlfcaigofakkoaaTGet
import Derived.Test.YtlfcaigofakkoaaTRef
namespace Go.Proofs.Ytlfcaigofakkoaa
open Go.RowKit Bt

section
variable {w0 w : World} {a a2 pos : Nat} {r r2 : Option Nat} {l : List Bool}
theorem wr_tget (v : Nat) (h : WR w0 w a r l a2 r2 pos (tbits v) false) (hv : v < 9218868437227405312) :
    Calls Try.prog 51 #[.pointer (some ⟨a2, 0, none⟩)] w fun e w' => e = .returned (.tuple #[.int .u64 v, .int .i64 0]) ∧ ∃ pos', Hid (WR w0 w' a r l a2 r2 pos' [] false) := by
  have e := tp_tbits v hv
  refine (tget_any h.rd).mono ?_
  rintro e' w' ⟨rfl, hf, hr⟩
  rw [e] at hr ⊢
  have := hr rfl
  simp only [List.drop_length] at this
  exact ⟨rfl, _, hid (h.read this hf)⟩
end

theorem power_one (w : World) : Calls Try.prog 43 #[.int .u64 4607182418800017408] w fun e w' => e = .returned (.tuple #[.int .i64 0, .bool true]) ∧ w = w' := power_yes 244 (by decide) (by decide) w
theorem of_one (w : World) : Calls Try.prog 45 #[.int .i64 0] w fun e w' => e = .returned (.tuple #[.int .u64 4607182418800017408, .bool true]) ∧ w = w' := of_yes 244 (by decide) (by decide) w
theorem tlen_one (w : World) : Calls Try.prog 49 #[.int .u64 1] w fun e w' => e = .returned (.int .i64 72) ∧ w = w' := tlen_yes 1 (by decide) w

set_option maxHeartbeats 2000000 in
set_option maxRecDepth 100000 in
theorem awake12_any (w : World) : Calls Try.prog 46 #[] w fun e w' => e = .returned (.bool true) ∧ Fr (fun _ => False) w w' := by
  go_enter Try.func46, Try.ntmps46
  go_wp2_with fail
  refine (w1_new (w0 := w) (.slice none 0 0) [] 0 (Fr.refl _ _) (by decide) (.inl ⟨rfl, rfl⟩) (by simp) (by decide)).mono ?_
  rintro e w1 ⟨a, r, rfl, hw1, hf1⟩
  rw [show (unpack []).take 0 = [] from rfl] at hw1
  have H1 := hid hw1
  clear hw1 hf1
  go_wp2_with fail
  refine (tput_yes H1.out 4607182418800017408 (by decide) (by decide)).mono ?_
  rintro e w2 ⟨rfl, r2, H2⟩
  clear H1
  rw [List.nil_append] at H2
  go_wp2_with fail
  refine (tput_no 9223372036854775808 (by decide) a _).mono ?_
  rintro e w3 ⟨rfl, rfl⟩
  go_wp2_with fail
  refine (w1_bytes H2.out (by decide)).mono ?_
  rintro e w3 ⟨ao, N, cap, rfl, h3, hb, _⟩
  have H3 := hid (And.intro h3 hb)
  clear h3 hb H2
  have hlen : (tbits 4607182418800017408).length = 8 := by decide
  have hwl := w1_len H3.out.1
  rw [hlen] at hwl
  go_wp2_with fail
  refine hwl.mono ?_
  rintro e w4 ⟨rfl, rfl⟩
  clear hwl
  go_wp2_with fail
  have hrd := wr_new (.slice ao N cap) _ 8 H3.out.1 (by rw [len_pack, hlen]; decide) H3.out.2 (pack_lt _) (by rw [len_pack, hlen]; decide)
  rw [← hlen, take_unpack_pack, hlen] at hrd
  refine hrd.mono ?_
  rintro e w4 ⟨a2, q2, rfl, h4, _⟩
  have H4 := hid h4
  clear h4 hrd H3
  go_wp2_with fail
  refine (wr_tget 4607182418800017408 H4.out (by decide)).mono ?_
  rintro e w5 ⟨rfl, pos5, H5⟩
  clear H4
  go_wp2_with fail
  refine (power_one _).mono ?_
  rintro e w6 ⟨rfl, rfl⟩
  go_wp2_with fail
  refine (of_one _).mono ?_
  rintro e w6 ⟨rfl, rfl⟩
  go_wp2_with fail
  refine (wr_bytes H5.out (by decide)).mono ?_
  rintro e w7 ⟨ao2, N2, cap2, rfl, h7, hb⟩
  have hcv := conv_bs hb
  rw [show str (pack (tbits 4607182418800017408)) = ⟨#[244]⟩ from by decide] at hcv
  have H7 := hid h7
  clear H5 hb h7 hlen
  go_wp2_with fail
  refine (tlen_one _).mono ?_
  rintro e w8 ⟨rfl, rfl⟩
  go_wp2
  go_ret
  exact ⟨rfl, H7.out.fr⟩
end Go.Proofs.Ytlfcaigofakkoaa
