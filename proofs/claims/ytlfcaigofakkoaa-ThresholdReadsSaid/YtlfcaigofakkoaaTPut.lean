/- The walk of a threshold's Put. -/
import Derived.Test.YtlfcaigofakkoaaTPow
import Derived.Test.YtlfcaigofakkoaaSep
namespace Go.Proofs.Ytlfcaigofakkoaa
open Go.RowKit Bt

theorem tput_no (v : Nat) (h : ¬ v < 9218868437227405312) (a : Nat) (w : World) :
    Calls Try.prog 47 #[.pointer (some ⟨a, 0, none⟩), .int .u64 v] w fun e w' => e = .returned (.int .i64 11) ∧ w = w' := by
  have hr := thr_any v w
  rw [decide_eq_false h] at hr
  go_enter Try.func47, Try.ntmps47
  go_wp2_with fail
  refine hr.mono ?_
  rintro e w' ⟨rfl, rfl⟩
  clear hr
  go_wp2
  go_ret
  exact ⟨rfl, rfl⟩

theorem tput_yes {w0 w : World} {a : Nat} {r : Option Nat} {l : List Bool} (h : W1 w0 w a r l) (v : Nat) (hv : v < 9218868437227405312) (hl : l.length + 200 < 8000000) :
    Calls Try.prog 47 #[.pointer (some ⟨a, 0, none⟩), .int .u64 v] w fun e w' => e = .returned (.int .i64 0) ∧ ∃ r', Hid (W1 w0 w' a r' (l ++ tbits v)) := by
  have hr := thr_any v w
  have hcd := code_any v (by omega) w
  have htc := tcode_le v
  rw [decide_eq_true hv] at hr
  have H := hid h
  clear h
  by_cases hc : tcode v = 255
  · rw [tbits_far hc, ← List.append_assoc]
    rw [hc] at hcd
    clear htc hc
    go_enter Try.func47, Try.ntmps47
    go_wp2_with fail
    refine hr.mono ?_
    rintro e w' ⟨rfl, rfl⟩
    go_wp2_with fail
    refine hcd.mono ?_
    rintro e w' ⟨rfl, rfl⟩
    clear hr hcd
    go_wp2_with fail
    refine (w1_put H.out 255 8 (by decide) (by decide) (by decide) (by omega)).mono ?_
    rintro e w2 ⟨rfl, r2, h2, _⟩
    have H2 := hid h2
    clear h2 H
    go_wp2_with fail
    refine (w1_put H2.out v 64 (by omega) (by decide) (by decide) (by rw [List.length_append, len_bitsOf]; omega)).mono ?_
    rintro e w3 ⟨rfl, r3, h3, _⟩
    have H3 := hid h3
    clear h3 H2
    go_wp2
    go_ret
    exact ⟨rfl, r3, H3⟩
  · rw [tbits_near hc]
    generalize tcode v = c at *
    have hc' : ((c : Int) == 255) = false := by simp; omega
    clear hc
    go_enter Try.func47, Try.ntmps47
    go_wp2_with fail
    refine hr.mono ?_
    rintro e w' ⟨rfl, rfl⟩
    go_wp2_with fail
    refine hcd.mono ?_
    rintro e w' ⟨rfl, rfl⟩
    clear hr hcd
    go_wp2_with fail
    refine (w1_put H.out c 8 (by omega) (by decide) (by decide) (by omega)).mono ?_
    rintro e w2 ⟨rfl, r2, h2, _⟩
    have H2 := hid h2
    clear h2 H
    go_wp2
    go_ret
    exact ⟨rfl, r2, H2⟩
end Go.Proofs.Ytlfcaigofakkoaa
