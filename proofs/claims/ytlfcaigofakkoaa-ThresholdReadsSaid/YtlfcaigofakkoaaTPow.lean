/- The walks of the thresholds' bytes: Power, Of, code, the reference's Byte, Head, hist's Threshold, Len. -/
import Derived.Test.YtlfcaigofakkoaaTMath
import Derived.Test.YtlfcaigofakkoaaPure
namespace Go.Proofs.Ytlfcaigofakkoaa
open Go.RowKit Bt

set_option maxRecDepth 100000 in
theorem power_yes (c : Nat) (h1 : 1 ≤ c) (h2 : c ≤ 254) (w : World) :
    Calls Try.prog 43 #[.int .u64 ((c + 779) * 4503599627370496 : Nat)] w fun e w' => e = .returned (.tuple #[.int .i64 ((c : Int) - 244), .bool true]) ∧ w = w' := by
  obtain ⟨v, hv⟩ : ∃ v, v = (c + 779) * 4503599627370496 := ⟨_, rfl⟩
  rw [← hv]
  have hq : (v : Int) / 4503599627370496 = (c : Int) + 779 := by omega
  have hr : (v : Int) % 4503599627370496 = 0 := by omega
  have hv2 : v < 18446744073709551616 := by omega
  clear hv
  go_enter Try.func43, Try.ntmps43
  go_wp2
  go_ret2
  refine ⟨?_, rfl⟩
  show Ending.returned (.tuple #[.int .i64 ((c : Int) + 779 - 1023), .bool true]) = _
  rw [show (c : Int) + 779 - 1023 = (c : Int) - 244 by omega]

set_option maxRecDepth 100000 in
theorem power_no (v : Nat) (hv : v < 18446744073709551616) (h : v % 4503599627370496 ≠ 0 ∨ v / 4503599627370496 < 780 ∨ 1033 < v / 4503599627370496) (w : World) :
    Calls Try.prog 43 #[.int .u64 v] w fun e w' => e = .returned (.tuple #[.int .i64 0, .bool false]) ∧ w = w' := by
  obtain ⟨q, hq0⟩ : ∃ q, q = v / 4503599627370496 := ⟨_, rfl⟩
  obtain ⟨r, hr0⟩ : ∃ r, r = v % 4503599627370496 := ⟨_, rfl⟩
  have hq : (v : Int) / 4503599627370496 = (q : Int) := by omega
  have hr : (v : Int) % 4503599627370496 = (r : Int) := by omega
  have hql : q < 4096 := by omega
  have h' : ¬ r = 0 ∨ (r = 0 ∧ q < 780) ∨ (r = 0 ∧ 1033 < q) := by omega
  clear h hq0 hr0
  rcases h' with h | ⟨rfl, h⟩ | ⟨rfl, h⟩
  · go_enter Try.func43, Try.ntmps43
    go_wp2
    go_ret2
    exact ⟨rfl, rfl⟩
  · go_enter Try.func43, Try.ntmps43
    go_wp2
    go_ret2
    exact ⟨rfl, rfl⟩
  · go_enter Try.func43, Try.ntmps43
    go_wp2
    go_ret2
    exact ⟨rfl, rfl⟩

set_option maxRecDepth 100000 in
theorem of_yes (c : Nat) (h1 : 1 ≤ c) (h2 : c ≤ 254) (w : World) :
    Calls Try.prog 45 #[.int .i64 ((c : Int) - 244)] w fun e w' => e = .returned (.tuple #[.int .u64 ((c + 779) * 4503599627370496 : Nat), .bool true]) ∧ w = w' := by
  obtain ⟨p, hp⟩ : ∃ p : Int, p = (c : Int) - 244 := ⟨_, rfl⟩
  rw [← hp]
  have hp1 : -243 ≤ p := by omega
  have hp2 : p ≤ 10 := by omega
  have hc : (c : Int) + 779 = p + 1023 := by omega
  have e : (((c + 779) * 4503599627370496 : Nat) : Int) = (p + 1023) * 4503599627370496 := by omega
  rw [e]
  clear e hc hp h1 h2
  go_enter Try.func45, Try.ntmps45
  go_wp2
  go_ret2
  exact ⟨rfl, rfl⟩

set_option maxRecDepth 100000 in
theorem of_no (p : Int) (h : p < -243 ∨ 10 < p) (w : World) :
    Calls Try.prog 45 #[.int .i64 p] w fun e w' => e = .returned (.tuple #[.int .u64 0, .bool false]) ∧ w = w' := by
  rcases h with h | h
  · go_enter Try.func45, Try.ntmps45
    go_wp2
    go_ret2
    exact ⟨rfl, rfl⟩
  · go_enter Try.func45, Try.ntmps45
    go_wp2
    go_ret2
    exact ⟨rfl, rfl⟩

set_option maxRecDepth 100000 in
theorem code_any (v : Nat) (hv : v < 18446744073709551616) (w : World) :
    Calls Try.prog 57 #[.int .u64 v] w fun e w' => e = .returned (.int .u64 (tcode v : Nat)) ∧ w = w' := by
  rcases tcode_cases v with ⟨rfl, h⟩ | ⟨c, h1, h2, rfl, h⟩ | ⟨h0, h, hno⟩
  · rw [h]
    go_enter Try.func57, Try.ntmps57
    go_wp2
    go_ret
    exact ⟨rfl, rfl⟩
  · rw [h]
    have HP := hid (power_yes c h1 h2)
    obtain ⟨v, hv'⟩ : ∃ v, v = (c + 779) * 4503599627370496 := ⟨_, rfl⟩
    rw [← hv'] at HP ⊢
    have h0 : ((v : Int) == 0) = false := by simp; omega
    clear hv' h
    go_enter Try.func57, Try.ntmps57
    go_wp2_with fail
    refine (HP.out _).mono ?_
    rintro e w' ⟨rfl, rfl⟩
    go_wp2
    go_ret
    refine ⟨?_, rfl⟩
    show Ending.returned (.int .u64 (244 + ((c : Int) - 244))) = _
    rw [show 244 + ((c : Int) - 244) = (c : Int) by omega]
  · rw [h]
    have HP := hid (power_no v hv hno)
    have h0' : ((v : Int) == 0) = false := by simp; omega
    clear h hno h0
    go_enter Try.func57, Try.ntmps57
    go_wp2_with fail
    refine (HP.out _).mono ?_
    rintro e w' ⟨rfl, rfl⟩
    go_wp2
    go_ret
    exact ⟨rfl, rfl⟩

theorem thr_any (v : Nat) (w : World) :
    Calls Try.prog 56 #[.int .u64 v] w fun e w' => e = .returned (.bool (decide (v < 9218868437227405312))) ∧ w = w' := by
  by_cases h : v < 9218868437227405312
  · rw [decide_eq_true h]
    have hd : decide ((v : Int) < 9218868437227405312) = true := by simp; omega
    go_enter Try.func56, Try.ntmps56
    go_wp2
    go_ret
    exact ⟨rfl, rfl⟩
  · rw [decide_eq_false h]
    have hd : decide ((v : Int) < 9218868437227405312) = false := by simp; omega
    go_enter Try.func56, Try.ntmps56
    go_wp2
    go_ret
    exact ⟨rfl, rfl⟩

theorem head_yes (v : Nat) (h : v < 9218868437227405312) (w : World) :
    Calls Try.prog 48 #[.int .i64 0, .int .u64 v] w fun e w' => e = .returned (.int .i64 0) ∧ w = w' := by
  have hd : decide ((9218868437227405312 : Int) ≤ (v : Int)) = false := by simp; omega
  go_enter Try.func48, Try.ntmps48
  go_wp2
  go_ret
  exact ⟨rfl, rfl⟩

theorem head_no (v : Nat) (h : ¬ v < 9218868437227405312) (w : World) :
    Calls Try.prog 48 #[.int .i64 0, .int .u64 v] w fun e w' => e = .returned (.int .i64 11) ∧ w = w' := by
  have hd : decide ((9218868437227405312 : Int) ≤ (v : Int)) = true := by simp; omega
  go_enter Try.func48, Try.ntmps48
  go_wp2
  go_ret
  exact ⟨rfl, rfl⟩

theorem tlen_no (v : Nat) (h : ¬ v < 9218868437227405312) (w : World) :
    Calls Try.prog 49 #[.int .u64 v] w fun e w' => e = .returned (.int .i64 0) ∧ w = w' := by
  have hr := thr_any v w
  rw [decide_eq_false h] at hr
  go_enter Try.func49, Try.ntmps49
  go_wp2_with fail
  refine hr.mono ?_
  rintro e w' ⟨rfl, rfl⟩
  clear hr
  go_wp2
  go_ret
  exact ⟨rfl, rfl⟩

theorem tlen_yes (v : Nat) (h : v < 9218868437227405312) (w : World) :
    Calls Try.prog 49 #[.int .u64 v] w fun e w' => e = .returned (.int .i64 ((tbits v).length : Nat)) ∧ w = w' := by
  have hr := thr_any v w
  have hcd := code_any v (by omega) w
  rw [decide_eq_true h] at hr
  by_cases hc : tcode v = 255
  · rw [tbits_far hc, List.length_append, len_bitsOf, len_bitsOf]
    rw [hc] at hcd
    go_enter Try.func49, Try.ntmps49
    go_wp2_with fail
    refine hr.mono ?_
    rintro e w' ⟨rfl, rfl⟩
    go_wp2_with fail
    refine hcd.mono ?_
    rintro e w' ⟨rfl, rfl⟩
    clear hr hcd
    go_wp2
    go_ret
    exact ⟨rfl, rfl⟩
  · rw [tbits_near hc, len_bitsOf]
    have hc' : ((tcode v : Int) == 255) = false := by simp; omega
    clear hc
    go_enter Try.func49, Try.ntmps49
    go_wp2_with fail
    refine hr.mono ?_
    rintro e w' ⟨rfl, rfl⟩
    go_wp2_with fail
    refine hcd.mono ?_
    rintro e w' ⟨rfl, rfl⟩
    clear hr hcd
    go_wp2
    go_ret
    exact ⟨rfl, rfl⟩

set_option maxRecDepth 100000 in
theorem rbyte_any (v : Nat) (w : World) :
    Calls Try.prog 44 #[.int .u64 v] w fun e w' => e = .returned (.int .i64 (tcode v : Nat)) ∧ w = w' := by
  by_cases h0 : v = 0
  · subst h0
    rw [tcode_zero]
    go_enter Try.func44, Try.ntmps44
    go_wp2
    go_ret
    exact ⟨rfl, rfl⟩
  · have h0' : ((v : Int) == 0) = false := by simp; omega
    have HV := hid h0
    clear h0
    go_enter Try.func44, Try.ntmps44
    go_wp2
    go_loop [3] (fun x => ∃ c : Nat, x = .int .u64 c ∧ 1 ≤ c ∧ c ≤ 255 ∧ Hid (∀ d, 1 ≤ d → d < c → v ≠ (d + 779) * 4503599627370496)) (fun x => 255 - (intOf x).toNat)
    case atStart => exact ⟨1, rfl, by omega, by omega, hid (by omega)⟩
    case round =>
      obtain ⟨c, rfl, hc1, hc2, H⟩ := hrel
      by_cases hlt : c < 255
      · by_cases he : v = (c + 779) * 4503599627370496
        · have hE : ((v : Int) == ((c : Int) + 779) * 4503599627370496) = true := by simp; omega
          have hT := hid (show tcode v = c by rw [he]; exact tcode_pow hc1 (by omega))
          clear he
          go_wp2
          go_ret
          exact ⟨by rw [hT.out]; rfl, rfl⟩
        · have hE : ((v : Int) == ((c : Int) + 779) * 4503599627370496) = false := by simp; omega
          have HE := hid he
          clear he
          go_wp2
          go_round
          case rel =>
            refine ⟨c + 1, by go_num, by omega, by omega, hid fun d h1 h2 => ?_⟩
            by_cases hd : d = c
            · rw [hd]; exact HE.out
            · exact H.out d h1 (by omega)
          case measure => simp [intOf]; omega
      · have hT := hid (show tcode v = 255 by
          rcases tcode_cases v with ⟨h, _⟩ | ⟨d, h1, h2, h3, _⟩ | ⟨_, h, _⟩
          · exact absurd h HV.out
          · exact absurd h3 (H.out d h1 (by omega))
          · exact h)
        go_wp2
        go_ret
        exact ⟨by rw [hT.out]; rfl, rfl⟩
end Go.Proofs.Ytlfcaigofakkoaa
