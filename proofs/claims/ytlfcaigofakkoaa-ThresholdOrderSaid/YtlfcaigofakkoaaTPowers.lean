/- The walk of ThresholdPowers. -/
import Derived.Test.YtlfcaigofakkoaaTAwake
namespace Go.Proofs.Ytlfcaigofakkoaa
open Go.RowKit Bt

/-- What Power tells of a number, and Byte. -/
theorem power_byte (v : Nat) (hv : v < 18446744073709551616) :
    (∃ C : Nat, (C = 0 ∨ C = 255) ∧ (∀ w, Calls Try.prog 43 #[.int .u64 v] w fun e w' => e = .returned (.tuple #[.int .i64 0, .bool false]) ∧ w = w') ∧
      (∀ w, Calls Try.prog 44 #[.int .u64 v] w fun e w' => e = .returned (.int .i64 (C : Nat)) ∧ w = w')) ∨
    (∃ P : Int, (-243 ≤ P ∧ P ≤ 10) ∧ (∀ w, Calls Try.prog 43 #[.int .u64 v] w fun e w' => e = .returned (.tuple #[.int .i64 P, .bool true]) ∧ w = w') ∧
      (∀ w, Calls Try.prog 44 #[.int .u64 v] w fun e w' => e = .returned (.int .i64 (P + 244)) ∧ w = w') ∧
      (∀ w, Calls Try.prog 45 #[.int .i64 P] w fun e w' => e = .returned (.tuple #[.int .u64 v, .bool true]) ∧ w = w')) := by
  have hB := rbyte_any v
  rcases tcode_cases v with ⟨h0, h⟩ | ⟨c, h1, h2, h3, h⟩ | ⟨_, h, hno⟩
  · rw [h] at hB
    exact .inl ⟨0, .inl rfl, power_no v hv (by omega), hB⟩
  · refine .inr ⟨(c : Int) - 244, ⟨by omega, by omega⟩, ?_, ?_, ?_⟩
    · rw [h3]; exact power_yes c h1 h2
    · rw [show (c : Int) - 244 + 244 = (c : Nat) by omega, ← h]; exact hB
    · rw [h3]; exact of_yes c h1 h2
  · rw [h] at hB
    exact .inl ⟨255, .inr rfl, power_no v hv hno, hB⟩

/-- What Of tells of an exponent within reach. -/
theorem of_in (p : Int) (h1 : -243 ≤ p) (h2 : p ≤ 10) : ∃ u : Nat, (u : Int) = (p + 1023) * 4503599627370496 ∧ tcode u = (p + 244).toNat ∧
    (∀ w, Calls Try.prog 45 #[.int .i64 p] w fun e w' => e = .returned (.tuple #[.int .u64 u, .bool true]) ∧ w = w') ∧
    (∀ w, Calls Try.prog 43 #[.int .u64 u] w fun e w' => e = .returned (.tuple #[.int .i64 p, .bool true]) ∧ w = w') := by
  have e : p = ((p + 244).toNat : Int) - 244 := by omega
  refine ⟨((p + 244).toNat + 779) * 4503599627370496, by omega, tcode_pow (by omega) (by omega), ?_, ?_⟩
  · have := of_yes (p + 244).toNat (by omega) (by omega)
    rwa [← e] at this
  · have := power_yes (p + 244).toNat (by omega) (by omega)
    rwa [← e] at this

set_option maxHeartbeats 1000000 in
set_option maxRecDepth 100000 in
theorem powers_any (v : Nat) (p : Int) (hv : v < 18446744073709551616) (w : World) :
    Calls Try.prog 10 #[.int .u64 v, .int .i64 p] w fun e w' => e = .returned (.bool true) ∧ Fr (fun _ => False) w w' := by
  have HA := hid awake12_any
  have H1 := hid (power_byte v hv)
  have H2 : (∃ u : Nat, (-243 ≤ p ∧ p ≤ 10) ∧ Hid (∀ w, Calls Try.prog 45 #[.int .i64 p] w fun e w' => e = .returned (.tuple #[.int .u64 u, .bool true]) ∧ w = w') ∧
      Hid (∀ w, Calls Try.prog 43 #[.int .u64 u] w fun e w' => e = .returned (.tuple #[.int .i64 p, .bool true]) ∧ w = w')) ∨
      ((p < -243 ∨ 10 < p) ∧ Hid (∀ w, Calls Try.prog 45 #[.int .i64 p] w fun e w' => e = .returned (.tuple #[.int .u64 0, .bool false]) ∧ w = w')) := by
    by_cases hp : -243 ≤ p ∧ p ≤ 10
    · obtain ⟨u, _, _, h3, h4⟩ := of_in p hp.1 hp.2
      exact .inl ⟨u, hp, hid h3, hid h4⟩
    · exact .inr ⟨by omega, hid (of_no p (by omega))⟩
  rcases H1.out with ⟨C, hC, hP, hB⟩ | ⟨P, hPb, hP, hB, hO⟩
  · have HP := hid hP
    have HB := hid hB
    clear hP hB H1
    rcases H2 with ⟨u, ⟨hp1, hp2⟩, HO2, HP2⟩ | ⟨hp, HO2⟩
    · rcases hC with rfl | rfl
      all_goals
        go_enter Try.func10, Try.ntmps10
        go_wp2_with fail
        refine (HP.out _).mono ?_
        rintro e w' ⟨rfl, rfl⟩
        go_wp2_with fail
        refine (HB.out _).mono ?_
        rintro e w' ⟨rfl, rfl⟩
        go_wp2_with fail
        refine (HO2.out _).mono ?_
        rintro e w' ⟨rfl, rfl⟩
        go_wp2_with fail
        refine (HP2.out _).mono ?_
        rintro e w' ⟨rfl, rfl⟩
        go_wp2_with fail
        refine (HA.out _).mono ?_
        rintro e w' ⟨rfl, hf⟩
        have HF := hid hf
        clear hf
        go_wp2
        go_ret
        exact ⟨rfl, HF.out⟩
    · rcases hC with rfl | rfl <;> rcases hp with hp | hp
      all_goals
        go_enter Try.func10, Try.ntmps10
        go_wp2_with fail
        refine (HP.out _).mono ?_
        rintro e w' ⟨rfl, rfl⟩
        go_wp2_with fail
        refine (HB.out _).mono ?_
        rintro e w' ⟨rfl, rfl⟩
        go_wp2_with fail
        refine (HO2.out _).mono ?_
        rintro e w' ⟨rfl, rfl⟩
        go_wp2_with fail
        refine (HA.out _).mono ?_
        rintro e w' ⟨rfl, hf⟩
        have HF := hid hf
        clear hf
        go_wp2
        go_ret
        exact ⟨rfl, HF.out⟩
  · have HP := hid hP
    have HB := hid hB
    have HO := hid hO
    obtain ⟨hPb1, hPb2⟩ := hPb
    clear hP hB hO H1
    rcases H2 with ⟨u, ⟨hp1, hp2⟩, HO2, HP2⟩ | ⟨hp, HO2⟩
    · go_enter Try.func10, Try.ntmps10
      go_wp2_with fail
      refine (HP.out _).mono ?_
      rintro e w' ⟨rfl, rfl⟩
      go_wp2_with fail
      refine (HB.out _).mono ?_
      rintro e w' ⟨rfl, rfl⟩
      go_wp2_with fail
      refine (HO.out _).mono ?_
      rintro e w' ⟨rfl, rfl⟩
      go_wp2_with fail
      refine (HO2.out _).mono ?_
      rintro e w' ⟨rfl, rfl⟩
      go_wp2_with fail
      refine (HP2.out _).mono ?_
      rintro e w' ⟨rfl, rfl⟩
      go_wp2_with fail
      refine (HA.out _).mono ?_
      rintro e w' ⟨rfl, hf⟩
      have HF := hid hf
      clear hf
      go_wp2
      go_ret
      exact ⟨rfl, HF.out⟩
    · rcases hp with hp | hp
      all_goals
        go_enter Try.func10, Try.ntmps10
        go_wp2_with fail
        refine (HP.out _).mono ?_
        rintro e w' ⟨rfl, rfl⟩
        go_wp2_with fail
        refine (HB.out _).mono ?_
        rintro e w' ⟨rfl, rfl⟩
        go_wp2_with fail
        refine (HO.out _).mono ?_
        rintro e w' ⟨rfl, rfl⟩
        go_wp2_with fail
        refine (HO2.out _).mono ?_
        rintro e w' ⟨rfl, rfl⟩
        go_wp2_with fail
        refine (HA.out _).mono ?_
        rintro e w' ⟨rfl, hf⟩
        have HF := hid hf
        clear hf
        go_wp2
        go_ret
        exact ⟨rfl, HF.out⟩
end Go.Proofs.Ytlfcaigofakkoaa
