/- The walk of BitsCut: whatever it is called with, it returns true, and nothing old has turned. -/
import Derived.Test.YtlfcaigofakkoaaAwake1
namespace Go.Proofs.Ytlfcaigofakkoaa
open Go.RowKit Bt

set_option maxHeartbeats 400000 in
theorem right1_any (n : Int) (ao : Option Addr) (len cap : Nat) (hl : len ≤ 1000000) (w : World) :
    Calls Try.prog 25 #[.slice ao len cap, .int .i64 n] w fun e w' => e = .returned (.bool (decide (0 ≤ n ∧ n ≤ 8 * len))) ∧ w = w' := by
  by_cases h0 : 0 ≤ n
  · by_cases h1 : n ≤ 8 * len
    · have h2 : decide (n ≤ 8 * len) = true := by simpa using h1
      have e : decide (0 ≤ n ∧ n ≤ 8 * len) = true := by simp [h0, h1]
      rw [e]; clear e
      go_enter Try.func25, Try.ntmps25
      go_wp2
      go_ret
      exact ⟨rfl, rfl⟩
    · have h2 : decide (n ≤ 8 * len) = false := by simpa using h1
      have e : decide (0 ≤ n ∧ n ≤ 8 * len) = false := by simp [h1]
      rw [e]; clear e
      go_enter Try.func25, Try.ntmps25
      go_wp2
      go_ret
      exact ⟨rfl, rfl⟩
  · have e : decide (0 ≤ n ∧ n ≤ 8 * len) = false := by simp [h0]
    rw [e]; clear e
    go_enter Try.func25, Try.ntmps25
    go_wp2
    go_ret
    exact ⟨rfl, rfl⟩

theorem right1_yes (n : Int) (ao : Option Addr) (len cap : Nat) (hl : len ≤ 1000000) (w : World) (h : 0 ≤ n ∧ n ≤ 8 * len) :
    Calls Try.prog 25 #[.slice ao len cap, .int .i64 n] w fun e w' => e = .returned (.bool true) ∧ w = w' := by
  have := right1_any n ao len cap hl w
  rwa [decide_eq_true h] at this
theorem right1_no (n : Int) (ao : Option Addr) (len cap : Nat) (hl : len ≤ 1000000) (w : World) (h : ¬ (0 ≤ n ∧ n ≤ 8 * len)) :
    Calls Try.prog 25 #[.slice ao len cap, .int .i64 n] w fun e w' => e = .returned (.bool false) ∧ w = w' := by
  have := right1_any n ao len cap hl w
  rwa [decide_eq_false h] at this

/-- Where the law does not look closer. -/
theorem cut_out (ao : Option Addr) (len cap : Nat) (n k : Int) (w : World) (h : 100 < len ∨ len ≤ 100 ∧ ¬ (0 ≤ n ∧ n ≤ 8 * len) ∨ len ≤ 100 ∧ (0 ≤ n ∧ n ≤ 8 * len) ∧ (k < 0 ∨ n < k)) :
    Calls Try.prog 4 #[.slice ao len cap, .int .i64 n, .int .i64 k] w fun e w' => e = .returned (.bool true) ∧ Fr (fun _ => False) w w' := by
  rcases h with h | ⟨hl, h⟩ | ⟨hl, h, hk⟩
  · go_enter Try.func4, Try.ntmps4
    go_wp2_with fail
    refine (awake1_any _).mono ?_
    rintro e w1 ⟨rfl, hf⟩
    go_wp2
    go_ret
    exact ⟨rfl, hf⟩
  · have HR := hid (right1_no n ao len cap (by omega) w h)
    clear h
    go_enter Try.func4, Try.ntmps4
    go_wp2_with fail
    refine HR.out.mono ?_
    rintro e w1 ⟨rfl, rfl⟩
    go_wp2_with fail
    refine (awake1_any _).mono ?_
    rintro e w1 ⟨rfl, hf⟩
    go_wp2
    go_ret
    exact ⟨rfl, hf⟩
  · have HR := hid (right1_yes n ao len cap (by omega) w h)
    clear h
    rcases hk with hk | hk
    · go_enter Try.func4, Try.ntmps4
      go_wp2_with fail
      refine HR.out.mono ?_
      rintro e w1 ⟨rfl, rfl⟩
      go_wp2_with fail
      refine (awake1_any _).mono ?_
      rintro e w1 ⟨rfl, hf⟩
      go_wp2
      go_ret
      exact ⟨rfl, hf⟩
    · by_cases hk0 : k < 0
      · go_enter Try.func4, Try.ntmps4
        go_wp2_with fail
        refine HR.out.mono ?_
        rintro e w1 ⟨rfl, rfl⟩
        go_wp2_with fail
        refine (awake1_any _).mono ?_
        rintro e w1 ⟨rfl, hf⟩
        go_wp2
        go_ret
        exact ⟨rfl, hf⟩
      · go_enter Try.func4, Try.ntmps4
        go_wp2_with fail
        refine HR.out.mono ?_
        rintro e w1 ⟨rfl, rfl⟩
        go_wp2_with fail
        refine (awake1_any _).mono ?_
        rintro e w1 ⟨rfl, hf⟩
        go_wp2
        go_ret
        exact ⟨rfl, hf⟩
end Go.Proofs.Ytlfcaigofakkoaa
