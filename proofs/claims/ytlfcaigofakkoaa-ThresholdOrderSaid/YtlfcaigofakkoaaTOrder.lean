/- The walk of ThresholdOrder. -/
import Derived.Test.YtlfcaigofakkoaaTPowers
namespace Go.Proofs.Ytlfcaigofakkoaa
open Go.RowKit Bt

set_option maxRecDepth 100000 in
theorem order_out (p q : Int) (h : p < -243 ∨ 10 < p ∨ q < -243 ∨ 10 < q) (w : World) :
    Calls Try.prog 11 #[.int .i64 p, .int .i64 q] w fun e w' => e = .returned (.bool true) ∧ Fr (fun _ => False) w w' := by
  have HA := hid awake12_any
  by_cases h1 : p < -243
  · go_enter Try.func11, Try.ntmps11
    go_wp2_with fail
    refine (HA.out _).mono ?_
    rintro e w' ⟨rfl, hf⟩
    go_wp2
    go_ret
    exact ⟨rfl, hf⟩
  · by_cases h2 : 10 < p
    · clear h h1
      go_enter Try.func11, Try.ntmps11
      go_wp2_with fail
      refine (HA.out _).mono ?_
      rintro e w' ⟨rfl, hf⟩
      go_wp2
      go_ret
      exact ⟨rfl, hf⟩
    · by_cases h3 : q < -243
      · clear h
        go_enter Try.func11, Try.ntmps11
        go_wp2_with fail
        refine (HA.out _).mono ?_
        rintro e w' ⟨rfl, hf⟩
        go_wp2
        go_ret
        exact ⟨rfl, hf⟩
      · have h4 : 10 < q := by omega
        clear h h3
        go_enter Try.func11, Try.ntmps11
        go_wp2_with fail
        refine (HA.out _).mono ?_
        rintro e w' ⟨rfl, hf⟩
        go_wp2
        go_ret
        exact ⟨rfl, hf⟩

set_option maxHeartbeats 1000000 in
set_option maxRecDepth 100000 in
theorem order_in (p q : Int) (h1 : -243 ≤ p) (h2 : p ≤ 10) (h3 : -243 ≤ q) (h4 : q ≤ 10) (w : World) :
    Calls Try.prog 11 #[.int .i64 p, .int .i64 q] w fun e w' => e = .returned (.bool true) ∧ Fr (fun _ => False) w w' := by
  have HA := hid awake12_any
  obtain ⟨u, hu, hcu, hou, _⟩ := of_in p h1 h2
  obtain ⟨x, hx, _, hox, _⟩ := of_in q h3 h4
  have HU := hid hou
  have HX := hid hox
  obtain ⟨b, hb1, hb2, hb3⟩ : ∃ b : Bool, decide (p < q) = b ∧ decide ((u : Int) < (x : Int)) = b ∧ decide (u < x) = b := by
    by_cases h : p < q
    · exact ⟨true, decide_eq_true h, decide_eq_true (by omega), decide_eq_true (by omega)⟩
    · exact ⟨false, decide_eq_false h, decide_eq_false (by omega), decide_eq_false (by omega)⟩
  have HBU := hid (rbyte_any u)
  rw [hcu, show (((p + 244).toNat : Nat) : Int) = p + 244 by omega] at HBU
  clear hou hox hx hcu
  by_cases h10 : p < 10
  · obtain ⟨y, hy, hcy, hoy, _⟩ := of_in (p + 1) (by omega) (by omega)
    have HY := hid hoy
    have HBY := hid (rbyte_any y)
    rw [hcy, show (((p + 1 + 244).toNat : Nat) : Int) = p + 244 + 1 by omega] at HBY
    have hgt : decide ((u : Int) < (y : Int)) = true := by simp; omega
    have hgt' : decide (u < y) = true := by simp; omega
    have h10' : decide (p < 10) = true := by simp; omega
    clear hoy hy hcy hu
    go_enter Try.func11, Try.ntmps11
    go_wp2_with fail
    refine (HU.out _).mono ?_
    rintro e w' ⟨rfl, rfl⟩
    go_wp2_with fail
    refine (HX.out _).mono ?_
    rintro e w' ⟨rfl, rfl⟩
    go_wp2_with fail
    refine (HY.out _).mono ?_
    rintro e w' ⟨rfl, rfl⟩
    clear hb1 hb2 hb3
    go_wp2_with fail
    refine (HBY.out _).mono ?_
    rintro e w' ⟨rfl, rfl⟩
    go_wp2_with fail
    refine (HBU.out _).mono ?_
    rintro e w' ⟨rfl, rfl⟩
    go_wp2_with fail
    refine (HA.out _).mono ?_
    rintro e w' ⟨rfl, hf⟩
    have HF := hid hf
    clear hf
    go_wp2
    go_ret
    exact ⟨rfl, HF.out⟩
  · have h10' : decide (p < 10) = false := by simp; omega
    have HY := hid (of_no (p + 1) (by omega))
    clear hu
    go_enter Try.func11, Try.ntmps11
    go_wp2_with fail
    refine (HU.out _).mono ?_
    rintro e w' ⟨rfl, rfl⟩
    go_wp2_with fail
    refine (HX.out _).mono ?_
    rintro e w' ⟨rfl, rfl⟩
    go_wp2_with fail
    refine (HY.out _).mono ?_
    rintro e w' ⟨rfl, rfl⟩
    clear hb1 hb2 hb3
    go_wp2_with fail
    refine (HA.out _).mono ?_
    rintro e w' ⟨rfl, hf⟩
    have HF := hid hf
    clear hf
    go_wp2
    go_ret
    exact ⟨rfl, HF.out⟩
end Go.Proofs.Ytlfcaigofakkoaa
