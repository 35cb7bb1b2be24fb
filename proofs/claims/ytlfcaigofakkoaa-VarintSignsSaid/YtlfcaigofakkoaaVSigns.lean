/- The walk of VarintSigns. -/
import Derived.Test.YtlfcaigofakkoaaVAwake
namespace Go.Proofs.Ytlfcaigofakkoaa
open Go.RowKit Bt

set_option maxRecDepth 100000 in
theorem signs_any (v : Int) (u : Nat) (h1 : -9223372036854775808 ≤ v) (h2 : v ≤ 9223372036854775807) (hu : u < 18446744073709551616) (w : World) :
    Calls Try.prog 7 #[.int .i64 v, .int .u64 u] w fun e w' => e = .returned (.bool true) ∧ Fr (fun _ => False) w w' := by
  have hz := zig_lt v h1 h2
  have HZ := hid (zag_le u hu)
  go_enter Try.func7, Try.ntmps7
  go_wp2_with fail
  refine (zig_any v h1 h2 _).mono ?_
  rintro e w1 ⟨rfl, rfl⟩
  go_wp2_with fail
  refine (rzig_any v h1 h2 _).mono ?_
  rintro e w1 ⟨rfl, rfl⟩
  go_wp2_with fail
  refine (zig_any v h1 h2 _).mono ?_
  rintro e w1 ⟨rfl, rfl⟩
  go_wp2_with fail
  refine (zag_any (zig v) hz _).mono ?_
  rintro e w1 ⟨rfl, rfl⟩
  rw [zag_zig]
  go_wp2_with fail
  refine (zag_any u hu _).mono ?_
  rintro e w1 ⟨rfl, rfl⟩
  go_wp2_with fail
  refine (zig_any (zag u) HZ.out.1 HZ.out.2 _).mono ?_
  rintro e w1 ⟨rfl, rfl⟩
  rw [zig_zag]
  go_wp2_with fail
  refine (awake3_any _).mono ?_
  rintro e w1 ⟨rfl, hf⟩
  have HF := hid hf
  clear hf
  go_wp2
  go_ret
  exact ⟨rfl, HF.out⟩
end Go.Proofs.Ytlfcaigofakkoaa
