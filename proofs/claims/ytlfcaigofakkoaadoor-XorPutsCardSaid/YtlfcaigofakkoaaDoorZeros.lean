/- The walks of math/bits.LeadingZeros64, TrailingZeros64, and of package xor's windows. -/
import Derived.Test.YtlfcaigofakkoaaDoorSep
import Derived.Test.YtlfcaigofakkoaaDoorXMath
import Derived.Test.YtlfcaigofakkoaaDoorShelf
import Derived.Deep.RegionHeld3
namespace Go.Proofs.YtlfcaigofakkoaaDoor
open Go.RowKit Bt

/-- The table of math/bits reads as it was laid. -/
def Tab (w : World) : Prop := ∀ j, j < 64 → w.cell? ⟨0, j, none⟩ = some (.int .u8 ((Lib.deBruijn64tab.getD j 0 : Nat) : Int))

theorem Tab.keep {S : Nat → Prop} {w w' : World} (h : Tab w) (hf : Fr S w w') (hn : ¬ S 0) : Tab w' := fun j hj => by
  rw [hf.cell (World.block_lt_of_cell? w _ (h j hj)) hn]; exact h j hj
theorem Tab.pos {w : World} (h : Tab w) : 0 < w.heap.size := World.block_lt_of_cell? w _ (h 0 (by decide))

theorem lz_any (d : Nat) (hd : d < 18446744073709551616) (w : World) :
    Calls Tryd.prog 38 #[.int .u64 d] w fun e w' => e = .returned (.int .i64 (lz d)) ∧ w' = w := by
  have h := Tryd.bits_LeadingZeros64 d w (by omega) (by omega)
  have := bitLen_le64 d hd
  rw [Int.toNat_natCast, show (64 - (Lib.bitLen d : Int)) = ((lz d : Nat) : Int) by unfold lz; omega] at h
  exact h

theorem tz_key (x a : Nat) (hx : x < 18446744073709551616) (hx0 : x ≠ 0) (hlow : x &&& (18446744073709551616 - x) = a) :
    IntKind.u64.wrap (bits BinOp.and IntKind.u64 (x : Int) (IntKind.u64.wrap (-(x : Int))) * 285870213051353865) / 288230376151711744 = ((a * 285870213051353865 % 18446744073709551616 / 288230376151711744 : Nat) : Int) := by
  have e1 : IntKind.u64.wrap (-(x : Int)) = ((18446744073709551616 - x : Nat) : Int) := by rw [IntKind.wrap_u64]; omega
  rw [e1, u64_and_nat x _ hx (by omega), hlow, IntKind.wrap_u64]
  omega

theorem tz_any (d : Nat) (hd : d < 18446744073709551616) (w : World) (ht : d ≠ 0 → Tab w) :
    Calls Tryd.prog 39 #[.int .u64 d] w fun e w' => e = .returned (.int .i64 (tz d)) ∧ w' = w := by
  by_cases h0 : d = 0
  · subst h0
    go_enter Tryd.func39, Tryd.ntmps39
    go_wp2
    go_ret
    exact ⟨rfl, rfl⟩
  · obtain ⟨hlow, hk⟩ := Lib.lowest_bit 64 d h0 hd
    obtain ⟨hi, htab⟩ := Lib.deBruijn64_at _ hk
    have hcell := ht h0 _ hi
    rw [htab] at hcell
    have key := tz_key d _ hd h0 hlow
    obtain ⟨i, hi'⟩ : ∃ i, i = 2 ^ Lib.ctz 64 d * 285870213051353865 % 18446744073709551616 / 288230376151711744 := ⟨_, rfl⟩
    rw [← hi'] at hcell key hi
    have hx0 : ((d : Int) == 0) = false := by simp; omega
    have hk' : Lib.ctz 64 d < 64 := hk
    obtain ⟨t, ht'⟩ : ∃ t, t = Lib.ctz 64 d := ⟨_, rfl⟩
    rw [← ht'] at hcell hk'
    have HT := hid ht'
    clear ht' hi' hlow htab hk ht
    go_enter Tryd.func39, Tryd.ntmps39
    go_wp2
    go_ret
    exact ⟨by rw [show tz d = t from HT.out.symm]; rfl, rfl⟩

theorem behind_any (a b : Nat) (hab : a + b ≤ 64) (w : World) :
    Calls Tryd.prog 26 #[.agg #[.int .i64 a, .int .i64 b]] w fun e w' => e = .returned (.int .i64 ((64 - a - b : Nat) : Int)) ∧ Fr (fun _ => False) w w' := by
  go_enter Tryd.func26, Tryd.ntmps26
  go_wp2
  go_ret
  exact ⟨ret_int (by omega), (Fr.refl _ _).alloc _⟩

theorem of_any (d : Nat) (h0 : d ≠ 0) (hd : d < 18446744073709551616) (w : World) (ht : Tab w) :
    Calls Tryd.prog 27 #[.int .u64 d] w fun e w' => e = .returned (.agg #[.int .i64 (aheadOf d : Nat), .int .i64 (bitsOfWin d : Nat)]) ∧ Fr (fun _ => False) w w' := by
  have hw := win_of d h0 hd
  have hz := lz_tz d h0 hd
  have hlz : (lz d : Int) ≤ 63 := by omega
  have htz : tz d ≤ 63 := by omega
  have HT := hid (ht.keep ((Fr.refl (fun _ => False) w).alloc (.cells #[.int .i64 0, .int .i64 0] 55)) (fun h => h))
  have HA := hid (show ((aheadOf d : Nat) : Int) = min (lz d : Int) 31 by unfold aheadOf; omega)
  have HB := hid (show ((bitsOfWin d : Nat) : Int) = 64 - min (lz d : Int) 31 - (tz d : Int) by unfold bitsOfWin aheadOf; omega)
  clear hw hz
  go_enter Tryd.func27, Tryd.ntmps27
  go_wp2_with fail
  refine (lz_any d hd _).mono ?_
  rintro e w' ⟨rfl, rfl⟩
  go_wp2_with fail
  refine (tz_any d hd _ (fun _ => HT.out)).mono ?_
  rintro e w' ⟨rfl, rfl⟩
  go_wp2
  refine bodyPost_ret (v := .agg #[.int .i64 (min (lz d : Int) 31), .int .i64 (64 - min (lz d : Int) 31 - (tz d : Int))]) (by simp [results, Tryd.results27, go_sem]) rfl ⟨?_, ?_⟩
  · rw [HA.out, HB.out]
  · exact (Fr.refl _ _).alloc _

theorem ret_bool {a b : Bool} (h : a = b) : Ending.returned (.bool a) = .returned (.bool b) := by rw [h]

/-- Has the window all bits that differ? -/
theorem holds_any (s : XS) (hs : s.Ok) (d : Nat) (h0 : d ≠ 0) (hd : d < 18446744073709551616) (w : World) (ht : Tab w) :
    Calls Tryd.prog 25 #[.agg #[.int .i64 s.ahead, .int .i64 s.bits], .int .u64 d] w fun e w' => e = .returned (.bool (s.holds d)) ∧ Fr (fun _ => False) w w' := by
  obtain ⟨la, n, a, b⟩ := s
  have hwin : a + b ≤ 64 := hs.win
  have ha : a ≤ 31 := hs.ahead
  have hz := lz_tz d h0 hd
  have hlz : lz d ≤ 63 := by omega
  have htz : tz d ≤ 63 := by omega
  have T1 : Tab (w.alloc (.cells #[.int .i64 a, .int .i64 b] 55)).drew := ht.keep ((Fr.refl (fun _ => False) w).alloc _).drew (fun h => h)
  clear hs hz ht
  simp only [XS.holds]
  by_cases hb : 0 < b
  · by_cases hl : a ≤ lz d
    · have hg1 : decide ((0 : Int) < (b : Int)) = true := by simp; omega
      have hg2 : decide ((a : Int) ≤ (lz d : Int)) = true := by simp; omega
      have hwr1 : IntKind.i64.wrap (64 - (a : Int)) = 64 - (a : Int) := IntWalk.i64_in _ (by omega)
      go_enter Tryd.func25, Tryd.ntmps25
      go_wp2_with fail
      go_region_held3 (fun w' => w'.cell? ⟨w.heap.size, 0, none⟩ = some (.int .i64 (a : Int)) ∧ w'.cell? ⟨w.heap.size, 1, none⟩ = some (.int .i64 (b : Int))) (go_keep)
        (first | (go_at_call 38; refine (lz_any d hd _).mono ?_; rintro e w' ⟨rfl, rfl⟩) | (go_at_call 39; refine (tz_any d hd _ (fun _ => T1)).mono ?_; rintro e w' ⟨rfl, rfl⟩) | (go_at_call 26; refine (behind_any a b hwin _).mono ?_; rintro e w' ⟨rfl, hf⟩; have d1 : w'.cell? ⟨w.heap.size, 0, none⟩ = some (.int .i64 (a : Int)) := (hf.cell (by simp) (fun h => h)).trans (by simp); have d2 : w'.cell? ⟨w.heap.size, 1, none⟩ = some (.int .i64 (b : Int)) := (hf.cell (by simp) (fun h => h)).trans (by simp)))
      go_wp2
      go_ret
      refine ⟨ret_bool ?_, ((Fr.refl _ _).alloc _).drew.trans hf (fun _ h _ => h)⟩
      simp only [hb, hl, decide_true, Bool.true_and]
      exact decide_eq_decide.2 (by omega)
    · have hg1 : decide ((0 : Int) < (b : Int)) = true := by simp; omega
      have hg2 : decide ((a : Int) ≤ (lz d : Int)) = false := by simp; omega
      go_enter Tryd.func25, Tryd.ntmps25
      go_wp2_with fail
      go_quiet ((go_at_call 38; exact Calls.quiet_of_same (lz_any d hd _)))
      go_wp2
      go_ret
      exact ⟨ret_bool (by simp [hl]), ((Fr.refl _ _).alloc _).drewN _⟩
  · have hg1 : decide ((0 : Int) < (b : Int)) = false := by simp; omega
    go_enter Tryd.func25, Tryd.ntmps25
    go_wp2_with fail
    go_quiet (fail)
    go_wp2
    go_ret
    exact ⟨ret_bool (by simp [hb]), ((Fr.refl _ _).alloc _).drewN _⟩
end Go.Proofs.YtlfcaigofakkoaaDoor
