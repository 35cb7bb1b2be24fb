/- The walk of a threshold's Get. -/
import Derived.Test.YtlfcaigofakkoaaTPut
namespace Go.Proofs.Ytlfcaigofakkoaa
open Go.RowKit Bt

section
variable {w : World} {B a pos : Nat} {r : Option Nat} {l : List Bool}

theorem far_short (h : Rd w B a r pos l false) (hl : l.length < 64) :
    Calls Try.prog 58 #[.pointer (some ⟨a, 0, none⟩)] w fun e w' => e = .returned (.tuple #[.int .u64 0, .int .i64 16]) ∧ Fr (fun k => k = a) w w' := by
  have H := hid h
  clear h
  go_enter Try.func58, Try.ntmps58
  go_wp2_with fail
  refine (get_short w B a r pos l false 64 (by decide) (by decide) hl H.out).mono ?_
  rintro e w2 ⟨rfl, hr2, hf2⟩
  have H2 := hid (And.intro hr2 hf2)
  clear hr2 hf2
  go_wp2_with fail
  refine (short_any _ B a r _ [] true H2.out.1).mono ?_
  rintro e w3 ⟨rfl, rfl⟩
  go_wp2
  go_ret2
  exact ⟨rfl, H2.out.2⟩

theorem far_range (h : Rd w B a r pos l false) (hl : 64 ≤ l.length) (hv : ¬ bval (l.take 64) < 9218868437227405312) :
    Calls Try.prog 58 #[.pointer (some ⟨a, 0, none⟩)] w fun e w' => e = .returned (.tuple #[.int .u64 0, .int .i64 11]) ∧ Fr (fun k => k = a) w w' := by
  have H := hid h
  have HG := hid (get_yes w B a r pos l false 64 (by decide) (by decide) hl h)
  generalize bval (l.take 64) = v at *
  have HT := hid (fun w => thr_any v w)
  rw [decide_eq_false hv] at HT
  clear h
  go_enter Try.func58, Try.ntmps58
  go_wp2_with fail
  refine HG.out.mono ?_
  rintro e w2 ⟨rfl, hr2, hf2⟩
  have H2 := hid (And.intro hr2 hf2)
  clear hr2 hf2
  go_wp2_with fail
  refine (short_any _ B a r _ _ false H2.out.1).mono ?_
  rintro e w3 ⟨rfl, rfl⟩
  go_wp2_with fail
  refine (HT.out _).mono ?_
  rintro e w3 ⟨rfl, rfl⟩
  go_wp2
  go_ret2
  exact ⟨rfl, H2.out.2⟩

theorem far_form (h : Rd w B a r pos l false) (hl : 64 ≤ l.length) (hv : bval (l.take 64) < 9218868437227405312) (hc : tcode (bval (l.take 64)) ≠ 255) :
    Calls Try.prog 58 #[.pointer (some ⟨a, 0, none⟩)] w fun e w' => e = .returned (.tuple #[.int .u64 0, .int .i64 10]) ∧ Fr (fun k => k = a) w w' := by
  have H := hid h
  have HG := hid (get_yes w B a r pos l false 64 (by decide) (by decide) hl h)
  generalize bval (l.take 64) = v at *
  have HT := hid (fun w => thr_any v w)
  rw [decide_eq_true hv] at HT
  have HC := hid (fun w => code_any v (by omega) w)
  generalize tcode v = c at *
  have hc' : ((c : Int) == 255) = false := by simp; omega
  clear h hc
  go_enter Try.func58, Try.ntmps58
  go_wp2_with fail
  refine HG.out.mono ?_
  rintro e w2 ⟨rfl, hr2, hf2⟩
  have H2 := hid (And.intro hr2 hf2)
  clear hr2 hf2
  go_wp2_with fail
  refine (short_any _ B a r _ _ false H2.out.1).mono ?_
  rintro e w3 ⟨rfl, rfl⟩
  go_wp2_with fail
  refine (HT.out _).mono ?_
  rintro e w3 ⟨rfl, rfl⟩
  go_wp2_with fail
  refine (HC.out _).mono ?_
  rintro e w3 ⟨rfl, rfl⟩
  go_wp2
  go_ret2
  exact ⟨rfl, H2.out.2⟩

theorem far_yes (h : Rd w B a r pos l false) (hl : 64 ≤ l.length) (hv : bval (l.take 64) < 9218868437227405312) (hc : tcode (bval (l.take 64)) = 255) :
    Calls Try.prog 58 #[.pointer (some ⟨a, 0, none⟩)] w fun e w' => e = .returned (.tuple #[.int .u64 (bval (l.take 64) : Nat), .int .i64 0]) ∧ Fr (fun k => k = a) w w' ∧ Rd w' B a r (pos + 64) (l.drop 64) false := by
  have H := hid h
  have HG := hid (get_yes w B a r pos l false 64 (by decide) (by decide) hl h)
  generalize bval (l.take 64) = v at *
  have HT := hid (fun w => thr_any v w)
  rw [decide_eq_true hv] at HT
  have HC := hid (fun w => code_any v (by omega) w)
  rw [hc] at HC
  clear h hc
  go_enter Try.func58, Try.ntmps58
  go_wp2_with fail
  refine HG.out.mono ?_
  rintro e w2 ⟨rfl, hr2, hf2⟩
  have H2 := hid (And.intro hr2 hf2)
  clear hr2 hf2
  go_wp2_with fail
  refine (short_any _ B a r _ _ false H2.out.1).mono ?_
  rintro e w3 ⟨rfl, rfl⟩
  go_wp2_with fail
  refine (HT.out _).mono ?_
  rintro e w3 ⟨rfl, rfl⟩
  go_wp2_with fail
  refine (HC.out _).mono ?_
  rintro e w3 ⟨rfl, rfl⟩
  go_wp2
  go_ret2
  exact ⟨rfl, H2.out.2, H2.out.1⟩

theorem tget_short (h : Rd w B a r pos l false) (hl : l.length < 8) :
    Calls Try.prog 51 #[.pointer (some ⟨a, 0, none⟩)] w fun e w' => e = .returned (.tuple #[.int .u64 0, .int .i64 16]) ∧ Fr (fun k => k = a) w w' := by
  have H := hid h
  clear h
  go_enter Try.func51, Try.ntmps51
  go_wp2_with fail
  refine (get_short w B a r pos l false 8 (by decide) (by decide) hl H.out).mono ?_
  rintro e w2 ⟨rfl, hr2, hf2⟩
  have H2 := hid (And.intro hr2 hf2)
  clear hr2 hf2
  go_wp2_with fail
  refine (short_any _ B a r _ [] true H2.out.1).mono ?_
  rintro e w3 ⟨rfl, rfl⟩
  go_wp2
  go_ret2
  exact ⟨rfl, H2.out.2⟩

theorem tget_zero (h : Rd w B a r pos l false) (hl : 8 ≤ l.length) (hv : bval (l.take 8) = 0) :
    Calls Try.prog 51 #[.pointer (some ⟨a, 0, none⟩)] w fun e w' => e = .returned (.tuple #[.int .u64 0, .int .i64 0]) ∧ Fr (fun k => k = a) w w' ∧ Rd w' B a r (pos + 8) (l.drop 8) false := by
  have HG := hid (get_yes w B a r pos l false 8 (by decide) (by decide) hl h)
  rw [hv] at HG
  clear h hv
  go_enter Try.func51, Try.ntmps51
  go_wp2_with fail
  refine HG.out.mono ?_
  rintro e w2 ⟨rfl, hr2, hf2⟩
  have H2 := hid (And.intro hr2 hf2)
  clear hr2 hf2
  go_wp2_with fail
  refine (short_any _ B a r _ _ false H2.out.1).mono ?_
  rintro e w3 ⟨rfl, rfl⟩
  go_wp2
  go_ret2
  exact ⟨rfl, H2.out.2, H2.out.1⟩

set_option maxRecDepth 100000 in
theorem tget_near (c : Nat) (h : Rd w B a r pos l false) (hl : 8 ≤ l.length) (hv : bval (l.take 8) = c) (h1 : 1 ≤ c) (h2 : c ≤ 254) :
    Calls Try.prog 51 #[.pointer (some ⟨a, 0, none⟩)] w fun e w' => e = .returned (.tuple #[.int .u64 ((c + 779) * 4503599627370496 : Nat), .int .i64 0]) ∧ Fr (fun k => k = a) w w' ∧ Rd w' B a r (pos + 8) (l.drop 8) false := by
  have HG := hid (get_yes w B a r pos l false 8 (by decide) (by decide) hl h)
  rw [hv] at HG
  have HO := hid (of_yes c h1 h2)
  obtain ⟨u, hu⟩ : ∃ u, u = (c + 779) * 4503599627370496 := ⟨_, rfl⟩
  rw [← hu] at HO ⊢
  have hc1 : ((c : Int) == 0) = false := by simp; omega
  have hc2 : ((c : Int) == 255) = false := by simp; omega
  clear h hv hu
  go_enter Try.func51, Try.ntmps51
  go_wp2_with fail
  refine HG.out.mono ?_
  rintro e w2 ⟨rfl, hr2, hf2⟩
  have H2 := hid (And.intro hr2 hf2)
  clear hr2 hf2
  go_wp2_with fail
  refine (short_any _ B a r _ _ false H2.out.1).mono ?_
  rintro e w3 ⟨rfl, rfl⟩
  go_wp2_with fail
  refine (HO.out _).mono ?_
  rintro e w3 ⟨rfl, rfl⟩
  go_wp2
  go_ret2
  exact ⟨rfl, H2.out.2, H2.out.1⟩

theorem tget_far {V E : Int} {R : World → Prop} (h : Rd w B a r pos l false) (hl : 8 ≤ l.length) (hv : bval (l.take 8) = 255)
    (hf : ∀ w1, Rd w1 B a r (pos + 8) (l.drop 8) false → Calls Try.prog 58 #[.pointer (some ⟨a, 0, none⟩)] w1 fun e w' => e = .returned (.tuple #[.int .u64 V, .int .i64 E]) ∧ Fr (fun k => k = a) w1 w' ∧ R w') :
    Calls Try.prog 51 #[.pointer (some ⟨a, 0, none⟩)] w fun e w' => e = .returned (.tuple #[.int .u64 V, .int .i64 E]) ∧ Fr (fun k => k = a) w w' ∧ R w' := by
  have HG := hid (get_yes w B a r pos l false 8 (by decide) (by decide) hl h)
  have HF := hid hf
  rw [hv] at HG
  clear h hv hf
  go_enter Try.func51, Try.ntmps51
  go_wp2_with fail
  refine HG.out.mono ?_
  rintro e w2 ⟨rfl, hr2, hf2⟩
  have H2 := hid (And.intro hr2 hf2)
  clear hr2 hf2
  go_wp2_with fail
  refine (short_any _ B a r _ _ false H2.out.1).mono ?_
  rintro e w3 ⟨rfl, rfl⟩
  go_wp2_with fail
  refine (HF.out _ H2.out.1).mono ?_
  rintro e w3 ⟨rfl, hf3, hr3⟩
  have H3 := hid (And.intro (H2.out.2.trans hf3 (fun _ h _ => h)) hr3)
  clear hf3 hr3
  go_wp2
  go_ret2
  exact ⟨rfl, H3.out⟩

theorem tget_any (h : Rd w B a r pos l false) :
    Calls Try.prog 51 #[.pointer (some ⟨a, 0, none⟩)] w fun e w' => e = .returned (.tuple #[.int .u64 ((tp l).1 : Nat), .int .i64 ((tp l).2.2 : Nat)]) ∧ Fr (fun k => k = a) w w' ∧
      ((tp l).2.2 = 0 → Rd w' B a r (pos + (tp l).2.1) (l.drop (tp l).2.1) false) := by
  by_cases h8 : l.length < 8
  · rw [tp, if_pos h8]
    exact (tget_short h h8).mono fun _ _ ⟨he, hf⟩ => ⟨he, hf, fun h => by simp at h⟩
  · have hlt : bval (l.take 8) < 256 := by
      have := bval_lt (l.take 8)
      rwa [List.length_take, Nat.min_eq_left (by omega)] at this
    by_cases h0 : bval (l.take 8) = 0
    · rw [tp, if_neg h8, if_pos h0]
      exact (tget_zero h (by omega) h0).mono fun _ _ ⟨he, hf, hr⟩ => ⟨he, hf, fun _ => hr⟩
    · by_cases h1 : bval (l.take 8) < 255
      · rw [tp, if_neg h8, if_neg h0, if_pos h1]
        exact (tget_near _ h (by omega) rfl (by omega) (by omega)).mono fun _ _ ⟨he, hf, hr⟩ => ⟨he, hf, fun _ => hr⟩
      · have h255 : bval (l.take 8) = 255 := by omega
        have hd : (l.drop 8).length = l.length - 8 := List.length_drop
        by_cases h72 : l.length < 72
        · rw [tp, if_neg h8, if_neg h0, if_neg h1, if_pos h72]
          exact (tget_far (R := fun _ => True) h (by omega) h255 fun w1 h1 => (far_short h1 (by omega)).mono fun _ _ ⟨he, hf⟩ => ⟨he, hf, trivial⟩).mono fun _ _ ⟨he, hf, _⟩ => ⟨he, hf, fun h => by simp at h⟩
        · by_cases hr : 9218868437227405312 ≤ bval ((l.drop 8).take 64)
          · rw [tp, if_neg h8, if_neg h0, if_neg h1, if_neg h72, if_pos hr]
            exact (tget_far (R := fun _ => True) h (by omega) h255 fun w1 h1 => (far_range h1 (by omega) (by omega)).mono fun _ _ ⟨he, hf⟩ => ⟨he, hf, trivial⟩).mono fun _ _ ⟨he, hf, _⟩ => ⟨he, hf, fun h => by simp at h⟩
          · by_cases hc : tcode (bval ((l.drop 8).take 64)) ≠ 255
            · rw [tp, if_neg h8, if_neg h0, if_neg h1, if_neg h72, if_neg hr, if_pos hc]
              exact (tget_far (R := fun _ => True) h (by omega) h255 fun w1 h1 => (far_form h1 (by omega) (by omega) hc).mono fun _ _ ⟨he, hf⟩ => ⟨he, hf, trivial⟩).mono fun _ _ ⟨he, hf, _⟩ => ⟨he, hf, fun h => by simp at h⟩
            · rw [tp, if_neg h8, if_neg h0, if_neg h1, if_neg h72, if_neg hr, if_neg hc]
              refine (tget_far (R := fun w' => Rd w' B a r (pos + 72) (l.drop 72) false) h (by omega) h255 fun w1 h1 => (far_yes h1 (by omega) (by omega) (by omega)).mono ?_).mono fun _ _ ⟨he, hf, hr⟩ => ⟨he, hf, fun _ => hr⟩
              rintro e w' ⟨he, hf, hr⟩
              rw [List.drop_drop] at hr
              exact ⟨he, hf, hr⟩
end
end Go.Proofs.Ytlfcaigofakkoaa
