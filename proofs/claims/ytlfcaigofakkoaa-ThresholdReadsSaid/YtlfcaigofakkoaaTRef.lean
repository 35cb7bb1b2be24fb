/- The walks of the reference's thresholds: Bits, Parse. -/
import Derived.Test.YtlfcaigofakkoaaTPow
namespace Go.Proofs.Ytlfcaigofakkoaa
open Go.RowKit Bt

theorem txt_part (l : List Bool) (a b : Nat) : (txt l).extract a b = txt ((l.drop a).take (b - a)) := by
  apply ByteArray.ext
  simp only [txt, ByteArray.data_extract, List.extract_toArray, List.extract_eq_take_drop, List.map_take, List.map_drop]

set_option maxRecDepth 100000 in
theorem rbits_any (v : Nat) (hv : v < 18446744073709551616) (w : World) :
    Calls Try.prog 50 #[.int .u64 v] w fun e w' => e = .returned (.string (txt (tbits v))) ∧ w = w' := by
  have HB := hid (rbyte_any v)
  have hle := tcode_le v
  by_cases hc : tcode v = 255
  · rw [hc] at HB
    rw [tbits_far hc, txt_append]
    have HN1 := hid (number_any 255 8 (by decide) (by decide))
    have HN2 := hid (number_any v 64 hv (by decide))
    obtain ⟨s1, hs1⟩ : ∃ s1, s1 = txt (bitsOf 255 8) := ⟨_, rfl⟩
    obtain ⟨s2, hs2⟩ : ∃ s2, s2 = txt (bitsOf v 64) := ⟨_, rfl⟩
    have hz1 : s1.size = 8 := by rw [hs1, len_txt, len_bitsOf]
    have hz2 : s2.size = 64 := by rw [hs2, len_txt, len_bitsOf]
    rw [← hs1] at HN1 ⊢
    rw [← hs2] at HN2 ⊢
    clear hc hle hs1 hs2
    go_enter Try.func50, Try.ntmps50
    go_wp2_with fail
    refine (HB.out _).mono ?_
    rintro e w' ⟨rfl, rfl⟩
    go_wp2_with fail
    refine (HN1.out _).mono ?_
    rintro e w' ⟨rfl, rfl⟩
    go_wp2_with fail
    refine (HN2.out _).mono ?_
    rintro e w' ⟨rfl, rfl⟩
    go_wp2
    go_ret
    exact ⟨rfl, rfl⟩
  · rw [tbits_near hc]
    generalize tcode v = c at *
    have hc' : ((c : Int) == 255) = false := by simp; omega
    have HN1 := hid (number_any c 8 (by omega) (by decide))
    clear hc
    go_enter Try.func50, Try.ntmps50
    go_wp2_with fail
    refine (HB.out _).mono ?_
    rintro e w' ⟨rfl, rfl⟩
    go_wp2_with fail
    refine (HN1.out _).mono ?_
    rintro e w' ⟨rfl, rfl⟩
    go_wp2
    go_ret
    exact ⟨rfl, rfl⟩

theorem triple {a b c : Nat} {P : Nat × Nat × Nat} (h : P = (a, b, c)) : Ending.returned (.tuple #[.int .u64 (a : Int), .int .i64 (b : Int), .int .i64 (c : Int)]) = .returned (.tuple #[.int .u64 (P.1 : Nat), .int .i64 (P.2.1 : Nat), .int .i64 (P.2.2 : Nat)]) := by
  subst h; rfl

set_option maxRecDepth 100000 in
set_option maxHeartbeats 1000000 in
theorem rparse_any (l : List Bool) (hl : l.length ≤ 1000) (w : World) :
    Calls Try.prog 52 #[.string (txt l)] w fun e w' => e = .returned (.tuple #[.int .u64 ((tp l).1 : Nat), .int .i64 ((tp l).2.1 : Nat), .int .i64 ((tp l).2.2 : Nat)]) ∧ w = w' := by
  obtain ⟨s, hs⟩ : ∃ s, s = txt l := ⟨_, rfl⟩
  obtain ⟨z, hz⟩ : ∃ z, z = l.length := ⟨_, rfl⟩
  have hsz : s.size = z := by rw [hs, len_txt, hz]
  have E1 := hid (show s.extract 0 8 = txt (l.take 8) by rw [hs, txt_part, List.drop_zero])
  have E2 := hid (show s.extract 8 72 = txt ((l.drop 8).take 64) by rw [hs, txt_part])
  rw [← hs]
  have HZ := hid hz
  have hz1 : z ≤ 1000 := by omega
  clear hs hz hl
  by_cases h8 : z < 8
  · have HT := hid (show tp l = (0, 0, 16) by rw [tp, if_pos (by rw [← HZ.out]; exact h8)])
    go_enter Try.func52, Try.ntmps52
    go_wp2
    refine bodyPost_ret (v := .tuple #[.int .u64 (0), .int .i64 (0), .int .i64 (16)]) (by simp [results, Try.results52, go_sem]) rfl ⟨triple HT.out, rfl⟩
  · have HV := hid (value_any (l.take 8) (by rw [List.length_take]; omega))
    have hlt : bval (l.take 8) < 256 := by
      have := bval_lt (l.take 8)
      rwa [List.length_take, Nat.min_eq_left (by rw [← HZ.out]; omega)] at this
    have HT8 := hid (show ¬ l.length < 8 by rw [← HZ.out]; exact h8)
    have e1 := E1.out
    by_cases h0 : bval (l.take 8) = 0
    · have HT := hid (show tp l = (0, 8, 0) by rw [tp, if_neg HT8.out, if_pos h0])
      rw [h0] at HV
      clear h0 hlt
      go_enter Try.func52, Try.ntmps52
      go_wp2_with fail
      refine (HV.out _).mono ?_
      rintro e w' ⟨rfl, rfl⟩
      clear e1
      go_wp2
      refine bodyPost_ret (v := .tuple #[.int .u64 (0), .int .i64 (8), .int .i64 (0)]) (by simp [results, Try.results52, go_sem]) rfl ⟨triple HT.out, rfl⟩
    · by_cases h1 : bval (l.take 8) < 255
      · have HT := hid (show tp l = ((bval (l.take 8) + 779) * 4503599627370496, 8, 0) by rw [tp, if_neg HT8.out, if_neg h0, if_pos h1])
        generalize bval (l.take 8) = c at *
        have hc0 : ((c : Int) == 0) = false := by simp; omega
        clear h0 hlt
        go_enter Try.func52, Try.ntmps52
        go_wp2_with fail
        refine (HV.out _).mono ?_
        rintro e w' ⟨rfl, rfl⟩
        clear e1
        go_wp2
        refine bodyPost_ret (v := .tuple #[.int .u64 (((c + 779) * 4503599627370496 : Nat) : Int), .int .i64 (8), .int .i64 (0)]) (by simp [results, Try.results52, go_sem]) rfl ⟨triple HT.out, rfl⟩
      · have h255 : bval (l.take 8) = 255 := by omega
        rw [h255] at HV
        have HT1 := hid (show tp l = if l.length < 72 then (0, 0, 16)
            else if 9218868437227405312 ≤ bval ((l.drop 8).take 64) then (0, 0, 11)
            else if tcode (bval ((l.drop 8).take 64)) ≠ 255 then (0, 0, 10)
            else (bval ((l.drop 8).take 64), 72, 0) by rw [tp, if_neg HT8.out, if_neg h0, if_neg h1])
        rw [← HZ.out] at HT1
        clear h0 h1 hlt h255
        by_cases h72 : z < 72
        · have HT := hid (show tp l = (0, 0, 16) by rw [HT1.out, if_pos h72])
          go_enter Try.func52, Try.ntmps52
          go_wp2_with fail
          refine (HV.out _).mono ?_
          rintro e w' ⟨rfl, rfl⟩
          clear e1
          go_wp2
          refine bodyPost_ret (v := .tuple #[.int .u64 (0), .int .i64 (0), .int .i64 (16)]) (by simp [results, Try.results52, go_sem]) rfl ⟨triple HT.out, rfl⟩
        · have HV2 := hid (value_any ((l.drop 8).take 64) (by rw [List.length_take]; omega))
          have e2 := E2.out
          have hvl : bval ((l.drop 8).take 64) < 18446744073709551616 := by
            have := bval_lt ((l.drop 8).take 64)
            rwa [List.length_take, List.length_drop, Nat.min_eq_left (by rw [← HZ.out]; omega)] at this
          by_cases hr : 9218868437227405312 ≤ bval ((l.drop 8).take 64)
          · have HT := hid (show tp l = (0, 0, 11) by rw [HT1.out, if_neg h72, if_pos hr])
            generalize bval ((l.drop 8).take 64) = v at *
            have HH := hid (head_no v (by omega))
            clear hr
            go_enter Try.func52, Try.ntmps52
            go_wp2_with fail
            refine (HV.out _).mono ?_
            rintro e w' ⟨rfl, rfl⟩
            clear e1
            go_wp2_with fail
            refine (HV2.out _).mono ?_
            rintro e w' ⟨rfl, rfl⟩
            clear e2
            go_wp2_with fail
            refine (HH.out _).mono ?_
            rintro e w' ⟨rfl, rfl⟩
            go_wp2
            refine bodyPost_ret (v := .tuple #[.int .u64 (0), .int .i64 (0), .int .i64 (11)]) (by simp [results, Try.results52, go_sem]) rfl ⟨triple HT.out, rfl⟩
          · by_cases hc : tcode (bval ((l.drop 8).take 64)) = 255
            · have HT := hid (show tp l = (bval ((l.drop 8).take 64), 72, 0) by rw [HT1.out, if_neg h72, if_neg hr, if_neg (by simp [hc])])
              generalize bval ((l.drop 8).take 64) = v at *
              have HH := hid (head_yes v (by omega))
              have HB := hid (rbyte_any v)
              rw [hc] at HB
              clear hr hc
              go_enter Try.func52, Try.ntmps52
              go_wp2_with fail
              refine (HV.out _).mono ?_
              rintro e w' ⟨rfl, rfl⟩
              clear e1
              go_wp2_with fail
              refine (HV2.out _).mono ?_
              rintro e w' ⟨rfl, rfl⟩
              clear e2
              go_wp2_with fail
              refine (HH.out _).mono ?_
              rintro e w' ⟨rfl, rfl⟩
              go_wp2_with fail
              refine (HB.out _).mono ?_
              rintro e w' ⟨rfl, rfl⟩
              go_wp2
              refine bodyPost_ret (v := .tuple #[.int .u64 (v : Int), .int .i64 (72), .int .i64 (0)]) (by simp [results, Try.results52, go_sem]) rfl ⟨triple HT.out, rfl⟩
            · have HT := hid (show tp l = (0, 0, 10) by rw [HT1.out, if_neg h72, if_neg hr, if_pos hc])
              generalize bval ((l.drop 8).take 64) = v at *
              have HH := hid (head_yes v (by omega))
              have HB := hid (rbyte_any v)
              have hle := tcode_le v
              generalize tcode v = c at *
              have hc' : ((c : Int) == 255) = false := by simp; omega
              clear hr hc
              go_enter Try.func52, Try.ntmps52
              go_wp2_with fail
              refine (HV.out _).mono ?_
              rintro e w' ⟨rfl, rfl⟩
              clear e1
              go_wp2_with fail
              refine (HV2.out _).mono ?_
              rintro e w' ⟨rfl, rfl⟩
              clear e2
              go_wp2_with fail
              refine (HH.out _).mono ?_
              rintro e w' ⟨rfl, rfl⟩
              go_wp2_with fail
              refine (HB.out _).mono ?_
              rintro e w' ⟨rfl, rfl⟩
              go_wp2
              refine bodyPost_ret (v := .tuple #[.int .u64 (0), .int .i64 (0), .int .i64 (10)]) (by simp [results, Try.results52, go_sem]) rfl ⟨triple HT.out, rfl⟩
end Go.Proofs.Ytlfcaigofakkoaa
