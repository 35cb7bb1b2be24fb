/- The walks of the reference's numbers by seven bits: Parse, Bytes. -/
import Derived.Test.YtlfcaigofakkoaaVGet
namespace Go.Proofs.Ytlfcaigofakkoaa
open Go.RowKit Bt

set_option maxRecDepth 100000 in
theorem parse_any (bs : List Nat) (hb : ∀ b ∈ bs, b < 256) (hl : bs.length ≤ 1000) (w : World) :
    Calls Try.prog 37 #[.string (str bs)] w fun e w' => e = .returned (.tuple #[.int .u64 ((vp 0 0 bs).1 : Nat), .int .i64 ((vp 0 0 bs).2.1 : Nat), .int .i64 ((vp 0 0 bs).2.2 : Nat)]) ∧ w = w' := by
  obtain ⟨P, hP⟩ : ∃ P, P = vp 0 0 bs := ⟨_, rfl⟩
  rw [← hP]
  obtain ⟨s, hs⟩ : ∃ s, s = str bs := ⟨_, rfl⟩
  have hsz : s.size = bs.length := by rw [hs, len_str]
  have hsz2 : s.size ≤ 1000 := by omega
  rw [← hs]
  have HP := hid hP
  have HS := hid (And.intro hs hsz)
  have HB := hid hb
  clear hP hs hb hsz hl
  go_enter Try.func37, Try.ntmps37
  go_wp2
  go_loop [5, 6, 7] (fun x y t => ∃ (u p i : Nat), x = .int .u64 u ∧ y = .int .u64 p ∧ t = .int .i64 i ∧ i ≤ 9 ∧ i ≤ s.size ∧ Hid (u < 128 ^ i ∧ p = 128 ^ i ∧ P = vp i u (bs.drop i))) (fun _ _ t => 10 - (intOf t).toNat)
  case atStart => exact ⟨0, 1, 0, rfl, rfl, rfl, by omega, by omega, hid ⟨by decide, rfl, HP.out⟩⟩
  case round =>
    obtain ⟨u, p, i, rfl, rfl, rfl, hi, his, H2⟩ := hrel
    by_cases hlt : i < s.size
    · have hil : i < bs.length := by have := HS.out.2; omega
      obtain ⟨c, hc⟩ : ∃ c, c = bs[i] := ⟨_, rfl⟩
      have hsi : s[i].toNat = c := by
        rw [byte_str HS.out.1 HB.out i hlt, List.getD_eq_getElem?_getD, List.getElem?_eq_getElem hil, hc]; rfl
      have hc256 : c < 256 := by rw [hc]; exact HB.out _ (List.getElem_mem _)
      have hdrop : bs.drop i = c :: bs.drop (i + 1) := by rw [hc]; exact List.drop_eq_getElem_cons hil
      have HP2 := hid (show P = vp i u (c :: bs.drop (i + 1)) by rw [← hdrop]; exact H2.out.2.2)
      clear hc hdrop hil
      by_cases hA : i = 9 ∧ 1 < c
      · obtain ⟨rfl, hc1⟩ := hA
        have HQ := hid (show P = (0, 0, 17) by rw [HP2.out, vp, if_pos ⟨rfl, hc1⟩])
        go_wp2
        refine bodyPost_ret (v := .tuple #[.int .u64 (0), .int .i64 (0), .int .i64 (17)]) (by simp [results, Try.results37, go_sem]) rfl ⟨?_, rfl⟩
        rw [HQ.out]; rfl
      · have h9 : i = 9 → c ≤ 1 := by omega
        have hv := vget_or u i c H2.out.1 hi hc256 h9
        have HQ := hid (show P = if c < 128 then (if c = 0 ∧ 0 < i then (0, 0, 10) else (u + c % 128 * 128 ^ i, i + 1, 0)) else vp (i + 1) (u + c % 128 * 128 ^ i) (bs.drop (i + 1)) by rw [HP2.out, vp, if_neg hA])
        obtain ⟨X, hX⟩ : ∃ X, X = c % 128 * 128 ^ i := ⟨_, rfl⟩
        have hp := H2.out.2.1
        have hpl : p ≤ 9223372036854775808 := by
          rw [hp]
          have h1 : (128 : Nat) ^ i ≤ 128 ^ 9 := Nat.pow_le_pow_right (by decide) hi
          rwa [show (128 : Nat) ^ 9 = 9223372036854775808 by decide] at h1
        rw [← hX] at HQ hv
        have hXl : u + X < 18446744073709551616 := hv.2.2 hi
        have e1 : IntKind.u64.wrap ((c : Int) % 128 * (p : Int)) = (X : Int) := by
          rw [show ((c : Int) % 128 * (p : Int)) = ((c % 128 * p : Nat) : Int) by rw [Int.natCast_mul, Int.natCast_emod]; rfl, hp, ← hX, IntKind.wrap_u64]
          omega
        have e2 : IntKind.u64.wrap ((u : Int) + (X : Int)) = ((u + X : Nat) : Int) := by rw [IntKind.wrap_u64]; omega
        have HN := hid (And.intro hv.2.1 hp)
        have HA := hid hA
        clear hp hX hv HP2 hA
        by_cases hc128 : c < 128
        · by_cases hc0 : c = 0 ∧ 0 < i
          · have HQ2 := hid (show P = (0, 0, 10) by rw [HQ.out, if_pos hc128, if_pos hc0])
            have hi0 := hc0.2
            have hc1 := hc0.1
            have g1 : decide ((0 : Int) < (i : Int)) = true := by simp; omega
            clear hc0
            go_wp2
            all_goals
              refine bodyPost_ret (v := .tuple #[.int .u64 (0), .int .i64 (0), .int .i64 (10)]) (by simp [results, Try.results37, go_sem]) rfl ⟨?_, rfl⟩
              rw [HQ2.out]; rfl
          · have HQ2 := hid (show P = (u + X, i + 1, 0) by rw [HQ.out, if_pos hc128, if_neg hc0])
            by_cases hi9 : i = 9
            · subst hi9
              go_wp2
              all_goals
                refine bodyPost_ret (v := .tuple #[.int .u64 ((u + X : Nat)), .int .i64 ((9 + 1 : Nat)), .int .i64 (0)]) (by simp [results, Try.results37, go_sem]) rfl ⟨?_, rfl⟩
                rw [HQ2.out]; rfl
            · have hne : ((i : Int) == 9) = false := by rw [beq_eq_false_iff_ne]; omega
              go_wp2
              all_goals
                refine bodyPost_ret (v := .tuple #[.int .u64 ((u + X : Nat)), .int .i64 ((i + 1 : Nat)), .int .i64 (0)]) (by simp [results, Try.results37, go_sem]) rfl ⟨?_, rfl⟩
                rw [HQ2.out]; rfl
        · have hi9 : i ≠ 9 := fun h => by have := h9 h; omega
          have HQ2 := hid (show P = vp (i + 1) (u + X) (bs.drop (i + 1)) by rw [HQ.out, if_neg hc128])
          have hp2 : p * 128 < 18446744073709551616 := by
            have h1 : (128 : Nat) ^ i ≤ 128 ^ 8 := Nat.pow_le_pow_right (by decide) (by omega)
            rw [show (128 : Nat) ^ 8 = 72057594037927936 by decide, ← HN.out.2] at h1
            omega
          have e3 : IntKind.u64.wrap ((p : Int) * 128) = ((p * 128 : Nat) : Int) := by rw [IntKind.wrap_u64]; omega
          go_wp2
          go_round
          case rel => exact ⟨u + X, p * 128, i + 1, by go_num, by go_num, by go_num, by omega, by omega, hid ⟨HN.out.1, by rw [HN.out.2, Nat.pow_succ], HQ2.out⟩⟩
          case measure => simp [intOf]; omega
    · have HQ := hid (show P = (0, 0, 16) by
        have := H2.out.2.2
        rwa [List.drop_of_length_le (by have := HS.out.2; omega)] at this)
      go_wp2
      refine bodyPost_ret (v := .tuple #[.int .u64 (0), .int .i64 (0), .int .i64 (16)]) (by simp [results, Try.results37, go_sem]) rfl ⟨?_, rfl⟩
      rw [HQ.out]; rfl

theorem str_append (a b : List Nat) : str (a ++ b) = str a ++ str b := by
  simp [str, ByteArray.mk_append_mk]

set_option maxRecDepth 100000 in
theorem rbytes_any (v : Nat) : v < 18446744073709551616 → ∀ w : World,
    Calls Try.prog 41 #[.int .u64 v] w fun e w' => e = .returned (.string (str (vb v))) ∧ Fr (fun _ => False) w w' := by
  induction v using vb.induct with
  | case1 v h =>
    intro hv w
    rw [vb_lt h]
    have hcv := conv_bs (bs_one w v)
    go_enter Try.func41, Try.ntmps41
    go_wp2
    go_ret
    exact ⟨rfl, (Fr.refl _ _).alloc _⟩
  | case2 v h ih =>
    intro hv w
    rw [vb_ge h]
    have hm : v % 128 + 128 < 256 := by omega
    have hq : v / 128 < 18446744073709551616 := by omega
    have hb1 := vb_len64 (v / 128) hq
    obtain ⟨S, hS⟩ : ∃ S, S = str (vb (v / 128)) := ⟨_, rfl⟩
    have hSs : S.size ≤ 10 := by rw [hS, len_str]; exact hb1
    rw [← hS] at ih
    have HSS := hid hS
    have IH := hid (ih hq)
    clear hb1 hS ih
    obtain ⟨b, hb⟩ : ∃ b, b = v % 128 + 128 := ⟨_, rfl⟩
    obtain ⟨q, hqq⟩ : ∃ q, q = v / 128 := ⟨_, rfl⟩
    have e2 : IntKind.u64.wrap ((v : Int).tmod 128 + 128) = (b : Int) := by rw [IntKind.wrap_u64, Int.tmod_eq_emod_of_nonneg (by omega)]; omega
    have e3 : IntKind.u8.wrap (b : Int) = (b : Int) := by rw [IntKind.wrap_u8]; omega
    have e4 : IntKind.u64.wrap ((v : Int) / 128) = (q : Int) := by rw [IntKind.wrap_u64]; omega
    rw [← hb]
    rw [← hqq] at IH HSS ⊢
    have HBQ := hid (And.intro hb hqq)
    have hcv : ∀ W : World, Sem.run Try.prog (convert 35 9 (.slice (some ⟨W.heap.size, 0, none⟩) 1 1)) (W.alloc (.cells #[.int .u8 (b : Int)] 5)).drew = .ok (.string (str [b])) (W.alloc (.cells #[.int .u8 (b : Int)] 5)).drew :=
      fun W => conv_bs ((bs_one W b).keep ((Fr.refl (fun _ => False) _).drew) (fun _ _ _ _ h => h))
    obtain ⟨T, hT⟩ : ∃ T, T = str [b] := ⟨_, rfl⟩
    have hTs : T.size = 1 := by rw [hT]; rfl
    have hkeep : ∀ W' : World, Fr (fun _ => False) (w.alloc (.cells #[.int .u8 (b : Int)] 5)).drew W' → Sem.run Try.prog (convert 35 9 (.slice (some ⟨w.heap.size, 0, none⟩) 1 1)) W' = .ok (.string (str [b])) W' :=
      fun W' hf => conv_bs (((bs_one w b).keep ((Fr.refl (fun _ => False) _).drew) (fun _ _ _ _ h => h)).keep hf (fun _ _ _ _ h => h))
    rw [← hT] at hcv hkeep
    have HT := hid hT
    have HK := hid hkeep
    clear hkeep
    have hs1 : (9223372036854775807 < 1 + S.size) = False := by simp; omega
    have hcv0 : ∀ W : World, Sem.run Try.prog (convert 35 9 (.slice (some ⟨W.heap.size, 0, none⟩) 1 1)) (W.alloc (.cells #[.int .u8 (b : Int)] 5)) = .ok (.string T) (W.alloc (.cells #[.int .u8 (b : Int)] 5)) :=
      fun W => by rw [hT]; exact conv_bs (bs_one W b)
    clear hb hqq hm hq hT
    go_enter Try.func41, Try.ntmps41
    go_wp2_with fail
    go_region_with ((go_at_call 41; refine (IH.out _).mono ?_; rintro e w' ⟨rfl, hf⟩; try (have hcw := HK.out _ hf)))
    all_goals go_wp2_with fail
    all_goals
      go_ret
      refine ⟨ret_str ?_, ?_⟩
      · rw [show b :: vb q = [b] ++ vb q from rfl, str_append, ← HT.out, ← HSS.out]
      · first
          | exact (((Fr.refl _ w).alloc _).drew).trans hf (fun _ h _ => h)
          | exact (((Fr.refl _ w).drew).trans hf (fun _ h _ => h)).alloc _
          | exact (((Fr.refl _ w).alloc _).drew)
end Go.Proofs.Ytlfcaigofakkoaa
