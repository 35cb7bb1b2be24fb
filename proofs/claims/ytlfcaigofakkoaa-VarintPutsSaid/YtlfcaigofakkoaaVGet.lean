/- The walks of the numbers by seven bits: GetU, GetS. -/
import Derived.Test.YtlfcaigofakkoaaVPut
namespace Go.Proofs.Ytlfcaigofakkoaa
open Go.RowKit Bt

theorem vget_yes {w : World} {B a pos c : Nat} {r : Option Nat} {l : List Bool} (h : Rd w B a r pos (bitsOf c 8 ++ l) false) (hc : c < 256) :
    Calls Try.prog 21 #[.pointer (some ⟨a, 0, none⟩), .int .i64 8] w fun e w' => e = .returned (.int .u64 c) ∧ Rd w' B a r (pos + 8) l false ∧ Fr (fun k => k = a) w w' := by
  refine (get_yes w B a r pos _ false 8 (by decide) (by decide) (by rw [List.length_append, len_bitsOf]; omega) h).mono ?_
  rintro e w' ⟨rfl, hr, hf⟩
  rw [show (bitsOf c 8 ++ l).drop 8 = l from List.drop_left' (len_bitsOf c 8)] at hr
  rw [show (bitsOf c 8 ++ l).take 8 = bitsOf c 8 from List.take_left' (len_bitsOf c 8), bval_bitsOf, Nat.mod_eq_of_lt (show c < 2 ^ 8 from hc)]
  exact ⟨rfl, hr, hf⟩

theorem vget_or (u i c : Nat) (hu : u < 128 ^ i) (hi : i ≤ 9) (hc : c < 256) (h9 : i = 9 → c ≤ 1) :
    bits BinOp.or .u64 (u : Int) (IntKind.u64.wrap ((c : Int) % 128 * 2 ^ (7 * i))) = ((u + c % 128 * 128 ^ i : Nat) : Int) ∧ u + c % 128 * 128 ^ i < 128 ^ (i + 1) ∧ (i ≤ 9 → u + c % 128 * 128 ^ i < 18446744073709551616) := by
  have e7 : 128 ^ i = 2 ^ (7 * i) := by rw [show (128 : Nat) = 2 ^ 7 from rfl, ← Nat.pow_mul]
  have hx : c % 128 < 128 := Nat.mod_lt _ (by decide)
  have hlt : u + c % 128 * 128 ^ i < 128 ^ (i + 1) := by
    rw [Nat.pow_succ]
    have : (c % 128 + 1) * 128 ^ i ≤ 128 * 128 ^ i := Nat.mul_le_mul_right _ (by omega)
    rw [Nat.add_mul, Nat.one_mul] at this
    rw [Nat.mul_comm (128 ^ i) 128]
    omega
  have hmx : u + c % 128 * 128 ^ i < 18446744073709551616 := by
    by_cases h : i = 9
    · subst h
      clear hlt e7
      have e9 : (128 : Nat) ^ 9 = 9223372036854775808 := by decide
      rw [e9] at hu ⊢
      have h1 := h9 rfl
      have h2 : c % 128 = c := Nat.mod_eq_of_lt (by omega)
      rw [h2]
      omega
    · have h1 : (128 : Nat) ^ (i + 1) ≤ 128 ^ 9 := Nat.pow_le_pow_right (by decide) (by omega)
      rw [show (128 : Nat) ^ 9 = 9223372036854775808 by decide] at h1
      exact Nat.lt_of_lt_of_le (Nat.lt_of_lt_of_le hlt h1) (by decide)
  have hm : c % 128 * 128 ^ i < 18446744073709551616 := by omega
  have e1 : IntKind.u64.wrap ((c : Int) % 128 * 2 ^ (7 * i)) = ((c % 128 * 128 ^ i : Nat) : Int) := by
    have : ((c : Int) % 128 * 2 ^ (7 * i)) = ((c % 128 * 128 ^ i : Nat) : Int) := by rw [e7, Int.natCast_mul, Int.natCast_pow, Int.natCast_emod]; rfl
    rw [this, IntKind.wrap_u64]
    omega
  refine ⟨?_, hlt, fun _ => hmx⟩
  rw [e1, bits_or_u64_nat _ _ (by omega) hm, Nat.or_comm]
  congr 1
  rw [e7, Nat.mul_comm, Nat.add_comm]
  exact (Nat.two_pow_add_eq_or_of_lt (by rw [← e7]; exact hu) _).symm

set_option maxRecDepth 100000 in
theorem getu_any (w : World) (B a pos : Nat) (r : Option Nat) (bs : List Nat) (l3 : List Bool) (hb : ∀ b ∈ bs, b < 256) (h : Rd w B a r pos (bits8 bs ++ l3) false) (hs : (vp 0 0 bs).2.2 = 16 → l3.length < 8) :
    Calls Try.prog 36 #[.pointer (some ⟨a, 0, none⟩)] w fun e w' => e = .returned (.tuple #[.int .u64 ((vp 0 0 bs).1 : Nat), .int .i64 ((vp 0 0 bs).2.2 : Nat)]) ∧ Fr (fun k => k = a) w w' ∧
      ((vp 0 0 bs).2.2 = 0 → Rd w' B a r (pos + 8 * (vp 0 0 bs).2.1) (bits8 (bs.drop (vp 0 0 bs).2.1) ++ l3) false) := by
  obtain ⟨P, hP⟩ : ∃ P, P = vp 0 0 bs := ⟨_, rfl⟩
  rw [← hP] at hs ⊢
  have H := hid h
  have HS := hid hs
  have HP := hid hP
  have HB := hid hb
  clear h hs hP hb
  go_enter Try.func36, Try.ntmps36
  go_wp2_with fail
  go_loopw [4, 5] (fun x t wr => ∃ (u i : Nat) (cs : List Nat), x = .int .u64 u ∧ t = .int .i64 (7 * i : Nat) ∧ i ≤ 9 ∧ Hid (u < 128 ^ i ∧ P = vp i u cs ∧ cs = bs.drop i ∧ Rd wr B a r (pos + 8 * i) (bits8 cs ++ l3) false ∧ Fr (fun k => k = a) w wr)) (fun _ t _ => 64 - (intOf t).toNat)
  case atStart => exact ⟨0, 0, bs, rfl, rfl, by omega, hid ⟨by decide, HP.out, rfl, H.out, Fr.refl _ _⟩⟩
  case round =>
    obtain ⟨u, i, cs, rfl, rfl, hi, H2⟩ := hrel
    cases cs with
    | nil =>
      obtain ⟨hu, hp, hd, hr, hf⟩ := H2.out
      have hl3 : l3.length < 8 := HS.out (by rw [hp]; rfl)
      rw [bits8_nil, List.nil_append] at hr
      have H3 := hid (And.intro hr hf)
      have HP2 := hid hp
      clear hr hf hu hd hp H2
      go_wp2_with fail
      refine (get_short _ B a r _ l3 false 8 (by decide) (by decide) hl3 H3.out.1).mono ?_
      rintro e w2 ⟨rfl, hr2, hf2⟩
      have H4 := hid (And.intro hr2 hf2)
      clear hr2 hf2
      go_wp2_with fail
      refine (short_any _ B a r _ [] true H4.out.1).mono ?_
      rintro e w3 ⟨rfl, rfl⟩
      go_wp2
      go_ret2
      have hP : P = (0, 0, 16) := HP2.out
      exact ⟨by rw [hP]; rfl, H3.out.2.trans H4.out.2 (fun _ h _ => h), fun h => absurd h (by rw [hP]; decide)⟩
    | cons c cs =>
      obtain ⟨hu, hp, hd, hr, hf⟩ := H2.out
      have hc : c < 256 := HB.out c (List.mem_of_mem_drop (by rw [← hd]; exact List.mem_cons_self))
      rw [bits8_cons, List.append_assoc] at hr
      have H3 := hid (And.intro hr hf)
      have HP2 := hid hp
      clear hr hf hp H2
      go_wp2_with fail
      refine (vget_yes H3.out.1 hc).mono ?_
      rintro e w2 ⟨rfl, hr2, hf2⟩
      have H4 := hid (And.intro hr2 hf2)
      clear hr2 hf2
      go_wp2_with fail
      refine (short_any _ B a r _ _ false H4.out.1).mono ?_
      rintro e w3 ⟨rfl, rfl⟩
      have hcs : bs.drop (i + 1) = cs := by rw [← List.drop_drop, ← hd]; rfl
      have HU := hid (And.intro hu hcs)
      clear hu hd hcs
      by_cases hA : i = 9 ∧ 1 < c
      · obtain ⟨rfl, hc1⟩ := hA
        have HQ := hid (show P = (0, 0, 17) by rw [HP2.out, vp, if_pos ⟨rfl, hc1⟩])
        go_wp2
        go_ret2
        have hP := HQ.out
        exact ⟨by rw [hP]; rfl, H3.out.2.trans H4.out.2 (fun _ h _ => h), fun h => absurd h (by rw [hP]; decide)⟩
      · have h9 : i = 9 → c ≤ 1 := by omega
        have HV := hid (vget_or u i c HU.out.1 hi hc h9)
        have HQ := hid (show P = if c < 128 then (if c = 0 ∧ 0 < i then (0, 0, 10) else (u + c % 128 * 128 ^ i, i + 1, 0)) else vp (i + 1) (u + c % 128 * 128 ^ i) cs by rw [HP2.out, vp, if_neg hA])
        clear HP2
        by_cases hi9 : i = 9
        · subst hi9
          have hv := HV.out.1
          clear HV hA
          by_cases hc0 : c = 0
          · subst hc0
            have HQ2 := hid (show P = (0, 0, 10) by rw [HQ.out]; rfl)
            clear hv
            go_wp2
            go_ret2
            have hP := HQ2.out
            exact ⟨by rw [hP]; rfl, H3.out.2.trans H4.out.2 (fun _ h _ => h), fun h => absurd h (by rw [hP]; decide)⟩
          · obtain rfl : c = 1 := by have := h9 rfl; omega
            have HQ2 := hid (show P = (u + 9223372036854775808, 10, 0) by rw [HQ.out]; rfl)
            have hor : bits BinOp.or .u64 (u : Int) 9223372036854775808 = ((u + 9223372036854775808 : Nat) : Int) := hv
            clear hv
            go_wp2
            go_ret2
            have hP := HQ2.out
            refine ⟨by rw [hP]; first | rfl | simp, H3.out.2.trans H4.out.2 (fun _ h _ => h), fun _ => ?_⟩
            rw [hP]
            show Rd _ B a r (pos + 8 * 10) (bits8 (bs.drop 10) ++ l3) false
            rw [HU.out.2]
            exact H4.out.1
        · have hne : ((7 * (i : Int)) == 63) = false := by rw [beq_eq_false_iff_ne]; omega
          have hv := HV.out.1
          by_cases hc128 : c < 128
          · by_cases hc0 : c = 0 ∧ 0 < i
            · have hi0 := hc0.2
              obtain rfl := hc0.1
              have HQ2 := hid (show P = (0, 0, 10) by rw [HQ.out, if_pos hc128, if_pos ⟨rfl, hi0⟩])
              have g1 : decide ((0 : Int) < 7 * (i : Int)) = true := by simp; omega
              have g2 : decide (0 < i) = true := by simp; omega
              clear hv HV hA hc0
              go_wp2
              go_ret2
              have hP := HQ2.out
              exact ⟨by rw [hP]; rfl, H3.out.2.trans H4.out.2 (fun _ h _ => h), fun h => absurd h (by rw [hP]; decide)⟩
            · have HQ2 := hid (show P = (u + c % 128 * 128 ^ i, i + 1, 0) by rw [HQ.out, if_pos hc128, if_neg hc0])
              obtain ⟨N, hN⟩ : ∃ N, N = u + c % 128 * 128 ^ i := ⟨_, rfl⟩
              rw [← hN] at HQ2 hv
              clear hN HV hA HQ
              have g1 : (decide (c = 0) && decide (0 < i)) = false := by
                by_cases h1 : c = 0
                · have : ¬ 0 < i := fun h2 => hc0 ⟨h1, h2⟩
                  simp [this]
                · simp [h1]
              go_wp2
              all_goals
                go_ret2
                have hP := HQ2.out
                refine ⟨by rw [hP]; first | rfl | simp, H3.out.2.trans H4.out.2 (fun _ h _ => h), fun _ => ?_⟩
                rw [hP]
                show Rd _ B a r (pos + 8 * (i + 1)) (bits8 (bs.drop (i + 1)) ++ l3) false
                rw [HU.out.2, show pos + 8 * (i + 1) = pos + 8 * i + 8 by omega]
                exact H4.out.1
          · have HQ2 := hid (show P = vp (i + 1) (u + c % 128 * 128 ^ i) cs by rw [HQ.out, if_neg hc128])
            obtain ⟨N, hN⟩ : ∃ N, N = u + c % 128 * 128 ^ i := ⟨_, rfl⟩
            have HN := hid (show N < 128 ^ (i + 1) by rw [hN]; exact HV.out.2.1)
            rw [← hN] at HQ2 hv
            clear hN HV hA HQ
            go_wp2
            go_roundw
            case rel => exact ⟨N, i + 1, cs, by go_num, by go_num, by omega, hid ⟨HN.out, HQ2.out, HU.out.2.symm, H4.out.1, H3.out.2.trans H4.out.2 (fun _ h _ => h)⟩⟩
            case measure => simp [intOf]; omega

theorem gets_any (w : World) (B a pos : Nat) (r : Option Nat) (bs : List Nat) (l3 : List Bool) (hb : ∀ b ∈ bs, b < 256) (h : Rd w B a r pos (bits8 bs ++ l3) false) (hs : (vp 0 0 bs).2.2 = 16 → l3.length < 8) (hv : (vp 0 0 bs).1 < 18446744073709551616) :
    Calls Try.prog 42 #[.pointer (some ⟨a, 0, none⟩)] w fun e w' => e = .returned (.tuple #[.int .i64 (zag (vp 0 0 bs).1), .int .i64 ((vp 0 0 bs).2.2 : Nat)]) ∧ Fr (fun k => k = a) w w' ∧
      ((vp 0 0 bs).2.2 = 0 → Rd w' B a r (pos + 8 * (vp 0 0 bs).2.1) (bits8 (bs.drop (vp 0 0 bs).2.1) ++ l3) false) := by
  have H := hid (getu_any w B a pos r bs l3 hb h hs)
  clear h hs hb
  generalize vp 0 0 bs = P at *
  go_enter Try.func42, Try.ntmps42
  go_wp2_with fail
  refine H.out.mono ?_
  rintro e w1 ⟨rfl, hf, hr⟩
  have HR := hid (And.intro hf hr)
  clear hf hr
  go_wp2_with fail
  refine (zag_any P.1 hv _).mono ?_
  rintro e w2 ⟨rfl, rfl⟩
  go_wp2
  go_ret2
  exact ⟨rfl, HR.out⟩
end Go.Proofs.Ytlfcaigofakkoaa
