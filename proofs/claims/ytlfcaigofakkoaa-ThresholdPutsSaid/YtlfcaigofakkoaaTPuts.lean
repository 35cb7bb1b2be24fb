/- The walk of ThresholdPuts. -/
import Derived.Test.YtlfcaigofakkoaaTAwake
namespace Go.Proofs.Ytlfcaigofakkoaa
open Go.RowKit Bt

theorem tputs_out (v : Nat) (n : Int) (w : World) (h : n < 0 ∨ 20 < n) :
    Calls Try.prog 12 #[.int .u64 v, .int .i64 n] w fun e w' => e = .returned (.bool true) ∧ Fr (fun _ => False) w w' := by
  rcases h with h | h
  all_goals
    go_enter Try.func12, Try.ntmps12
    go_wp2_with fail
    refine (w1_new (w0 := w) (.slice none 0 0) [] 0 (Fr.refl _ _) (by decide) (.inl ⟨rfl, rfl⟩) (by simp) (by decide)).mono ?_
    rintro e w1 ⟨a, r, rfl, _, hf1⟩
    have HF1 := hid hf1
    clear hf1
    go_wp2_with fail
    refine (awake12_any _).mono ?_
    rintro e w1 ⟨rfl, hf⟩
    have HF := hid (HF1.out.trans hf (fun _ h _ => h))
    clear hf
    go_wp2
    go_ret
    exact ⟨rfl, HF.out⟩

section
variable {w0 w : World} {a a2 pos n : Nat} {r r2 : Option Nat} {l l2 : List Bool} {s S : ByteArray}
theorem tq_bytes (h : WR w0 w a r l a2 r2 pos l2 false) (hn : Hid (l.length = n)) (hl : n ≤ 1000) (hs : Hid (s = str (pack l))) :
    Calls Try.prog 18 #[.pointer (some ⟨a, 0, none⟩)] w fun e w' => ∃ ao N cap, e = .returned (.slice ao N cap) ∧ WR w0 w' a r l a2 r2 pos l2 false ∧ Sem.run Try.prog (convert 35 9 (.slice ao N cap)) w' = .ok (.string s) w' := by
  refine (wr_bytes h (by rw [hn.out]; omega)).mono ?_
  rintro e w' ⟨ao, N, cap, rfl, h', hb⟩
  rw [hs.out]
  exact ⟨ao, N, cap, rfl, h', conv_bs hb⟩
theorem tq_len (h : WR w0 w a r l a2 r2 pos l2 false) (hn : Hid (l.length = n)) :
    Calls Try.prog 19 #[.pointer (some ⟨a, 0, none⟩)] w fun e w' => e = .returned (.int .i64 (n : Nat)) ∧ w = w' := by
  have := w1_len h.w1
  rwa [hn.out] at this
theorem tq_text (hn : Hid (l.length = n)) (hl : n ≤ 1000) (hs : Hid (s = str (pack l))) (hS : Hid (S = txt l)) (w : World) :
    Calls Try.prog 28 #[.string s, .int .i64 n] w fun e w' => e = .returned (.string S) ∧ w = w' := by
  have := text_any (pack l) (pack_lt l) n (by rw [len_pack, hn.out]; omega) (by rw [len_pack, hn.out]; omega) w
  rw [← hn.out, take_unpack_pack, hn.out] at this
  rw [hs.out, hS.out]
  exact this
theorem tq_left (h : WR w0 w a r l a2 r2 pos [] false) : Calls Try.prog 23 #[.pointer (some ⟨a2, 0, none⟩)] w fun e w' => e = .returned (.int .i64 0) ∧ WR w0 w' a r l a2 r2 pos [] false := wr_left h
end

set_option maxHeartbeats 2000000 in
set_option maxRecDepth 100000 in
theorem tputs_in (v n : Nat) (w : World) (hv : v < 18446744073709551616) (hn : n ≤ 20) :
    Calls Try.prog 12 #[.int .u64 v, .int .i64 n] w fun e w' => e = .returned (.bool true) ∧ Fr (fun _ => False) w w' := by
  have HA := hid awake12_any
  go_enter Try.func12, Try.ntmps12
  go_wp2_with fail
  refine (w1_new (w0 := w) (.slice none 0 0) [] 0 (Fr.refl _ _) (by decide) (.inl ⟨rfl, rfl⟩) (by simp) (by decide)).mono ?_
  rintro e w1 ⟨a, r, rfl, h1, hf1⟩
  rw [show (unpack []).take 0 = [] from rfl] at h1
  have H1 := hid h1
  clear h1 hf1
  go_wp2_with fail
  go_loopw [41] (fun i wr => ∃ (m : Nat) (r' : Option Nat), m ≤ n ∧ i = .int .i64 m ∧ Hid (W1 w wr a r' (List.replicate m true))) (fun i _ => n - (intOf i).toNat)
  case atStart => exact ⟨0, r, by omega, rfl, H1⟩
  case round =>
    obtain ⟨m, r', hm, rfl, H⟩ := hrel
    by_cases hlt : m < n
    · go_wp2_with fail
      refine (w1_bit H.out true (by rw [List.length_replicate]; omega)).mono ?_
      rintro e w2 ⟨rfl, r2, h2, _⟩
      rw [← List.replicate_succ'] at h2
      have H2 := hid h2
      clear h2
      go_wp2
      go_roundw
      case rel => exact ⟨m + 1, r2, by omega, by go_num, H2⟩
      case measure => simp [intOf]; omega
    · obtain rfl : m = n := by omega
      clear hlt hm
      by_cases hr : v < 9218868437227405312
      · have HH := hid (head_yes v hr)
        have HT := hid (tlen_yes v hr)
        have HB := hid (rbits_any v hv)
        obtain ⟨z, hz⟩ : ∃ z, (tbits v).length = z := ⟨_, rfl⟩
        have hz72 : z ≤ 72 := by
          rw [← hz, tbits]
          split
          · rw [List.length_append, len_bitsOf, len_bitsOf]; decide
          · rw [len_bitsOf]; omega
        obtain ⟨T, hT⟩ : ∃ T, T = txt (tbits v) := ⟨_, rfl⟩
        have hTz : T.size = z := by rw [hT, len_txt, hz]
        rw [hz] at HT
        rw [← hT] at HB
        have HTT := hid hT
        have HZ := hid hz
        clear hz hT
        go_wp2_with fail
        refine (tput_yes H.out v hr (by rw [List.length_replicate]; omega)).mono ?_
        rintro e w2 ⟨rfl, r2, H2⟩
        clear H
        obtain ⟨L, hL⟩ : ∃ L, L = List.replicate m true ++ tbits v := ⟨_, rfl⟩
        rw [← hL] at H2
        have HLz := hid (show L.length = m + z by rw [hL, List.length_append, List.length_replicate, HZ.out])
        have HLD := hid (show L.drop m = tbits v by rw [hL]; exact List.drop_left' List.length_replicate)
        have HL := hid hL
        clear hL
        have hwl := hid (fun wr (h : W1 w wr a r2 L) => w1_len h)
        rw [HLz.out] at hwl
        go_wp2_with fail
        refine (HH.out _).mono ?_
        rintro e w3 ⟨rfl, rfl⟩
        go_wp2_with fail
        refine (HB.out _).mono ?_
        rintro e w3 ⟨rfl, rfl⟩
        go_wp2_with fail
        refine (w1_bytes H2.out (by rw [HLz.out]; omega)).mono ?_
        rintro e w3 ⟨ao, N, cap, rfl, h3, hb, _⟩
        have H3 := hid (And.intro h3 hb)
        clear h3 hb H2
        go_wp2_with fail
        refine (hwl.out _ H3.out.1).mono ?_
        rintro e w4 ⟨rfl, rfl⟩
        go_wp2_with fail
        have hrd := wr_new (.slice ao N cap) _ (m + z) H3.out.1 (by rw [len_pack, HLz.out]; omega) H3.out.2 (pack_lt _) (by rw [len_pack, HLz.out]; omega)
        rw [← HLz.out, take_unpack_pack, HLz.out] at hrd
        refine hrd.mono ?_
        rintro e w4 ⟨a2, q2, rfl, h4, _⟩
        have H4 := hid h4
        clear h4 hrd H3
        go_wp2_with fail
        refine (hwl.out _ H4.out.w1).mono ?_
        rintro e w5 ⟨rfl, rfl⟩
        go_wp2_with fail
        refine (HT.out _).mono ?_
        rintro e w5 ⟨rfl, rfl⟩
        go_wp2_with fail
        rw [HL.out] at H4
        go_loopw [105] (fun i wr => ∃ (q : Nat), q ≤ m ∧ i = .int .i64 q ∧ Hid (WR w wr a r2 L a2 q2 q (List.replicate (m - q) true ++ tbits v) false)) (fun i _ => m - (intOf i).toNat)
        case atStart => exact ⟨0, by omega, rfl, by rw [Nat.sub_zero, HL.out]; exact H4⟩
        case round =>
          obtain ⟨q, hq, rfl, H⟩ := hrel
          by_cases hlt : q < m
          · have h7 := H.out
            rw [show m - q = (m - (q + 1)) + 1 by omega, List.replicate_succ, List.cons_append] at h7
            have H7 := hid h7
            clear h7 H
            go_wp2_with fail
            refine (wr_rbit H7.out).mono ?_
            rintro e w8 ⟨rfl, h8⟩
            have H8 := hid h8
            clear h8
            go_wp2
            go_roundw
            case rel => exact ⟨q + 1, by omega, by go_num, H8⟩
            case measure => simp [intOf]; omega
          · obtain rfl : q = m := by omega
            have h7 := H.out
            rw [Nat.sub_self, List.replicate_zero, List.nil_append] at h7
            have hw7 := h7.still (Fr.refl _ _).drew
            clear h7 H hlt hq H4
            obtain ⟨S, hS⟩ : ∃ S, S = txt L := ⟨_, rfl⟩
            obtain ⟨s, hs⟩ : ∃ s, s = str (pack L) := ⟨_, rfl⟩
            have hSz : S.size = q + z := by rw [hS, len_txt, HLz.out]
            have hS1 : S.size ≤ 1000 := by omega
            have hI' : q ≤ S.size := by omega
            have hI : (q : Int) ≤ (S.size : Int) := by omega
            have e2 : S.extract q S.size = T := by rw [hSz, hS, txt_part, HLD.out, HTT.out, show q + z - q = z by omega, List.take_of_length_le (by rw [HZ.out]; omega)]
            have HS := hid hS
            have HSS := hid hs
            clear hS hs hSz hwl HH HT HB
            go_wp2_with fail
            go_region_with (first | (go_at_call 18; refine (tq_bytes hw7 HLz (by omega) HSS).mono ?_; rintro e w' ⟨ao', N', cap', rfl, hw7, hcv'⟩) | (go_at_call 19; refine (tq_len hw7 HLz).mono ?_; rintro e w' ⟨rfl, rfl⟩) | (go_at_call 28; refine (tq_text HLz (by omega) HSS HS _).mono ?_; rintro e w' ⟨rfl, rfl⟩))
            all_goals
              have H7 := hid hw7
              clear hw7 hcv' e2 hI hI'
              go_wp2_with fail
              refine (wr_tget v H7.out hr).mono ?_
              rintro e w8 ⟨rfl, pos8, H8⟩
              clear H7
              go_wp2_with fail
              refine (tq_left H8.out).mono ?_
              rintro e w9 ⟨rfl, h9⟩
              have H9 := hid h9
              clear h9
              go_wp2_with fail
              refine (HA.out _).mono ?_
              rintro e w10 ⟨rfl, hf⟩
              have HF := hid (H9.out.fr.trans hf (fun _ h _ => h))
              clear hf
              go_wp2
              go_ret
              exact ⟨rfl, HF.out⟩
      · have HH := hid (head_no v hr)
        have HT := hid (tlen_no v hr)
        have HP := hid (tput_no v hr a)
        have hwl := w1_len H.out
        rw [List.length_replicate] at hwl
        go_wp2_with fail
        refine (HP.out _).mono ?_
        rintro e w2 ⟨rfl, rfl⟩
        go_wp2_with fail
        refine (HH.out _).mono ?_
        rintro e w2 ⟨rfl, rfl⟩
        go_wp2_with fail
        refine hwl.mono ?_
        rintro e w2 ⟨rfl, rfl⟩
        clear hwl
        go_wp2_with fail
        refine (HT.out _).mono ?_
        rintro e w2 ⟨rfl, rfl⟩
        go_wp2_with fail
        refine (HA.out _).mono ?_
        rintro e w2 ⟨rfl, hf⟩
        have HF := hid (H.out.fr.trans hf (fun _ h _ => h))
        clear hf
        go_wp2
        go_ret
        exact ⟨rfl, HF.out⟩
end Go.Proofs.Ytlfcaigofakkoaa
