/- The walk of ThresholdReads. -/
import Derived.Test.YtlfcaigofakkoaaTAwake
import Derived.Test.YtlfcaigofakkoaaArg
namespace Go.Proofs.Ytlfcaigofakkoaa
open Go.RowKit Bt

set_option maxRecDepth 100000 in
theorem treads_out (ao : Option Addr) (len cap : Nat) (n : Int) (w : World) (h : 40 < len ∨ n < 0 ∨ 8 * (len : Int) < n) :
    Calls Try.prog 13 #[.slice ao len cap, .int .i64 n] w fun e w' => e = .returned (.bool true) ∧ Fr (fun _ => False) w w' := by
  have HA := hid awake12_any
  by_cases h1 : 40 < len
  · go_enter Try.func13, Try.ntmps13
    go_wp2_with fail
    refine (HA.out _).mono ?_
    rintro e w1 ⟨rfl, hf⟩
    go_wp2
    go_ret
    exact ⟨rfl, hf⟩
  · by_cases h2 : n < 0
    · clear h
      go_enter Try.func13, Try.ntmps13
      go_wp2_with fail
      refine (HA.out _).mono ?_
      rintro e w1 ⟨rfl, hf⟩
      go_wp2
      go_ret
      exact ⟨rfl, hf⟩
    · have h3 : 8 * (len : Int) < n := by omega
      clear h
      go_enter Try.func13, Try.ntmps13
      go_wp2_with fail
      refine (HA.out _).mono ?_
      rintro e w1 ⟨rfl, hf⟩
      go_wp2
      go_ret
      exact ⟨rfl, hf⟩

set_option maxRecDepth 100000 in
set_option maxHeartbeats 1000000 in
theorem treads_in (ao : Option Addr) (cap n : Nat) (bs : List Nat) (w : World) (hl : bs.length ≤ 40) (hn : n ≤ 8 * bs.length) (hb : BS w (.slice ao bs.length cap) bs) (h256 : ∀ b ∈ bs, b < 256) :
    Calls Try.prog 13 #[.slice ao bs.length cap, .int .i64 n] w fun e w' => e = .returned (.bool true) ∧ Fr (fun _ => False) w w' := by
  have HA := hid awake12_any
  have HB := hid hb
  have H256 := hid h256
  clear hb h256
  go_enter Try.func13, Try.ntmps13
  go_wp2_with fail
  refine (newReader_any _ bs n w (by omega) HB.out H256.out hn).mono ?_
  rintro e w1 ⟨a, r, rfl, hr, hf1⟩
  have H1 := hid (And.intro hr hf1)
  clear hr hf1
  have HL := hid (show ((unpack bs).take n).length ≤ 320 by rw [List.length_take]; omega)
  have HG := hid (tget_any H1.out.1)
  have HT := hid (text_any bs H256.out n hn (by omega))
  have HP := hid (rparse_any ((unpack bs).take n) (by have := HL.out; omega))
  have HE := hid (tp_err ((unpack bs).take n))
  generalize (unpack bs).take n = l at *
  obtain ⟨T, hT⟩ : ∃ T, T = txt l := ⟨_, rfl⟩
  rw [← hT] at HT HP
  obtain ⟨V, U, E, hP⟩ : ∃ V U E, tp l = (V, U, E) := ⟨_, _, _, rfl⟩
  have hE := HE.out
  rw [hP] at HG HP hE
  clear hP hT HE HL
  go_wp2_with fail
  refine HG.out.mono ?_
  rintro e w2 ⟨rfl, hf2, hr2⟩
  have HF2 := hid (show Fr (fun _ => False) w w2 from H1.out.1.own H1.out.2 hf2 (Nat.le_refl _))
  have HR2 := hid hr2
  have hcv := conv_bs (HB.out.keep HF2.out (fun _ _ _ _ h => h))
  clear hf2 hr2 HG H1
  go_wp2_with fail
  refine (HT.out _).mono ?_
  rintro e w3 ⟨rfl, rfl⟩
  clear hcv
  go_wp2_with fail
  refine (HP.out _).mono ?_
  rintro e w3 ⟨rfl, rfl⟩
  by_cases h0 : E = 0
  · subst h0
    have hps := pos_any _ _ a r _ _ false (HR2.out rfl)
    rw [Nat.zero_add] at hps
    clear HR2 hE
    go_wp2_with fail
    refine hps.mono ?_
    rintro e w4 ⟨rfl, rfl⟩
    clear hps
    go_wp2_with fail
    refine (HA.out _).mono ?_
    rintro e w5 ⟨rfl, hf⟩
    have HF := hid (HF2.out.trans hf (fun _ h _ => h))
    clear hf
    go_wp2
    go_ret
    exact ⟨rfl, HF.out⟩
  · have hE2 : E = 10 ∨ E = 11 ∨ E = 16 := by omega
    clear HR2 hE h0
    rcases hE2 with rfl | rfl | rfl
    all_goals
      go_wp2_with fail
      refine (HA.out _).mono ?_
      rintro e w5 ⟨rfl, hf⟩
      have HF := hid (HF2.out.trans hf (fun _ h _ => h))
      clear hf
      go_wp2
      go_ret
      exact ⟨rfl, HF.out⟩
end Go.Proofs.Ytlfcaigofakkoaa
