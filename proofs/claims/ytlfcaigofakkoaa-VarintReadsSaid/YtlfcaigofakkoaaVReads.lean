/- The walk of VarintReads. -/
import Derived.Test.YtlfcaigofakkoaaVAwake
import Derived.Test.YtlfcaigofakkoaaArg
namespace Go.Proofs.Ytlfcaigofakkoaa
open Go.RowKit Bt
namespace Bt
/-- What was read has just these bytes. -/
theorem vp_take (cs : List Nat) : ∀ (i u V U : Nat), (∀ b ∈ cs, b < 256) → i ≤ 9 → vp i u cs = (V, U, 0) →
    ∃ x, V = u + x * 128 ^ i ∧ i + 1 ≤ U ∧ U - i ≤ cs.length ∧ vb x = cs.take (U - i) ∧ (0 < i → x ≠ 0) ∧ x < 2 ^ (64 - 7 * i) := by
  induction cs with
  | nil => intro i u V U _ _ h; simp [vp] at h
  | cons c cs ih =>
    intro i u V U hb hi h
    have hc : c < 256 := hb c List.mem_cons_self
    rw [vp] at h
    split at h
    · simp at h
    · rename_i h9
      split at h
      · rename_i hlt
        split at h
        · simp at h
        · rename_i h0
          simp only [Prod.mk.injEq, and_true] at h
          obtain ⟨rfl, rfl⟩ := h
          refine ⟨c, by rw [Nat.mod_eq_of_lt hlt], by omega, by simp, ?_, by omega, ?_⟩
          · rw [vb_lt hlt, show i + 1 - i = 1 by omega]; simp
          · by_cases hi9 : i = 9
            · subst hi9; omega
            · exact Nat.lt_of_lt_of_le hlt (Nat.pow_le_pow_right (n := 2) (i := 7) (by decide) (by omega))
      · rename_i hge
        have hi9 : i < 9 := by omega
        obtain ⟨x, hV, hU, hl, hx, h0, hlt⟩ := ih (i + 1) _ V U (fun b h => hb b (List.mem_cons_of_mem _ h)) (by omega) h
        have hx0 := h0 (by omega)
        have hcm : c % 128 + 128 = c := by omega
        refine ⟨c % 128 + 128 * x, ?_, by omega, by simp; omega, ?_, by omega, ?_⟩
        · rw [hV, Nat.pow_succ, Nat.add_mul, Nat.add_assoc, Nat.mul_comm 128 x, Nat.mul_assoc, Nat.mul_comm 128]
        · rw [vb_ge (by omega), show (c % 128 + 128 * x) % 128 + 128 = c by omega, show (c % 128 + 128 * x) / 128 = x by omega, hx, show U - i = (U - (i + 1)) + 1 by omega, List.take_succ_cons]
        · have e : 2 ^ (64 - 7 * i) = 2 ^ (64 - 7 * (i + 1)) * 128 := by
            rw [show (128 : Nat) = 2 ^ 7 from rfl, ← Nat.pow_add]
            congr 1
            omega
          omega

theorem vp_err (cs : List Nat) : ∀ (i u : Nat), (vp i u cs).2.2 = 0 ∨ (vp i u cs).2.2 = 10 ∨ (vp i u cs).2.2 = 16 ∨ (vp i u cs).2.2 = 17 := by
  induction cs with
  | nil => intro i u; simp [vp]
  | cons c cs ih =>
    intro i u
    rw [vp]
    split
    · simp
    · split
      · split <;> simp
      · exact ih _ _
end Bt

theorem vreads_out (ao : Option Addr) (len cap : Nat) (w : World) (h : 40 < len) :
    Calls Try.prog 8 #[.slice ao len cap] w fun e w' => e = .returned (.bool true) ∧ Fr (fun _ => False) w w' := by
  go_enter Try.func8, Try.ntmps8
  go_wp2_with fail
  refine (awake3_any _).mono ?_
  rintro e w1 ⟨rfl, hf⟩
  go_wp2
  go_ret
  exact ⟨rfl, hf⟩

/-- The writer's bytes and the argument's, as texts, beside each other: the same. -/
theorem vr_bytes {w0 w : World} {a : Nat} {r : Option Nat} {l : List Bool} {v : Value} {bs : List Nat} {s : ByteArray} (h : W1 w0 w a r l) (hl : Hid (l.length ≤ 8000000)) (hb : Hid (BS w v bs)) (hp : Hid (pack l = bs)) (hs : Hid (s = str bs)) :
    Calls Try.prog 18 #[.pointer (some ⟨a, 0, none⟩)] w fun e w' => ∃ ao N cap, e = .returned (.slice ao N cap) ∧ W1 w0 w' a r l ∧ Sem.run Try.prog (convert 35 9 (.slice ao N cap)) w' = .ok (.string s) w' ∧
      Sem.run Try.prog (convert 35 9 v) w' = .ok (.string s) w' := by
  refine (w1_bytes h hl.out).mono ?_
  rintro e w' ⟨ao, N, cap, rfl, h', hb', hf⟩
  rw [hs.out]
  rw [hp.out] at hb'
  exact ⟨ao, N, cap, rfl, h', conv_bs hb', conv_bs (hb.out.keep hf (fun _ _ _ _ h => h))⟩

theorem vr_pos {w : World} {B a U : Nat} {r : Option Nat} {l : List Bool} (h : Rd w B a r (0 + 8 * U) l false) :
    Calls Try.prog 31 #[.pointer (some ⟨a, 0, none⟩)] w fun e w' => e = .returned (.int .i64 (8 * (U : Int))) ∧ w = w' := by
  refine (pos_any w B a r _ l false h).mono ?_
  rintro e w' ⟨rfl, rfl⟩
  exact ⟨ret_int' (by omega), rfl⟩

theorem vr_row {w : World} {ao : Option Addr} {n cap : Nat} {bs : List Nat} (h : BS w (.slice ao n cap) bs) (hn : 1 ≤ n) : ∃ b off, ao = some ⟨b, off, none⟩ ∧ n ≤ cap ∧ n = bs.length := by
  rcases h with ⟨h, _⟩ | ⟨⟨b, off, spot⟩, c, h, hl, _, hc⟩
  · simp at h; omega
  · simp only [Value.slice.injEq] at h
    obtain ⟨rfl, rfl, rfl⟩ := h
    have h0 := hc 0 _ (List.getElem?_eq_getElem (show 0 < (byteVs bs).length by rw [len_byteVs]; omega))
    have hspot : spot = none := by simpa [Addr.add] using World.cell?_spot h0
    subst hspot
    exact ⟨b, off, rfl, hl, rfl⟩

set_option maxRecDepth 100000 in
set_option maxHeartbeats 1000000 in
theorem vreads_in (ao : Option Addr) (cap : Nat) (bs : List Nat) (w : World) (hl : bs.length ≤ 40) (hb : BS w (.slice ao bs.length cap) bs) (h256 : ∀ b ∈ bs, b < 256) :
    Calls Try.prog 8 #[.slice ao bs.length cap] w fun e w' => e = .returned (.bool true) ∧ Fr (fun _ => False) w w' := by
  obtain ⟨P, hP⟩ : ∃ P, P = vp 0 0 bs := ⟨_, rfl⟩
  obtain ⟨V, U, E⟩ := P
  have HB := hid hb
  have HP := hid hP.symm
  have H256 := hid h256
  clear hb hP h256
  obtain ⟨n, hn⟩ : ∃ n, n = bs.length := ⟨_, rfl⟩
  rw [← hn] at hl ⊢
  have HN := hid hn
  clear hn
  go_enter Try.func8, Try.ntmps8
  go_wp2_with fail
  have hrd := newReader_any (.slice ao n cap) bs (8 * n) w (by rw [← HN.out]; omega) (by rw [HN.out]; exact HB.out) H256.out (by rw [HN.out]; omega)
  rw [show (unpack bs).take (8 * n) = bits8 bs ++ [] by rw [unpack_bits8, List.append_nil, List.take_of_length_le]; rw [len_bits8, HN.out]; omega, Int.natCast_mul] at hrd
  refine hrd.mono ?_
  rintro e w1 ⟨a, r, rfl, hr, hf1⟩
  have H1 := hid (And.intro hr hf1)
  clear hr hf1 hrd
  go_wp2_with fail
  refine (getu_any w1 w.heap.size a 0 r bs [] H256.out H1.out.1 (by intro _; decide)).mono ?_
  rw [HP.out]
  rintro e w2 ⟨rfl, hf2, hr2⟩
  have HF2 := hid (show Fr (fun _ => False) w w2 from H1.out.1.own H1.out.2 hf2 (Nat.le_refl _))
  have HR2 := hid hr2
  have HB2 := hid (HB.out.keep HF2.out (fun _ _ _ _ h => h))
  have hcv := conv_bs HB2.out
  rw [← HN.out] at hcv
  clear hf2 hr2 H1
  go_wp2_with fail
  have hpa := parse_any bs H256.out (by rw [← HN.out]; omega) w2
  rw [HP.out] at hpa
  refine hpa.mono ?_
  rintro e w3 ⟨rfl, rfl⟩
  clear hpa hcv
  by_cases hE : E = 0
  · subst hE
    have hx : V < 18446744073709551616 ∧ 1 ≤ U ∧ U ≤ n ∧ vb V = bs.take U := by
      obtain ⟨x, hV, hU, hlU, hx, _, hxl⟩ := vp_take bs 0 0 V U H256.out (by omega) HP.out
      have hxV : x = V := by omega
      rw [hxV] at hx hxl
      exact ⟨by simpa using hxl, by omega, by rw [HN.out]; omega, by simpa using hx⟩
    obtain ⟨hV, hU1, hUn, hx⟩ := hx
    have HX := hid hx
    have HR3 := hid (HR2.out rfl)
    clear hx HR2
    go_wp2_with fail
    refine (w1_new (w0 := w2) (.slice none 0 0) [] 0 (Fr.refl _ _) (by decide) (.inl ⟨rfl, rfl⟩) (by simp) (by decide)).mono ?_
    rintro e w4 ⟨a4, r4, rfl, h4, _⟩
    rw [show (unpack []).take 0 = [] from rfl] at h4
    have H4 := hid h4
    clear h4
    go_wp2_with fail
    refine (putu_any H4.out V hV (by decide)).mono ?_
    rintro e w5 ⟨rfl, r5, H5⟩
    clear H4
    rw [List.nil_append] at H5
    have hr5 : Rd w5.drew w.heap.size a r (0 + 8 * U) (bits8 (bs.drop U) ++ []) false := HR3.out.still H5.out.fr.drew
    have hb5 := HB2.out.keep H5.out.fr.drew (fun _ _ _ _ h => h)
    have hr5' := hid hr5
    obtain ⟨b, off, rfl, hcap, _⟩ := vr_row hb5 (by rw [← HN.out]; omega)
    have hbt := hid (hb5.take (n := U) (by rw [← HN.out]; omega))
    rw [← HN.out] at hcap
    obtain ⟨s, hs⟩ : ∃ s, s = str (bs.take U) := ⟨_, rfl⟩
    have HS := hid hs
    have hcu := conv_bs hbt.out
    rw [← hs] at hcu
    have HL := hid (show (bits8 (vb V)).length ≤ 8000000 by rw [len_bits8]; have := vb_len64 V hV; omega)
    have HPK := hid (show pack (bits8 (vb V)) = bs.take U by rw [pack_bits8 _ (vb_bytes V), HX.out])
    have hw5 : W1 w2 w5.drew a4 r5 (bits8 (vb V)) := H5.out.still (Fr.refl _ _).drew
    have hw8 : IntKind.i64.wrap (8 * (U : Int)) = 8 * (U : Int) := IntWalk.i64_in _ (by omega)
    clear hs hb5 hr5 HN HX HR3 HP HB2 HB H5
    go_wp2_with fail
    go_region_with (first | (go_at_call 31; refine (vr_pos hr5'.out).mono ?_; rintro e w' ⟨rfl, rfl⟩) | (go_at_call 18; refine (vr_bytes hw5 HL hbt HPK HS).mono ?_; rintro e w' ⟨ao', N', cap', rfl, hw5, hcv', hcu⟩) | (go_at_call 35; refine (awake3_any _).mono ?_; rintro e w' ⟨rfl, hf'⟩))
    all_goals
      have HF := hid (HF2.out.trans (hw5.fr.trans hf' (fun _ h _ => h)) (fun _ h _ => h))
      clear hw5 hf' hcv' hcu
      go_wp2
      go_ret
      exact ⟨rfl, HF.out⟩
  · have hE1 : E ≤ 17 := by have := vp_err bs 0 0; rw [HP.out] at this; simp only at this; omega
    go_wp2_with fail
    refine (awake3_any _).mono ?_
    rintro e w1 ⟨rfl, hf⟩
    have HF := hid (HF2.out.trans hf (fun _ h _ => h))
    clear hf
    go_wp2
    go_ret
    exact ⟨rfl, HF.out⟩
end Go.Proofs.Ytlfcaigofakkoaa
