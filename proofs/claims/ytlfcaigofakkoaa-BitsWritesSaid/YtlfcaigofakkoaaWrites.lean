/- The walk of BitsWrites: whatever it is called with, it returns true, and nothing old has turned. -/
import Derived.Test.YtlfcaigofakkoaaRound
import Derived.Test.YtlfcaigofakkoaaCut
import Derived.Deep.CutRange
import Derived.Deep.CutBlock
namespace Go.Proofs.Ytlfcaigofakkoaa
open Go.RowKit Bt

theorem bit_of_odd (v : Nat) : ((v : Int) % 2 == 1) = v.testBit 0 := by
  rw [Nat.testBit_eq_decide_div_mod_eq]
  rcases Nat.mod_two_eq_zero_or_one v with h | h
  · have e : ((v : Int) % 2 == 1) = false := by rw [beq_eq_false_iff_ne]; omega
    rw [e]; simp [h]
  · have e : ((v : Int) % 2 == 1) = true := by rw [beq_iff_eq]; omega
    rw [e]; simp [h]

theorem w1_copy {w0 w : World} {a : Nat} {r : Option Nat} {l : List Bool} (h : W1 w0 w a r l) (hl : l.length ≤ 8000000) :
    Calls Try.prog 29 #[.pointer (some ⟨a, 0, none⟩)] w fun e w' => ∃ a' r', e = .returned (.pointer (some ⟨a', 0, none⟩)) ∧ W1 w0 w' a r l ∧ W1 w0 w' a' r' l ∧ Sep a r a' r' := by
  refine (copy_any w _ a r l hl h.wr).mono ?_
  rintro e w' ⟨a', r', rfl, hw, hf⟩
  have h' := h.still hf
  exact ⟨a', r', rfl, h', ⟨h'.fr, hw.base h.fr.size⟩, Sep.made h.wr.lt (fun k hk => (h.wr.row_lt k hk).2) hw.1 (fun k hk => (hw.row_lt k hk).1)⟩

theorem w1_bit_other {w0 w : World} {a a' : Nat} {r r' : Option Nat} {l l' : List Bool} (h : W1 w0 w a r l) (h' : W1 w0 w a' r' l') (hs : Sep a r a' r') (b : Bool) (hl : l.length < 8000000) :
    Calls Try.prog 27 #[.pointer (some ⟨a, 0, none⟩), .bool b] w fun e w' => e = .returned (.tuple #[]) ∧ W1 w0 w' a' r' l' :=
  (w1_bit h b hl).mono fun _ _ ⟨he, _, hw, hst⟩ => ⟨he, hw.fr, h'.wr.wstep hst hs⟩

theorem w1_len_txt {w0 w : World} {a : Nat} {r : Option Nat} {l : List Bool} (h : W1 w0 w a r l) :
    Calls Try.prog 19 #[.pointer (some ⟨a, 0, none⟩)] w fun e w' => e = .returned (.int .i64 ((txt l).size : Nat)) ∧ w = w' := by
  rw [len_txt]; exact w1_len h

theorem w1_bytes_conv {w0 w : World} {a : Nat} {r : Option Nat} {l : List Bool} (h : W1 w0 w a r l) (hl : l.length ≤ 8000000) :
    Calls Try.prog 18 #[.pointer (some ⟨a, 0, none⟩)] w fun e w' => ∃ ao N cap, e = .returned (.slice ao N cap) ∧ W1 w0 w' a r l ∧ BS w' (.slice ao N cap) (pack l) ∧
      (∀ W, BS W (.slice ao N cap) (pack l) → Sem.run Try.prog (convert 35 9 (.slice ao N cap)) W = .ok (.string (str (pack l))) W) :=
  (w1_bytes h hl).mono fun _ _ ⟨ao, N, cap, he, hw, hb, _⟩ => ⟨ao, N, cap, he, hw, hb, fun _ hb => conv_bs hb⟩

theorem WStep.cell {w w' : World} {B a q i : Nat} {r r' : Option Nat} {l : List Bool} (h : WStep w B a r w' r' l) (hq : q < w.heap.size) (h1 : a ≠ q) (h2 : r ≠ some q) : w'.cell? ⟨q, i, none⟩ = w.cell? ⟨q, i, none⟩ :=
  h.fr.cell (p := ⟨q, i, none⟩) hq (fun h => h.elim (fun h => h1 h.symm) h2)

theorem w1_put_cells {w0 w : World} {a : Nat} {r : Option Nat} {l : List Bool} (h : W1 w0 w a r l) (v n : Nat) (hv : v < 18446744073709551616) (h1 : 1 ≤ n) (h64 : n ≤ 64) (hl : l.length + 64 < 8000000) (q : Nat) (hq : q < w.heap.size) (ha : a ≠ q) (hr : r ≠ some q) :
    Calls Try.prog 16 #[.pointer (some ⟨a, 0, none⟩), .int .u64 v, .int .i64 n] w fun e w' => e = .returned (.tuple #[]) ∧ (∃ r', Hid (W1 w0 w' a r' (l ++ bitsOf v n))) ∧ ∀ i, w'.cell? ⟨q, i, none⟩ = w.cell? ⟨q, i, none⟩ :=
  (w1_put h v n hv h1 h64 hl).mono fun _ _ ⟨he, r', hw, hs⟩ => ⟨he, ⟨r', hid hw⟩, fun _ => hs.cell hq ha hr⟩

theorem w1_bit_cells {w0 w : World} {a : Nat} {r : Option Nat} {l : List Bool} (h : W1 w0 w a r l) (b : Bool) (hl : l.length < 8000000) (q : Nat) (hq : q < w.heap.size) (ha : a ≠ q) (hr : r ≠ some q) :
    Calls Try.prog 27 #[.pointer (some ⟨a, 0, none⟩), .bool b] w fun e w' => e = .returned (.tuple #[]) ∧ (∃ r', Hid (W1 w0 w' a r' (l ++ [b]))) ∧ ∀ i, w'.cell? ⟨q, i, none⟩ = w.cell? ⟨q, i, none⟩ :=
  (w1_bit h b hl).mono fun _ _ ⟨he, r', hw, hs⟩ => ⟨he, ⟨r', hid hw⟩, fun _ => hs.cell hq ha hr⟩

set_option maxRecDepth 100000 in
set_option maxHeartbeats 1000000 in
theorem writes_in (v v2 : Value) (bs : List Nat) (ops : List Op3) (n : Nat) (w : World) (hl : bs.length ≤ 60) (hl2 : ops.length ≤ 30) (hb : BS w v bs) (h256 : ∀ b ∈ bs, b < 256) (hn : n ≤ 8 * bs.length) (ho : OpsAt w v2 ops) :
    Calls Try.prog 5 #[v, .int .i64 n, v2] w fun e w' => e = .returned (.bool true) ∧ Fr (fun _ => False) w w' := by
  obtain ⟨ao, cap, rfl⟩ := hb.len
  have HO := hid ho
  have HB := hid hb
  obtain ⟨ao2, cap2, rfl⟩ := ho.len
  clear hb ho
  go_enter Try.func5, Try.ntmps5
  go_wp2_with fail
  refine (w1_new (w0 := w) _ bs n (Fr.refl _ _) (by omega) HB.out h256 (by omega)).mono ?_
  rintro e w1 ⟨a, r, rfl, h1, hf1⟩
  have hcv := conv_bs (HB.out.keep hf1 (fun _ _ _ _ h => h))
  have H1 := hid h1
  clear hf1 h1
  go_wp2_with fail
  refine (right1_yes n ao bs.length cap (by omega) w1 ⟨by omega, by omega⟩).mono ?_
  rintro e w2 ⟨rfl, rfl⟩
  go_wp2_with fail
  refine (text_any bs h256 n hn (by omega) w1).mono ?_
  rintro e w2 ⟨rfl, rfl⟩
  obtain ⟨L0, hL0⟩ : ∃ L0, L0 = (unpack bs).take n := ⟨_, rfl⟩
  rw [← hL0] at H1 ⊢
  have hL1 : L0.length ≤ 480 := by rw [hL0, List.length_take, len_unpack]; omega
  clear hcv hL0
  go_wp2_with fail
  go_loopw [7, 9, 53] (fun p t i wr => ∃ (m a' : Nat) (r' : Option Nat) (L : List Bool), m ≤ ops.length ∧ i = .int .i64 m ∧ p = .pointer (some ⟨a', 0, none⟩) ∧ t = .string (txt L) ∧ L.length ≤ 480 + 64 * m ∧ Hid (W1 w wr a' r' L)) (fun _ _ i _ => ops.length - (intOf i).toNat)
  case atStart => exact ⟨0, a, r, L0, by omega, rfl, rfl, rfl, by omega, H1⟩
  case round =>
    obtain ⟨m, a', r', L, hm, rfl, rfl, rfl, hLl, H⟩ := hrel
    by_cases hlt : m < ops.length
    · obtain ⟨o, ho⟩ : ∃ o, o = ops[m] := ⟨_, rfl⟩
      have hom : ops[m]? = some o := by rw [ho]; exact List.getElem?_eq_getElem hlt
      obtain ⟨b, off, rfl, c0, c1, c2, hk, hn'⟩ := HO.out.cell H.out.fr hom
      have hv := o.vlt
      clear ho hom
      go_upto_block 2 with fail
      go_cut [7, 9] from 54 to 117 (fun p t wx => ∃ (a2 : Nat) (r2 : Option Nat) (L2 : List Bool), p = .pointer (some ⟨a2, 0, none⟩) ∧ t = .string (txt L2) ∧ L2.length ≤ 480 + 64 * (m + 1) ∧ Hid (W1 w wx a2 r2 L2))
      case first =>
        have hq1 : a' ≠ wr.heap.size := by have := H.out.wr.lt; omega
        have hq2 : r' ≠ some wr.heap.size := fun e => by have := (H.out.wr.row_lt _ e).2; omega
        have HQ := hid (And.intro hq1 hq2)
        have h0 := H.out.still ((Fr.refl _ _).alloc (.cells #[.int .i64 o.k, .int .i64 o.n, .int .u64 (o.v : Nat)] 30))
        have H0 := hid h0
        have hz : (txt L).size ≤ 3000 := by rw [len_txt]; omega
        clear h0 H c0 c1 c2 hq1 hq2
        obtain ⟨ok, on, ov, hov⟩ := o
        simp only at H0 hk hn' hv ⊢
        by_cases hk1 : ok = 1
        · subst hk1
          by_cases hin : 1 ≤ on ∧ on ≤ 64
          · obtain ⟨n', rfl⟩ := nat_of (n := on) (by omega)
            have hn1 : 1 ≤ n' := by omega
            have hn2 : n' ≤ 64 := by omega
            have hz2 : (txt (bitsOf ov n')).size ≤ 64 := by rw [len_txt, len_bitsOf]; exact hn2
            go_wp2_with fail
            refine (w1_put_cells H0.out ov n' hv hn1 hn2 (by omega) wr.heap.size (by simp) HQ.out.1 HQ.out.2).mono ?_
            rintro e w2 ⟨rfl, ⟨r2, H2⟩, hcc⟩
            have d1 := (hcc 1).trans (show _ = some (.int .i64 (n' : Int)) by simp)
            have d2 := (hcc 2).trans (show _ = some (.int .u64 (ov : Int)) by simp)
            clear hcc
            go_wp2_with (go_at_call 20; refine (number_any ov n' hv hn2 _).mono ?_; rintro e w' ⟨rfl, rfl⟩)
            go_meet
            case rel => exact ⟨a', r2, _, rfl, by rw [txt_append], by rw [List.length_append, len_bitsOf]; omega, H2⟩
          · go_wp2_with fail
            refine (put_no _ _ a' r' L ov on (by omega) H0.out.wr).mono ?_
            rintro e w2 ⟨rfl, rfl⟩
            by_cases hlo : on < 1
            · go_wp2_with fail
              go_meet
              case rel => exact ⟨a', r', L, rfl, rfl, by omega, H0⟩
            · have hhi : 64 < on := by omega
              go_wp2_with fail
              go_meet
              case rel => exact ⟨a', r', L, rfl, rfl, by omega, H0⟩
        · by_cases hk2 : ok = 2
          · subst hk2
            have hz2 : (txt (bitsOf ov 1)).size ≤ 1 := by rw [len_txt, len_bitsOf]; exact Nat.le_refl 1
            go_wp2_with fail
            rw [bit_of_odd]
            refine (w1_bit_cells H0.out (ov.testBit 0) (by omega) wr.heap.size (by simp) HQ.out.1 HQ.out.2).mono ?_
            rintro e w2 ⟨rfl, ⟨r2, H2⟩, hcc⟩
            have d2 := (hcc 2).trans (show _ = some (.int .u64 (ov : Int)) by simp)
            clear hcc
            go_wp2_with (go_at_call 20; refine (number_any ov 1 hv (by decide) _).mono ?_; rintro e w' ⟨rfl, rfl⟩)
            go_meet
            case rel => exact ⟨a', r2, L ++ bitsOf ov 1, rfl, by rw [txt_append], by rw [List.length_append, len_bitsOf]; omega, H2⟩
          · by_cases hk3 : ok = 3
            · subst hk3
              go_wp2_with fail
              refine (w1_copy H0.out (by omega)).mono ?_
              rintro e w2 ⟨a2, r2, rfl, h2, h3, hs⟩
              have H2 := hid (And.intro h2 (And.intro h3 hs))
              clear h2 h3 hs
              go_wp2_with fail
              refine (w1_bit_other H2.out.1 H2.out.2.1 H2.out.2.2 true (by omega)).mono ?_
              rintro e w3 ⟨rfl, h4⟩
              have H4 := hid h4
              clear h4
              go_wp2_with fail
              go_meet
              case rel => exact ⟨a2, r2, L, rfl, rfl, by omega, H4⟩
            · go_wp2_with fail
              go_meet
              case rel => exact ⟨a', r', L, rfl, rfl, by omega, H0⟩
      case rest =>
        obtain ⟨a2, r2, L2, rfl, rfl, hL2, H2⟩ := hcut
        have hw1 : W1 w wc.drew a2 r2 L2 := H2.out.still (Fr.refl _ _).drew
        have hLe : L2.length ≤ 1000000 := by omega
        clear H H2
        go_wp2_with fail
        go_region_with (first | (go_at_call 19; refine (w1_len_txt hw1).mono ?_; rintro e w' ⟨rfl, rfl⟩) | (go_at_call 18; refine (w1_bytes_conv hw1 (by omega)).mono ?_; rintro e w' ⟨ao', N', cap', rfl, hw1, hbn, hcv'⟩) | (go_at_call 30; refine (bytes_any L2 hLe _).mono ?_; rintro e w' ⟨rfl, hf'⟩; have hbo := hbn.keep hf' (fun _ _ _ _ h => h); have hw1 := hw1.still hf'))
        all_goals
          have HW := hid hw1
          clear hw1
          go_wp2
          go_roundw
          case rel => exact ⟨m + 1, a2, r2, L2, by omega, by go_num, rfl, rfl, by omega, HW⟩
          case measure => simp [intOf]; omega
    · obtain rfl : m = ops.length := by omega
      go_wp2_with fail
      refine (awake1_any _).mono ?_
      rintro e w9 ⟨rfl, hf⟩
      go_wp2
      go_ret
      exact ⟨rfl, H.out.fr.trans hf (fun _ h _ => h)⟩

/-- Where the law does not look closer, or the writer is refused. -/
theorem writes_out (ao ao2 : Option Addr) (len cap len2 cap2 : Nat) (n : Int) (w : World) (h : 60 < len ∨ 30 < len2) :
    Calls Try.prog 5 #[.slice ao len cap, .int .i64 n, .slice ao2 len2 cap2] w fun e w' => e = .returned (.bool true) ∧ Fr (fun _ => False) w w' := by
  by_cases h1 : 60 < len
  · go_enter Try.func5, Try.ntmps5
    go_wp2_with fail
    refine (awake1_any _).mono ?_
    rintro e w1 ⟨rfl, hf⟩
    go_wp2
    go_ret
    exact ⟨rfl, hf⟩
  · have h2 : 30 < len2 := by omega
    clear h
    go_enter Try.func5, Try.ntmps5
    go_wp2_with fail
    refine (awake1_any _).mono ?_
    rintro e w1 ⟨rfl, hf⟩
    go_wp2
    go_ret
    exact ⟨rfl, hf⟩

theorem writes_no (v : Value) (ao2 : Option Addr) (len2 cap2 : Nat) (bs : List Nat) (n : Int) (w : World) (hl : bs.length ≤ 60) (hl2 : len2 ≤ 30) (hb : BS w v bs) (hn : ¬ (0 ≤ n ∧ n ≤ 8 * bs.length)) :
    Calls Try.prog 5 #[v, .int .i64 n, .slice ao2 len2 cap2] w fun e w' => e = .returned (.bool true) ∧ Fr (fun _ => False) w w' := by
  have HN := hid (newWriter_no v bs n w (by omega) hb hn)
  obtain ⟨ao, cap, rfl⟩ := hb.len
  have HR := hid (right1_no n ao bs.length cap (by omega) w hn)
  clear hb hn
  go_enter Try.func5, Try.ntmps5
  go_wp2_with fail
  refine HN.out.mono ?_
  rintro e w1 ⟨rfl, rfl⟩
  go_wp2_with fail
  refine HR.out.mono ?_
  rintro e w1 ⟨rfl, rfl⟩
  go_wp2_with fail
  refine (awake1_any _).mono ?_
  rintro e w1 ⟨rfl, hf⟩
  go_wp2
  go_ret
  exact ⟨rfl, hf⟩
end Go.Proofs.Ytlfcaigofakkoaa
