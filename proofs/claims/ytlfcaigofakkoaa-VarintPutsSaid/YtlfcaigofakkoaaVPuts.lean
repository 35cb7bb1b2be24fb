/- The walk of VarintPuts. -/
import Derived.Test.YtlfcaigofakkoaaVAwake
import Derived.Test.YtlfcaigofakkoaaVNats
namespace Go.Proofs.Ytlfcaigofakkoaa
open Go.RowKit Bt
namespace Bt
/-- The number with a sign that has the same bits. -/
def sg (v : Nat) : Int := IntKind.i64.wrap (v : Int)
theorem sg_wrap (v : Nat) : IntKind.i64.wrap (v : Int) = sg v := rfl
theorem sg_lo (v : Nat) : -9223372036854775808 ≤ sg v := by
  rw [sg, IntKind.wrap_i64]; omega
theorem sg_hi (v : Nat) : sg v ≤ 9223372036854775807 := by
  rw [sg, IntKind.wrap_i64]; omega

/-- What the law puts for each number. -/
def vbs (vs : List Nat) : List Bool := vs.flatMap fun v => bits8 (vb v) ++ bits8 (vb (zig (sg v)))
theorem vbs_take {vs : List Nat} {m : Nat} (h : m < vs.length) : vbs (vs.take (m + 1)) = (vbs (vs.take m) ++ bits8 (vb vs[m])) ++ bits8 (vb (zig (sg vs[m]))) := by
  rw [List.take_succ_eq_append_getElem h, vbs, vbs, List.flatMap_append, List.append_assoc]
  simp only [List.flatMap_cons, List.flatMap_nil, List.append_nil]
theorem vbs_drop {vs : List Nat} {m : Nat} (h : m < vs.length) : vbs (vs.drop m) = bits8 (vb vs[m]) ++ (bits8 (vb (zig (sg vs[m]))) ++ vbs (vs.drop (m + 1))) := by
  rw [List.drop_eq_getElem_cons h, vbs, vbs, List.flatMap_cons, List.append_assoc]
end Bt

theorem vputs_out (ao : Option Addr) (len cap : Nat) (n : Int) (w : World) (h : 30 < len ∨ n < 0 ∨ 20 < n) :
    Calls Try.prog 9 #[.slice ao len cap, .int .i64 n] w fun e w' => e = .returned (.bool true) ∧ Fr (fun _ => False) w w' := by
  by_cases h1 : 30 < len
  · go_enter Try.func9, Try.ntmps9
    go_wp2_with fail
    refine (w1_new (w0 := w) (.slice none 0 0) [] 0 (Fr.refl _ _) (by decide) (.inl ⟨rfl, rfl⟩) (by simp) (by decide)).mono ?_
    rintro e w1 ⟨a, r, rfl, _, hf1⟩
    have HF1 := hid hf1
    clear hf1
    go_wp2_with fail
    refine (awake3_any _).mono ?_
    rintro e w1 ⟨rfl, hf⟩
    have HF := hid (HF1.out.trans hf (fun _ h _ => h))
    clear hf
    go_wp2
    go_ret
    exact ⟨rfl, HF.out⟩
  · have h2 : n < 0 ∨ 20 < n := by omega
    clear h
    rcases h2 with h2 | h2
    all_goals
      go_enter Try.func9, Try.ntmps9
      go_wp2_with fail
      refine (w1_new (w0 := w) (.slice none 0 0) [] 0 (Fr.refl _ _) (by decide) (.inl ⟨rfl, rfl⟩) (by simp) (by decide)).mono ?_
      rintro e w1 ⟨a, r, rfl, _, hf1⟩
      have HF1 := hid hf1
      clear hf1
      go_wp2_with fail
      refine (awake3_any _).mono ?_
      rintro e w1 ⟨rfl, hf⟩
      have HF := hid (HF1.out.trans hf (fun _ h _ => h))
      clear hf
      go_wp2
      go_ret
      exact ⟨rfl, HF.out⟩

theorem vlen_is (v k : Nat) (hv : v < 18446744073709551616) (hk : Hid ((vb v).length = k)) (w : World) :
    Calls Try.prog 40 #[.int .u64 v] w fun e w' => e = .returned (.int .i64 (k : Nat)) ∧ w = w' := by
  have := vlen_any v hv w
  rwa [hk.out] at this

theorem rbytes_len (v k : Nat) (hv : v < 18446744073709551616) (hk : Hid ((vb v).length = k)) (w : World) :
    Calls Try.prog 41 #[.int .u64 v] w fun e w' => ∃ s : ByteArray, e = .returned (.string s) ∧ s.size = k ∧ Fr (fun _ => False) w w' := by
  refine (rbytes_any v hv w).mono ?_
  rintro e w' ⟨rfl, hf⟩
  exact ⟨_, rfl, by rw [len_str, hk.out], hf⟩

section
variable {w0 w : World} {a a2 pos : Nat} {r r2 : Option Nat} {l : List Bool}
theorem wr_left0 (h : WR w0 w a r l a2 r2 pos [] false) : Calls Try.prog 23 #[.pointer (some ⟨a2, 0, none⟩)] w fun e w' => e = .returned (.int .i64 0) ∧ WR w0 w' a r l a2 r2 pos [] false := wr_left h
end

set_option maxHeartbeats 2000000 in
set_option maxRecDepth 100000 in
theorem vputs_in (v : Value) (vs : List Nat) (n : Nat) (w : World) (hl : vs.length ≤ 30) (hn : n ≤ 20) (ho : NatsAt w v vs) :
    Calls Try.prog 9 #[v, .int .i64 n] w fun e w' => e = .returned (.bool true) ∧ Fr (fun _ => False) w w' := by
  have HO := hid ho
  obtain ⟨ao, cap, rfl⟩ := ho.len
  clear ho
  go_enter Try.func9, Try.ntmps9
  go_wp2_with fail
  refine (w1_new (w0 := w) (.slice none 0 0) [] 0 (Fr.refl _ _) (by decide) (.inl ⟨rfl, rfl⟩) (by simp) (by decide)).mono ?_
  rintro e w1 ⟨a, r, rfl, h1, hf1⟩
  rw [show (unpack []).take 0 = [] from rfl] at h1
  have H1 := hid h1
  clear h1 hf1
  go_wp2_with fail
  go_loopw [51] (fun i wr => ∃ (m : Nat) (r' : Option Nat), m ≤ n ∧ i = .int .i64 m ∧ Hid (W1 w wr a r' (List.replicate m true))) (fun i _ => n - (intOf i).toNat)
  case atStart => exact ⟨0, r, by omega, rfl, H1⟩
  case round =>
    obtain ⟨m, r', hm, rfl, H⟩ := hrel
    by_cases hlt : m < n
    · go_wp2_with fail
      refine (w1_bit H.out true (by rw [List.length_replicate]; omega)).mono ?_
      rintro e w2 ⟨rfl, r2, h2, _⟩
      rw [← List.replicate_succ'] at h2
      have H2 := hid h2
      clear h2
      go_wp2
      go_roundw
      case rel => exact ⟨m + 1, r2, by omega, by go_num, H2⟩
      case measure => simp [intOf]; omega
    · obtain rfl : m = n := by omega
      clear hlt hm
      go_wp2_with fail
      go_loopw [7, 59] (fun x i wr => ∃ (j N : Nat) (r' : Option Nat) (L : List Bool), j ≤ vs.length ∧ i = .int .i64 j ∧ x = .int .i64 N ∧ N ≤ 20 + 160 * j ∧ Hid (W1 w wr a r' L ∧ L = List.replicate m true ++ vbs (vs.take j) ∧ L.length = N)) (fun _ i _ => vs.length - (intOf i).toNat)
      case atStart => exact ⟨0, m, r', _, by omega, rfl, rfl, by omega, hid ⟨H.out, by simp [vbs], by simp⟩⟩
      case round =>
        obtain ⟨j, N, r', L, hj, rfl, rfl, hN, H⟩ := hrel
        by_cases hlt : j < vs.length
        · obtain ⟨b, off, rfl, c0, hv⟩ := HO.out.cell H.out.1.fr hlt
          have HT := hid (vbs_take hlt)
          generalize vs[j] = u at *
          have hS := sg_wrap u
          have hz := zig_lt (sg u) (sg_lo u) (sg_hi u)
          have HLN := hid (show L.length + 900 < 8000000 by have := H.out.2.2; omega)
          obtain ⟨k1, hk1⟩ : ∃ k, (vb u).length = k := ⟨_, rfl⟩
          obtain ⟨k2, hk2⟩ : ∃ k, (vb (zig (sg u))).length = k := ⟨_, rfl⟩
          have hk1l : k1 ≤ 10 := by rw [← hk1]; exact vb_len64 u hv
          have hk2l : k2 ≤ 10 := by rw [← hk2]; exact vb_len64 _ hz
          have HK1 := hid hk1
          have HK2 := hid hk2
          clear hk1 hk2
          go_wp2_with fail
          refine (putu_any H.out.1 u hv HLN.out).mono ?_
          rintro e w2 ⟨rfl, r2, H2⟩
          clear c0
          go_wp2_with fail
          refine (puts_any H2.out (sg u) (sg_lo u) (sg_hi u) (by rw [List.length_append, len_bits8, HK1.out, H.out.2.2]; omega)).mono ?_
          rintro e w3 ⟨rfl, r3, H3⟩
          clear H2
          go_wp2_with fail
          refine (vlen_is u k1 hv HK1 _).mono ?_
          rintro e w4 ⟨rfl, rfl⟩
          go_wp2_with fail
          refine (rbytes_len u k1 hv HK1 _).mono ?_
          rintro e w4 ⟨s, rfl, hs, hf⟩
          have H4 := hid (H3.out.still hf)
          clear H3 hf
          go_wp2_with fail
          refine (vlen_is u k1 hv HK1 _).mono ?_
          rintro e w5 ⟨rfl, rfl⟩
          go_wp2_with fail
          refine (rzig_any (sg u) (sg_lo u) (sg_hi u) _).mono ?_
          rintro e w5 ⟨rfl, rfl⟩
          go_wp2_with fail
          refine (vlen_is (zig (sg u)) k2 hz HK2 _).mono ?_
          rintro e w5 ⟨rfl, rfl⟩
          go_wp2
          go_roundw
          case rel =>
            refine ⟨j + 1, N + 8 * (k1 + k2), r3, _, by omega, by go_num, by go_num, by omega, hid ⟨H4.out, ?_, ?_⟩⟩
            · rw [HT.out, H.out.2.1, ← List.append_assoc, ← List.append_assoc]
            · rw [List.length_append, List.length_append, len_bits8, len_bits8, HK1.out, HK2.out, H.out.2.2]; omega
          case measure => simp [intOf]; omega
        · obtain rfl : j = vs.length := by omega
          have h3 := H.out.2.1
          rw [List.take_length] at h3
          have hl3 := H.out.2.2
          rw [h3] at hl3
          have h4 := H.out.1
          rw [h3] at h4
          have H4 := hid h4
          have HN := hid hl3
          clear h3 hl3 h4 H
          have hwl := w1_len H4.out
          rw [HN.out] at hwl
          go_wp2_with fail
          refine hwl.mono ?_
          rintro e w5 ⟨rfl, rfl⟩
          go_wp2_with fail
          refine (w1_bytes H4.out (by rw [HN.out]; omega)).mono ?_
          rintro e w5 ⟨ao2, N2, cap2, rfl, h5, hb, _⟩
          have H5 := hid (And.intro h5 hb)
          clear h5 hb hwl H4
          have hwl := w1_len H5.out.1
          rw [HN.out] at hwl
          go_wp2_with fail
          refine hwl.mono ?_
          rintro e w6 ⟨rfl, rfl⟩
          clear hwl
          go_wp2_with fail
          have hrd := wr_new (.slice ao2 N2 cap2) _ N H5.out.1 (by rw [len_pack, HN.out]; omega) H5.out.2 (pack_lt _) (by rw [len_pack, HN.out]; omega)
          rw [← HN.out, take_unpack_pack, HN.out] at hrd
          refine hrd.mono ?_
          rintro e w6 ⟨a2, r2, rfl, h6, _⟩
          have H6 := hid h6
          clear h6 hrd H5
          go_wp2_with fail
          go_loopw [106] (fun i wr => ∃ (q : Nat), q ≤ m ∧ i = .int .i64 q ∧ Hid (WR w wr a r' (List.replicate m true ++ vbs vs) a2 r2 q (List.replicate (m - q) true ++ vbs vs) false)) (fun i _ => m - (intOf i).toNat)
          case atStart => exact ⟨0, by omega, rfl, by rw [Nat.sub_zero]; exact H6⟩
          case round =>
            obtain ⟨q, hq, rfl, H⟩ := hrel
            by_cases hlt : q < m
            · have h7 := H.out
              rw [show m - q = (m - (q + 1)) + 1 by omega, List.replicate_succ, List.cons_append] at h7
              have H7 := hid h7
              clear h7 H
              go_wp2_with fail
              refine (wr_rbit H7.out).mono ?_
              rintro e w8 ⟨rfl, h8⟩
              have H8 := hid h8
              clear h8
              go_wp2
              go_roundw
              case rel => exact ⟨q + 1, by omega, by go_num, H8⟩
              case measure => simp [intOf]; omega
            · obtain rfl : q = m := by omega
              have h7 := H.out
              rw [Nat.sub_self, List.replicate_zero, List.nil_append] at h7
              have H7 := hid h7
              clear h7 H hlt hq
              go_wp2_with fail
              go_loopw [113] (fun i wr => ∃ (j pos : Nat), j ≤ vs.length ∧ i = .int .i64 j ∧ Hid (WR w wr a r' (List.replicate q true ++ vbs vs) a2 r2 pos (vbs (vs.drop j)) false)) (fun i _ => vs.length - (intOf i).toNat)
              case atStart => exact ⟨0, q, by omega, rfl, by rw [List.drop_zero]; exact H7⟩
              case round =>
                obtain ⟨j, pos, hj, rfl, H⟩ := hrel
                by_cases hlt : j < vs.length
                · obtain ⟨b, off, rfl, c0, hv⟩ := HO.out.cell H.out.fr hlt
                  have h8 := H.out
                  rw [vbs_drop hlt] at h8
                  have H8 := hid h8
                  clear h8 H
                  generalize vs[j] = u at *
                  have hS := sg_wrap u
                  go_wp2_with fail
                  refine (wr_getu u H8.out hv).mono ?_
                  rintro e w9 ⟨rfl, pos9, H9⟩
                  clear c0 H8
                  go_wp2_with fail
                  refine (wr_gets (sg u) H9.out (sg_lo u) (sg_hi u)).mono ?_
                  rintro e w10 ⟨rfl, pos10, H10⟩
                  clear H9
                  go_wp2
                  go_roundw
                  case rel => exact ⟨j + 1, pos10, by omega, by go_num, H10⟩
                  case measure => simp [intOf]; omega
                · obtain rfl : j = vs.length := by omega
                  have h8 := H.out
                  rw [List.drop_length] at h8
                  have H8 := hid (show WR w _ a r' (List.replicate q true ++ vbs vs) a2 r2 pos [] false from h8)
                  clear h8 H
                  go_wp2_with fail
                  refine (wr_left0 H8.out).mono ?_
                  rintro e w9 ⟨rfl, h9⟩
                  have H9 := hid h9
                  clear h9
                  go_wp2_with fail
                  refine (awake3_any _).mono ?_
                  rintro e w10 ⟨rfl, hf⟩
                  have HF := hid (H9.out.fr.trans hf (fun _ h _ => h))
                  clear hf
                  go_wp2
                  go_ret
                  exact ⟨rfl, HF.out⟩
end Go.Proofs.Ytlfcaigofakkoaa
