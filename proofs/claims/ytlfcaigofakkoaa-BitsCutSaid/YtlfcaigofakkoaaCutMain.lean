/- The walk of BitsCut where it looks closer. -/
import Derived.Test.YtlfcaigofakkoaaCut
namespace Go.Proofs.Ytlfcaigofakkoaa
open Go.RowKit Bt

/-- A writer, a reader, a second writer. -/
structure K3 (w0 w : World) (a : Nat) (r : Option Nat) (l : List Bool) (a2 : Nat) (r2 : Option Nat) (pos : Nat) (l2 : List Bool) (a3 : Nat) (r3 : Option Nat) (L : List Bool) : Prop where
  wr : WR w0 w a r l a2 r2 pos l2 false
  all : Wr w w0.heap.size a3 r3 L
  s1 : Sep a r a3 r3
  s2 : Sep a2 r2 a3 r3

section
variable {w0 w w' : World} {a a2 a3 pos : Nat} {r r2 r3 : Option Nat} {l l2 L : List Bool}

theorem K3.still (h : K3 w0 w a r l a2 r2 pos l2 a3 r3 L) (hf : Fr (fun _ => False) w w') : K3 w0 w' a r l a2 r2 pos l2 a3 r3 L := ⟨h.wr.still hf, h.all.still hf, h.s1, h.s2⟩

theorem k3_new (v : Value) (bs : List Nat) (n : Nat) (h : WR w0 w a r l a2 r2 pos l2 false) (hl : bs.length ≤ 1000000) (hb : BS w v bs) (h256 : ∀ b ∈ bs, b < 256) (hn : n ≤ 8 * bs.length) :
    Calls Try.prog 15 #[v, .int .i64 n] w fun e w' => ∃ a3 r3, e = .returned (.tuple #[.pointer (some ⟨a3, 0, none⟩), .int .i64 0]) ∧ K3 w0 w' a r l a2 r2 pos l2 a3 r3 ((unpack bs).take n) := by
  refine (newWriter_any v bs n w hl hb h256 hn).mono ?_
  rintro e w' ⟨a3, r3, rfl, hw, hf⟩
  exact ⟨a3, r3, rfl, h.still hf, hw.base h.fr.size, Sep.made h.wr.lt (fun k hk => (h.wr.row_lt k hk).2) hw.1 (fun k hk => (hw.row_lt k hk).1),
    Sep.made h.rd.lt (fun k hk => (h.rd.row_lt k hk).2) hw.1 (fun k hk => (hw.row_lt k hk).1)⟩

theorem k3_rbit {b : Bool} (h : K3 w0 w a r l a2 r2 pos (b :: l2) a3 r3 L) :
    Calls Try.prog 26 #[.pointer (some ⟨a2, 0, none⟩)] w fun e w' => e = .returned (.bool b) ∧ K3 w0 w' a r l a2 r2 (pos + 1) l2 a3 r3 L :=
  (rbit_yes w _ a2 r2 pos b l2 false h.wr.rd).mono fun _ _ ⟨he, hr, hf⟩ => ⟨he, h.wr.read hr hf, h.all.rstep hf h.s2.symm, h.s1, h.s2⟩

theorem k3_bit (h : K3 w0 w a r l a2 r2 pos l2 a3 r3 L) (b : Bool) (hl : l.length < 8000000) :
    Calls Try.prog 27 #[.pointer (some ⟨a, 0, none⟩), .bool b] w fun e w' => e = .returned (.tuple #[]) ∧ ∃ r', K3 w0 w' a r' (l ++ [b]) a2 r2 pos l2 a3 r3 L :=
  (wbit_any w _ a r l b hl h.wr.wr).mono fun _ _ ⟨he, r', hs⟩ => ⟨he, r', h.wr.step hs, h.all.wstep hs h.s1, h.s1.step hs h.all.lt (fun k hk => (h.all.row_lt k hk).2), h.s2⟩
end

theorem k3_len {w0 w : World} {a a2 a3 pos n : Nat} {r r2 r3 : Option Nat} {l l2 L : List Bool} (h : K3 w0 w a r l a2 r2 pos l2 a3 r3 L) (hn : Hid (l.length = n)) :
    Calls Try.prog 19 #[.pointer (some ⟨a, 0, none⟩)] w fun e w' => e = .returned (.int .i64 n) ∧ w = w' := by
  have := wlen_any w _ a r l h.wr.wr
  rw [hn.out] at this
  exact this

/-- Bytes of one writer or the other, where both have the same bits. -/
theorem k3_bytes {w0 w : World} {a a2 a3 pos N : Nat} {r r2 r3 : Option Nat} {l2 L : List Bool} (x : Nat) (h : K3 w0 w a r L a2 r2 pos l2 a3 r3 L) (hx : x = a ∨ x = a3) (hl : L.length ≤ 8000000) (hN : Hid ((pack L).length = N)) :
    Calls Try.prog 18 #[.pointer (some ⟨x, 0, none⟩)] w fun e w' => ∃ ao cap, e = .returned (.slice ao N cap) ∧ K3 w0 w' a r L a2 r2 pos l2 a3 r3 L ∧ BS w' (.slice ao N cap) (pack L) ∧
      (∀ v bs, BS w v bs → BS w' v bs) ∧ (∀ W, BS W (.slice ao N cap) (pack L) → Sem.run Try.prog (convert 35 9 (.slice ao N cap)) W = .ok (.string (str (pack L))) W) := by
  have hw : ∃ r', Wr w w0.heap.size x r' L := by
    rcases hx with rfl | rfl
    · exact ⟨_, h.wr.wr⟩
    · exact ⟨_, h.all⟩
  obtain ⟨r', hw⟩ := hw
  refine (wbytes_any w _ x r' L hl hw).mono ?_
  rintro e w' ⟨ao, N', cap, r'', rfl, hr, hf⟩
  obtain ⟨ao', cap', he⟩ := hr.bs.len
  simp only [Value.slice.injEq] at he
  obtain ⟨rfl, rfl, rfl⟩ := he
  rw [hN.out] at *
  exact ⟨_, _, rfl, h.still hf, hr.bs, fun v bs hb => hb.keep hf (fun _ _ _ _ h => h), fun W hb => conv_bs hb⟩

set_option maxHeartbeats 8000000 in
theorem cut_in (v : Value) (bs : List Nat) (n k : Nat) (w : World) (hl : bs.length ≤ 100) (hb : BS w v bs) (h256 : ∀ b ∈ bs, b < 256) (hn : n ≤ 8 * bs.length) (hk : k ≤ n) :
    Calls Try.prog 4 #[v, .int .i64 n, .int .i64 k] w fun e w' => e = .returned (.bool true) ∧ Fr (fun _ => False) w w' := by
  obtain ⟨ao, cap, rfl⟩ := hb.len
  have hR := hid (right1_yes n ao bs.length cap (by omega) w ⟨by omega, by omega⟩)
  have HB := hid hb
  clear hb
  go_enter Try.func4, Try.ntmps4
  go_wp2_with fail
  refine hR.out.mono ?_
  rintro e w1 ⟨rfl, rfl⟩
  go_wp2_with fail
  refine (w1_new (w0 := w) _ bs k (Fr.refl _ _) (by omega) HB.out h256 (by omega)).mono ?_
  rintro e w1 ⟨a, r, rfl, h1, hf1⟩
  have HB1 := hid (HB.out.keep hf1 (fun _ _ _ _ h => h))
  clear hf1
  go_wp2_with fail
  refine (wr_new _ bs n h1 (by omega) HB1.out h256 hn).mono ?_
  rintro e w2 ⟨a2, r2, rfl, h2, hf2⟩
  have HB2 := hid (HB1.out.keep hf2 (fun _ _ _ _ h => h))
  clear hf2 h1
  go_wp2_with fail
  refine (k3_new _ bs n h2 (by omega) HB2.out h256 hn).mono ?_
  rintro e w3 ⟨a3, r3, rfl, h3⟩
  clear h2
  have hLl : ((unpack bs).take n).length = n := by rw [List.length_take, len_unpack]; omega
  have hLk : (unpack bs).take k = ((unpack bs).take n).take k := by rw [List.take_take, Nat.min_eq_left hk]
  rw [hLk] at h3
  obtain ⟨L, hL⟩ : ∃ L, L = (unpack bs).take n := ⟨_, rfl⟩
  rw [← hL] at h3 hLl
  have HLl := hid hLl
  have H3 := hid h3
  clear hL hLl hLk h3
  go_wp2_with fail
  go_loopw [73] (fun i wr => ∃ m : Nat, m ≤ k ∧ i = .int .i64 m ∧ Hid (K3 w wr a r (L.take k) a2 r2 m (L.drop m) a3 r3 L)) (fun i _ => k - (intOf i).toNat)
  case atStart => exact ⟨0, by omega, rfl, H3⟩
  case round =>
    obtain ⟨m, hm, rfl, H⟩ := hrel
    by_cases hlt : m < k
    · go_wp2_with fail
      have hml : m < L.length := by rw [HLl.out]; omega
      refine (k3_rbit (b := L[m]) (l2 := L.drop (m + 1)) (by rw [← List.drop_eq_getElem_cons hml]; exact H.out)).mono ?_
      rintro e w4 ⟨rfl, h4⟩
      have H4 := hid h4
      clear h4
      go_wp2
      go_roundw
      case rel => exact ⟨m + 1, by omega, by go_num, H4⟩
      case measure => simp [intOf]; omega
    · obtain rfl : m = k := by omega
      go_wp2_with fail
      go_loopw [81] (fun i wr => ∃ (j : Nat) (r' : Option Nat), j ≤ n - m ∧ i = .int .i64 j ∧ Hid (K3 w wr a r' (L.take (m + j)) a2 r2 (m + j) (L.drop (m + j)) a3 r3 L)) (fun i _ => n - (intOf i).toNat)
      case atStart => exact ⟨0, r, by omega, rfl, H⟩
      case round =>
        obtain ⟨j, r', hj, rfl, H5⟩ := hrel
        by_cases hlt2 : j < n - m
        · have hlt3 : (j : Int) < (n : Int) - (m : Int) := by omega
          have hml : m + j < L.length := by rw [HLl.out]; omega
          go_wp2_with fail
          refine (k3_rbit (b := L[m + j]) (l2 := L.drop (m + j + 1)) (by rw [← List.drop_eq_getElem_cons hml]; exact H5.out)).mono ?_
          rintro e w6 ⟨rfl, h6⟩
          have H6 := hid h6
          clear h6
          go_wp2_with fail
          refine (k3_bit H6.out _ (by rw [List.length_take]; omega)).mono ?_
          rintro e w7 ⟨rfl, r7, h7⟩
          have H7 := hid h7
          clear h7
          have e7 := hid (List.take_succ_eq_append_getElem hml)
          go_wp2
          go_roundw
          case rel =>
            refine ⟨j + 1, r7, by omega, by go_num, hid ?_⟩
            rw [← Nat.add_assoc, e7.out]
            exact H7.out
          case measure => simp [intOf]; omega
        · obtain rfl : j = n - m := by omega
          have H8 := H5.out
          rw [show m + (n - m) = n by omega, List.take_of_length_le (by rw [HLl.out]; omega), List.drop_eq_nil_of_le (by rw [HLl.out]; omega)] at H8
          have hk' : K3 w wr.drew a r' L a2 r2 n [] a3 r3 L := H8.still (Fr.refl _ _).drew
          have hLN := hid (show (pack L).length = (n + 7) / 8 by rw [len_pack, HLl.out])
          have hw1 : IntKind.i64.wrap ((n : Int) + 7) = (n : Int) + 7 := IntWalk.i64_in _ (by omega)
          have hw2 : IntKind.i64.wrap (((n : Int) + 7).tdiv 8) = ((n : Int) + 7) / 8 := by rw [Int.tdiv_eq_ediv_of_nonneg (by omega)]; exact IntWalk.i64_in _ (by omega)
          have hLe : L.length ≤ 8000000 := by rw [HLl.out]; omega
          have hbn : BS wr.drew (.slice none 0 0) [] := .inl ⟨rfl, rfl⟩
          clear H8 H5 H H3 HB HB1 HB2 hR
          go_wp2_with fail
          go_region_with (first | (go_at_call 19; refine (k3_len hk' HLl).mono ?_; rintro e w' ⟨rfl, rfl⟩) | (go_at_call 18; refine (k3_bytes _ hk' (by first | exact .inl rfl | exact .inr rfl) hLe hLN).mono ?_; rintro e w' ⟨ao', cap', rfl, hk', hbm, hks', hcv'⟩; have hbo := hks' _ _ hbn; have hbn := hbm; clear hbm hks') | (go_at_call 14; refine (awake1_any _).mono ?_; rintro e w' ⟨rfl, hf'⟩))
          all_goals
            go_wp2
            go_ret
            exact ⟨rfl, hk'.wr.fr.trans hf' (fun _ h _ => h)⟩
end Go.Proofs.Ytlfcaigofakkoaa
