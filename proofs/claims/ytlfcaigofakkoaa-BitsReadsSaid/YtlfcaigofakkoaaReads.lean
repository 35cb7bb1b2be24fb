/- The walk of BitsReads: whatever it is called with, it returns true, and nothing old has turned. -/
import Derived.Test.YtlfcaigofakkoaaCut
import Derived.Test.YtlfcaigofakkoaaArg
import Derived.Deep.CutRange
namespace Go.Proofs.Ytlfcaigofakkoaa
open Go.RowKit Bt

/-- A slice of integers of a kind, as it lies in memory. -/
def IntsAt (K : IntKind) (w : World) (v : Value) (zs : List Int) : Prop :=
  (v = .slice none 0 0 ∧ zs = []) ∨
  ∃ a cap, v = .slice (some a) zs.length cap ∧ ∀ (i : Nat) (z : Int), zs[i]? = some z → w.cell? (a.add i) = some (.int K z) ∧ (Lit.int K z).wf = true

theorem IntsAt.len {K : IntKind} {w : World} {v : Value} {zs : List Int} (h : IntsAt K w v zs) : ∃ ao cap, v = .slice ao zs.length cap := by
  rcases h with ⟨rfl, rfl⟩ | ⟨a, cap, rfl, _⟩
  · exact ⟨none, 0, rfl⟩
  · exact ⟨some a, cap, rfl⟩

theorem IntsAt.cell {K : IntKind} {w wr : World} {ao : Option Addr} {n cap : Nat} {zs : List Int} (h : IntsAt K w (.slice ao n cap) zs) (hf : Fr (fun _ => False) w wr) {m : Nat} {z : Int} (hm : zs[m]? = some z) :
    ∃ b off, ao = some ⟨b, off, none⟩ ∧ wr.cell? ⟨b, off + m, none⟩ = some (.int K z) ∧ (Lit.int K z).wf = true := by
  rcases h with ⟨_, h0⟩ | ⟨a, cap', he, hc⟩
  · rw [h0] at hm; cases hm
  · simp only [Value.slice.injEq] at he
    obtain ⟨rfl, _, _⟩ := he
    have h0 := hc 0 _ (List.getElem?_eq_getElem (show 0 < zs.length by have := (List.getElem?_eq_some_iff.1 hm).1; omega))
    obtain ⟨b, off, spot⟩ := a
    have hspot : spot = none := by simpa [Addr.add] using World.cell?_spot h0.1
    subst hspot
    obtain ⟨h1, h4⟩ := hc m z hm
    rw [Go.WideShapes.add_plain] at h1
    refine ⟨b, off, rfl, ?_, h4⟩
    rw [hf.cell (World.block_lt_of_cell? w _ h1) (fun h => h)]; exact h1

theorem ints_of_row {K : IntKind} {w : World} {a : Option Addr} {len cap : Nat} {zs : List Int}
    (h : (a = none ∧ len = 0 ∧ cap = 0 ∧ zs = []) ∨ ∃ x, a = some x ∧ len ≤ cap ∧ cap ≤ maxLen ∧ zs.length = cap ∧ (∀ i, i < zs.length → w.cell? (x.add i) = some (.int K (zs.getD i 0))) ∧ ∀ n ∈ zs, (Lit.int K n).wf = true) :
    ∃ ys : List Int, ys.length = len ∧ IntsAt K w (.slice a len cap) ys := by
  rcases h with ⟨rfl, rfl, rfl, _⟩ | ⟨x, rfl, hl, hm, hz, hc, hwf⟩
  · exact ⟨[], rfl, .inl ⟨rfl, rfl⟩⟩
  · refine ⟨zs.take len, by rw [List.length_take]; omega, .inr ⟨x, cap, by rw [List.length_take, Nat.min_eq_left (by omega)], fun i z hi => ?_⟩⟩
    rw [List.getElem?_take] at hi
    split at hi
    · have hil := (List.getElem?_eq_some_iff.1 hi).1
      refine ⟨?_, hwf z (List.mem_of_getElem? hi)⟩
      rw [hc i hil, List.getD_eq_getElem?_getD, hi]; rfl
    · cases hi

theorem wf_bounds {z : Int} (h : (Lit.int .i64 z).wf = true) : -9223372036854775808 ≤ z ∧ z ≤ 9223372036854775807 := by
  simp [Lit.wf, IntKind.min, IntKind.max, IntKind.bits, IntKind.signed] at h
  omega

/-- A reader of the run's own. -/
structure R1 (w0 w : World) (a : Nat) (r : Option Nat) (pos : Nat) (l : List Bool) (short : Bool) : Prop where
  fr : Fr (fun _ => False) w0 w
  rd : Rd w w0.heap.size a r pos l short

section
variable {w0 w : World} {a pos : Nat} {r : Option Nat} {l : List Bool} {short : Bool}
theorem R1.read {w' : World} {pos' : Nat} {l' : List Bool} {short' : Bool} (h : R1 w0 w a r pos l short) (hr : Rd w' w0.heap.size a r pos' l' short') (hf : Fr (fun k => k = a) w w') : R1 w0 w' a r pos' l' short' :=
  ⟨h.rd.own h.fr hf (Nat.le_refl _), hr⟩
theorem R1.still {w' : World} (h : R1 w0 w a r pos l short) (hf : Fr (fun _ => False) w w') : R1 w0 w' a r pos l short := ⟨h.fr.trans hf (fun _ h _ => h), h.rd.still hf⟩

theorem r1_new (v : Value) (bs : List Nat) (n : Nat) (h : Fr (fun _ => False) w0 w) (hl : bs.length ≤ 1000000) (hb : BS w v bs) (h256 : ∀ b ∈ bs, b < 256) (hn : n ≤ 8 * bs.length) :
    Calls Try.prog 17 #[v, .int .i64 n] w fun e w' => ∃ a r, e = .returned (.tuple #[.pointer (some ⟨a, 0, none⟩), .int .i64 0]) ∧ R1 w0 w' a r 0 ((unpack bs).take n) false ∧ Fr (fun _ => False) w w' := by
  refine (newReader_any v bs n w hl hb h256 hn).mono ?_
  rintro e w' ⟨a, r, rfl, hr, hf⟩
  exact ⟨a, r, rfl, ⟨h.trans hf (fun _ h _ => h), hr.base h.size⟩, hf⟩

theorem r1_get (h : R1 w0 w a r pos l short) (n x : Nat) (hx : Hid (bval (l.take n) = x)) (h1 : 1 ≤ n) (h64 : n ≤ 64) (hl : n ≤ l.length) :
    Calls Try.prog 21 #[.pointer (some ⟨a, 0, none⟩), .int .i64 n] w fun e w' => e = .returned (.int .u64 x) ∧ R1 w0 w' a r (pos + n) (l.drop n) short :=
  (get_yes w _ a r pos l short n h1 h64 hl h.rd).mono fun _ _ ⟨he, hr, hf⟩ => ⟨by rw [he, hx.out], h.read hr hf⟩
theorem r1_get_short (h : R1 w0 w a r pos l short) (n : Nat) (h1 : 1 ≤ n) (h64 : n ≤ 64) (hl : l.length < n) :
    Calls Try.prog 21 #[.pointer (some ⟨a, 0, none⟩), .int .i64 n] w fun e w' => e = .returned (.int .u64 0) ∧ R1 w0 w' a r pos [] true :=
  (get_short w _ a r pos l short n h1 h64 hl h.rd).mono fun _ _ ⟨he, hr, hf⟩ => ⟨he, h.read hr hf⟩
theorem r1_get_no (h : R1 w0 w a r pos l short) (n : Int) (hn : n < 1 ∨ 64 < n) :
    Calls Try.prog 21 #[.pointer (some ⟨a, 0, none⟩), .int .i64 n] w fun e w' => e = .returned (.int .u64 0) ∧ w = w' :=
  get_no w _ a r pos l short n hn h.rd
theorem r1_left (h : R1 w0 w a r pos l short) (N : Nat) (hN : Hid (l.length = N)) : Calls Try.prog 23 #[.pointer (some ⟨a, 0, none⟩)] w fun e w' => e = .returned (.int .i64 N) ∧ R1 w0 w' a r pos l short := by
  rw [← hN.out]
  exact (left_any w _ a r pos l short h.rd).mono fun _ _ ⟨he, n, hn⟩ => ⟨he, by rw [hn]; exact h.still ((Fr.refl _ _).drewN n)⟩
theorem r1_pos (h : R1 w0 w a r pos l short) : Calls Try.prog 31 #[.pointer (some ⟨a, 0, none⟩)] w fun e w' => e = .returned (.int .i64 (pos : Nat)) ∧ w = w' := pos_any w _ a r pos l short h.rd
theorem r1_short (h : R1 w0 w a r pos l short) : Calls Try.prog 24 #[.pointer (some ⟨a, 0, none⟩)] w fun e w' => e = .returned (.bool short) ∧ w = w' := short_any w _ a r pos l short h.rd
end

theorem txt_take (l : List Bool) (k : Nat) : (txt l).extract 0 k = txt (l.take k) := by
  apply ByteArray.ext
  simp [txt, ByteArray.data_extract]

theorem txt_drop (l : List Bool) (k : Nat) : (txt l).extract k (txt l).size = txt (l.drop k) := by
  apply ByteArray.ext
  simp only [txt, ByteArray.data_extract, ByteArray.size, List.extract_toArray, List.extract_eq_take_drop, List.size_toArray, List.length_map, List.map_drop]
  rw [List.take_of_length_le (by simp)]

set_option maxRecDepth 100000 in
set_option maxHeartbeats 1000000 in
theorem reads_in (v v2 : Value) (bs : List Nat) (zs : List Int) (n : Nat) (w : World) (hl : bs.length ≤ 60) (hl2 : zs.length ≤ 100) (hb : BS w v bs) (h256 : ∀ b ∈ bs, b < 256) (hn : n ≤ 8 * bs.length) (hz : IntsAt .i64 w v2 zs) :
    Calls Try.prog 6 #[v, .int .i64 n, v2] w fun e w' => e = .returned (.bool true) ∧ Fr (fun _ => False) w w' := by
  obtain ⟨ao, cap, rfl⟩ := hb.len
  have HO := hid hz
  have HB := hid hb
  obtain ⟨ao2, cap2, rfl⟩ := hz.len
  clear hb hz
  go_enter Try.func6, Try.ntmps6
  go_wp2_with fail
  refine (r1_new (w0 := w) _ bs n (Fr.refl _ _) (by omega) HB.out h256 (by omega)).mono ?_
  rintro e w1 ⟨a, r, rfl, h1, hf1⟩
  have hcv := conv_bs (HB.out.keep hf1 (fun _ _ _ _ h => h))
  have H1 := hid h1
  clear hf1 h1
  go_wp2_with fail
  refine (right1_yes n ao bs.length cap (by omega) w1 ⟨by omega, by omega⟩).mono ?_
  rintro e w2 ⟨rfl, rfl⟩
  go_wp2_with fail
  refine (text_any bs h256 n hn (by omega) w1).mono ?_
  rintro e w2 ⟨rfl, rfl⟩
  obtain ⟨L0, hL0⟩ : ∃ L0, L0 = (unpack bs).take n := ⟨_, rfl⟩
  rw [← hL0] at H1 ⊢
  have hL1 : L0.length ≤ 480 := by rw [hL0, List.length_take, len_unpack]; omega
  clear hcv hL0
  go_wp2_with fail
  go_loopw [9, 10, 11, 55] (fun t s p i wr => ∃ (m pos : Nat) (L : List Bool) (sh : Bool), m ≤ zs.length ∧ i = .int .i64 m ∧ t = .string (txt L) ∧ s = .bool sh ∧ p = .int .i64 pos ∧ L.length ≤ 480 ∧ pos + L.length ≤ 480 ∧ Hid (R1 w wr a r pos L sh)) (fun _ _ _ i _ => zs.length - (intOf i).toNat)
  case atStart => exact ⟨0, 0, L0, false, by omega, rfl, rfl, rfl, rfl, by omega, by omega, H1⟩
  case round =>
    obtain ⟨m, pos, L, sh, hm, rfl, rfl, rfl, rfl, hLl, hpL, H⟩ := hrel
    by_cases hlt : m < zs.length
    · obtain ⟨k, hk⟩ : ∃ k, k = zs[m] := ⟨_, rfl⟩
      have hkm : zs[m]? = some k := by rw [hk]; exact List.getElem?_eq_getElem hlt
      obtain ⟨b, off, rfl, c0, hwf⟩ := HO.out.cell H.out.fr hkm
      have hkb := wf_bounds hwf
      have hz1 : (txt L).size ≤ 480 := by rw [len_txt]; exact hLl
      clear hk hkm hwf
      by_cases hin : 1 ≤ k ∧ k ≤ 64
      · obtain ⟨q, rfl⟩ := nat_of (n := k) (by omega)
        have hq1 : 1 ≤ q := by omega
        have hq2 : q ≤ 64 := by omega
        by_cases hshort : (txt L).size < q
        · go_wp2_with fail
          refine (r1_get_short H.out q hq1 hq2 (by rw [len_txt] at hshort; exact hshort)).mono ?_
          rintro e w3 ⟨rfl, h3⟩
          have H3 := hid h3
          clear h3
          go_wp2_with fail
          refine (r1_left H3.out 0 (hid rfl)).mono ?_
          rintro e w4 ⟨rfl, h4⟩
          have H4 := hid h4
          clear h4
          go_wp2_with fail
          refine (r1_pos H4.out).mono ?_
          rintro e w5 ⟨rfl, rfl⟩
          go_wp2_with fail
          refine (r1_short H4.out).mono ?_
          rintro e w5 ⟨rfl, rfl⟩
          go_wp2
          go_roundw
          case rel => exact ⟨m + 1, pos, [], true, by omega, by go_num, rfl, rfl, rfl, by simp, by simp; omega, H4⟩
          case measure => simp [intOf]; omega
        · have hshort' : q ≤ (txt L).size := by omega
          have hqL : q ≤ L.length := by rw [len_txt] at hshort'; exact hshort'
          have e1 := txt_take L q
          have e2 := txt_drop L q
          have hw1 : IntKind.i64.wrap ((pos : Int) + (q : Int)) = (pos : Int) + (q : Int) := IntWalk.i64_in _ (by omega)
          have hI : (q : Int) ≤ ((txt L).size : Int) := by omega
          go_wp2_with fail
          go_quiet ((go_at_call 22; exact Calls.quiet_of_same ((value_any (L.take q) (by rw [List.length_take]; omega) _).mono fun _ _ h => ⟨h.1, h.2.symm⟩)))
          clear e1 e2 hw1 hI
          go_wp2_with fail
          refine (r1_get (H.out.still ((Fr.refl _ _).drewN nq)) q _ (hid rfl) hq1 hq2 hqL).mono ?_
          rintro e w3 ⟨rfl, h3⟩
          have H3 := hid h3
          clear h3
          go_wp2_with fail
          refine (r1_left H3.out (txt (L.drop q)).size (hid (len_txt _).symm)).mono ?_
          rintro e w4 ⟨rfl, h4⟩
          have H4 := hid h4
          clear h4
          go_wp2_with fail
          refine (r1_pos H4.out).mono ?_
          rintro e w5 ⟨rfl, rfl⟩
          go_wp2_with fail
          refine (r1_short H4.out).mono ?_
          rintro e w5 ⟨rfl, rfl⟩
          have hd : (L.drop q).length ≤ 480 ∧ pos + q + (L.drop q).length ≤ 480 := by rw [List.length_drop]; omega
          cases sh
          all_goals
            go_wp2
            go_roundw
            case rel => exact ⟨m + 1, pos + q, L.drop q, _, by omega, by go_num, rfl, rfl, by go_num, hd.1, hd.2, H4⟩
            case measure => simp [intOf]; omega
      · by_cases hlo : k < 1
        · go_wp2_with fail
          refine (r1_get_no H.out k (by omega)).mono ?_
          rintro e w3 ⟨rfl, rfl⟩
          go_wp2_with fail
          refine (r1_left H.out (txt L).size (hid (len_txt L).symm)).mono ?_
          rintro e w4 ⟨rfl, h4⟩
          have H4 := hid h4
          clear h4
          go_wp2_with fail
          refine (r1_pos H4.out).mono ?_
          rintro e w5 ⟨rfl, rfl⟩
          go_wp2_with fail
          refine (r1_short H4.out).mono ?_
          rintro e w5 ⟨rfl, rfl⟩
          cases sh
          all_goals
            go_wp2
            go_roundw
            case rel => exact ⟨m + 1, pos, L, _, by omega, by go_num, rfl, rfl, rfl, by omega, by omega, H4⟩
            case measure => simp [intOf]; omega
        · have hhi : 64 < k := by omega
          go_wp2_with fail
          refine (r1_get_no H.out k (by omega)).mono ?_
          rintro e w3 ⟨rfl, rfl⟩
          go_wp2_with fail
          refine (r1_left H.out (txt L).size (hid (len_txt L).symm)).mono ?_
          rintro e w4 ⟨rfl, h4⟩
          have H4 := hid h4
          clear h4
          go_wp2_with fail
          refine (r1_pos H4.out).mono ?_
          rintro e w5 ⟨rfl, rfl⟩
          go_wp2_with fail
          refine (r1_short H4.out).mono ?_
          rintro e w5 ⟨rfl, rfl⟩
          cases sh
          all_goals
            go_wp2
            go_roundw
            case rel => exact ⟨m + 1, pos, L, _, by omega, by go_num, rfl, rfl, rfl, by omega, by omega, H4⟩
            case measure => simp [intOf]; omega
    · obtain rfl : m = zs.length := by omega
      go_wp2_with fail
      refine (awake1_any _).mono ?_
      rintro e w9 ⟨rfl, hf⟩
      go_wp2
      go_ret
      exact ⟨rfl, H.out.fr.trans hf (fun _ h _ => h)⟩

/-- Where the law does not look closer, or the reader is refused. -/
theorem reads_out (ao ao2 : Option Addr) (len cap len2 cap2 : Nat) (n : Int) (w : World) (h : 60 < len ∨ 100 < len2) :
    Calls Try.prog 6 #[.slice ao len cap, .int .i64 n, .slice ao2 len2 cap2] w fun e w' => e = .returned (.bool true) ∧ Fr (fun _ => False) w w' := by
  by_cases h1 : 60 < len
  · go_enter Try.func6, Try.ntmps6
    go_wp2_with fail
    refine (awake1_any _).mono ?_
    rintro e w1 ⟨rfl, hf⟩
    go_wp2
    go_ret
    exact ⟨rfl, hf⟩
  · have h2 : 100 < len2 := by omega
    clear h
    go_enter Try.func6, Try.ntmps6
    go_wp2_with fail
    refine (awake1_any _).mono ?_
    rintro e w1 ⟨rfl, hf⟩
    go_wp2
    go_ret
    exact ⟨rfl, hf⟩

theorem reads_no (v : Value) (ao2 : Option Addr) (len2 cap2 : Nat) (bs : List Nat) (n : Int) (w : World) (hl : bs.length ≤ 60) (hl2 : len2 ≤ 100) (hb : BS w v bs) (hn : ¬ (0 ≤ n ∧ n ≤ 8 * bs.length)) :
    Calls Try.prog 6 #[v, .int .i64 n, .slice ao2 len2 cap2] w fun e w' => e = .returned (.bool true) ∧ Fr (fun _ => False) w w' := by
  have HN := hid (newReader_no v bs n w (by omega) hb hn)
  obtain ⟨ao, cap, rfl⟩ := hb.len
  have HR := hid (right1_no n ao bs.length cap (by omega) w hn)
  clear hb hn
  go_enter Try.func6, Try.ntmps6
  go_wp2_with fail
  refine HN.out.mono ?_
  rintro e w1 ⟨rfl, rfl⟩
  go_wp2_with fail
  refine HR.out.mono ?_
  rintro e w1 ⟨rfl, rfl⟩
  go_wp2_with fail
  refine (awake1_any _).mono ?_
  rintro e w1 ⟨rfl, hf⟩
  go_wp2
  go_ret
  exact ⟨rfl, hf⟩
end Go.Proofs.Ytlfcaigofakkoaa
