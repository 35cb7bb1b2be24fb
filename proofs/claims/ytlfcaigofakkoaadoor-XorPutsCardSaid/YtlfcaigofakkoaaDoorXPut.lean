/- The walk of the xor row's Put. -/
import Derived.Test.YtlfcaigofakkoaaDoorXRow
import Derived.Deep.RegionWith
namespace Go.Proofs.YtlfcaigofakkoaaDoor
open Go.RowKit Bt

section
variable {K : List (Nat × Obj)} {w0 w : World} {a q : Nat} {r : Option Nat} {l : List Bool} {s : XS}

theorem xor_int (v u : Nat) (hv : v < 18446744073709551616) (hu : u < 18446744073709551616) : bits BinOp.xor .u64 (v : Int) (u : Int) = ((v ^^^ u : Nat) : Int) := bits_xor_u64_nat v u hv hu

theorem xp_put_shift {p wa wb : Nat} (h : XP K w0 w a r l q s p wa wb) (ht : 0 < w0.heap.size) (d z n : Nat) (hd : d < 18446744073709551616) (h1 : 1 ≤ n) (h64 : n ≤ 64) (hl : l.length + 64 < 8000000) :
    Calls Tryd.prog 23 #[.pointer (some ⟨a, 0, none⟩), .int .u64 ((d : Int) / 2 ^ z), .int .i64 n] w fun e w' => e = .returned (.tuple #[]) ∧ ∃ r', XP K w0 w' a r' (l ++ bitsOf (d / 2 ^ z) n) q s p wa wb := by
  rw [show ((d : Int) / 2 ^ z) = ((d / 2 ^ z : Nat) : Int) by rw [Int.natCast_ediv, Int.natCast_pow]; rfl]
  exact xp_put h ht (d / 2 ^ z) n (Nat.lt_of_le_of_lt (Nat.div_le_self _ _) hd) h1 h64 hl

set_option maxHeartbeats 1000000 in
theorem xput_first (h : XW K w0 w a r l q s) (ht : 0 < w0.heap.size) (v : Nat) (hv : v < 18446744073709551616) (hl : l.length + 200 < 8000000) (hn : s.n = 0) :
    Calls Tryd.prog 8 #[.pointer (some ⟨q, 0, none⟩), .pointer (some ⟨a, 0, none⟩), .int .u64 v] w fun e w' => e = .returned (.tuple #[]) ∧ ∃ r', Hid (XW K w0 w' a r' (l ++ (s.put v).2) q (s.put v).1) := by
  have hp : s.put v = (⟨v, s.n + 1, s.ahead, s.bits⟩, bitsOf v 64) := by unfold XS.put; rw [if_pos hn]
  have hok := put_ok (v := v) h.ok hv (by omega)
  rw [hp] at hok ⊢
  have c0 := h.xr.c0
  have c1 := h.xr.c1
  have c2 := h.xr.c2
  have c3 := h.xr.c3
  have hlt := h.xr.lt
  have hxor := xor_int v s.last hv h.ok.last
  have hn0 : ((s.n : Int) == 0) = true := by rw [beq_iff_eq]; omega
  have H := hid h
  have HP := hid (XP.made (wa := s.ahead) (wb := s.bits) h)
  have HOK := hid hok
  have hn1 : s.n < 1000000 := by omega
  clear h hp hok hn
  go_enter Tryd.func8, Tryd.ntmps8
  go_wp2_with fail
  refine (xp_put HP.out ht v 64 hv (by decide) (by decide) (by omega)).mono ?_
  rintro e w1 ⟨rfl, r1, h1⟩
  have d0 := h1.c0
  have d1 := h1.c1
  have H1 := hid h1
  clear h1 c0 c1 c2 c3
  go_wp2_with fail
  refine (xw_take H1.out.x ht hn1 HOK.out).mono ?_
  rintro e w2 ⟨rfl, h2⟩
  have H2 := hid h2
  clear h2
  go_wp2
  go_end0
  exact ⟨rfl, r1, H2⟩

set_option maxHeartbeats 1000000 in
theorem xput_same (h : XW K w0 w a r l q s) (ht : 0 < w0.heap.size) (v : Nat) (hv : v < 18446744073709551616) (hl : l.length + 200 < 8000000) (hn : s.n ≠ 0) (hn1 : s.n < 1000000) (hd : v ^^^ s.last = 0) :
    Calls Tryd.prog 8 #[.pointer (some ⟨q, 0, none⟩), .pointer (some ⟨a, 0, none⟩), .int .u64 v] w fun e w' => e = .returned (.tuple #[]) ∧ ∃ r', Hid (XW K w0 w' a r' (l ++ (s.put v).2) q (s.put v).1) := by
  have hp : s.put v = (⟨v, s.n + 1, s.ahead, s.bits⟩, [false]) := by unfold XS.put; rw [if_neg hn, if_pos hd]
  have hok := put_ok (v := v) h.ok hv (by omega)
  rw [hp] at hok ⊢
  have c0 := h.xr.c0
  have c1 := h.xr.c1
  have c2 := h.xr.c2
  have c3 := h.xr.c3
  have hlt := h.xr.lt
  have hxor := xor_int v s.last hv h.ok.last
  rw [hd] at hxor
  have hn0 : ((s.n : Int) == 0) = false := by rw [beq_eq_false_iff_ne]; omega
  have HP := hid (XP.made (wa := s.ahead) (wb := s.bits) h)
  have HOK := hid hok
  clear h hp hok hn hd
  go_enter Tryd.func8, Tryd.ntmps8
  go_wp2_with fail
  refine (xp_bit HP.out ht false (by omega)).mono ?_
  rintro e w1 ⟨rfl, r1, h1⟩
  have d0 := h1.c0
  have d1 := h1.c1
  have H1 := hid h1
  clear h1 c0 c1 c2 c3
  go_wp2_with fail
  refine (xw_take H1.out.x ht hn1 HOK.out).mono ?_
  rintro e w2 ⟨rfl, h2⟩
  have H2 := hid h2
  clear h2
  go_wp2
  go_end0
  exact ⟨rfl, r1, H2⟩

set_option maxHeartbeats 1000000 in
theorem xput_held (h : XW K w0 w a r l q s) (ht : 0 < w0.heap.size) (v : Nat) (hv : v < 18446744073709551616) (hl : l.length + 200 < 8000000) (hn : s.n ≠ 0) (hn1 : s.n < 1000000) (hd : v ^^^ s.last ≠ 0) (hh : s.holds (v ^^^ s.last) = true) :
    Calls Tryd.prog 8 #[.pointer (some ⟨q, 0, none⟩), .pointer (some ⟨a, 0, none⟩), .int .u64 v] w fun e w' => e = .returned (.tuple #[]) ∧ ∃ r', Hid (XW K w0 w' a r' (l ++ (s.put v).2) q (s.put v).1) := by
  have hp : s.put v = (⟨v, s.n + 1, s.ahead, s.bits⟩, [true, false] ++ bitsOf ((v ^^^ s.last) / 2 ^ (64 - s.ahead - s.bits)) s.bits) := by unfold XS.put; rw [if_neg hn, if_neg hd, if_pos hh]
  have hok := put_ok (v := v) h.ok hv (by omega)
  rw [hp] at hok ⊢
  have c0 := h.xr.c0
  have c1 := h.xr.c1
  have c2 := h.xr.c2
  have c3 := h.xr.c3
  have hlt := h.xr.lt
  obtain ⟨d, hd'⟩ : ∃ d, d = v ^^^ s.last := ⟨_, rfl⟩
  have hdlt : d < 18446744073709551616 := by rw [hd']; exact xor_lt _ _ hv h.ok.last
  have hxor := xor_int v s.last hv h.ok.last
  rw [← hd'] at hxor hd hh ⊢
  have hd0 : ((d : Int) == 0) = false := by rw [beq_eq_false_iff_ne]; omega
  have hn0 : ((s.n : Int) == 0) = false := by rw [beq_eq_false_iff_ne]; omega
  have hb : 1 ≤ s.bits ∧ s.bits ≤ 64 := by
    have := h.ok.win
    simp only [XS.holds, Bool.and_eq_true, decide_eq_true_eq] at hh
    omega
  have HP := hid (XP.made (wa := s.ahead) (wb := s.bits) h)
  have HOK := hid hok
  have HH := hid (And.intro hd (And.intro hh (And.intro h.ok hb)))
  clear h hp hok hn hd hh hb hd'
  go_enter Tryd.func8, Tryd.ntmps8
  go_wp2_with fail
  refine (holds_any s HH.out.2.2.1 d HH.out.1 hdlt _ HP.out.x.tab).mono ?_
  rintro e w1 ⟨rfl, hf1⟩
  have h1 := HP.out.still hf1
  have d0 := h1.c0
  have d1 := h1.c1
  have H1 := hid h1
  rw [HH.out.2.1]
  clear h1 c0 c1 c2 c3 hf1
  go_wp2_with fail
  refine (xp_put H1.out ht 2 2 (by decide) (by decide) (by decide) (by omega)).mono ?_
  rintro e w2 ⟨rfl, r2, h2⟩
  have hx := h2.still (Fr.refl _ _).drew
  have e0 := h2.c0
  have e1 := h2.c1
  have hwin : s.ahead + s.bits ≤ 64 := HH.out.2.2.1.win
  have hb1 : 1 ≤ s.bits := HH.out.2.2.2.1
  have hb2 : s.bits ≤ 64 := HH.out.2.2.2.2
  clear h2 d0 d1
  go_wp2_with fail
  go_region_held3 (fun w' => w'.cell? ⟨w.heap.size, 0, none⟩ = some (.int .i64 (s.ahead : Nat)) ∧ w'.cell? ⟨w.heap.size, 1, none⟩ = some (.int .i64 (s.bits : Nat))) (go_keep)
    (first | (go_at_call 26; refine (behind_any s.ahead s.bits hwin _).mono ?_; rintro e w' ⟨rfl, hf⟩; have hx := hx.still hf; have d1 := hx.c0; have d2 := hx.c1) | (go_at_call 23; refine (xp_put_shift hx ht d (64 - s.ahead - s.bits) s.bits hdlt hb1 hb2 (by rw [List.length_append, len_bitsOf]; omega)).mono ?_; rintro e w' ⟨rfl, r3, hx⟩; have d1 := hx.c0; have d2 := hx.c1))
  have HX := hid hx
  clear hx
  go_wp2_with fail
  refine (xw_take HX.out.x ht hn1 HOK.out).mono ?_
  rintro e w2 ⟨rfl, h3⟩
  have H3 := hid h3
  clear h3
  go_wp2
  go_end0
  refine ⟨rfl, r3, hid ?_⟩
  have := H3.out
  rw [List.append_assoc] at this
  exact this

theorem xp_put_mod {p wa wb : Nat} (h : XP K w0 w a r l q s p wa wb) (ht : 0 < w0.heap.size) (b : Nat) (hl : l.length + 64 < 8000000) :
    Calls Tryd.prog 23 #[.pointer (some ⟨a, 0, none⟩), .int .u64 ((b : Int) % 64), .int .i64 6] w fun e w' => e = .returned (.tuple #[]) ∧ ∃ r', XP K w0 w' a r' (l ++ bitsOf (b % 64) 6) q s p wa wb := by
  rw [show ((b : Int) % 64) = ((b % 64 : Nat) : Int) by omega]
  exact xp_put h ht (b % 64) 6 (by omega) (by decide) (by decide) hl

set_option maxHeartbeats 1000000 in
theorem xput_new (h : XW K w0 w a r l q s) (ht : 0 < w0.heap.size) (v : Nat) (hv : v < 18446744073709551616) (hl : l.length + 200 < 8000000) (hn : s.n ≠ 0) (hn1 : s.n < 1000000) (hd : v ^^^ s.last ≠ 0) (hh : s.holds (v ^^^ s.last) = false) :
    Calls Tryd.prog 8 #[.pointer (some ⟨q, 0, none⟩), .pointer (some ⟨a, 0, none⟩), .int .u64 v] w fun e w' => e = .returned (.tuple #[]) ∧ ∃ r', Hid (XW K w0 w' a r' (l ++ (s.put v).2) q (s.put v).1) := by
  have hok := put_ok (v := v) h.ok hv (by omega)
  have hp : s.put v = (⟨v, s.n + 1, aheadOf (v ^^^ s.last), bitsOfWin (v ^^^ s.last)⟩, [true, true] ++ (bitsOf (aheadOf (v ^^^ s.last)) 5 ++ (bitsOf (bitsOfWin (v ^^^ s.last) % 64) 6 ++ bitsOf ((v ^^^ s.last) / 2 ^ (tz (v ^^^ s.last))) (bitsOfWin (v ^^^ s.last))))) := by
    unfold XS.put; rw [if_neg hn, if_neg hd, if_neg (by rw [hh]; decide)]
  rw [hp] at hok ⊢
  have c0 := h.xr.c0
  have c1 := h.xr.c1
  have c2 := h.xr.c2
  have c3 := h.xr.c3
  have hlt := h.xr.lt
  obtain ⟨d, hd'⟩ : ∃ d, d = v ^^^ s.last := ⟨_, rfl⟩
  have hdlt : d < 18446744073709551616 := by rw [hd']; exact xor_lt _ _ hv h.ok.last
  have hxor := xor_int v s.last hv h.ok.last
  rw [← hd'] at hxor hd hh hok ⊢
  have hd0 : ((d : Int) == 0) = false := by rw [beq_eq_false_iff_ne]; omega
  have hn0 : ((s.n : Int) == 0) = false := by rw [beq_eq_false_iff_ne]; omega
  have hwin := win_of d hd hdlt
  have htz : tz d = 64 - aheadOf d - bitsOfWin d := by omega
  rw [htz]
  obtain ⟨A, hA⟩ : ∃ A, A = aheadOf d := ⟨_, rfl⟩
  obtain ⟨C, hC⟩ : ∃ C, C = bitsOfWin d := ⟨_, rfl⟩
  have hof := fun W hW => of_any d hd hdlt W hW
  rw [← hA, ← hC] at hof hok hwin ⊢
  have hA1 : A ≤ 31 := hwin.2.2.2
  have hC1 : 1 ≤ C := hwin.1
  have hAC : A + C ≤ 64 := by omega
  have hC2 : C ≤ 64 := by omega
  have HP := hid (XP.made (wa := s.ahead) (wb := s.bits) h)
  have HOK := hid hok
  have HH := hid (And.intro hd (And.intro hh h.ok))
  have HF := hid hof
  clear h hp hok hn hd hh hd' htz hwin hA hC hof
  go_enter Tryd.func8, Tryd.ntmps8
  go_wp2_with fail
  refine (holds_any s HH.out.2.2 d HH.out.1 hdlt _ HP.out.x.tab).mono ?_
  rintro e w1 ⟨rfl, hf1⟩
  have h1 := HP.out.still hf1
  have H1 := hid h1
  rw [HH.out.2.1]
  clear h1 c0 c1 c2 c3 hf1
  go_wp2_with fail
  refine (HF.out _ H1.out.x.tab).mono ?_
  rintro e w2 ⟨rfl, hf2⟩
  have h2 := H1.out.still hf2
  have d0 := h2.c0
  have d1 := h2.c1
  have f0 := h2.f 0
  have f1 := h2.f 1
  have H2 := hid (h2.set ht A C)
  clear h2 hf2
  go_wp2_with fail
  refine (xp_put H2.out ht 3 2 (by decide) (by decide) (by decide) (by omega)).mono ?_
  rintro e w3 ⟨rfl, r3, h3⟩
  have e0 := h3.c0
  have e1 := h3.c1
  have H3 := hid h3
  clear h3 d0 d1 f0 f1
  go_wp2_with fail
  refine (xp_put H3.out ht A 5 (by omega) (by decide) (by decide) (by rw [List.length_append, len_bitsOf]; omega)).mono ?_
  rintro e w4 ⟨rfl, r4, h4⟩
  have g0 := h4.c0
  have g1 := h4.c1
  have H4 := hid h4
  clear h4 e0 e1
  go_wp2_with fail
  refine (xp_put_mod H4.out ht C (by simp only [List.length_append, len_bitsOf]; omega)).mono ?_
  rintro e w5 ⟨rfl, r5, h5⟩
  have k0 := h5.c0
  have k1 := h5.c1
  have hx := h5.still (Fr.refl _ _).drew
  clear h5 g0 g1
  go_wp2_with fail
  go_region_held3 (fun w' => w'.cell? ⟨w.heap.size, 0, none⟩ = some (.int .i64 (A : Nat)) ∧ w'.cell? ⟨w.heap.size, 1, none⟩ = some (.int .i64 (C : Nat))) (go_keep)
    (first | (go_at_call 26; refine (behind_any A C hAC _).mono ?_; rintro e w' ⟨rfl, hf⟩; have hx := hx.still hf; have d1 := hx.c0; have d2 := hx.c1) | (go_at_call 23; refine (xp_put_shift hx ht d (64 - A - C) C hdlt hC1 hC2 (by simp only [List.length_append, len_bitsOf]; omega)).mono ?_; rintro e w' ⟨rfl, r6, hx⟩; have d1 := hx.c0; have d2 := hx.c1))
  have HX := hid hx
  clear hx
  go_wp2_with fail
  refine (xw_take HX.out.x ht hn1 HOK.out).mono ?_
  rintro e w6 ⟨rfl, h6⟩
  have H6 := hid h6
  clear h6
  go_wp2
  go_end0
  refine ⟨rfl, r6, hid ?_⟩
  have := H6.out
  simp only [List.append_assoc] at this ⊢
  exact this

theorem xput_any (h : XW K w0 w a r l q s) (ht : 0 < w0.heap.size) (v : Nat) (hv : v < 18446744073709551616) (hl : l.length + 200 < 8000000) (hn1 : s.n < 1000000) :
    Calls Tryd.prog 8 #[.pointer (some ⟨q, 0, none⟩), .pointer (some ⟨a, 0, none⟩), .int .u64 v] w fun e w' => e = .returned (.tuple #[]) ∧ ∃ r', Hid (XW K w0 w' a r' (l ++ (s.put v).2) q (s.put v).1) := by
  by_cases hn : s.n = 0
  · exact xput_first h ht v hv hl hn
  · by_cases hd : v ^^^ s.last = 0
    · exact xput_same h ht v hv hl hn hn1 hd
    · cases hh : s.holds (v ^^^ s.last) with
      | true => exact xput_held h ht v hv hl hn hn1 hd hh
      | false => exact xput_new h ht v hv hl hn hn1 hd hh
end
end Go.Proofs.YtlfcaigofakkoaaDoor
