/- The walk of the reference's Put of layer 5 where the window is told anew. -/
import Derived.Test.YtlfcaigofakkoaaDoorXRef
namespace Go.Proofs.YtlfcaigofakkoaaDoor
open Go.RowKit Bt

theorem RW.drewN {w W : World} {x z y : Obj} (h : RW w W x z y) (n : Nat) : RW w (W.drewN n) x z y :=
  have hf := (Fr.refl (fun _ => False) W).drewN n
  ⟨h.fr.drewN n, hf.keep h.bx (fun h => h), hf.keep h.bz (fun h => h), hf.keep h.bw (fun h => h)⟩

theorem RW.set2 {w W : World} {x z : Obj} {l n a b : Int} (h : RW w W x z (rob l n a b)) (a' : Int) : RW w (W.setCell ⟨w.heap.size + 1 + 1, 2, none⟩ (.int .i64 a')) x z (rob l n a' b) := by
  have hf : Fr (fun k => k = w.heap.size + 1 + 1) W (W.setCell ⟨w.heap.size + 1 + 1, 2, none⟩ (.int .i64 a')) := (Fr.refl _ W).setCell _ _ (fun _ => rfl)
  refine ⟨h.fr.setCell _ _ (fun h => absurd h (by simp; omega)), hf.keep h.bx (by omega), hf.keep h.bz (by omega), ?_⟩
  rw [set_block h.bw _]
  simp

theorem RW.set3 {w W : World} {x z : Obj} {l n a b : Int} (h : RW w W x z (rob l n a b)) (b' : Int) : RW w (W.setCell ⟨w.heap.size + 1 + 1, 3, none⟩ (.int .i64 b')) x z (rob l n a b') := by
  have hf : Fr (fun k => k = w.heap.size + 1 + 1) W (W.setCell ⟨w.heap.size + 1 + 1, 3, none⟩ (.int .i64 b')) := (Fr.refl _ W).setCell _ _ (fun _ => rfl)
  refine ⟨h.fr.setCell _ _ (fun h => absurd h (by simp; omega)), hf.keep h.bx (by omega), hf.keep h.bz (by omega), ?_⟩
  rw [set_block h.bw _]
  simp

set_option maxHeartbeats 1000000 in
theorem rput_new (s : XS) (v : Nat) (hs : s.Ok) (hv : v < 18446744073709551616) (hn : s.n ≠ 0) (hn1 : s.n < 1000000) (hd : v ^^^ s.last ≠ 0) (hh : s.holds (v ^^^ s.last) = false) (w : World) :
    Calls Tryd.prog 19 #[.agg #[.int .u64 (s.last : Nat), .int .i64 (s.n : Nat), .int .i64 (s.ahead : Nat), .int .i64 (s.bits : Nat)], .int .u64 v] w fun e w' =>
      e = .returned (putRes (s.put v)) ∧ Fr (fun _ => False) w w' := by
  have hp : s.put v = (⟨v, s.n + 1, aheadOf (v ^^^ s.last), bitsOfWin (v ^^^ s.last)⟩, [true, true] ++ (bitsOf (aheadOf (v ^^^ s.last)) 5 ++ (bitsOf (bitsOfWin (v ^^^ s.last) % 64) 6 ++ bitsOf ((v ^^^ s.last) / 2 ^ (tz (v ^^^ s.last))) (bitsOfWin (v ^^^ s.last))))) := by
    unfold XS.put; rw [if_neg hn, if_neg hd, if_neg (by rw [hh]; decide)]
  rw [hp]
  have hxor := xor_int v s.last hv hs.last
  have hdlt := xor_lt v s.last hv hs.last
  have hvl : ((v : Int) == (s.last : Int)) = false := by
    rw [beq_eq_false_iff_ne]
    intro e
    exact hd (by rw [show v = s.last by omega, Nat.xor_self])
  obtain ⟨last, n, ahead, bits⟩ := s
  simp only at hn hxor hdlt hp hn1 hvl hd
  simp only [XS.holds] at hh
  have hl := hs.last
  have ha := hs.ahead
  have hw := hs.win
  simp only at hl ha hw
  clear hp hs
  generalize v ^^^ last = d at *
  have hlz := lz_tz d hd hdlt
  obtain ⟨f, hf⟩ : ∃ f, f = lz d := ⟨_, rfl⟩
  obtain ⟨e, he⟩ : ∃ e, e = 64 - tz d := ⟨_, rfl⟩
  have hfirst := fun w => first_d d hd hdlt w
  rw [← hf] at hfirst
  have hend := fun w => end_d d e hd hdlt he w
  obtain ⟨A, hA⟩ : ∃ A, A = aheadOf d := ⟨_, rfl⟩
  obtain ⟨C, hC⟩ : ∃ C, C = bitsOfWin d := ⟨_, rfl⟩
  have hwin := win_of d hd hdlt
  have hAf : A = min f 31 := by rw [hA, hf]; rfl
  have hCe : e = A + C := by omega
  rw [bitsOf_mod64, ← hA, ← hC]
  have hcut : (txt (bitsOf d 64)).extract A e = txt (bitsOf (d / 2 ^ tz d) C) := by
    rw [hCe, txt_cut, Nat.add_sub_cancel_left, cut_bitsOf d 64 A C (by omega), show 64 - A - C = tz d by omega]
  have hAC : A + C ≤ 64 := by omega
  have hC1 : 1 ≤ C := by omega
  obtain ⟨T, hT⟩ : ∃ T, T = bitsOf (d / 2 ^ tz d) C := ⟨_, rfl⟩
  rw [← hT] at hcut ⊢
  have hthree : bits = 0 ∨ (0 < bits ∧ f < ahead) ∨ (0 < bits ∧ ahead ≤ f ∧ ahead + bits < e) := by
    by_cases h1 : 0 < bits
    · by_cases h2 : ahead ≤ f
      · refine .inr (.inr ⟨h1, h2, ?_⟩)
        rw [hf] at h2
        simp only [h1, h2, decide_true, Bool.true_and, decide_eq_false_iff_not] at hh
        omega
      · exact .inr (.inl ⟨h1, by omega⟩)
    · exact .inl (by omega)
  obtain ⟨D, hD⟩ : ∃ D, D = txt (bitsOf d 64) := ⟨_, rfl⟩
  have hDs : D.size = 64 := by rw [hD, len_txt, len_bitsOf]
  have hb1 : (0 : Int) ≤ (A : Int) := by omega
  have hb2 : (A : Int) ≤ (e : Int) := by omega
  have hb3 : (e : Int) ≤ 64 := by omega
  have hb4 : A ≤ e := by omega
  have hb5 : e ≤ 64 := by omega
  have hwC : IntKind.i64.wrap ((e : Int) - (A : Int)) = (C : Int) := by rw [show (e : Int) - (A : Int) = (C : Int) by omega]; exact IntWalk.i64_in _ (by omega)
  have hwA : IntKind.u64.wrap (A : Int) = (A : Int) := by rw [IntKind.wrap_u64]; omega
  have hwC2 : IntKind.u64.wrap (C : Int) = (C : Int) := by rw [IntKind.wrap_u64]; omega
  have hs1 : (9223372036854775807 < 13 + (min e 64 - A)) = False := by simp; omega
  have hs2 : (9223372036854775807 < 13 + (e - A)) = False := by simp; omega
  obtain ⟨N5, hN5⟩ : ∃ N, N = txt (bitsOf A 5) := ⟨_, rfl⟩
  obtain ⟨N6, hN6⟩ : ∃ N, N = txt (bitsOf C 6) := ⟨_, rfl⟩
  have hz5 : N5.size = 5 := by rw [hN5, len_txt, len_bitsOf]
  have hz6 : N6.size = 6 := by rw [hN6, len_txt, len_bitsOf]
  have hn5 := fun w => number_any A 5 (by omega) (by decide) w
  have hn6 := fun w => number_any C 6 (by omega) (by decide) w
  rw [← hN5] at hn5
  rw [← hN6] at hn6
  have HAf := hid hAf
  have hAf1 : A ≤ 31 := by omega
  clear hAf hCe
  have H5 := hid hn5
  have H6 := hid hn6
  have HT := hid (show (⟨#[49, 49]⟩ : ByteArray) ++ N5 ++ N6 ++ txt T = txt ([true, true] ++ (bitsOf A 5 ++ (bitsOf C 6 ++ T))) by
    rw [txt_append, txt_append, txt_append, ← hN5, ← hN6, ByteArray.append_assoc, ByteArray.append_assoc]; rfl)
  clear hn5 hn6
  have hnum := fun w => number_any d 64 hdlt (by decide) w
  rw [← hD] at hfirst hend hcut hnum
  have HF := hid hfirst
  have HE := hid hend
  have HN := hid hnum
  have HC := hid hcut
  clear hfirst hend hnum hcut hh hlz he hf hD hA hC hwin hT hN5 hN6
  go_enter Tryd.func19, Tryd.ntmps19
  go_wp2_with fail
  refine (HN.out _).mono ?_
  rintro e w1 ⟨rfl, rfl⟩
  go_wp2_with fail
  have R := RW.made w (rob last n ahead bits) (rob 0 0 0 0) (rob v (n + 1) ahead bits)
  obtain ⟨W, hW⟩ : ∃ W, W = (((w.alloc (rob last n ahead bits)).alloc (rob 0 0 0 0)).alloc (rob v (n + 1) ahead bits)) := ⟨_, rfl⟩
  rw [← hW] at R ⊢
  clear hW
  obtain ⟨⟨x0, x1, x2, x3⟩, -⟩ := cells4 R.bx
  obtain ⟨⟨y0, y1, y2, y3⟩, -⟩ := cells4 R.bw
  obtain ⟨⟨z0, z1, z2, z3⟩, z4, z5, z6, z7⟩ := cells4 R.bz
  have HR := hid R
  clear R
  rcases hthree with h3 | ⟨h3, h4⟩ | ⟨h3, h4, h5⟩
  · have hg1 : decide ((0 : Int) < (bits : Int)) = false := by simp; omega
    have hm1 : decide (0 < bits) = false := by simp; omega
    clear h3
    go_quiet ((first | (go_at_call 34; exact Calls.quiet_of_same ((HF.out _).mono fun _ _ h => ⟨h.1, h.2.symm⟩)) | (go_at_call 35; exact Calls.quiet_of_same ((HE.out _).mono fun _ _ h => ⟨h.1, h.2.symm⟩))))
    have R2 := HR.out.drewN nq
    obtain ⟨W2, hW2⟩ : ∃ W2, W2 = W.drewN nq := ⟨_, rfl⟩
    rw [← hW2] at R2 ⊢
    clear hW2 HR x0 x1 x2 x3 y0 y1 y2 y3 z0 z1 z2 z3 z4 z5 z6 z7
    obtain ⟨⟨y0, y1, y2, y3⟩, y4, y5, y6, y7⟩ := cells4 R2.bw
    have HR := hid R2
    clear R2
    go_wp2_with fail
    refine (HF.out _).mono ?_
    rintro e' w1 ⟨rfl, rfl⟩
    by_cases h31 : f ≤ 31
    · obtain rfl : f = A := by have := HAf.out; omega
      clear HAf
      have g1 : decide ((31 : Int) < (f : Int)) = false := by simp; omega
      have g2 : decide (31 < f) = false := by simp; omega
      go_wp2_with fail
      have R3 := HR.out.set2 (f : Int)
      obtain ⟨W3, hW3⟩ : ∃ W3, W3 = W2.setCell ⟨w.heap.size + 1 + 1, 2, none⟩ (.int .i64 (f : Int)) := ⟨_, rfl⟩
      rw [← hW3] at R3 ⊢
      clear hW3
      clear y0 y1 y2 y3 y4 y5 y6 y7 HR
      obtain ⟨⟨y0, y1, y2, y3⟩, y4, y5, y6, y7⟩ := cells4 R3.bw
      have HR := hid R3
      clear R3
      have hk32 := hid (fun u => (World.cell?_setCell_other W3 ⟨w.heap.size + 1 + 1, 3, none⟩ ⟨w.heap.size + 1 + 1, 2, none⟩ u (by simp)).trans y2)
      go_region_held3 (fun w' => w'.cell? ⟨w.heap.size + 1 + 1, 2, none⟩ = some (.int .i64 (f : Int))) (first | exact hk32.out _ | go_keep) (first | (go_at_call 35; refine (HE.out _).mono ?_; rintro e' w' ⟨rfl, rfl⟩))
      have R4 := (HR.out.set3 (C : Int)).drew
      obtain ⟨W4, hW4⟩ : ∃ W4, W4 = (W3.setCell ⟨w.heap.size + 1 + 1, 3, none⟩ (.int .i64 (C : Int))).drew := ⟨_, rfl⟩
      rw [← hW4] at R4
      go_wp2_with fail
      rw [← hW4]
      clear hW4
      clear y0 y1 y2 y3 y4 y5 y6 y7 HR
      obtain ⟨⟨y0, y1, y2, y3⟩, y4, y5, y6, y7⟩ := cells4 R4.bw
      obtain ⟨⟨z0, z1, z2, z3⟩, z4, z5, z6, z7⟩ := cells4 R4.bz
      have HR := hid R4
      clear R4
      go_region_held3 (fun w' => w'.cell? ⟨w.heap.size + 1 + 1, 0, none⟩ = some (.int .u64 (v : Int)) ∧ w'.cell? ⟨w.heap.size + 1 + 1, 1, none⟩ = some (.int .i64 ((n : Int) + 1)) ∧ w'.cell? ⟨w.heap.size + 1 + 1, 2, none⟩ = some (.int .i64 (f : Int)) ∧ w'.cell? ⟨w.heap.size + 1 + 1, 3, none⟩ = some (.int .i64 (C : Int))) (go_keep)
        (first | (go_at_call 35; refine (HE.out _).mono ?_; rintro e' w' ⟨rfl, rfl⟩) | (go_at_call_of 33 ((5 : Int)); refine (H5.out _).mono ?_; rintro e' w' ⟨rfl, rfl⟩) | (go_at_call_of 33 ((6 : Int)); refine (H6.out _).mono ?_; rintro e' w' ⟨rfl, rfl⟩))
      go_wp2
      obtain ⟨k0, k1, k2, k3⟩ := set4_cells HR.out.bz (v : Int) ((n : Int) + 1) (f : Int) (C : Int)
      refine bodyPost_ret (v := putRes (⟨v, n + 1, f, C⟩, [true, true] ++ (bitsOf f 5 ++ (bitsOf C 6 ++ T)))) (by simp [results, Tryd.results19, go_sem, k0, k1, k2, k3]; rw [HC.out]; exact HT.out) rfl ⟨rfl, ?_⟩
      exact (set4_fr (p := w.heap.size + 1) HR.out.fr (fun h => absurd h (by omega))).drew
    · have hA31 := hid (show (31 : Int) = (A : Int) by have := HAf.out; omega)
      have g1 : decide ((31 : Int) < (f : Int)) = true := by simp; omega
      have g2 : decide (31 < f) = true := by simp; omega
      go_wp2_with fail
      have R3 := (HR.out.set2 (f : Int)).set2 31
      obtain ⟨W3, hW3⟩ : ∃ W3, W3 = (W2.setCell ⟨w.heap.size + 1 + 1, 2, none⟩ (.int .i64 (f : Int))).setCell ⟨w.heap.size + 1 + 1, 2, none⟩ (.int .i64 31) := ⟨_, rfl⟩
      rw [← hW3] at R3 ⊢
      clear hW3
      rw [hA31.out] at R3
      clear HAf
      clear y0 y1 y2 y3 y4 y5 y6 y7 HR
      obtain ⟨⟨y0, y1, y2, y3⟩, y4, y5, y6, y7⟩ := cells4 R3.bw
      have HR := hid R3
      clear R3
      have hk32 := hid (fun u => (World.cell?_setCell_other W3 ⟨w.heap.size + 1 + 1, 3, none⟩ ⟨w.heap.size + 1 + 1, 2, none⟩ u (by simp)).trans y2)
      go_region_held3 (fun w' => w'.cell? ⟨w.heap.size + 1 + 1, 2, none⟩ = some (.int .i64 (A : Int))) (first | exact hk32.out _ | go_keep) (first | (go_at_call 35; refine (HE.out _).mono ?_; rintro e' w' ⟨rfl, rfl⟩))
      have R4 := (HR.out.set3 (C : Int)).drew
      obtain ⟨W4, hW4⟩ : ∃ W4, W4 = (W3.setCell ⟨w.heap.size + 1 + 1, 3, none⟩ (.int .i64 (C : Int))).drew := ⟨_, rfl⟩
      rw [← hW4] at R4
      go_wp2_with fail
      rw [← hW4]
      clear hW4
      clear y0 y1 y2 y3 y4 y5 y6 y7 HR
      obtain ⟨⟨y0, y1, y2, y3⟩, y4, y5, y6, y7⟩ := cells4 R4.bw
      obtain ⟨⟨z0, z1, z2, z3⟩, z4, z5, z6, z7⟩ := cells4 R4.bz
      have HR := hid R4
      clear R4
      go_region_held3 (fun w' => w'.cell? ⟨w.heap.size + 1 + 1, 0, none⟩ = some (.int .u64 (v : Int)) ∧ w'.cell? ⟨w.heap.size + 1 + 1, 1, none⟩ = some (.int .i64 ((n : Int) + 1)) ∧ w'.cell? ⟨w.heap.size + 1 + 1, 2, none⟩ = some (.int .i64 (A : Int)) ∧ w'.cell? ⟨w.heap.size + 1 + 1, 3, none⟩ = some (.int .i64 (C : Int))) (go_keep)
        (first | (go_at_call 35; refine (HE.out _).mono ?_; rintro e' w' ⟨rfl, rfl⟩) | (go_at_call_of 33 ((5 : Int)); refine (H5.out _).mono ?_; rintro e' w' ⟨rfl, rfl⟩) | (go_at_call_of 33 ((6 : Int)); refine (H6.out _).mono ?_; rintro e' w' ⟨rfl, rfl⟩))
      go_wp2
      obtain ⟨k0, k1, k2, k3⟩ := set4_cells HR.out.bz (v : Int) ((n : Int) + 1) (A : Int) (C : Int)
      refine bodyPost_ret (v := putRes (⟨v, n + 1, A, C⟩, [true, true] ++ (bitsOf A 5 ++ (bitsOf C 6 ++ T)))) (by simp [results, Tryd.results19, go_sem, k0, k1, k2, k3]; rw [HC.out]; exact HT.out) rfl ⟨rfl, ?_⟩
      exact (set4_fr (p := w.heap.size + 1) HR.out.fr (fun h => absurd h (by omega))).drew
  · have hg1 : decide ((0 : Int) < (bits : Int)) = true := by simp; omega
    have hg2 : decide ((ahead : Int) ≤ (f : Int)) = false := by simp; omega
    have hm1 : decide (0 < bits) = true := by simp; omega
    have hm2 : decide (ahead ≤ f) = false := by simp; omega
    go_quiet ((first | (go_at_call 34; exact Calls.quiet_of_same ((HF.out _).mono fun _ _ h => ⟨h.1, h.2.symm⟩)) | (go_at_call 35; exact Calls.quiet_of_same ((HE.out _).mono fun _ _ h => ⟨h.1, h.2.symm⟩))))
    have R2 := HR.out.drewN nq
    obtain ⟨W2, hW2⟩ : ∃ W2, W2 = W.drewN nq := ⟨_, rfl⟩
    rw [← hW2] at R2 ⊢
    clear hW2 HR x0 x1 x2 x3 y0 y1 y2 y3 z0 z1 z2 z3 z4 z5 z6 z7
    obtain ⟨⟨y0, y1, y2, y3⟩, y4, y5, y6, y7⟩ := cells4 R2.bw
    have HR := hid R2
    clear R2
    go_wp2_with fail
    refine (HF.out _).mono ?_
    rintro e' w1 ⟨rfl, rfl⟩
    by_cases h31 : f ≤ 31
    · obtain rfl : f = A := by have := HAf.out; omega
      clear HAf
      have g1 : decide ((31 : Int) < (f : Int)) = false := by simp; omega
      have g2 : decide (31 < f) = false := by simp; omega
      go_wp2_with fail
      have R3 := HR.out.set2 (f : Int)
      obtain ⟨W3, hW3⟩ : ∃ W3, W3 = W2.setCell ⟨w.heap.size + 1 + 1, 2, none⟩ (.int .i64 (f : Int)) := ⟨_, rfl⟩
      rw [← hW3] at R3 ⊢
      clear hW3
      clear y0 y1 y2 y3 y4 y5 y6 y7 HR
      obtain ⟨⟨y0, y1, y2, y3⟩, y4, y5, y6, y7⟩ := cells4 R3.bw
      have HR := hid R3
      clear R3
      have hk32 := hid (fun u => (World.cell?_setCell_other W3 ⟨w.heap.size + 1 + 1, 3, none⟩ ⟨w.heap.size + 1 + 1, 2, none⟩ u (by simp)).trans y2)
      go_region_held3 (fun w' => w'.cell? ⟨w.heap.size + 1 + 1, 2, none⟩ = some (.int .i64 (f : Int))) (first | exact hk32.out _ | go_keep) (first | (go_at_call 35; refine (HE.out _).mono ?_; rintro e' w' ⟨rfl, rfl⟩))
      have R4 := (HR.out.set3 (C : Int)).drew
      obtain ⟨W4, hW4⟩ : ∃ W4, W4 = (W3.setCell ⟨w.heap.size + 1 + 1, 3, none⟩ (.int .i64 (C : Int))).drew := ⟨_, rfl⟩
      rw [← hW4] at R4
      go_wp2_with fail
      rw [← hW4]
      clear hW4
      clear y0 y1 y2 y3 y4 y5 y6 y7 HR
      obtain ⟨⟨y0, y1, y2, y3⟩, y4, y5, y6, y7⟩ := cells4 R4.bw
      obtain ⟨⟨z0, z1, z2, z3⟩, z4, z5, z6, z7⟩ := cells4 R4.bz
      have HR := hid R4
      clear R4
      go_region_held3 (fun w' => w'.cell? ⟨w.heap.size + 1 + 1, 0, none⟩ = some (.int .u64 (v : Int)) ∧ w'.cell? ⟨w.heap.size + 1 + 1, 1, none⟩ = some (.int .i64 ((n : Int) + 1)) ∧ w'.cell? ⟨w.heap.size + 1 + 1, 2, none⟩ = some (.int .i64 (f : Int)) ∧ w'.cell? ⟨w.heap.size + 1 + 1, 3, none⟩ = some (.int .i64 (C : Int))) (go_keep)
        (first | (go_at_call 35; refine (HE.out _).mono ?_; rintro e' w' ⟨rfl, rfl⟩) | (go_at_call_of 33 ((5 : Int)); refine (H5.out _).mono ?_; rintro e' w' ⟨rfl, rfl⟩) | (go_at_call_of 33 ((6 : Int)); refine (H6.out _).mono ?_; rintro e' w' ⟨rfl, rfl⟩))
      go_wp2
      obtain ⟨k0, k1, k2, k3⟩ := set4_cells HR.out.bz (v : Int) ((n : Int) + 1) (f : Int) (C : Int)
      refine bodyPost_ret (v := putRes (⟨v, n + 1, f, C⟩, [true, true] ++ (bitsOf f 5 ++ (bitsOf C 6 ++ T)))) (by simp [results, Tryd.results19, go_sem, k0, k1, k2, k3]; rw [HC.out]; exact HT.out) rfl ⟨rfl, ?_⟩
      exact (set4_fr (p := w.heap.size + 1) HR.out.fr (fun h => absurd h (by omega))).drew
    · omega
  · have hg1 : decide ((0 : Int) < (bits : Int)) = true := by simp; omega
    have hg2 : decide ((ahead : Int) ≤ (f : Int)) = true := by simp; omega
    have hm1 : decide (0 < bits) = true := by simp; omega
    have hm2 : decide (ahead ≤ f) = true := by simp; omega
    have hwr : IntKind.i64.wrap ((ahead : Int) + (bits : Int)) = (ahead : Int) + (bits : Int) := IntWalk.i64_in _ (by omega)
    have hg3 : decide ((e : Int) ≤ (ahead : Int) + (bits : Int)) = false := by simp; omega
    have hm3 : decide (e ≤ ahead + bits) = false := by simp; omega
    go_quiet ((first | (go_at_call 34; exact Calls.quiet_of_same ((HF.out _).mono fun _ _ h => ⟨h.1, h.2.symm⟩)) | (go_at_call 35; exact Calls.quiet_of_same ((HE.out _).mono fun _ _ h => ⟨h.1, h.2.symm⟩))))
    have R2 := HR.out.drewN nq
    obtain ⟨W2, hW2⟩ : ∃ W2, W2 = W.drewN nq := ⟨_, rfl⟩
    rw [← hW2] at R2 ⊢
    clear hW2 HR x0 x1 x2 x3 y0 y1 y2 y3 z0 z1 z2 z3 z4 z5 z6 z7
    obtain ⟨⟨y0, y1, y2, y3⟩, y4, y5, y6, y7⟩ := cells4 R2.bw
    have HR := hid R2
    clear R2
    go_wp2_with fail
    refine (HF.out _).mono ?_
    rintro e' w1 ⟨rfl, rfl⟩
    by_cases h31 : f ≤ 31
    · obtain rfl : f = A := by have := HAf.out; omega
      clear HAf
      have g1 : decide ((31 : Int) < (f : Int)) = false := by simp; omega
      have g2 : decide (31 < f) = false := by simp; omega
      go_wp2_with fail
      have R3 := HR.out.set2 (f : Int)
      obtain ⟨W3, hW3⟩ : ∃ W3, W3 = W2.setCell ⟨w.heap.size + 1 + 1, 2, none⟩ (.int .i64 (f : Int)) := ⟨_, rfl⟩
      rw [← hW3] at R3 ⊢
      clear hW3
      clear y0 y1 y2 y3 y4 y5 y6 y7 HR
      obtain ⟨⟨y0, y1, y2, y3⟩, y4, y5, y6, y7⟩ := cells4 R3.bw
      have HR := hid R3
      clear R3
      have hk32 := hid (fun u => (World.cell?_setCell_other W3 ⟨w.heap.size + 1 + 1, 3, none⟩ ⟨w.heap.size + 1 + 1, 2, none⟩ u (by simp)).trans y2)
      go_region_held3 (fun w' => w'.cell? ⟨w.heap.size + 1 + 1, 2, none⟩ = some (.int .i64 (f : Int))) (first | exact hk32.out _ | go_keep) (first | (go_at_call 35; refine (HE.out _).mono ?_; rintro e' w' ⟨rfl, rfl⟩))
      have R4 := (HR.out.set3 (C : Int)).drew
      obtain ⟨W4, hW4⟩ : ∃ W4, W4 = (W3.setCell ⟨w.heap.size + 1 + 1, 3, none⟩ (.int .i64 (C : Int))).drew := ⟨_, rfl⟩
      rw [← hW4] at R4
      go_wp2_with fail
      rw [← hW4]
      clear hW4
      clear y0 y1 y2 y3 y4 y5 y6 y7 HR
      obtain ⟨⟨y0, y1, y2, y3⟩, y4, y5, y6, y7⟩ := cells4 R4.bw
      obtain ⟨⟨z0, z1, z2, z3⟩, z4, z5, z6, z7⟩ := cells4 R4.bz
      have HR := hid R4
      clear R4
      go_region_held3 (fun w' => w'.cell? ⟨w.heap.size + 1 + 1, 0, none⟩ = some (.int .u64 (v : Int)) ∧ w'.cell? ⟨w.heap.size + 1 + 1, 1, none⟩ = some (.int .i64 ((n : Int) + 1)) ∧ w'.cell? ⟨w.heap.size + 1 + 1, 2, none⟩ = some (.int .i64 (f : Int)) ∧ w'.cell? ⟨w.heap.size + 1 + 1, 3, none⟩ = some (.int .i64 (C : Int))) (go_keep)
        (first | (go_at_call 35; refine (HE.out _).mono ?_; rintro e' w' ⟨rfl, rfl⟩) | (go_at_call_of 33 ((5 : Int)); refine (H5.out _).mono ?_; rintro e' w' ⟨rfl, rfl⟩) | (go_at_call_of 33 ((6 : Int)); refine (H6.out _).mono ?_; rintro e' w' ⟨rfl, rfl⟩))
      go_wp2
      obtain ⟨k0, k1, k2, k3⟩ := set4_cells HR.out.bz (v : Int) ((n : Int) + 1) (f : Int) (C : Int)
      refine bodyPost_ret (v := putRes (⟨v, n + 1, f, C⟩, [true, true] ++ (bitsOf f 5 ++ (bitsOf C 6 ++ T)))) (by simp [results, Tryd.results19, go_sem, k0, k1, k2, k3]; rw [HC.out]; exact HT.out) rfl ⟨rfl, ?_⟩
      exact (set4_fr (p := w.heap.size + 1) HR.out.fr (fun h => absurd h (by omega))).drew
    · have hA31 := hid (show (31 : Int) = (A : Int) by have := HAf.out; omega)
      have g1 : decide ((31 : Int) < (f : Int)) = true := by simp; omega
      have g2 : decide (31 < f) = true := by simp; omega
      go_wp2_with fail
      have R3 := (HR.out.set2 (f : Int)).set2 31
      obtain ⟨W3, hW3⟩ : ∃ W3, W3 = (W2.setCell ⟨w.heap.size + 1 + 1, 2, none⟩ (.int .i64 (f : Int))).setCell ⟨w.heap.size + 1 + 1, 2, none⟩ (.int .i64 31) := ⟨_, rfl⟩
      rw [← hW3] at R3 ⊢
      clear hW3
      rw [hA31.out] at R3
      clear HAf
      clear y0 y1 y2 y3 y4 y5 y6 y7 HR
      obtain ⟨⟨y0, y1, y2, y3⟩, y4, y5, y6, y7⟩ := cells4 R3.bw
      have HR := hid R3
      clear R3
      have hk32 := hid (fun u => (World.cell?_setCell_other W3 ⟨w.heap.size + 1 + 1, 3, none⟩ ⟨w.heap.size + 1 + 1, 2, none⟩ u (by simp)).trans y2)
      go_region_held3 (fun w' => w'.cell? ⟨w.heap.size + 1 + 1, 2, none⟩ = some (.int .i64 (A : Int))) (first | exact hk32.out _ | go_keep) (first | (go_at_call 35; refine (HE.out _).mono ?_; rintro e' w' ⟨rfl, rfl⟩))
      have R4 := (HR.out.set3 (C : Int)).drew
      obtain ⟨W4, hW4⟩ : ∃ W4, W4 = (W3.setCell ⟨w.heap.size + 1 + 1, 3, none⟩ (.int .i64 (C : Int))).drew := ⟨_, rfl⟩
      rw [← hW4] at R4
      go_wp2_with fail
      rw [← hW4]
      clear hW4
      clear y0 y1 y2 y3 y4 y5 y6 y7 HR
      obtain ⟨⟨y0, y1, y2, y3⟩, y4, y5, y6, y7⟩ := cells4 R4.bw
      obtain ⟨⟨z0, z1, z2, z3⟩, z4, z5, z6, z7⟩ := cells4 R4.bz
      have HR := hid R4
      clear R4
      go_region_held3 (fun w' => w'.cell? ⟨w.heap.size + 1 + 1, 0, none⟩ = some (.int .u64 (v : Int)) ∧ w'.cell? ⟨w.heap.size + 1 + 1, 1, none⟩ = some (.int .i64 ((n : Int) + 1)) ∧ w'.cell? ⟨w.heap.size + 1 + 1, 2, none⟩ = some (.int .i64 (A : Int)) ∧ w'.cell? ⟨w.heap.size + 1 + 1, 3, none⟩ = some (.int .i64 (C : Int))) (go_keep)
        (first | (go_at_call 35; refine (HE.out _).mono ?_; rintro e' w' ⟨rfl, rfl⟩) | (go_at_call_of 33 ((5 : Int)); refine (H5.out _).mono ?_; rintro e' w' ⟨rfl, rfl⟩) | (go_at_call_of 33 ((6 : Int)); refine (H6.out _).mono ?_; rintro e' w' ⟨rfl, rfl⟩))
      go_wp2
      obtain ⟨k0, k1, k2, k3⟩ := set4_cells HR.out.bz (v : Int) ((n : Int) + 1) (A : Int) (C : Int)
      refine bodyPost_ret (v := putRes (⟨v, n + 1, A, C⟩, [true, true] ++ (bitsOf A 5 ++ (bitsOf C 6 ++ T)))) (by simp [results, Tryd.results19, go_sem, k0, k1, k2, k3]; rw [HC.out]; exact HT.out) rfl ⟨rfl, ?_⟩
      exact (set4_fr (p := w.heap.size + 1) HR.out.fr (fun h => absurd h (by omega))).drew
end Go.Proofs.YtlfcaigofakkoaaDoor
