/- The walks of the xor row's Cost and of the law's own 'bits'. -/
import Derived.Test.YtlfcaigofakkoaaDoorXRef
namespace Go.Proofs.YtlfcaigofakkoaaDoor
open Go.RowKit Bt

section
variable {s : XS} {v : Nat}

theorem xcost_first (w : World) (B q : Nat) (hx : Xr w B q s) (hs : s.Ok) (hv : v < 18446744073709551616) (hn : s.n = 0) :
    Calls Tryd.prog 18 #[.pointer (some ⟨q, 0, none⟩), .int .u64 v] w fun e w' => e = .returned (.int .i64 64) ∧ Fr (fun _ => False) w w' := by
  have c0 := hx.c0
  have c1 := hx.c1
  have hlt := hx.lt
  have hxor := xor_int v s.last hv hs.last
  have hn0 : ((s.n : Int) == 0) = true := by rw [beq_iff_eq]; omega
  clear hx hs hn
  go_enter Tryd.func18, Tryd.ntmps18
  go_wp2_with fail
  go_ret
  exact ⟨rfl, Fr.refl _ _⟩

theorem xcost_same (w : World) (B q : Nat) (hx : Xr w B q s) (hs : s.Ok) (hv : v < 18446744073709551616) (hn : s.n ≠ 0) (hd : v ^^^ s.last = 0) :
    Calls Tryd.prog 18 #[.pointer (some ⟨q, 0, none⟩), .int .u64 v] w fun e w' => e = .returned (.int .i64 1) ∧ Fr (fun _ => False) w w' := by
  have c0 := hx.c0
  have c1 := hx.c1
  have c2 := hx.c2
  have c3 := hx.c3
  have hlt := hx.lt
  have hxor := xor_int v s.last hv hs.last
  rw [hd] at hxor
  have hn0 : ((s.n : Int) == 0) = false := by rw [beq_eq_false_iff_ne]; omega
  clear hx hs hn hd
  go_enter Tryd.func18, Tryd.ntmps18
  go_wp2_with fail
  go_ret
  exact ⟨rfl, Fr.refl _ _⟩

theorem xcost_held (w : World) (B q : Nat) (hx : Xr w B q s) (hs : s.Ok) (ht : Tab w) (hv : v < 18446744073709551616) (hn : s.n ≠ 0) (hd : v ^^^ s.last ≠ 0) (hh : s.holds (v ^^^ s.last) = true) :
    Calls Tryd.prog 18 #[.pointer (some ⟨q, 0, none⟩), .int .u64 v] w fun e w' => e = .returned (.int .i64 (2 + s.bits : Nat)) ∧ Fr (fun _ => False) w w' := by
  have c0 := hx.c0
  have c1 := hx.c1
  have c2 := hx.c2
  have c3 := hx.c3
  have hlt := hx.lt
  have hxor := xor_int v s.last hv hs.last
  have hdlt := xor_lt v s.last hv hs.last
  have hn0 : ((s.n : Int) == 0) = false := by rw [beq_eq_false_iff_ne]; omega
  have hd0 : (((v ^^^ s.last : Nat) : Int) == 0) = false := by rw [beq_eq_false_iff_ne]; omega
  have hw := hs.win
  have hwr : IntKind.i64.wrap (2 + (s.bits : Int)) = ((2 + s.bits : Nat) : Int) := by rw [Int.natCast_add]; exact IntWalk.i64_in _ (by omega)
  have hho := holds_any s hs _ hd hdlt w ht
  rw [hh] at hho
  have HX := hid hx
  have HH := hid hho
  clear hx hs hn hd hh hho
  go_enter Tryd.func18, Tryd.ntmps18
  go_wp2_with fail
  refine HH.out.mono ?_
  rintro e w1 ⟨rfl, hf⟩
  have c3 := (HX.out.keep hf (fun h => h)).c3
  go_wp2_with fail
  go_ret
  exact ⟨rfl, hf⟩

theorem xcost_new (w : World) (B q : Nat) (hx : Xr w B q s) (hs : s.Ok) (ht : Tab w) (hv : v < 18446744073709551616) (hn : s.n ≠ 0) (hd : v ^^^ s.last ≠ 0) (hh : s.holds (v ^^^ s.last) = false) :
    Calls Tryd.prog 18 #[.pointer (some ⟨q, 0, none⟩), .int .u64 v] w fun e w' => e = .returned (.int .i64 (13 + bitsOfWin (v ^^^ s.last) : Nat)) ∧ Fr (fun _ => False) w w' := by
  have c0 := hx.c0
  have c1 := hx.c1
  have c2 := hx.c2
  have c3 := hx.c3
  have hlt := hx.lt
  have hxor := xor_int v s.last hv hs.last
  have hdlt := xor_lt v s.last hv hs.last
  have hn0 : ((s.n : Int) == 0) = false := by rw [beq_eq_false_iff_ne]; omega
  have hd0 : (((v ^^^ s.last : Nat) : Int) == 0) = false := by rw [beq_eq_false_iff_ne]; omega
  have hw := win_of _ hd hdlt
  have hho := holds_any s hs _ hd hdlt w ht
  rw [hh] at hho
  have hof := fun W hW => of_any (v ^^^ s.last) hd hdlt W hW
  obtain ⟨C, hC⟩ : ∃ C, C = bitsOfWin (v ^^^ s.last) := ⟨_, rfl⟩
  rw [← hC] at hof hw ⊢
  obtain ⟨A, hA⟩ : ∃ A, A = aheadOf (v ^^^ s.last) := ⟨_, rfl⟩
  rw [← hA] at hof
  have hfd : ∀ w : World, (Instr.field 55 (.agg #[.int .i64 (A : Int), .int .i64 (C : Int)]) 1).run Tryd.prog w = .ok (.int .i64 (C : Int)) w := fun _ => by kernel_rfl
  have hwr : IntKind.i64.wrap (13 + (C : Int)) = ((13 + C : Nat) : Int) := by rw [Int.natCast_add]; exact IntWalk.i64_in _ (by omega)
  have HH := hid hho
  have HO := hid hof
  clear hx hs hn hd hh hho hof hC hw hA
  go_enter Tryd.func18, Tryd.ntmps18
  go_wp2_with fail
  refine HH.out.mono ?_
  rintro e w1 ⟨rfl, hf⟩
  have T1 := ht.keep hf (fun h => h)
  clear ht
  go_wp2_with fail
  refine (HO.out _ T1).mono ?_
  rintro e w2 ⟨rfl, hf2⟩
  go_wp2_with fail
  go_ret
  exact ⟨rfl, hf.trans hf2 (fun _ h _ => h)⟩

theorem xcost_any (w : World) (B q : Nat) (hx : Xr w B q s) (hs : s.Ok) (ht : Tab w) (hv : v < 18446744073709551616) :
    Calls Tryd.prog 18 #[.pointer (some ⟨q, 0, none⟩), .int .u64 v] w fun e w' => e = .returned (.int .i64 ((s.put v).2.length : Nat)) ∧ Fr (fun _ => False) w w' := by
  by_cases hn : s.n = 0
  · have hp : s.put v = (⟨v, s.n + 1, s.ahead, s.bits⟩, bitsOf v 64) := by unfold XS.put; rw [if_pos hn]
    rw [hp, len_bitsOf]
    exact xcost_first w B q hx hs hv hn
  · by_cases hd : v ^^^ s.last = 0
    · have hp : s.put v = (⟨v, s.n + 1, s.ahead, s.bits⟩, [false]) := by unfold XS.put; rw [if_neg hn, if_pos hd]
      rw [hp]
      exact xcost_same w B q hx hs hv hn hd
    · cases hh : s.holds (v ^^^ s.last) with
      | true =>
        have hp : s.put v = (⟨v, s.n + 1, s.ahead, s.bits⟩, [true, false] ++ bitsOf ((v ^^^ s.last) / 2 ^ (64 - s.ahead - s.bits)) s.bits) := by unfold XS.put; rw [if_neg hn, if_neg hd, if_pos hh]
        rw [hp, List.length_append, len_bitsOf]
        exact xcost_held w B q hx hs ht hv hn hd hh
      | false =>
        have hp : (s.put v).2.length = 13 + bitsOfWin (v ^^^ s.last) := by
          unfold XS.put
          rw [if_neg hn, if_neg hd, if_neg (by rw [hh]; decide)]
          simp only [List.length_append, len_bitsOf, List.length_cons, List.length_nil]
          omega
        rw [hp]
        exact xcost_new w B q hx hs ht hv hn hd hh

theorem bits_any (w0 w : World) (a : Nat) (r : Option Nat) (l : List Bool) (h : W1 w0 w a r l) (hl : l.length ≤ 4000000) :
    Calls Tryd.prog 20 #[.pointer (some ⟨a, 0, none⟩)] w fun e w' => e = .returned (.string (txt l)) ∧ Fr (fun _ => False) w w' := by
  have H := hid h
  clear h
  go_enter Tryd.func20, Tryd.ntmps20
  go_wp2_with fail
  refine (w1_bytes H.out (by omega)).mono ?_
  rintro e w1 ⟨ao, N, cap, rfl, h1, hb, hf1⟩
  have hcv := conv_bs hb
  have H1 := hid h1
  have F1 := hid hf1
  have htx := text_any (pack l) (pack_lt l) l.length (by rw [len_pack]; omega) (by rw [len_pack]; omega)
  rw [take_unpack_pack] at htx
  obtain ⟨S, hS⟩ : ∃ S, S = str (pack l) := ⟨_, rfl⟩
  have hsz : l.length ≤ 8 * S.size := by rw [hS, len_str, len_pack]; omega
  have hsz2 : S.size ≤ 500001 := by rw [hS, len_str, len_pack]; omega
  rw [← hS] at hcv htx
  have HT := hid htx
  clear h1 hb hf1 H htx hS
  go_wp2_with fail
  refine (w1_len H1.out).mono ?_
  rintro e w2 ⟨rfl, rfl⟩
  go_wp2_with fail
  refine (w1_len H1.out).mono ?_
  rintro e w2 ⟨rfl, rfl⟩
  have hm : IntKind.i64.wrap (8 * (S.size : Int)) = 8 * (S.size : Int) := IntWalk.i64_in _ (by omega)
  have hg : decide (8 * (S.size : Int) < (l.length : Int)) = false := by simp; omega
  go_wp2_with fail
  refine (w1_len H1.out).mono ?_
  rintro e w2 ⟨rfl, rfl⟩
  go_wp2_with fail
  refine (HT.out _).mono ?_
  rintro e w2 ⟨rfl, rfl⟩
  go_wp2
  go_ret
  exact ⟨rfl, F1.out⟩
end
end Go.Proofs.YtlfcaigofakkoaaDoor
