/- The walk of the reference's Put of layer 5: the row and the text of one more. -/
import Derived.Test.YtlfcaigofakkoaaDoorXText
import Derived.Test.YtlfcaigofakkoaaDoorXPut
import Derived.Deep.RegionHeld3
namespace Go.Proofs.YtlfcaigofakkoaaDoor
open Go.RowKit Bt

theorem first_d (d : Nat) (h0 : d ≠ 0) (hd : d < 18446744073709551616) (w : World) :
    Calls Tryd.prog 34 #[.string (txt (bitsOf d 64))] w fun e w' => e = .returned (.int .i64 (lz d)) ∧ w = w' :=
  xfirst_any _ (lz d) (by rw [len_bitsOf]; decide) (by rw [len_bitsOf]; have := lz_spec d h0 hd; omega) (hid (first_false d h0 hd)) (hid (first_true d h0 hd)) w

theorem end_d (d e : Nat) (h0 : d ≠ 0) (hd : d < 18446744073709551616) (he : e = 64 - tz d) (w : World) :
    Calls Tryd.prog 35 #[.string (txt (bitsOf d 64))] w fun e' w' => e' = .returned (.int .i64 e) ∧ w = w' := by
  have h2 := (tz_spec d h0 hd).2
  have := xend_any (bitsOf d 64) (63 - tz d) (by rw [len_bitsOf]; decide) (by rw [len_bitsOf]; omega) (hid fun i h1 h2 => end_false d h0 hd i (by omega) (by rw [len_bitsOf] at h2; omega)) (hid (by rw [show 63 - tz d = 64 - tz d - 1 by omega]; exact end_true d h0 hd)) w
  rw [show 63 - tz d + 1 = e by omega] at this
  exact this

/-- What the reference's Put hands back. -/
abbrev putRes (p : XS × List Bool) : Value := .tuple #[.agg #[.int .u64 (p.1.last : Nat), .int .i64 (p.1.n : Nat), .int .i64 (p.1.ahead : Nat), .int .i64 (p.1.bits : Nat)], .string (txt p.2)]

/-- The block of a row of the reference. -/
abbrev rob (last n ahead bits : Int) : Obj := .cells #[.int .u64 last, .int .i64 n, .int .i64 ahead, .int .i64 bits] 45 (0, 0)

theorem cells4 {w : World} {p : Nat} {x y z u : Value} {T : TypeId} (h : w.heap[p]? = some (.cells #[x, y, z, u] T (0, 0))) :
    (w.cell? ⟨p, 0, none⟩ = some x ∧ w.cell? ⟨p, 1, none⟩ = some y ∧ w.cell? ⟨p, 2, none⟩ = some z ∧ w.cell? ⟨p, 3, none⟩ = some u) ∧ w.frozen? ⟨p, 0, none⟩ = false ∧ w.frozen? ⟨p, 1, none⟩ = false ∧ w.frozen? ⟨p, 2, none⟩ = false ∧ w.frozen? ⟨p, 3, none⟩ = false := by
  refine ⟨⟨?_, ?_, ?_, ?_⟩, ?_, ?_, ?_, ?_⟩
  · simp [World.cell?, h]
  · simp [World.cell?, h]
  · simp [World.cell?, h]
  · simp [World.cell?, h]
  · simp [World.frozen?, h]
  · simp [World.frozen?, h]
  · simp [World.frozen?, h]
  · simp [World.frozen?, h]

/-- The three blocks of a call: the row that came, the row that goes back, the row in the making. -/
structure RW (w W : World) (x z y : Obj) : Prop where
  fr : Fr (fun _ => False) w W
  bx : W.heap[w.heap.size]? = some x
  bz : W.heap[w.heap.size + 1]? = some z
  bw : W.heap[w.heap.size + 1 + 1]? = some y

theorem RW.made (w : World) (x z y : Obj) : RW w (((w.alloc x).alloc z).alloc y) x z y := by
  refine ⟨(((Fr.refl _ w).alloc _).alloc _).alloc _, ?_, ?_, ?_⟩
  · exact ((Fr.refl (fun _ => False) _).alloc z |>.alloc y).keep (heap_alloc_new w x) (fun h => h)
  · have := ((Fr.refl (fun _ => False) _).alloc y).keep (heap_alloc_new (w.alloc x) z) (fun h => h)
    simpa using this
  · have := heap_alloc_new ((w.alloc x).alloc z) y
    simpa using this

theorem RW.drew {w W : World} {x z y : Obj} (h : RW w W x z y) : RW w W.drew x z y := ⟨h.fr.drew, h.bx, h.bz, h.bw⟩

/-- Four cells are written: the end of a run that hands a row back. -/
abbrev set4 (w : World) (p : Nat) (a b c d : Int) : World := (((w.setCell ⟨p, 0, none⟩ (.int .u64 a)).setCell ⟨p, 1, none⟩ (.int .i64 b)).setCell ⟨p, 2, none⟩ (.int .i64 c)).setCell ⟨p, 3, none⟩ (.int .i64 d)

theorem set4_block {w : World} {p : Nat} {l n a b l' n' a' b' : Int} (h : w.heap[p]? = some (rob l n a b)) : (set4 w p l' n' a' b').heap[p]? = some (rob l' n' a' b') := by
  rw [set_block (set_block (set_block (set_block h _) _) _) _]
  simp

theorem set4_cells {w : World} {p : Nat} {l n a b : Int} (h : w.heap[p]? = some (rob l n a b)) (l' n' a' b' : Int) :
    (w.setCell ⟨p, 0, none⟩ (.int .u64 l')).cell? ⟨p, 0, none⟩ = some (.int .u64 l') ∧
    ((w.setCell ⟨p, 0, none⟩ (.int .u64 l')).setCell ⟨p, 1, none⟩ (.int .i64 n')).cell? ⟨p, 1, none⟩ = some (.int .i64 n') ∧
    (((w.setCell ⟨p, 0, none⟩ (.int .u64 l')).setCell ⟨p, 1, none⟩ (.int .i64 n')).setCell ⟨p, 2, none⟩ (.int .i64 a')).cell? ⟨p, 2, none⟩ = some (.int .i64 a') ∧
    ((((w.setCell ⟨p, 0, none⟩ (.int .u64 l')).setCell ⟨p, 1, none⟩ (.int .i64 n')).setCell ⟨p, 2, none⟩ (.int .i64 a')).setCell ⟨p, 3, none⟩ (.int .i64 b')).cell? ⟨p, 3, none⟩ = some (.int .i64 b') := by
  obtain ⟨⟨z0, z1, z2, z3⟩, -⟩ := cells4 h
  refine ⟨World.cell?_setCell_same _ _ _ z0, World.cell?_setCell_same _ _ _ ((World.cell?_setCell_other _ _ _ _ (by simp)).trans z1), World.cell?_setCell_same (u := .int .i64 a) _ _ _ ?_, World.cell?_setCell_same (u := .int .i64 b) _ _ _ ?_⟩
  · exact (World.cell?_setCell_other _ _ _ _ (by simp)).trans ((World.cell?_setCell_other _ _ _ _ (by simp)).trans z2)
  · exact (World.cell?_setCell_other _ _ _ _ (by simp)).trans ((World.cell?_setCell_other _ _ _ _ (by simp)).trans ((World.cell?_setCell_other _ _ _ _ (by simp)).trans z3))

theorem set4_fr {S : Nat → Prop} {w0 w : World} {p : Nat} {l n a b : Int} (h : Fr S w0 w) (hp : p < w0.heap.size → S p) : Fr S w0 (set4 w p l n a b) :=
  (((h.setCell _ _ hp).setCell _ _ hp).setCell _ _ hp).setCell _ _ hp

set_option maxHeartbeats 1000000 in
theorem rput_first (s : XS) (v : Nat) (hs : s.Ok) (hv : v < 18446744073709551616) (hn : s.n = 0) (w : World) :
    Calls Tryd.prog 19 #[.agg #[.int .u64 (s.last : Nat), .int .i64 (s.n : Nat), .int .i64 (s.ahead : Nat), .int .i64 (s.bits : Nat)], .int .u64 v] w fun e w' =>
      e = .returned (putRes (s.put v)) ∧ Fr (fun _ => False) w w' := by
  have hp : s.put v = (⟨v, s.n + 1, s.ahead, s.bits⟩, bitsOf v 64) := by unfold XS.put; rw [if_pos hn]
  rw [hp]
  have hxor := xor_int v s.last hv hs.last
  have hdlt := xor_lt v s.last hv hs.last
  obtain ⟨last, n, ahead, bits⟩ := s
  simp only at hn hxor hdlt hp
  subst hn
  have hl := hs.last
  have ha := hs.ahead
  have hw := hs.win
  simp only at hl ha hw
  clear hp hs
  go_enter Tryd.func19, Tryd.ntmps19
  go_wp2_with fail
  refine (number_any (v ^^^ last) 64 hdlt (by decide) _).mono ?_
  rintro e w1 ⟨rfl, rfl⟩
  go_wp2_with fail
  have R := RW.made w (rob last 0 ahead bits) (rob 0 0 0 0) (rob v 1 ahead bits)
  obtain ⟨W, hW⟩ : ∃ W, W = (((w.alloc (rob last 0 ahead bits)).alloc (rob 0 0 0 0)).alloc (rob v 1 ahead bits)) := ⟨_, rfl⟩
  rw [← hW] at R ⊢
  clear hW
  obtain ⟨⟨y0, y1, y2, y3⟩, -⟩ := cells4 R.bw
  obtain ⟨⟨z0, z1, z2, z3⟩, z4, z5, z6, z7⟩ := cells4 R.bz
  have HR := hid R
  clear R
  go_region_held3 (fun w' => w'.cell? ⟨w.heap.size + 1 + 1, 0, none⟩ = some (.int .u64 (v : Int)) ∧ w'.cell? ⟨w.heap.size + 1 + 1, 1, none⟩ = some (.int .i64 1) ∧ w'.cell? ⟨w.heap.size + 1 + 1, 2, none⟩ = some (.int .i64 (ahead : Int)) ∧ w'.cell? ⟨w.heap.size + 1 + 1, 3, none⟩ = some (.int .i64 (bits : Int))) (go_keep)
    (first | (go_at_call 33; refine (number_any v 64 hv (by decide) _).mono ?_; rintro e w' ⟨rfl, rfl⟩))
  go_wp2
  obtain ⟨k0, k1, k2, k3⟩ := set4_cells HR.out.bz (v : Int) 1 (ahead : Int) (bits : Int)
  refine bodyPost_ret (v := putRes (⟨v, 0 + 1, ahead, bits⟩, bitsOf v 64)) (by simp [results, Tryd.results19, go_sem, k0, k1, k2, k3]) rfl ⟨rfl, ?_⟩
  exact (set4_fr HR.out.fr (fun h => absurd h (by omega))).drew

/-- What each run of the reference's Put begins with. -/
theorem rput_same (s : XS) (v : Nat) (hs : s.Ok) (hv : v < 18446744073709551616) (hn : s.n ≠ 0) (hn1 : s.n < 1000000) (hd : v ^^^ s.last = 0) (w : World) :
    Calls Tryd.prog 19 #[.agg #[.int .u64 (s.last : Nat), .int .i64 (s.n : Nat), .int .i64 (s.ahead : Nat), .int .i64 (s.bits : Nat)], .int .u64 v] w fun e w' =>
      e = .returned (putRes (s.put v)) ∧ Fr (fun _ => False) w w' := by
  have hp : s.put v = (⟨v, s.n + 1, s.ahead, s.bits⟩, [false]) := by unfold XS.put; rw [if_neg hn, if_pos hd]
  rw [hp]
  have hxor := xor_int v s.last hv hs.last
  have hvl : v = s.last := by have := xor_back v s.last; rw [hd, Nat.xor_zero] at this; exact this.symm
  obtain ⟨last, n, ahead, bits⟩ := s
  simp only at hn hxor hd hp hvl hn1
  subst hvl
  have hl := hs.last
  have ha := hs.ahead
  have hw := hs.win
  simp only at hl ha hw
  rw [hd] at hxor
  clear hp hs
  go_enter Tryd.func19, Tryd.ntmps19
  go_wp2_with fail
  refine (number_any 0 64 (by decide) (by decide) _).mono ?_
  rintro e w1 ⟨rfl, rfl⟩
  go_wp2_with fail
  refine bodyPost_ret (v := putRes (⟨v, n + 1, ahead, bits⟩, [false])) (by simp [results, Tryd.results19, go_sem]; rfl) rfl ⟨rfl, ?_⟩
  exact (((Fr.refl _ w).alloc _).alloc _).alloc _

/-- A part of the text. -/
theorem txt_cut (l : List Bool) (i j : Nat) : (txt l).extract i j = txt ((l.drop i).take (j - i)) := by
  have h : ((txt l).extract i j).data.toList = (txt ((l.drop i).take (j - i))).data.toList := by
    simp [txt, ByteArray.data_extract, List.map_take, List.map_drop, List.extract_eq_take_drop]
  have h2 : ((txt l).extract i j).data = (txt ((l.drop i).take (j - i))).data := Array.toList_inj.1 h
  cases h3 : (txt l).extract i j
  cases h4 : txt ((l.drop i).take (j - i))
  rw [h3, h4] at h2
  exact congrArg ByteArray.mk h2

set_option maxHeartbeats 1000000 in
theorem rput_held (s : XS) (v : Nat) (hs : s.Ok) (hv : v < 18446744073709551616) (hn : s.n ≠ 0) (hn1 : s.n < 1000000) (hd : v ^^^ s.last ≠ 0) (hh : s.holds (v ^^^ s.last) = true) (w : World) :
    Calls Tryd.prog 19 #[.agg #[.int .u64 (s.last : Nat), .int .i64 (s.n : Nat), .int .i64 (s.ahead : Nat), .int .i64 (s.bits : Nat)], .int .u64 v] w fun e w' =>
      e = .returned (putRes (s.put v)) ∧ Fr (fun _ => False) w w' := by
  have hp : s.put v = (⟨v, s.n + 1, s.ahead, s.bits⟩, [true, false] ++ bitsOf ((v ^^^ s.last) / 2 ^ (64 - s.ahead - s.bits)) s.bits) := by unfold XS.put; rw [if_neg hn, if_neg hd, if_pos hh]
  rw [hp]
  have hxor := xor_int v s.last hv hs.last
  have hdlt := xor_lt v s.last hv hs.last
  have hvl : ((v : Int) == (s.last : Int)) = false := by
    rw [beq_eq_false_iff_ne]
    intro e
    exact hd (by rw [show v = s.last by omega, Nat.xor_self])
  obtain ⟨last, n, ahead, bits⟩ := s
  simp only at hn hxor hdlt hp hn1 hvl hd
  simp only [XS.holds, Bool.and_eq_true, decide_eq_true_eq] at hh
  have hl := hs.last
  have ha := hs.ahead
  have hw := hs.win
  simp only at hl ha hw
  clear hp hs
  generalize v ^^^ last = d at *
  have hlz := lz_tz d hd hdlt
  obtain ⟨f, hf⟩ : ∃ f, f = lz d := ⟨_, rfl⟩
  obtain ⟨e, he⟩ : ∃ e, e = 64 - tz d := ⟨_, rfl⟩
  have hfirst := fun w => first_d d hd hdlt w
  rw [← hf] at hfirst
  have hend := fun w => end_d d e hd hdlt he w
  have hg1 : decide ((0 : Int) < (bits : Int)) = true := by simp; omega
  have hg2 : decide ((ahead : Int) ≤ (f : Int)) = true := by simp; omega
  have hg3 : decide ((e : Int) ≤ (ahead : Int) + (bits : Int)) = true := by simp; omega
  have hm1 : decide (0 < bits) = true := by simp; omega
  have hm2 : decide (ahead ≤ f) = true := by simp; omega
  have hm3 : decide (e ≤ ahead + bits) = true := by simp; omega
  have hwr : IntKind.i64.wrap ((ahead : Int) + (bits : Int)) = (ahead : Int) + (bits : Int) := IntWalk.i64_in _ (by omega)
  have hcut : (txt (bitsOf d 64)).extract ahead (ahead + bits) = txt (bitsOf (d / 2 ^ (64 - ahead - bits)) bits) := by
    rw [txt_cut, Nat.add_sub_cancel_left, cut_bitsOf d 64 ahead bits hw]
  obtain ⟨D, hD⟩ : ∃ D, D = txt (bitsOf d 64) := ⟨_, rfl⟩
  have hDs : D.size = 64 := by rw [hD, len_txt, len_bitsOf]
  have hb1 : (0 : Int) ≤ (ahead : Int) := by omega
  have hb2 : (ahead : Int) ≤ (ahead : Int) + (bits : Int) := by omega
  have hb3 : (ahead : Int) + (bits : Int) ≤ 64 := by omega
  have hb4 : ahead + bits ≤ 64 := by omega
  have htn : ((ahead : Int) + (bits : Int)).toNat = ahead + bits := by omega
  have hs1 : (9223372036854775807 < 2 + (min (ahead + bits) 64 - ahead)) = False := by simp; omega
  have hs2 : (9223372036854775807 < 2 + (ahead + bits - ahead)) = False := by simp; omega
  have hs3 : (9223372036854775807 < 2 + bits) = False := by simp; omega
  have hnum := fun w => number_any d 64 hdlt (by decide) w
  rw [← hD] at hfirst hend hcut hnum
  have HF := hid hfirst
  have HE := hid hend
  have HN := hid hnum
  have HC := hid hcut
  clear hfirst hend hnum hcut hh hlz he hf hD
  go_enter Tryd.func19, Tryd.ntmps19
  go_wp2_with fail
  refine (HN.out _).mono ?_
  rintro e w1 ⟨rfl, rfl⟩
  go_wp2_with fail
  have R := RW.made w (rob last n ahead bits) (rob 0 0 0 0) (rob v (n + 1) ahead bits)
  obtain ⟨W, hW⟩ : ∃ W, W = (((w.alloc (rob last n ahead bits)).alloc (rob 0 0 0 0)).alloc (rob v (n + 1) ahead bits)) := ⟨_, rfl⟩
  rw [← hW] at R ⊢
  clear hW
  obtain ⟨⟨x0, x1, x2, x3⟩, -⟩ := cells4 R.bx
  obtain ⟨⟨y0, y1, y2, y3⟩, -⟩ := cells4 R.bw
  obtain ⟨⟨z0, z1, z2, z3⟩, z4, z5, z6, z7⟩ := cells4 R.bz
  have HR := hid R
  clear R
  go_region_held3 (fun w' => w'.cell? ⟨w.heap.size, 2, none⟩ = some (.int .i64 (ahead : Int)) ∧ w'.cell? ⟨w.heap.size, 3, none⟩ = some (.int .i64 (bits : Int))) (go_keep)
    (first | (go_at_call 34; refine (HF.out _).mono ?_; rintro e w' ⟨rfl, rfl⟩) | (go_at_call 35; refine (HE.out _).mono ?_; rintro e w' ⟨rfl, rfl⟩))
  go_wp2_with fail
  go_region_held3 (fun w' => (w'.cell? ⟨w.heap.size, 2, none⟩ = some (.int .i64 (ahead : Int)) ∧ w'.cell? ⟨w.heap.size, 3, none⟩ = some (.int .i64 (bits : Int))) ∧ w'.cell? ⟨w.heap.size + 1 + 1, 0, none⟩ = some (.int .u64 (v : Int)) ∧ w'.cell? ⟨w.heap.size + 1 + 1, 1, none⟩ = some (.int .i64 ((n : Int) + 1)) ∧ w'.cell? ⟨w.heap.size + 1 + 1, 2, none⟩ = some (.int .i64 (ahead : Int)) ∧ w'.cell? ⟨w.heap.size + 1 + 1, 3, none⟩ = some (.int .i64 (bits : Int))) (go_keep)
    (first | fail)
  all_goals go_wp2
  all_goals
    obtain ⟨k0, k1, k2, k3⟩ := set4_cells HR.out.bz (v : Int) ((n : Int) + 1) (ahead : Int) (bits : Int)
    refine bodyPost_ret (v := putRes (⟨v, n + 1, ahead, bits⟩, [true, false] ++ bitsOf (d / 2 ^ (64 - ahead - bits)) bits)) (by simp [results, Tryd.results19, go_sem, k0, k1, k2, k3]; rw [HC.out]; exact (txt_append [true, false] _).symm) rfl ⟨rfl, ?_⟩
    exact (set4_fr (p := w.heap.size + 1) HR.out.fr (fun h => absurd h (by omega))).drew.drew
end Go.Proofs.YtlfcaigofakkoaaDoor
