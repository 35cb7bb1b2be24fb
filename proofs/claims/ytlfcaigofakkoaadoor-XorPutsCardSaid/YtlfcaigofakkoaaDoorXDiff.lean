/- The walk of the xor row's differs, where what stands there was put. -/
import Derived.Test.YtlfcaigofakkoaaDoorXGet
namespace Go.Proofs.YtlfcaigofakkoaaDoor
open Go.RowKit Bt

/-- With a result's window at block p. -/
structure XD (w0 w : World) (a : Nat) (r : Option Nat) (pos : Nat) (l : List Bool) (q : Nat) (s : XS) (p : Nat) (x y : Int) : Prop where
  g : XG w0 w a r pos l q s
  blk : w.heap[p]? = some (.cells #[.int .i64 x, .int .i64 y] 55 (0, 0))
  pa : p ≠ a
  pr : r ≠ some p
  pq : p ≠ q
  p0 : w0.heap.size ≤ p

section
variable {w0 w w' : World} {a q pos p : Nat} {r : Option Nat} {l l3 : List Bool} {s : XS} {x y : Int}

theorem XD.made (h : XG w0 w a r pos l q s) : XD w0 (w.alloc (.cells #[.int .i64 x, .int .i64 y] 55)) a r pos l q s w.heap.size x y :=
  ⟨h.still ((Fr.refl _ _).alloc _), heap_alloc_new w _, by have := h.rd.lt; omega, fun e => Nat.lt_irrefl _ (h.rd.row_lt _ e).2, by have := h.xr.lt; omega, h.fr.size⟩
theorem XD.still (h : XD w0 w a r pos l q s p x y) (hf : Fr (fun _ => False) w w') : XD w0 w' a r pos l q s p x y := ⟨h.g.still hf, hf.keep h.blk (fun h => h), h.pa, h.pr, h.pq, h.p0⟩
theorem XD.read {pos' : Nat} {l' : List Bool} (h : XD w0 w a r pos l q s p x y) (hg : XG w0 w' a r pos' l' q s) (hf : Fr (fun k => k = a) w w') : XD w0 w' a r pos' l' q s p x y := ⟨hg, hf.keep h.blk h.pa, h.pa, h.pr, h.pq, h.p0⟩

theorem xd_bit {b : Bool} (h : XD w0 w a r pos (b :: l) q s p x y) (ht : 0 < w0.heap.size) :
    Calls Tryd.prog 40 #[.pointer (some ⟨a, 0, none⟩)] w fun e w' => e = .returned (.bool b) ∧ XD w0 w' a r (pos + 1) l q s p x y ∧ Fr (fun k => k = a) w w' :=
  (xg_bit h.g ht).mono fun _ _ ⟨he, hg, hf⟩ => ⟨he, h.read hg hf, hf⟩

theorem xd_get {d : List Bool} {n z : Nat} (h : XD w0 w a r pos (d ++ l3) q s p x y) (ht : 0 < w0.heap.size) (h1 : 1 ≤ n) (h64 : n ≤ 64) (hd : Hid (d.length = n ∧ bval d = z)) :
    Calls Tryd.prog 30 #[.pointer (some ⟨a, 0, none⟩), .int .i64 n] w fun e w' => e = .returned (.int .u64 z) ∧ XD w0 w' a r (pos + n) l3 q s p x y ∧ Fr (fun k => k = a) w w' :=
  (xg_get h.g ht h1 h64 hd).mono fun _ _ ⟨he, hg, hf⟩ => ⟨he, h.read hg hf, hf⟩

theorem xd_told (A C : Nat) (hA : A ≤ 31) (hC : 1 ≤ C) (hAC : A + C ≤ 64) (h : XD w0 w a r pos (bitsOf A 5 ++ (bitsOf (C % 64) 6 ++ l3)) q s p x y) (ht : 0 < w0.heap.size) :
    Calls Tryd.prog 41 #[.pointer (some ⟨a, 0, none⟩)] w fun e w' => e = .returned (.tuple #[.agg #[.int .i64 A, .int .i64 C], .bool true]) ∧ XD w0 w' a r (pos + 5 + 6) l3 q s p x y ∧ Fr (fun k => k = a) w w' :=
  (told_any A C hA hC hAC h.g ht).mono fun _ _ ⟨he, hg, hf⟩ => ⟨he, h.read hg hf, hf⟩

/-- The result's window is written: the end of a run. -/
theorem XD.set (h : XD w0 w a r pos l q s p x y) (ht : 0 < w0.heap.size) (u v : Value) : XG w0 ((w.setCell ⟨p, 0, none⟩ u).setCell ⟨p, 1, none⟩ v) a r pos l q s :=
  h.g.other ht h.p0 h.pa h.pr h.pq (((Fr.refl (fun k => k = p) w).setCell _ _ (fun _ => rfl)).setCell _ _ (fun _ => rfl))

/-- What the result's cells hold behind the stores. -/
theorem XD.res (h : XD w0 w a r pos l q s p x y) (u v : Value) : (w.setCell ⟨p, 0, none⟩ u).cell? ⟨p, 0, none⟩ = some u ∧ ((w.setCell ⟨p, 0, none⟩ u).setCell ⟨p, 1, none⟩ v).cell? ⟨p, 1, none⟩ = some v := by
  obtain ⟨z0, z1, _, _⟩ := cells2 h.blk
  exact ⟨World.cell?_setCell_same _ _ _ z0, World.cell?_setCell_same _ _ _ ((World.cell?_setCell_other _ _ _ _ (by simp)).trans z1)⟩

set_option maxHeartbeats 1000000 in
theorem differs_same (h : XG w0 w a r pos (false :: l) q s) (ht : 0 < w0.heap.size) :
    Calls Tryd.prog 31 #[.pointer (some ⟨q, 0, none⟩), .pointer (some ⟨a, 0, none⟩)] w fun e w' =>
      e = .returned (.tuple #[.int .u64 0, .agg #[.int .i64 (s.ahead : Nat), .int .i64 (s.bits : Nat)], .bool true]) ∧ XG w0 w' a r (pos + 1) l q s ∧ Fr (fun k => k = a) w w' := by
  have H0 := hid (XD.made (x := 0) (y := 0) h)
  clear h
  go_enter Tryd.func31, Tryd.ntmps31
  go_wp2_with fail
  refine (xd_bit H0.out ht).mono ?_
  rintro e w1 ⟨rfl, h1, hf1⟩
  have c2 := h1.g.xr.c2
  have c3 := h1.g.xr.c3
  obtain ⟨z0, z1, z2, z3⟩ := cells2 h1.blk
  have hne : w.heap.size ≠ q := h1.pq
  have hlt := block_lt h1.blk
  have H1 := hid h1
  have F1 := hid hf1
  clear h1 hf1
  go_wp2_with fail
  go_region
  all_goals go_wp2
  obtain ⟨k0, k1⟩ := H1.out.res (.int .i64 (s.ahead : Int)) (.int .i64 (s.bits : Int))
  refine bodyPost_ret (v := .tuple #[.int .u64 0, .agg #[.int .i64 (s.ahead : Nat), .int .i64 (s.bits : Nat)], .bool true]) (by simp [results, Tryd.results31, go_sem, k0, k1]) rfl ⟨rfl, ?_, ?_⟩
  · exact (H1.out.set ht (.int .i64 (s.ahead : Int)) (.int .i64 (s.bits : Int))).still (Fr.refl _ _).drew
  · exact (((((Fr.refl (fun k => k = a) w).alloc _).trans F1.out (fun _ h _ => h)).setCell _ _ (fun h => by simp at h)).setCell _ _ (fun h => by simp at h)).drew

theorem xd_getval {C d z : Nat} (h : XD w0 w a r pos (bitsOf (d / 2 ^ z) C ++ l3) q s p x y) (ht : 0 < w0.heap.size) (h1 : 1 ≤ C) (h64 : C ≤ 64) (hd : d / 2 ^ z < 2 ^ C) :
    Calls Tryd.prog 30 #[.pointer (some ⟨a, 0, none⟩), .int .i64 C] w fun e w' => e = .returned (.int .u64 (d / 2 ^ z : Nat)) ∧ XD w0 w' a r (pos + C) l3 q s p x y ∧ Fr (fun k => k = a) w w' :=
  xd_get h ht h1 h64 (hid ⟨len_bitsOf _ _, bval_small _ _ hd⟩)

theorem shl_back (d z : Nat) (hd : d < 18446744073709551616) (h : d / 2 ^ z * 2 ^ z = d) : IntKind.u64.wrap ((d : Int) / 2 ^ z * 2 ^ z) = (d : Int) := by
  have e : ((d : Int) / 2 ^ z * 2 ^ z) = ((d / 2 ^ z * 2 ^ z : Nat) : Int) := by rw [Int.natCast_mul, Int.natCast_ediv, Int.natCast_pow]; rfl
  rw [e, h, IntKind.wrap_u64]
  omega

set_option maxHeartbeats 1000000 in
theorem differs_held (d : Nat) (h0 : d ≠ 0) (hd : d < 18446744073709551616) (hh : s.holds d = true) (h : XG w0 w a r pos (true :: false :: (bitsOf (d / 2 ^ (64 - s.ahead - s.bits)) s.bits ++ l)) q s) (ht : 0 < w0.heap.size) :
    Calls Tryd.prog 31 #[.pointer (some ⟨q, 0, none⟩), .pointer (some ⟨a, 0, none⟩)] w fun e w' =>
      e = .returned (.tuple #[.int .u64 d, .agg #[.int .i64 (s.ahead : Nat), .int .i64 (s.bits : Nat)], .bool true]) ∧ XG w0 w' a r (pos + 1 + 1 + s.bits) l q s ∧ Fr (fun k => k = a) w w' := by
  have hwin := h.ok.win
  have hb : 1 ≤ s.bits ∧ s.ahead ≤ lz d ∧ 64 - s.ahead - s.bits ≤ tz d := by
    simp only [XS.holds, Bool.and_eq_true, decide_eq_true_eq] at hh
    omega
  obtain ⟨hb1, hal, hbt⟩ := hb
  have hb2 : s.bits ≤ 64 := by omega
  obtain ⟨hc1, hc2⟩ := cut_back d s.ahead s.bits (64 - s.ahead - s.bits) h0 hd hal hbt (by omega)
  have hshl := shl_back d _ hd hc2
  have hd1 : ((d : Int) != 0) = true := by rw [bne_iff_ne]; omega
  have HC := hid hc1
  have H0 := hid (XD.made (x := 0) (y := 0) h)
  clear h hh hc1 hc2 hal hbt
  go_enter Tryd.func31, Tryd.ntmps31
  go_wp2_with fail
  refine (xd_bit H0.out ht).mono ?_
  rintro e w1 ⟨rfl, h1, hf1⟩
  have H1 := hid h1
  have F1 := hid hf1
  clear h1 hf1
  go_wp2_with fail
  refine (xd_bit H1.out ht).mono ?_
  rintro e w2 ⟨rfl, h2, hf2⟩
  have c2 := h2.g.xr.c2
  have c3 := h2.g.xr.c3
  have hx := h2.still (Fr.refl _ _).drew
  have hfr : Fr (fun k => k = a) w w2.drew := ((((Fr.refl (fun k => k = a) w).alloc _).trans F1.out (fun _ h _ => h)).trans hf2 (fun _ h _ => h)).drew
  have HFR := hid hfr
  clear h2 hf2 hfr
  go_wp2_with fail
  go_region_held3 (fun w' => w'.cell? ⟨q, 2, none⟩ = some (.int .i64 (s.ahead : Nat)) ∧ w'.cell? ⟨q, 3, none⟩ = some (.int .i64 (s.bits : Nat))) (go_keep)
    (first | (go_at_call 26; refine (behind_any s.ahead s.bits hwin _).mono ?_; rintro e w' ⟨rfl, hf⟩; have hx := hx.still hf; have d1 := hx.g.xr.c2; have d2 := hx.g.xr.c3; have hfr := HFR.out.trans hf (fun _ h _ => h.elim); have HFR := hid hfr; clear hfr) | (go_at_call 30; refine (xd_getval hx ht hb1 hb2 HC.out).mono ?_; rintro e w' ⟨rfl, hx, hf⟩; have d1 := hx.g.xr.c2; have d2 := hx.g.xr.c3; have hfr := HFR.out.trans hf (fun _ h _ => h); have HFR := hid hfr; clear hfr))
  obtain ⟨z0, z1, z2, z3⟩ := cells2 hx.blk
  have hne : w.heap.size ≠ q := hx.pq
  have hb3 : decide ((0 : Int) < (s.bits : Int)) = true := by simp; omega
  have HX := hid hx
  clear hx
  have g2 := HX.out.g.xr.c2
  have g3 := HX.out.g.xr.c3
  go_wp2_with fail
  go_region_held3 (fun w' => w'.cell? ⟨q, 2, none⟩ = some (.int .i64 (s.ahead : Nat)) ∧ w'.cell? ⟨q, 3, none⟩ = some (.int .i64 (s.bits : Nat))) (go_keep) (first | fail)
  all_goals go_wp2
  have hbp : 0 < s.bits := hb1
  obtain ⟨k0, k1⟩ := HX.out.res (.int .i64 (s.ahead : Int)) (.int .i64 (s.bits : Int))
  refine bodyPost_ret (v := .tuple #[.int .u64 (d : Int), .agg #[.int .i64 (s.ahead : Nat), .int .i64 (s.bits : Nat)], .bool true]) (by simp [results, Tryd.results31, go_sem, k0, k1, hbp]) rfl ⟨rfl, ?_, ?_⟩
  · exact (HX.out.set ht (.int .i64 (s.ahead : Int)) (.int .i64 (s.bits : Int))).still (Fr.refl _ _).drew
  · exact ((HFR.out.setCell _ _ (fun h => by simp at h)).setCell _ _ (fun h => by simp at h)).drew

theorem holds_no (s : XS) (hs : s.Ok) (d : Nat) (h0 : d ≠ 0) (hd : d < 18446744073709551616) (hh : s.holds d = false) (w : World) (ht : Tab w) :
    Calls Tryd.prog 25 #[.agg #[.int .i64 s.ahead, .int .i64 s.bits], .int .u64 d] w fun e w' => e = .returned (.bool false) ∧ Fr (fun _ => False) w w' := by
  have := holds_any s hs d h0 hd w ht
  rw [hh] at this
  exact this

set_option maxHeartbeats 2000000 in
theorem differs_new (d : Nat) (h0 : d ≠ 0) (hd : d < 18446744073709551616) (hh : s.holds d = false)
    (h : XG w0 w a r pos (true :: true :: (bitsOf (aheadOf d) 5 ++ (bitsOf (bitsOfWin d % 64) 6 ++ (bitsOf (d / 2 ^ tz d) (bitsOfWin d) ++ l)))) q s) (ht : 0 < w0.heap.size) :
    Calls Tryd.prog 31 #[.pointer (some ⟨q, 0, none⟩), .pointer (some ⟨a, 0, none⟩)] w fun e w' =>
      e = .returned (.tuple #[.int .u64 d, .agg #[.int .i64 (aheadOf d : Nat), .int .i64 (bitsOfWin d : Nat)], .bool true]) ∧ XG w0 w' a r (pos + 1 + 1 + 5 + 6 + bitsOfWin d) l q s ∧ Fr (fun k => k = a) w w' := by
  have hwin := win_of d h0 hd
  have htz : tz d = 64 - aheadOf d - bitsOfWin d := by omega
  rw [htz] at h
  obtain ⟨hc1, hc2⟩ := cut_back d (aheadOf d) (bitsOfWin d) (64 - aheadOf d - bitsOfWin d) h0 hd hwin.2.2.1 (by omega) (by omega)
  obtain ⟨A, hA⟩ : ∃ A, A = aheadOf d := ⟨_, rfl⟩
  obtain ⟨C, hC⟩ : ∃ C, C = bitsOfWin d := ⟨_, rfl⟩
  have hof := fun W hW => of_any d h0 hd W hW
  rw [← hA, ← hC] at hof hwin h hc1 hc2 ⊢
  have hA1 : A ≤ 31 := hwin.2.2.2
  have hC1 : 1 ≤ C := hwin.1
  have hAC : A + C ≤ 64 := by omega
  have hC2 : C ≤ 64 := by omega
  have hshl := shl_back d _ hd hc2
  have hd1 : ((d : Int) != 0) = true := by rw [bne_iff_ne]; omega
  have HC := hid hc1
  have HD0 := hid h0
  have HH := hid (And.intro hh h.ok)
  have HF := hid hof
  have H0 := hid (XD.made (x := 0) (y := 0) h)
  clear h hh hc1 hc2 hwin hA hC hof htz h0
  go_enter Tryd.func31, Tryd.ntmps31
  go_wp2_with fail
  refine (xd_bit H0.out ht).mono ?_
  rintro e w1 ⟨rfl, h1, hf1⟩
  have H1 := hid h1
  have F1 := hid hf1
  clear h1 hf1
  go_wp2_with fail
  refine (xd_bit H1.out ht).mono ?_
  rintro e w2 ⟨rfl, h2, hf2⟩
  have H2 := hid h2
  have F2 := hid hf2
  clear h2 hf2
  go_wp2_with fail
  refine (xd_told A C hA1 hC1 hAC H2.out ht).mono ?_
  rintro e w3 ⟨rfl, h3, hf3⟩
  have hx := h3.still (((Fr.refl (fun _ => False) w3).alloc (.cells #[.int .i64 (A : Int), .int .i64 (C : Int)] 55)).drew)
  have hfr : Fr (fun k => k = a) w (w3.alloc (.cells #[.int .i64 (A : Int), .int .i64 (C : Int)] 55)).drew := ((((((Fr.refl (fun k => k = a) w).alloc _).trans F1.out (fun _ h _ => h)).trans F2.out (fun _ h _ => h)).trans hf3 (fun _ h _ => h)).alloc _).drew
  have HFR := hid hfr
  have hw8 : w3.heap.size ≠ a := by have := h3.g.rd.lt; omega
  have hw9 : (w3.alloc (.cells #[.int .i64 (A : Int), .int .i64 (C : Int)] 55)).drew.heap[w3.heap.size]? = some (.cells #[.int .i64 (A : Int), .int .i64 (C : Int)] 55 (0, 0)) := heap_alloc_new w3 _
  have HB8 := hid hw9
  have hw7 : w3.heap.size ≠ w.heap.size := by have := block_lt h3.blk; omega
  clear h3 hf3 hfr hw9
  go_wp2_with fail
  go_region_held3 (fun w' => w'.cell? ⟨w3.heap.size, 0, none⟩ = some (.int .i64 (A : Nat)) ∧ w'.cell? ⟨w3.heap.size, 1, none⟩ = some (.int .i64 (C : Nat))) (go_keep)
    (first | (go_at_call 26; refine (behind_any A C hAC _).mono ?_; rintro e w' ⟨rfl, hf⟩; have hx := hx.still hf; have hb8 := hf.keep HB8.out (fun h => h); obtain ⟨d1, d2, _, _⟩ := cells2 hb8; have HB8 := hid hb8; have hfr := HFR.out.trans hf (fun _ h _ => h.elim); have HFR := hid hfr; clear hfr hb8) | (go_at_call 30; refine (xd_getval hx ht hC1 hC2 HC.out).mono ?_; rintro e w' ⟨rfl, hx, hf⟩; have hb8 := hf.keep HB8.out hw8; obtain ⟨d1, d2, _, _⟩ := cells2 hb8; have HB8 := hid hb8; have hfr := HFR.out.trans hf (fun _ h _ => h); have HFR := hid hfr; clear hfr hb8))
  have hx := hx.still (Fr.refl (fun _ => False) w').drew
  obtain ⟨z0, z1, z2, z3⟩ := cells2 hx.blk
  obtain ⟨d1, d2, _, _⟩ := cells2 HB8.out
  have c2 := hx.g.xr.c2
  have c3 := hx.g.xr.c3
  have hne1 : w.heap.size ≠ q := hx.pq
  have hne2 : w.heap.size ≠ w3.heap.size := fun e => hw7 e.symm
  go_wp2_with fail
  go_region_held3 (fun w' => (w'.cell? ⟨w3.heap.size, 0, none⟩ = some (.int .i64 (A : Nat)) ∧ w'.cell? ⟨w3.heap.size, 1, none⟩ = some (.int .i64 (C : Nat))) ∧ w'.cell? ⟨q, 2, none⟩ = some (.int .i64 (s.ahead : Nat)) ∧ w'.cell? ⟨q, 3, none⟩ = some (.int .i64 (s.bits : Nat))) (go_keep)
    (first | (go_at_call 27; refine (HF.out _ hx.g.tab).mono ?_; rintro e w' ⟨rfl, hf⟩; have hx := hx.still hf; have hb8 := hf.keep HB8.out (fun h => h); obtain ⟨d1, d2, _, _⟩ := cells2 hb8; have HB8 := hid hb8; have hfr := HFR.out.drew.trans hf (fun _ h _ => h.elim); have HFR := hid hfr; clear hfr hb8; obtain ⟨z0, z1, z2, z3⟩ := cells2 hx.blk; have c2 := hx.g.xr.c2; have c3 := hx.g.xr.c3) | (go_at_call 25; refine (holds_no s HH.out.2 d HD0.out hd HH.out.1 _ hx.g.tab).mono ?_; rintro e w' ⟨rfl, hf⟩; have hx := hx.still hf; have hb8 := hf.keep HB8.out (fun h => h); obtain ⟨d1, d2, _, _⟩ := cells2 hb8; have HB8 := hid hb8; have hfr := HFR.out.trans hf (fun _ h _ => h.elim); have HFR := hid hfr; clear hfr hb8; obtain ⟨z0, z1, z2, z3⟩ := cells2 hx.blk; have c2 := hx.g.xr.c2; have c3 := hx.g.xr.c3))
  have HX := hid hx
  clear hx
  all_goals go_wp2
  obtain ⟨k0, k1⟩ := HX.out.res (.int .i64 (A : Int)) (.int .i64 (C : Int))
  refine bodyPost_ret (v := .tuple #[.int .u64 (d : Int), .agg #[.int .i64 (A : Nat), .int .i64 (C : Nat)], .bool true]) (by simp [results, Tryd.results31, go_sem, k0, k1]) rfl ⟨rfl, ?_, ?_⟩
  · exact HX.out.set ht (.int .i64 (A : Int)) (.int .i64 (C : Int))
  · exact (HFR.out.setCell _ _ (fun h => by simp at h)).setCell _ _ (fun h => by simp at h)

/-- differs, where what stands there is what Put puts. -/
theorem differs_any (v : Nat) (hv : v < 18446744073709551616) (hn : s.n ≠ 0) (h : XG w0 w a r pos ((s.put v).2 ++ l3) q s) (ht : 0 < w0.heap.size) :
    Calls Tryd.prog 31 #[.pointer (some ⟨q, 0, none⟩), .pointer (some ⟨a, 0, none⟩)] w fun e w' =>
      e = .returned (.tuple #[.int .u64 (v ^^^ s.last : Nat), .agg #[.int .i64 ((s.put v).1.ahead : Nat), .int .i64 ((s.put v).1.bits : Nat)], .bool true]) ∧ (∃ pos', XG w0 w' a r pos' l3 q s) ∧ Fr (fun k => k = a) w w' := by
  have hdlt := xor_lt v s.last hv h.ok.last
  by_cases hd : v ^^^ s.last = 0
  · have hp : s.put v = (⟨v, s.n + 1, s.ahead, s.bits⟩, [false]) := by unfold XS.put; rw [if_neg hn, if_pos hd]
    rw [hp] at h ⊢
    rw [hd]
    exact (differs_same h ht).mono fun _ _ ⟨he, hg, hf⟩ => ⟨he, ⟨_, hg⟩, hf⟩
  · cases hh : s.holds (v ^^^ s.last) with
    | true =>
      have hp : s.put v = (⟨v, s.n + 1, s.ahead, s.bits⟩, [true, false] ++ bitsOf ((v ^^^ s.last) / 2 ^ (64 - s.ahead - s.bits)) s.bits) := by unfold XS.put; rw [if_neg hn, if_neg hd, if_pos hh]
      rw [hp] at h ⊢
      exact (differs_held _ hd hdlt hh h ht).mono fun _ _ ⟨he, hg, hf⟩ => ⟨he, ⟨_, hg⟩, hf⟩
    | false =>
      have hp : s.put v = (⟨v, s.n + 1, aheadOf (v ^^^ s.last), bitsOfWin (v ^^^ s.last)⟩, [true, true] ++ (bitsOf (aheadOf (v ^^^ s.last)) 5 ++ (bitsOf (bitsOfWin (v ^^^ s.last) % 64) 6 ++ bitsOf ((v ^^^ s.last) / 2 ^ (tz (v ^^^ s.last))) (bitsOfWin (v ^^^ s.last))))) := by
        unfold XS.put; rw [if_neg hn, if_neg hd, if_neg (by rw [hh]; decide)]
      rw [hp] at h ⊢
      have h' : XG w0 w a r pos (true :: true :: (bitsOf (aheadOf (v ^^^ s.last)) 5 ++ (bitsOf (bitsOfWin (v ^^^ s.last) % 64) 6 ++ (bitsOf ((v ^^^ s.last) / 2 ^ (tz (v ^^^ s.last))) (bitsOfWin (v ^^^ s.last)) ++ l3)))) q s := by simpa only [List.append_assoc, List.cons_append, List.nil_append] using h
      exact (differs_new (pos := pos) (l := l3) _ hd hdlt hh h' ht).mono fun _ _ ⟨he, hg, hf⟩ => ⟨he, ⟨_, hg⟩, hf⟩

theorem xg_take {v A C : Nat} (h : XG w0 w a r pos l q s) (ht : 0 < w0.heap.size) (hn : s.n < 1000000) (hok : XS.Ok ⟨v, s.n + 1, A, C⟩) :
    Calls Tryd.prog 28 #[.pointer (some ⟨q, 0, none⟩), .int .u64 v, .agg #[.int .i64 A, .int .i64 C]] w fun e w' => e = .returned (.tuple #[]) ∧ XG w0 w' a r pos l q ⟨v, s.n + 1, A, C⟩ ∧ Fr (fun k => k = q) w w' :=
  (xtake_any w _ q s h.xr hn v A C).mono fun _ _ ⟨he, hx, hf⟩ => ⟨he, h.took ht hx hok hf, hf⟩

end
end Go.Proofs.YtlfcaigofakkoaaDoor
