/- The walks of the xor row's reading: told, differs, Get, where what stands there was put. -/
import Derived.Test.YtlfcaigofakkoaaDoorXPut
namespace Go.Proofs.YtlfcaigofakkoaaDoor
open Go.RowKit Bt

/-- The run began in w0: a reader and a row of its own, apart; the library's table reads as it was laid. -/
structure XG (w0 w : World) (a : Nat) (r : Option Nat) (pos : Nat) (l : List Bool) (q : Nat) (s : XS) : Prop where
  fr : Fr (fun _ => False) w0 w
  rd : Rd w w0.heap.size a r pos l false
  xr : Xr w w0.heap.size q s
  qa : q ≠ a
  qr : r ≠ some q
  tab : Tab w
  ok : s.Ok

section
variable {w0 w w' : World} {a q pos : Nat} {r : Option Nat} {l l3 : List Bool} {s : XS}

theorem XG.still (h : XG w0 w a r pos l q s) (hf : Fr (fun _ => False) w w') : XG w0 w' a r pos l q s :=
  ⟨h.fr.trans hf (fun _ h _ => h), h.rd.still hf, h.xr.keep hf (fun h => h), h.qa, h.qr, h.tab.keep hf (fun h => h), h.ok⟩

theorem XG.pos0 (h : XG w0 w a r pos l q s) (ht : 0 < w0.heap.size) : 0 ≠ a ∧ 0 ≠ q := ⟨by have := h.rd.1; omega, by have := h.xr.1; omega⟩

theorem XG.read {pos' : Nat} {l' : List Bool} (h : XG w0 w a r pos l q s) (ht : 0 < w0.heap.size) (hr : Rd w' w0.heap.size a r pos' l' false) (hf : Fr (fun k => k = a) w w') : XG w0 w' a r pos' l' q s :=
  ⟨h.rd.own h.fr hf (Nat.le_refl _), hr, h.xr.keep hf h.qa, h.qa, h.qr, h.tab.keep hf (h.pos0 ht).1, h.ok⟩

theorem XG.took {s' : XS} (h : XG w0 w a r pos l q s) (ht : 0 < w0.heap.size) (hx : Xr w' w0.heap.size q s') (hok : s'.Ok) (hf : Fr (fun k => k = q) w w') : XG w0 w' a r pos l q s' :=
  ⟨h.fr.own hf (fun i hi => by subst hi; exact h.xr.1), h.rd.keep hf (fun e => h.qa e.symm) (fun k hk e => h.qr (by rw [hk, e])), hx, h.qa, h.qr, h.tab.keep hf (h.pos0 ht).2, hok⟩

theorem xg_get {d : List Bool} {n x : Nat} (h : XG w0 w a r pos (d ++ l3) q s) (ht : 0 < w0.heap.size) (h1 : 1 ≤ n) (h64 : n ≤ 64) (hd : Hid (d.length = n ∧ bval d = x)) :
    Calls Tryd.prog 30 #[.pointer (some ⟨a, 0, none⟩), .int .i64 n] w fun e w' => e = .returned (.int .u64 x) ∧ XG w0 w' a r (pos + n) l3 q s ∧ Fr (fun k => k = a) w w' := by
  obtain ⟨e2, e3⟩ := hd.out
  have hr := h.rd
  refine (get_yes w _ a r pos _ false n h1 h64 (by rw [List.length_append]; omega) hr).mono ?_
  rintro e w' ⟨rfl, hr', hf⟩
  rw [show (d ++ l3).take n = d by rw [← e2]; exact List.take_left' rfl, e3]
  rw [show (d ++ l3).drop n = l3 by rw [← e2]; exact List.drop_left' rfl] at hr'
  exact ⟨rfl, h.read ht hr' hf, hf⟩

theorem xg_bit {b : Bool} (h : XG w0 w a r pos (b :: l) q s) (ht : 0 < w0.heap.size) :
    Calls Tryd.prog 40 #[.pointer (some ⟨a, 0, none⟩)] w fun e w' => e = .returned (.bool b) ∧ XG w0 w' a r (pos + 1) l q s ∧ Fr (fun k => k = a) w w' :=
  (rbit_yes w _ a r pos b l false h.rd).mono fun _ _ ⟨he, hr, hf⟩ => ⟨he, h.read ht hr hf, hf⟩

theorem xg_short (h : XG w0 w a r pos l q s) : Calls Tryd.prog 32 #[.pointer (some ⟨a, 0, none⟩)] w fun e w' => e = .returned (.bool false) ∧ w = w' := short_any w _ a r pos l false h.rd

theorem cells2 {w : World} {p : Nat} {x y : Value} {T : TypeId} (h : w.heap[p]? = some (.cells #[x, y] T (0, 0))) :
    w.cell? ⟨p, 0, none⟩ = some x ∧ w.cell? ⟨p, 1, none⟩ = some y ∧ w.frozen? ⟨p, 0, none⟩ = false ∧ w.frozen? ⟨p, 1, none⟩ = false := by
  refine ⟨?_, ?_, ?_, ?_⟩
  · simp [World.cell?, h]
  · simp [World.cell?, h]
  · simp [World.frozen?, h]
  · simp [World.frozen?, h]

/-- Another block of the run's own is written. -/
theorem XG.other {p : Nat} (h : XG w0 w a r pos l q s) (ht : 0 < w0.heap.size) (hp : w0.heap.size ≤ p) (ha : p ≠ a) (hr : r ≠ some p) (hq : p ≠ q) (hf : Fr (fun k => k = p) w w') : XG w0 w' a r pos l q s :=
  ⟨h.fr.own hf (fun i hi => by subst hi; exact hp), h.rd.keep hf (fun e => ha e.symm) (fun k hk e => hr (by rw [hk, e])), h.xr.keep hf (fun e => hq e.symm), h.qa, h.qr, h.tab.keep hf (fun e => by omega), h.ok⟩

theorem told_get {A c6 : Nat} (h : XG w0 w a r pos (bitsOf A 5 ++ (bitsOf c6 6 ++ l3)) q s) (ht : 0 < w0.heap.size) (hA : A ≤ 31) :
    Calls Tryd.prog 30 #[.pointer (some ⟨a, 0, none⟩), .int .i64 5] w fun e w' => e = .returned (.int .u64 A) ∧ XG w0 w' a r (pos + 5) (bitsOf c6 6 ++ l3) q s ∧ Fr (fun k => k = a) w w' :=
  xg_get h ht (by decide) (by decide) (hid ⟨len_bitsOf _ _, bval_small _ _ (by omega)⟩)

theorem told_get2 {c6 : Nat} (h : XG w0 w a r pos (bitsOf c6 6 ++ l3) q s) (ht : 0 < w0.heap.size) (hc : c6 < 64) :
    Calls Tryd.prog 30 #[.pointer (some ⟨a, 0, none⟩), .int .i64 6] w fun e w' => e = .returned (.int .u64 c6) ∧ XG w0 w' a r (pos + 6) l3 q s ∧ Fr (fun k => k = a) w w' :=
  xg_get h ht (by decide) (by decide) (hid ⟨len_bitsOf _ _, bval_small _ _ (by omega)⟩)

set_option maxHeartbeats 1000000 in
theorem told_less (A C : Nat) (hA : A ≤ 31) (hC : 1 ≤ C) (hC2 : C < 64) (hAC : A + C ≤ 64) (h : XG w0 w a r pos (bitsOf A 5 ++ (bitsOf C 6 ++ l3)) q s) (ht : 0 < w0.heap.size) :
    Calls Tryd.prog 41 #[.pointer (some ⟨a, 0, none⟩)] w fun e w' => e = .returned (.tuple #[.agg #[.int .i64 A, .int .i64 C], .bool true]) ∧ XG w0 w' a r (pos + 5 + 6) l3 q s ∧ Fr (fun k => k = a) w w' := by
  have H0 := hid (h.still ((Fr.refl _ _).alloc (.cells #[.int .i64 0, .int .i64 0] 55)))
  have hwa := h.rd.lt
  have P1 : w0.heap.size ≤ w.heap.size := h.fr.size
  have P2 : w.heap.size ≠ a := by omega
  have P3 := fun e => Nat.lt_irrefl _ (h.rd.row_lt _ e).2
  have P4 : w.heap.size ≠ q := by have := h.xr.lt; omega
  clear h
  go_enter Tryd.func41, Tryd.ntmps41
  go_wp2_with fail
  refine (told_get H0.out ht hA).mono ?_
  rintro e w1 ⟨rfl, h1, hf1⟩
  have H1 := hid h1
  have F1 := hid hf1
  clear h1 hf1
  go_wp2_with fail
  refine (told_get2 H1.out ht hC2).mono ?_
  rintro e w2 ⟨rfl, h2, hf2⟩
  have H2 := hid h2
  have hs2 : w.heap.size < w2.heap.size := by have := F1.out.size; have := hf2.size; simp at *; omega
  have hb2 : w2.heap[w.heap.size]? = some (.cells #[.int .i64 0, .int .i64 0] 55 (0, 0)) := hf2.keep (F1.out.keep (heap_alloc_new w _) (by show w.heap.size ≠ a; exact P2)) (by show w.heap.size ≠ a; exact P2)
  have F2 := hid hf2
  have hne : w.heap.size ≠ w2.heap.size := by omega
  obtain ⟨z0, z1, z2, z3⟩ := cells2 hb2
  have HB := hid hb2
  clear h2 hf2 hb2
  go_wp2_with fail
  go_region_held3 (fun w' => w'.cell? ⟨w2.heap.size, 0, none⟩ = some (.int .i64 (A : Nat)) ∧ w'.cell? ⟨w2.heap.size, 1, none⟩ = some (.int .i64 (C : Nat))) (go_keep)
    (first | (go_at_call 26; refine (behind_any A C hAC _).mono ?_; rintro e w' ⟨rfl, hf⟩; obtain ⟨d0, d1, _, _⟩ := cells2 (hf.keep (heap_alloc_new w2 _) (fun h => h)); obtain ⟨y0, y1, y2, y3⟩ := cells2 (hf.keep (((Fr.refl (fun _ => False) w2).alloc _).keep HB.out (fun h => h)) (fun h => h)); have HF := hid hf; clear hf))
  go_wp2
  have hfr : Fr (fun k => k = a) w ((w'.setCell ⟨w.heap.size, 0, none⟩ (.int .i64 (A : Int))).setCell ⟨w.heap.size, 1, none⟩ (.int .i64 (C : Int))) := by
    have h1 : Fr (fun k => k = a) w w2 := (((Fr.refl _ w).alloc _).trans F1.out (fun _ h _ => h)).trans F2.out (fun _ h _ => h)
    have h2 : Fr (fun k => k = a) w w' := ((h1.alloc _).drew).trans HF.out (fun _ h _ => h.elim)
    exact (h2.setCell _ _ (fun h => by simp at h)).setCell _ _ (fun h => by simp at h)
  have k0 : (w'.setCell ⟨w.heap.size, 0, none⟩ (.int .i64 (A : Int))).cell? ⟨w.heap.size, 0, none⟩ = some (.int .i64 (A : Int)) := World.cell?_setCell_same _ _ _ y0
  have k1 : ((w'.setCell ⟨w.heap.size, 0, none⟩ (.int .i64 (A : Int))).setCell ⟨w.heap.size, 1, none⟩ (.int .i64 (C : Int))).cell? ⟨w.heap.size, 1, none⟩ = some (.int .i64 (C : Int)) :=
    World.cell?_setCell_same _ _ _ ((World.cell?_setCell_other _ _ _ _ (by simp)).trans y1)
  refine bodyPost_ret (v := .tuple #[.agg #[.int .i64 A, .int .i64 C], .bool true]) (by simp [results, Tryd.results41, go_sem, k0, k1]) rfl ⟨rfl, ?_, hfr⟩
  have h3 := (H2.out.still ((Fr.refl (fun _ => False) w2).alloc (.cells #[.int .i64 (A : Int), .int .i64 (C : Int)] 55)).drew).still HF.out
  exact h3.other ht P1 P2 P3 P4 (((Fr.refl (fun k => k = w.heap.size) w').setCell _ _ (fun _ => rfl)).setCell _ _ (fun _ => rfl))
set_option maxHeartbeats 1000000 in
theorem told_full (A : Nat) (hA : A ≤ 31) (hAC : A + 64 ≤ 64) (h : XG w0 w a r pos (bitsOf A 5 ++ (bitsOf 0 6 ++ l3)) q s) (ht : 0 < w0.heap.size) :
    Calls Tryd.prog 41 #[.pointer (some ⟨a, 0, none⟩)] w fun e w' => e = .returned (.tuple #[.agg #[.int .i64 A, .int .i64 64], .bool true]) ∧ XG w0 w' a r (pos + 5 + 6) l3 q s ∧ Fr (fun k => k = a) w w' := by
  have H0 := hid (h.still ((Fr.refl _ _).alloc (.cells #[.int .i64 0, .int .i64 0] 55)))
  have hwa := h.rd.lt
  have P1 : w0.heap.size ≤ w.heap.size := h.fr.size
  have P2 : w.heap.size ≠ a := by omega
  have P3 := fun e => Nat.lt_irrefl _ (h.rd.row_lt _ e).2
  have P4 : w.heap.size ≠ q := by have := h.xr.lt; omega
  clear h
  go_enter Tryd.func41, Tryd.ntmps41
  go_wp2_with fail
  refine (told_get H0.out ht hA).mono ?_
  rintro e w1 ⟨rfl, h1, hf1⟩
  have H1 := hid h1
  have F1 := hid hf1
  clear h1 hf1
  go_wp2_with fail
  refine (told_get2 H1.out ht (by decide)).mono ?_
  rintro e w2 ⟨rfl, h2, hf2⟩
  have H2 := hid h2
  have hs2 : w.heap.size < w2.heap.size := by have := F1.out.size; have := hf2.size; simp at *; omega
  have hb2 : w2.heap[w.heap.size]? = some (.cells #[.int .i64 0, .int .i64 0] 55 (0, 0)) := hf2.keep (F1.out.keep (heap_alloc_new w _) (by show w.heap.size ≠ a; exact P2)) (by show w.heap.size ≠ a; exact P2)
  have F2 := hid hf2
  have hne : w.heap.size ≠ w2.heap.size := by omega
  obtain ⟨z0, z1, z2, z3⟩ := cells2 hb2
  have HB := hid hb2
  clear h2 hf2 hb2
  go_wp2_with fail
  go_region_held3 (fun w' => w'.cell? ⟨w2.heap.size, 0, none⟩ = some (.int .i64 (A : Nat)) ∧ w'.cell? ⟨w2.heap.size, 1, none⟩ = some (.int .i64 64)) (go_keep)
    (first | (go_at_call 26; refine (behind_any A 64 hAC _).mono ?_; rintro e w' ⟨rfl, hf⟩; obtain ⟨d0, d1, _, _⟩ := cells2 (hf.keep (heap_alloc_new w2 _) (fun h => h)); obtain ⟨y0, y1, y2, y3⟩ := cells2 (hf.keep (((Fr.refl (fun _ => False) w2).alloc _).keep HB.out (fun h => h)) (fun h => h)); have HF := hid hf; clear hf))
  go_wp2
  have hfr : Fr (fun k => k = a) w ((w'.setCell ⟨w.heap.size, 0, none⟩ (.int .i64 (A : Int))).setCell ⟨w.heap.size, 1, none⟩ (.int .i64 64)) := by
    have h1 : Fr (fun k => k = a) w w2 := (((Fr.refl _ w).alloc _).trans F1.out (fun _ h _ => h)).trans F2.out (fun _ h _ => h)
    have h2 : Fr (fun k => k = a) w w' := ((h1.alloc _).drew).trans HF.out (fun _ h _ => h.elim)
    exact (h2.setCell _ _ (fun h => by simp at h)).setCell _ _ (fun h => by simp at h)
  have k0 : (w'.setCell ⟨w.heap.size, 0, none⟩ (.int .i64 (A : Int))).cell? ⟨w.heap.size, 0, none⟩ = some (.int .i64 (A : Int)) := World.cell?_setCell_same _ _ _ y0
  have k1 : ((w'.setCell ⟨w.heap.size, 0, none⟩ (.int .i64 (A : Int))).setCell ⟨w.heap.size, 1, none⟩ (.int .i64 64)).cell? ⟨w.heap.size, 1, none⟩ = some (.int .i64 64) :=
    World.cell?_setCell_same _ _ _ ((World.cell?_setCell_other _ _ _ _ (by simp)).trans y1)
  refine bodyPost_ret (v := .tuple #[.agg #[.int .i64 A, .int .i64 64], .bool true]) (by simp [results, Tryd.results41, go_sem, k0, k1]) rfl ⟨rfl, ?_, hfr⟩
  have h3 := (H2.out.still ((Fr.refl (fun _ => False) w2).alloc (.cells #[.int .i64 (A : Int), .int .i64 64] 55)).drew).still HF.out
  exact h3.other ht P1 P2 P3 P4 (((Fr.refl (fun k => k = w.heap.size) w').setCell _ _ (fun _ => rfl)).setCell _ _ (fun _ => rfl))

theorem told_any (A C : Nat) (hA : A ≤ 31) (hC : 1 ≤ C) (hAC : A + C ≤ 64) (h : XG w0 w a r pos (bitsOf A 5 ++ (bitsOf (C % 64) 6 ++ l3)) q s) (ht : 0 < w0.heap.size) :
    Calls Tryd.prog 41 #[.pointer (some ⟨a, 0, none⟩)] w fun e w' => e = .returned (.tuple #[.agg #[.int .i64 A, .int .i64 C], .bool true]) ∧ XG w0 w' a r (pos + 5 + 6) l3 q s ∧ Fr (fun k => k = a) w w' := by
  by_cases h64 : C = 64
  · subst h64
    exact told_full A hA hAC h ht
  · rw [Nat.mod_eq_of_lt (by omega)] at h
    exact told_less A C hA hC (by omega) hAC h ht
end
end Go.Proofs.YtlfcaigofakkoaaDoor
