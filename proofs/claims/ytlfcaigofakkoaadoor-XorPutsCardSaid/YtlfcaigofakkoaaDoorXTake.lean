/- The walk of the xor row's Get, where what stands there was put, and where nothing stands there. -/
import Derived.Test.YtlfcaigofakkoaaDoorXDiff
namespace Go.Proofs.YtlfcaigofakkoaaDoor
open Go.RowKit Bt

section
variable {w0 w w' : World} {a q pos : Nat} {r : Option Nat} {l l3 : List Bool} {s : XS}

set_option maxHeartbeats 1000000 in
theorem xget_first (v : Nat) (hv : v < 18446744073709551616) (hn : s.n = 0) (h : XG w0 w a r pos ((s.put v).2 ++ l3) q s) (ht : 0 < w0.heap.size) :
    Calls Tryd.prog 12 #[.pointer (some ⟨q, 0, none⟩), .pointer (some ⟨a, 0, none⟩)] w fun e w' =>
      e = .returned (.tuple #[.int .u64 v, .int .i64 0]) ∧ (∃ pos', Hid (XG w0 w' a r pos' l3 q (s.put v).1)) ∧ Fr (fun k => k = a ∨ k = q) w w' := by
  have hp : s.put v = (⟨v, s.n + 1, s.ahead, s.bits⟩, bitsOf v 64) := by unfold XS.put; rw [if_pos hn]
  have hok := put_ok (v := v) h.ok hv (by omega)
  rw [hp] at hok h ⊢
  have c0 := h.xr.c0
  have c1 := h.xr.c1
  have c2 := h.xr.c2
  have c3 := h.xr.c3
  have hlt := h.xr.lt
  have hn0 : ((s.n : Int) == 0) = true := by rw [beq_iff_eq]; omega
  have hn1 : s.n < 1000000 := by omega
  have HOK := hid hok
  have H0 := hid (h.still (((Fr.refl (fun _ => False) w).alloc (.cells #[.int .i64 (s.ahead : Int), .int .i64 (s.bits : Int)] 55)).drew))
  have hwa : w.heap.size ≠ a := by have := h.rd.lt; omega
  clear h hp hok hn
  go_enter Tryd.func12, Tryd.ntmps12
  go_wp2_with fail
  go_region
  go_wp2_with fail
  refine (xg_get H0.out ht (by decide) (by decide) (hid ⟨len_bitsOf _ _, bval_small v 64 (by omega)⟩)).mono ?_
  rintro e w1 ⟨rfl, h1, hf1⟩
  obtain ⟨z0, z1, z2, z3⟩ := cells2 (hf1.keep (heap_alloc_new w (.cells #[.int .i64 (s.ahead : Int), .int .i64 (s.bits : Int)] 55)) hwa)
  have H1 := hid h1
  have F1 := hid hf1
  clear h1 hf1
  go_wp2_with fail
  refine (xg_short H1.out).mono ?_
  rintro e w2 ⟨rfl, rfl⟩
  go_wp2_with fail
  refine (xg_take H1.out ht hn1 HOK.out).mono ?_
  rintro e w2 ⟨rfl, h2, hf2⟩
  go_wp2_with fail
  go_ret2
  exact ⟨rfl, ⟨_, hid h2⟩, ((((Fr.refl (fun k => k = a ∨ k = q) w).alloc _).drew).trans F1.out (fun _ h _ => Or.inl h)).trans hf2 (fun _ h _ => Or.inr h)⟩

set_option maxHeartbeats 1000000 in
theorem xget_next (v : Nat) (hv : v < 18446744073709551616) (hn : s.n ≠ 0) (hn1 : s.n < 1000000) (h : XG w0 w a r pos ((s.put v).2 ++ l3) q s) (ht : 0 < w0.heap.size) :
    Calls Tryd.prog 12 #[.pointer (some ⟨q, 0, none⟩), .pointer (some ⟨a, 0, none⟩)] w fun e w' =>
      e = .returned (.tuple #[.int .u64 v, .int .i64 0]) ∧ (∃ pos', Hid (XG w0 w' a r pos' l3 q (s.put v).1)) ∧ Fr (fun k => k = a ∨ k = q) w w' := by
  have hok := put_ok (v := v) h.ok hv (by omega)
  have hn2 := put_n s v
  have hla := put_last s v
  obtain ⟨A, hA⟩ : ∃ A, A = (s.put v).1.ahead := ⟨_, rfl⟩
  obtain ⟨C, hC⟩ : ∃ C, C = (s.put v).1.bits := ⟨_, rfl⟩
  have hx : (s.put v).1 = ⟨v, s.n + 1, A, C⟩ := by
    subst hA hC
    revert hn2 hla
    generalize (s.put v).1 = t
    cases t
    rintro h1 h2
    simp only at h1 h2
    rw [h1, h2]
  have hdif := fun w1 pos1 (h1 : XG w0 w1 a r pos1 ((s.put v).2 ++ l3) q s) => differs_any (l3 := l3) v hv hn h1 ht
  rw [← hA, ← hC] at hdif
  rw [hx] at hok ⊢
  have hxor : bits BinOp.xor .u64 (s.last : Int) ((v ^^^ s.last : Nat) : Int) = (v : Int) := by rw [xor_int _ _ h.ok.last (xor_lt v s.last hv h.ok.last), xor_back]
  have c0 := h.xr.c0
  have c1 := h.xr.c1
  have c2 := h.xr.c2
  have c3 := h.xr.c3
  have hlt := h.xr.lt
  have hn0 : ((s.n : Int) == 0) = false := by rw [beq_eq_false_iff_ne]; omega
  have HOK := hid hok
  have HD := hid hdif
  have H0 := hid (XD.made (x := (s.ahead : Int)) (y := (s.bits : Int)) h)
  have hwa : w.heap.size ≠ a := by have := h.rd.lt; omega
  clear h hok hn hdif hA hC hx hn2 hla
  go_enter Tryd.func12, Tryd.ntmps12
  go_wp2_with fail
  go_region
  go_wp2_with fail
  refine (HD.out _ _ (H0.out.g.still (Fr.refl _ _).drew)).mono ?_
  rintro e w1 ⟨rfl, ⟨pos1, h1⟩, hf1⟩
  have hb := hf1.keep (heap_alloc_new w (.cells #[.int .i64 (s.ahead : Int), .int .i64 (s.bits : Int)] 55)) hwa
  obtain ⟨z0, z1, z2, z3⟩ := cells2 hb
  have c0 := h1.xr.c0
  have hx : XD w0 w1 a r pos1 l3 q s w.heap.size (s.ahead : Int) (s.bits : Int) := ⟨h1, hb, H0.out.pa, H0.out.pr, H0.out.pq, H0.out.p0⟩
  have hne : w.heap.size ≠ q := hx.pq
  have HX := hid hx
  have F1 := hid hf1
  clear h1 hf1 hb hx
  go_wp2_with fail
  obtain ⟨k0, k1⟩ := HX.out.res (.int .i64 (A : Int)) (.int .i64 (C : Int))
  have HG := HX.out.set ht (.int .i64 (A : Int)) (.int .i64 (C : Int))
  refine (xg_short HG).mono ?_
  rintro e w2 ⟨rfl, rfl⟩
  go_wp2_with fail
  refine (xg_take HG ht hn1 HOK.out).mono ?_
  rintro e w2 ⟨rfl, h2, hf2⟩
  go_wp2_with fail
  go_ret2
  have hfr : Fr (fun k => k = a ∨ k = q) w ((w1.setCell ⟨w.heap.size, 0, none⟩ (.int .i64 (A : Int))).setCell ⟨w.heap.size, 1, none⟩ (.int .i64 (C : Int))) :=
    (((((Fr.refl (fun k => k = a ∨ k = q) w).alloc _).drew).trans F1.out (fun _ h _ => Or.inl h)).setCell _ _ (fun h => by simp at h)).setCell _ _ (fun h => by simp at h)
  exact ⟨rfl, ⟨_, hid h2⟩, hfr.trans hf2 (fun _ h _ => Or.inr h)⟩

/-- Get, where what stands there is what Put puts. -/
theorem xget_any (v : Nat) (hv : v < 18446744073709551616) (hn : s.n < 1000000) (h : XG w0 w a r pos ((s.put v).2 ++ l3) q s) (ht : 0 < w0.heap.size) :
    Calls Tryd.prog 12 #[.pointer (some ⟨q, 0, none⟩), .pointer (some ⟨a, 0, none⟩)] w fun e w' =>
      e = .returned (.tuple #[.int .u64 v, .int .i64 0]) ∧ (∃ pos', Hid (XG w0 w' a r pos' l3 q (s.put v).1)) ∧ Fr (fun k => k = a ∨ k = q) w w' := by
  by_cases h0 : s.n = 0
  · exact xget_first v hv h0 h ht
  · exact xget_next v hv h0 hn h ht
end
end Go.Proofs.YtlfcaigofakkoaaDoor
