/- The walk of the xor row's Get where nothing stands; writer, rows and reader together. -/
import Derived.Test.YtlfcaigofakkoaaDoorXTake
namespace Go.Proofs.YtlfcaigofakkoaaDoor
open Go.RowKit Bt

section
variable {w0 w w' : World} {a q pos : Nat} {r : Option Nat} {l l3 : List Bool} {s : XS}

theorem XG.bit_none (h : XG w0 w a r pos [] q s) :
    Calls Tryd.prog 40 #[.pointer (some ⟨a, 0, none⟩)] w fun e w' => e = .returned (.bool false) ∧ Rd w' w0.heap.size a r pos [] true ∧ Xr w' w0.heap.size q s ∧ Fr (fun k => k = a) w w' :=
  (rbit_short w _ a r pos false h.rd).mono fun _ _ ⟨he, hr, hf⟩ => ⟨he, hr, h.xr.keep hf h.qa, hf⟩

set_option maxHeartbeats 1000000 in
theorem differs_short (h : XG w0 w a r pos [] q s) :
    Calls Tryd.prog 31 #[.pointer (some ⟨q, 0, none⟩), .pointer (some ⟨a, 0, none⟩)] w fun e w' =>
      e = .returned (.tuple #[.int .u64 0, .agg #[.int .i64 (s.ahead : Nat), .int .i64 (s.bits : Nat)], .bool true]) ∧ Rd w' w0.heap.size a r pos [] true ∧ Fr (fun k => k = a) w w' := by
  have H0 := hid (XD.made (x := 0) (y := 0) h)
  clear h
  go_enter Tryd.func31, Tryd.ntmps31
  go_wp2_with fail
  refine (H0.out.g.bit_none).mono ?_
  rintro e w1 ⟨rfl, h1, hx1, hf1⟩
  have c2 := hx1.c2
  have c3 := hx1.c3
  have hb := hf1.keep H0.out.blk H0.out.pa
  obtain ⟨z0, z1, z2, z3⟩ := cells2 hb
  have hne : w.heap.size ≠ q := H0.out.pq
  have hlt := block_lt hb
  have HB := hid hb
  have H1 := hid h1
  have F1 := hid hf1
  clear h1 hf1 hb hx1
  go_wp2_with fail
  go_region
  all_goals go_wp2
  have hset : ∀ u v : Value, Fr (fun k => k = w.heap.size) w1 ((w1.setCell ⟨w.heap.size, 0, none⟩ u).setCell ⟨w.heap.size, 1, none⟩ v).drew := fun u v => (((Fr.refl (fun k => k = w.heap.size) w1).setCell _ _ (fun _ => rfl)).setCell _ _ (fun _ => rfl)).drew
  have k0 : (w1.setCell ⟨w.heap.size, 0, none⟩ (.int .i64 (s.ahead : Int))).cell? ⟨w.heap.size, 0, none⟩ = some (.int .i64 (s.ahead : Int)) := World.cell?_setCell_same _ _ _ z0
  have k1 : ((w1.setCell ⟨w.heap.size, 0, none⟩ (.int .i64 (s.ahead : Int))).setCell ⟨w.heap.size, 1, none⟩ (.int .i64 (s.bits : Int))).cell? ⟨w.heap.size, 1, none⟩ = some (.int .i64 (s.bits : Int)) :=
    World.cell?_setCell_same _ _ _ ((World.cell?_setCell_other _ _ _ _ (by simp)).trans z1)
  refine bodyPost_ret (v := .tuple #[.int .u64 0, .agg #[.int .i64 (s.ahead : Nat), .int .i64 (s.bits : Nat)], .bool true]) (by simp [results, Tryd.results31, go_sem, k0, k1]) rfl ⟨rfl, ?_, ?_⟩
  · exact H1.out.keep (hset _ _) (fun e => H0.out.pa e.symm) (fun k hk e => H0.out.pr (by rw [hk, e]))
  · exact (((((Fr.refl (fun k => k = a) w).alloc _).trans F1.out (fun _ h _ => h)).setCell _ _ (fun h => by simp at h)).setCell _ _ (fun h => by simp at h)).drew

set_option maxHeartbeats 1000000 in
theorem xget_none (hn : s.n ≠ 0) (h : XG w0 w a r pos [] q s) :
    Calls Tryd.prog 12 #[.pointer (some ⟨q, 0, none⟩), .pointer (some ⟨a, 0, none⟩)] w fun e w' =>
      e = .returned (.tuple #[.int .u64 0, .int .i64 16]) ∧ Fr (fun k => k = a) w w' := by
  have hxor : bits BinOp.xor .u64 (s.last : Int) 0 = (s.last : Int) := by
    have := xor_int s.last 0 h.ok.last (by decide)
    rwa [Nat.xor_zero] at this
  have hdif := fun w1 (h1 : XG w0 w1 a r pos [] q s) => differs_short h1
  have c0 := h.xr.c0
  have c1 := h.xr.c1
  have c2 := h.xr.c2
  have c3 := h.xr.c3
  have hlt := h.xr.lt
  have hn0 : ((s.n : Int) == 0) = false := by rw [beq_eq_false_iff_ne]; omega
  have HD := hid hdif
  have H0 := hid (XD.made (x := (s.ahead : Int)) (y := (s.bits : Int)) h)
  have hwa : w.heap.size ≠ a := by have := h.rd.lt; omega
  clear h hn hdif
  go_enter Tryd.func12, Tryd.ntmps12
  go_wp2_with fail
  go_region
  go_wp2_with fail
  refine (HD.out _ (H0.out.g.still (Fr.refl _ _).drew)).mono ?_
  rintro e w1 ⟨rfl, h1, hf1⟩
  have hb := hf1.keep (heap_alloc_new w (.cells #[.int .i64 (s.ahead : Int), .int .i64 (s.bits : Int)] 55)) hwa
  obtain ⟨z0, z1, z2, z3⟩ := cells2 hb
  have c0 := (H0.out.g.xr.keep ((Fr.refl (fun k => k = a) _).drew.trans hf1 (fun _ h _ => h)) H0.out.g.qa).c0
  have hne : w.heap.size ≠ q := H0.out.pq
  have H1 := hid h1
  have F1 := hid hf1
  clear h1 hf1 hb
  go_wp2_with fail
  have hset : ∀ u v : Value, Fr (fun k => k = w.heap.size) w1 ((w1.setCell ⟨w.heap.size, 0, none⟩ u).setCell ⟨w.heap.size, 1, none⟩ v) := fun u v => (((Fr.refl (fun k => k = w.heap.size) w1).setCell _ _ (fun _ => rfl)).setCell _ _ (fun _ => rfl))
  refine (short_any _ _ a r pos [] true (H1.out.keep (hset _ _) (fun e => H0.out.pa e.symm) (fun k hk e => H0.out.pr (by rw [hk, e])))).mono ?_
  rintro e w2 ⟨rfl, rfl⟩
  go_wp2_with fail
  go_ret2
  exact ⟨rfl, ((((Fr.refl (fun k => k = a) w).alloc _).drew.trans F1.out (fun _ h _ => h)).setCell _ _ (fun h => by simp at h)).setCell _ _ (fun h => by simp at h)⟩
end
end Go.Proofs.YtlfcaigofakkoaaDoor
