/- The fixed answer of the fifth layer: writer, rows and reader together. -/
import Derived.Test.YtlfcaigofakkoaaDoorXShort
import Derived.Deep.RegionHeld3
namespace Go.Proofs.YtlfcaigofakkoaaDoor
open Go.RowKit Bt

/-- A writer with its row, and a reader with its own, all apart. -/
structure XA (w0 w : World) (a : Nat) (r : Option Nat) (lw : List Bool) (q : Nat) (s : XS) (a2 : Nat) (r2 : Option Nat) (pos : Nat) (l : List Bool) (q2 : Nat) (s2 : XS) : Prop where
  g : XG w0 w a2 r2 pos l q2 s2
  wr : Wr w w0.heap.size a r lw
  xr : Xr w w0.heap.size q s
  sep : Sep a r a2 r2
  aq : a ≠ q2
  rq : r ≠ some q2
  qa : q ≠ a2
  qq : q ≠ q2

section
variable {K : List (Nat × Obj)} {w0 w w' w1 : World} {a q a2 q2 pos : Nat} {r r2 : Option Nat} {lw l l3 : List Bool} {s s2 : XS}

theorem ok0 : XS.Ok ⟨0, 0, 0, 0⟩ := ⟨by decide, by decide, by decide, by decide⟩

theorem XW.fresh (h : W1 w0 w a r lw) (t : Tab w) (hx : Xr w' w.heap.size q ⟨0, 0, 0, 0⟩) (hf : Fr (fun _ => False) w w') : XW [] w0 w' a r lw q ⟨0, 0, 0, 0⟩ :=
  ⟨h.fr.trans hf (fun _ h _ => h), h.wr.still hf, hx.base h.fr.size, by have := hx.1; have := h.wr.lt; omega, fun e => by have := hx.1; have := (h.wr.row_lt _ e).2; omega, t.keep hf (fun h => h), ok0, fun x e => by cases e⟩

theorem xw_new (h : W1 w0 w a r lw) (t : Tab w) : Calls Tryd.prog 7 #[] w fun e w' => ∃ q, e = .returned (.pointer (some ⟨q, 0, none⟩)) ∧ XW [] w0 w' a r lw q ⟨0, 0, 0, 0⟩ :=
  (xnew_any w).mono fun _ _ ⟨q, he, hx, hf⟩ => ⟨q, he, XW.fresh h t hx hf⟩

theorem xw_put {s' : XS} {l' : List Bool} (v : Nat) (hp : s.put v = (s', l')) (h : XW K w0 w a r lw q s) (ht : 0 < w0.heap.size) (hv : v < 18446744073709551616) (hl : lw.length + 200 < 8000000) (hn1 : s.n < 1000000) :
    Calls Tryd.prog 8 #[.pointer (some ⟨q, 0, none⟩), .pointer (some ⟨a, 0, none⟩), .int .u64 v] w fun e w' => e = .returned (.tuple #[]) ∧ ∃ r', XW K w0 w' a r' (lw ++ l') q s' := by
  have := xput_any h ht v hv hl hn1
  rw [hp] at this
  exact this.mono fun _ _ ⟨he, r', hx⟩ => ⟨he, r', hx.out⟩

/-- A reader over what was written, then a new row: both beside writer and row. -/
theorem XA.made (h : XW K w0 w a r lw q s) (hr : Rd w1 w.heap.size a2 r2 0 l false) (hf1 : Fr (fun _ => False) w w1) (hx : Xr w' w1.heap.size q2 ⟨0, 0, 0, 0⟩) (hf2 : Fr (fun _ => False) w1 w') : XA w0 w' a r lw q s a2 r2 0 l q2 ⟨0, 0, 0, 0⟩ := by
  have z1 := h.fr.size
  have z2 := hf1.size
  have z3 := hx.1
  have z4 := hr.lt
  have z5 := h.wr.lt
  have z6 := h.xr.lt
  have z7 := hr.1
  have hf : Fr (fun _ => False) w w' := hf1.trans hf2 (fun _ h _ => h)
  refine ⟨⟨h.fr.trans hf (fun _ h _ => h), (hr.base z1).still hf2, hx.base (by omega), by omega, fun e => ?_, h.tab.keep hf (fun h => h), ok0⟩, h.wr.still hf, h.xr.keep hf (fun h => h), Sep.made z5 (fun k hk => (h.wr.row_lt k hk).2) hr.1 (fun k hk => (hr.row_lt k hk).1), by omega, fun e => ?_, by omega, by omega⟩
  · have := (hr.row_lt _ e).2; omega
  · have := (h.wr.row_lt _ e).2; omega

/-- The same where the new row was there before the reader. -/
theorem XA.made' (h : XW [(q2, xob ⟨0, 0, 0, 0⟩)] w0 w a r lw q s) (hr : Rd w' w.heap.size a2 r2 0 l false) (hf : Fr (fun _ => False) w w') : XA w0 w' a r lw q s a2 r2 0 l q2 ⟨0, 0, 0, 0⟩ := by
  obtain ⟨hx1, hx0, y1, y2, y3⟩ := h.by_ (q2, xob ⟨0, 0, 0, 0⟩) List.mem_cons_self
  have hx : Xr w w0.heap.size q2 ⟨0, 0, 0, 0⟩ := ⟨hx0, hx1⟩
  have z1 := h.fr.size
  have z3 := hx.lt
  have z6 := h.xr.lt
  have z7 := hr.1
  refine ⟨⟨h.fr.trans hf (fun _ h _ => h), hr.base z1, hx.keep hf (fun h => h), by omega, fun e => ?_, h.tab.keep hf (fun h => h), ok0⟩, h.wr.still hf, h.xr.keep hf (fun h => h), Sep.made h.wr.lt (fun k hk => (h.wr.row_lt k hk).2) hr.1 (fun k hk => (hr.row_lt k hk).1), fun e => y1 e.symm, y2, by omega, fun e => y3 e.symm⟩
  have := (hr.row_lt _ e).1; omega

theorem XA.still (h : XA w0 w a r lw q s a2 r2 pos l q2 s2) (hf : Fr (fun _ => False) w w') : XA w0 w' a r lw q s a2 r2 pos l q2 s2 :=
  ⟨h.g.still hf, h.wr.still hf, h.xr.keep hf (fun h => h), h.sep, h.aq, h.rq, h.qa, h.qq⟩

theorem xa_get {s2' : XS} {d : List Bool} (v : Nat) (hp : s2.put v = (s2', d)) (h : XA w0 w a r lw q s a2 r2 pos (d ++ l3) q2 s2) (ht : 0 < w0.heap.size) (hv : v < 18446744073709551616) (hn : s2.n < 1000000) :
    Calls Tryd.prog 12 #[.pointer (some ⟨q2, 0, none⟩), .pointer (some ⟨a2, 0, none⟩)] w fun e w' =>
      e = .returned (.tuple #[.int .u64 v, .int .i64 0]) ∧ ∃ pos', XA w0 w' a r lw q s a2 r2 pos' l3 q2 s2' := by
  have hg : XG w0 w a2 r2 pos ((s2.put v).2 ++ l3) q2 s2 := by rw [hp]; exact h.g
  refine (xget_any v hv hn hg ht).mono ?_
  rintro e w' ⟨rfl, ⟨p', hg'⟩, hf⟩
  have hg2 := hg'.out
  rw [hp] at hg2
  exact ⟨rfl, p', hg2, h.wr.keep hf (fun e => e.elim h.sep.aa h.aq) (fun k hk e => e.elim (fun e => h.sep.ra (by rw [hk, e])) (fun e => h.rq (by rw [hk, e]))), h.xr.keep hf (fun e => e.elim h.qa h.qq), h.sep, h.aq, h.rq, h.qa, h.qq⟩

theorem xa_none (hn : s2.n ≠ 0) (h : XA w0 w a r lw q s a2 r2 pos [] q2 s2) :
    Calls Tryd.prog 12 #[.pointer (some ⟨q2, 0, none⟩), .pointer (some ⟨a2, 0, none⟩)] w fun e w' =>
      e = .returned (.tuple #[.int .u64 0, .int .i64 16]) ∧ W1 w0 w' a r lw ∧ Xr w' w0.heap.size q s :=
  (xget_none hn h.g).mono fun _ _ ⟨he, hf⟩ => ⟨he, ⟨h.g.fr.own hf (fun i hi => by subst hi; exact h.g.rd.1), h.wr.rstep hf h.sep⟩, h.xr.keep hf h.qa⟩
end

theorem p1 : XS.put ⟨0, 0, 0, 0⟩ 1 = (⟨1, 1, 0, 0⟩, bitsOf 1 64) := by kernel_rfl
theorem p2 : XS.put ⟨1, 1, 0, 0⟩ 1 = (⟨1, 2, 0, 0⟩, [false]) := by kernel_rfl
theorem p3 : XS.put ⟨1, 2, 0, 0⟩ 3 = (⟨3, 3, 31, 32⟩, [true, true] ++ (bitsOf 31 5 ++ (bitsOf 32 6 ++ bitsOf 1 32))) := by kernel_rfl

set_option maxHeartbeats 2000000 in
set_option maxRecDepth 100000 in
theorem awake5_any (w : World) (t : Tab w) : Calls Tryd.prog 5 #[] w fun e w' => e = .returned (.bool true) ∧ Fr (fun _ => False) w w' := by
  have ht := t.pos
  go_enter Tryd.func5, Tryd.ntmps5
  go_wp2_with fail
  refine (w1_new (w0 := w) (.slice none 0 0) [] 0 (Fr.refl _ _) (by decide) (.inl ⟨rfl, rfl⟩) (by simp) (by decide)).mono ?_
  rintro e w1 ⟨a, r, rfl, hw1, hf1⟩
  rw [show (unpack []).take 0 = [] from rfl] at hw1
  have t1 := t.keep hf1 (fun h => h)
  clear hf1 t
  go_wp2_with fail
  refine (xw_new hw1 t1).mono ?_
  rintro e w2 ⟨q, rfl, hx⟩
  clear hw1 t1
  go_wp2_with fail
  refine (xw_put 1 p1 hx ht (by decide) (by decide) (by decide)).mono ?_
  rintro e w3 ⟨rfl, r3, h3⟩
  clear hx
  go_wp2_with fail
  refine (xw_put 1 p2 h3 ht (by decide) (by simp [len_bitsOf]) (by decide)).mono ?_
  rintro e w4 ⟨rfl, r4, h4⟩
  clear h3
  go_wp2_with fail
  refine (xw_put 3 p3 h4 ht (by decide) (by simp [len_bitsOf]) (by decide)).mono ?_
  rintro e w5 ⟨rfl, r5, h5⟩
  clear h4
  go_wp2_with fail
  refine (xwindow_any _ _ q _ h5.xr).mono ?_
  rintro e w6 ⟨rfl, hf6⟩
  have h6 := h5.still hf6
  clear h5 hf6
  go_wp2_with fail
  refine (w1_bytes h6.w1 (by simp [len_bitsOf])).mono ?_
  rintro e w7 ⟨ao, N, cap, rfl, h7, hb, hf7⟩
  have h7 := h6.still hf7
  clear h6 hf7
  go_wp2_with fail
  refine (w1_len h7.w1).mono ?_
  rintro e w8 ⟨rfl, rfl⟩
  go_wp2_with fail
  have hlen : (([] : List Bool) ++ bitsOf 1 64 ++ [false] ++ ([true, true] ++ (bitsOf 31 5 ++ (bitsOf 32 6 ++ bitsOf 1 32)))).length = 110 := by simp [len_bitsOf]
  have hrd := newReader_any _ _ 110 w7 (by rw [len_pack, hlen]; decide) hb (pack_lt _) (by rw [len_pack, hlen]; decide)
  rw [show (110 : Nat) = (([] : List Bool) ++ bitsOf 1 64 ++ [false] ++ ([true, true] ++ (bitsOf 31 5 ++ (bitsOf 32 6 ++ bitsOf 1 32)))).length from hlen.symm, take_unpack_pack] at hrd
  refine hrd.mono ?_
  rintro e w8 ⟨a2, r2, rfl, hr, hf8⟩
  clear hb hrd
  have HR := hid (And.intro hr hf8)
  have H7 := hid h7
  clear hr hf8 h7
  go_wp2_with fail
  refine (xnew_any _).mono ?_
  rintro e w9 ⟨q2, rfl, hx, hf9⟩
  have h9 := XA.made H7.out HR.out.1 HR.out.2 hx hf9
  clear H7 HR hx hf9
  rw [List.nil_append, List.append_assoc] at h9
  go_wp2_with fail
  refine (xa_get 1 p1 h9 ht (by decide) (by decide)).mono ?_
  rintro e w10 ⟨rfl, pos1, h10⟩
  clear h9
  go_wp2_with fail
  refine (xa_get 1 p2 h10 ht (by decide) (by decide)).mono ?_
  rintro e w11 ⟨rfl, pos2, h11⟩
  clear h10
  rw [← List.append_nil ([true, true] ++ (bitsOf 31 5 ++ (bitsOf 32 6 ++ bitsOf 1 32)))] at h11
  go_wp2_with fail
  refine (xa_get (l3 := []) 3 p3 h11 ht (by decide) (by decide)).mono ?_
  rintro e w12 ⟨rfl, pos3, h12⟩
  clear h11
  go_wp2_with fail
  refine (xa_none (by decide) h12).mono ?_
  rintro e w13 ⟨rfl, h13, hx13⟩
  clear h12
  have hlen' := w1_len h13
  have hl2 : (bitsOf 1 64 ++ ([false] ++ ([true, true] ++ (bitsOf 31 5 ++ (bitsOf 32 6 ++ bitsOf 1 32)) ++ []))).length = 110 := by simp [len_bitsOf]
  rw [hl2] at hlen'
  go_wp2_with fail
  refine hlen'.mono ?_
  rintro e w14 ⟨rfl, rfl⟩
  go_wp2_with fail
  refine (xlen_any _ _ q _ hx13).mono ?_
  rintro e w14 ⟨rfl, rfl⟩
  go_wp2_with fail
  refine (xlast_any _ _ q _ hx13).mono ?_
  rintro e w14 ⟨rfl, rfl⟩
  go_wp2
  go_ret
  exact ⟨rfl, h13.fr⟩
end Go.Proofs.YtlfcaigofakkoaaDoor
