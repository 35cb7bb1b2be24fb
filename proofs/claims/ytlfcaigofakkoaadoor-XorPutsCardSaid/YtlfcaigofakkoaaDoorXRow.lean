/- The walks of the xor row's small functions. -/
import Derived.Test.YtlfcaigofakkoaaDoorZeros
namespace Go.Proofs.YtlfcaigofakkoaaDoor
open Go.RowKit Bt

/-- A row at block q. -/
def Xr (w : World) (B q : Nat) (s : XS) : Prop :=
  B ≤ q ∧ w.heap[q]? = some (.cells #[.int .u64 (s.last : Nat), .int .i64 (s.n : Nat), .int .i64 (s.ahead : Nat), .int .i64 (s.bits : Nat)] 57 (0, 0))

/-- The block of a row. -/
abbrev xob (s : XS) : Obj := .cells #[.int .u64 (s.last : Nat), .int .i64 (s.n : Nat), .int .i64 (s.ahead : Nat), .int .i64 (s.bits : Nat)] 57 (0, 0)

theorem Xr.lt {w : World} {B q : Nat} {s : XS} (h : Xr w B q s) : q < w.heap.size := block_lt h.2
theorem Xr.keep {S : Nat → Prop} {w w' : World} (h : Fr S w w') {B q : Nat} {s : XS} (hx : Xr w B q s) (hn : ¬ S q) : Xr w' B q s := ⟨hx.1, h.keep hx.2 hn⟩
theorem Xr.base {w : World} {B B' q : Nat} {s : XS} (hx : Xr w B q s) (h : B' ≤ B) : Xr w B' q s := ⟨Nat.le_trans h hx.1, hx.2⟩

theorem Xr.c0 {w : World} {B q : Nat} {s : XS} (h : Xr w B q s) : w.cell? ⟨q, 0, none⟩ = some (.int .u64 (s.last : Nat)) := by simp [World.cell?, h.2]
theorem Xr.c1 {w : World} {B q : Nat} {s : XS} (h : Xr w B q s) : w.cell? ⟨q, 1, none⟩ = some (.int .i64 (s.n : Nat)) := by simp [World.cell?, h.2]
theorem Xr.c2 {w : World} {B q : Nat} {s : XS} (h : Xr w B q s) : w.cell? ⟨q, 2, none⟩ = some (.int .i64 (s.ahead : Nat)) := by simp [World.cell?, h.2]
theorem Xr.c3 {w : World} {B q : Nat} {s : XS} (h : Xr w B q s) : w.cell? ⟨q, 3, none⟩ = some (.int .i64 (s.bits : Nat)) := by simp [World.cell?, h.2]
theorem Xr.f {w : World} {B q : Nat} {s : XS} (h : Xr w B q s) (i : Nat) : w.frozen? ⟨q, i, none⟩ = false := by simp [World.frozen?, h.2]

theorem xnew_any (w : World) : Calls Tryd.prog 7 #[] w fun e w' => ∃ q, e = .returned (.pointer (some ⟨q, 0, none⟩)) ∧ Xr w' w.heap.size q ⟨0, 0, 0, 0⟩ ∧ Fr (fun _ => False) w w' := by
  go_enter Tryd.func7, Tryd.ntmps7
  go_wp2
  go_ret
  exact ⟨_, rfl, ⟨Nat.le_refl _, heap_alloc_new w _⟩, (Fr.refl _ _).alloc _⟩

theorem xlen_any (w : World) (B q : Nat) (s : XS) (h : Xr w B q s) : Calls Tryd.prog 15 #[.pointer (some ⟨q, 0, none⟩)] w fun e w' => e = .returned (.int .i64 (s.n : Nat)) ∧ w = w' := by
  have h1 := h.c1
  clear h
  go_enter Tryd.func15, Tryd.ntmps15
  go_wp2
  go_ret
  exact ⟨rfl, rfl⟩

theorem xlast_any (w : World) (B q : Nat) (s : XS) (h : Xr w B q s) : Calls Tryd.prog 16 #[.pointer (some ⟨q, 0, none⟩)] w fun e w' => e = .returned (.int .u64 (s.last : Nat)) ∧ w = w' := by
  have h1 := h.c0
  clear h
  go_enter Tryd.func16, Tryd.ntmps16
  go_wp2
  go_ret
  exact ⟨rfl, rfl⟩

theorem xwindow_any (w : World) (B q : Nat) (s : XS) (h : Xr w B q s) : Calls Tryd.prog 13 #[.pointer (some ⟨q, 0, none⟩)] w fun e w' => e = .returned (.tuple #[.int .i64 (s.ahead : Nat), .int .i64 (s.bits : Nat)]) ∧ Fr (fun _ => False) w w' := by
  have h2 := h.c2
  have h3 := h.c3
  clear h
  go_enter Tryd.func13, Tryd.ntmps13
  go_wp2
  go_quiet (fail)
  go_wp2
  go_ret2
  exact ⟨rfl, (Fr.refl _ _).drewN _⟩

theorem xcopy_any (w : World) (B q : Nat) (s : XS) (h : Xr w B q s) : Calls Tryd.prog 17 #[.pointer (some ⟨q, 0, none⟩)] w fun e w' => ∃ q', e = .returned (.pointer (some ⟨q', 0, none⟩)) ∧ Xr w' w.heap.size q' s ∧ Fr (fun _ => False) w w' := by
  have h0 := h.c0
  have h1 := h.c1
  have h2 := h.c2
  have h3 := h.c3
  have hlt := h.lt
  clear h
  go_enter Tryd.func17, Tryd.ntmps17
  go_wp2
  go_ret
  exact ⟨_, rfl, ⟨Nat.le_refl _, heap_alloc_new w _⟩, (Fr.refl _ _).alloc _⟩

theorem xtake_any (w : World) (B q : Nat) (s : XS) (h : Xr w B q s) (hn : s.n < 1000000) (v a b : Nat) :
    Calls Tryd.prog 28 #[.pointer (some ⟨q, 0, none⟩), .int .u64 v, .agg #[.int .i64 a, .int .i64 b]] w fun e w' => e = .returned (.tuple #[]) ∧ Xr w' B q ⟨v, s.n + 1, a, b⟩ ∧ Fr (fun k => k = q) w w' := by
  have h0 := h.c0
  have h1 := h.c1
  have h2 := h.c2
  have h3 := h.c3
  have f0 := h.f 0
  have f1 := h.f 1
  have f2 := h.f 2
  have f3 := h.f 3
  have hlt := h.lt
  have H := hid h
  clear h
  go_enter Tryd.func28, Tryd.ntmps28
  go_wp2
  go_region
  all_goals go_wp2
  go_end0
  have hf : Fr (fun k => k = q) w ((((w.setCell ⟨q, 0, none⟩ (.int .u64 (v : Int))).setCell ⟨q, 2, none⟩ (.int .i64 (a : Int))).setCell ⟨q, 3, none⟩ (.int .i64 (b : Int))).setCell ⟨q, 1, none⟩ (.int .i64 ((s.n : Int) + 1))) :=
    ((((Fr.refl (fun k => k = q) w).setCell _ _ (fun _ => rfl)).setCell _ _ (fun _ => rfl)).setCell _ _ (fun _ => rfl)).setCell _ _ (fun _ => rfl)
  refine ⟨rfl, ⟨H.out.1, ?_⟩, (hf.alloc _).drew⟩
  have hb := set_block (i := 1) (set_block (i := 3) (set_block (i := 2) (set_block (i := 0) H.out.2 (.int .u64 (v : Int))) (.int .i64 (a : Int))) (.int .i64 (b : Int))) (.int .i64 ((s.n : Int) + 1))
  have hk := ((Fr.refl (fun _ => False) _).alloc (.cells #[.int .i64 a, .int .i64 b] 55)).keep hb (fun h => h)
  refine Eq.trans hk ?_
  simp

/-- The run began in w0: a writer and a row of its own, apart; the library's table reads as it was laid. -/
structure XW (K : List (Nat × Obj)) (w0 w : World) (a : Nat) (r : Option Nat) (l : List Bool) (q : Nat) (s : XS) : Prop where
  fr : Fr (fun _ => False) w0 w
  wr : Wr w w0.heap.size a r l
  xr : Xr w w0.heap.size q s
  qa : q ≠ a
  qr : r ≠ some q
  tab : Tab w
  ok : s.Ok
  by_ : ∀ x ∈ K, w.heap[x.1]? = some x.2 ∧ w0.heap.size ≤ x.1 ∧ x.1 ≠ a ∧ r ≠ some x.1 ∧ x.1 ≠ q

section
variable {K : List (Nat × Obj)} {w0 w w' : World} {a q p : Nat} {r r' : Option Nat} {l l' : List Bool} {s : XS} {wa wb : Nat}

theorem XW.still (h : XW K w0 w a r l q s) (hf : Fr (fun _ => False) w w') : XW K w0 w' a r l q s :=
  ⟨h.fr.trans hf (fun _ h _ => h), h.wr.still hf, h.xr.keep hf (fun h => h), h.qa, h.qr, h.tab.keep hf (fun h => h), h.ok, fun x e => ⟨hf.keep (h.by_ x e).1 (fun h => h), (h.by_ x e).2⟩⟩

theorem XW.w1 (h : XW K w0 w a r l q s) : W1 w0 w a r l := ⟨h.fr, h.wr⟩

theorem XW.pos (h : XW K w0 w a r l q s) (ht : 0 < w0.heap.size) : 0 ≠ a ∧ r ≠ some 0 ∧ 0 ≠ q :=
  ⟨by have := h.wr.1; omega, fun e => by have := (h.wr.row_lt 0 e).1; omega, by have := h.xr.1; omega⟩

theorem XW.step (h : XW K w0 w a r l q s) (ht : 0 < w0.heap.size) (hs : WStep w w0.heap.size a r w' r' l') : XW K w0 w' a r' l' q s := by
  obtain ⟨z1, z2, z3⟩ := h.pos ht
  refine ⟨hs.own h.fr h.wr (Nat.le_refl _), hs.wr, h.xr.keep hs.fr (fun e => e.elim h.qa h.qr), h.qa, ?_, h.tab.keep hs.fr (fun e => e.elim z1 z2), h.ok, fun x e => ?_⟩
  · rcases hs.row with rfl | ⟨k, rfl, hk⟩
    · exact h.qr
    · have := h.xr.lt
      simp; omega
  · obtain ⟨x1, x0, x2, x3, x4⟩ := h.by_ x e
    refine ⟨hs.fr.keep x1 (fun e => e.elim x2 x3), x0, x2, ?_, x4⟩
    rcases hs.row with rfl | ⟨k', rfl, hk⟩
    · exact x3
    · have := block_lt x1
      simp; omega

theorem XW.took {s' : XS} (h : XW K w0 w a r l q s) (ht : 0 < w0.heap.size) (hx : Xr w' w0.heap.size q s') (hok : s'.Ok) (hf : Fr (fun k => k = q) w w') : XW K w0 w' a r l q s' :=
  ⟨h.fr.own hf (fun i hi => by subst hi; exact h.xr.1), h.wr.keep hf (fun e => h.qa e.symm) (fun k hk e => h.qr (by rw [hk, e])), hx, h.qa, h.qr, h.tab.keep hf (fun e => (h.pos ht).2.2 e), hok, fun x e => ⟨hf.keep (h.by_ x e).1 (h.by_ x e).2.2.2.2, (h.by_ x e).2⟩⟩

/-- Another block is stood by. -/
theorem XW.beside {k : Nat} {o : Obj} (h : XW K w0 w a r l q s) (hx : w.heap[k]? = some o) (h0 : w0.heap.size ≤ k) (h1 : k ≠ a) (h2 : r ≠ some k) (h3 : k ≠ q) : XW ((k, o) :: K) w0 w a r l q s :=
  ⟨h.fr, h.wr, h.xr, h.qa, h.qr, h.tab, h.ok, fun x e => (List.mem_cons.1 e).elim (fun e => by rw [e]; exact ⟨hx, h0, h1, h2, h3⟩) (fun e => h.by_ x e)⟩
theorem XW.fewer {K' : List (Nat × Obj)} (h : XW K w0 w a r l q s) (hk : ∀ x ∈ K', x ∈ K) : XW K' w0 w a r l q s := ⟨h.fr, h.wr, h.xr, h.qa, h.qr, h.tab, h.ok, fun x e => h.by_ x (hk x e)⟩

/-- A block that is new stands by. -/
theorem XW.newer {k : Nat} {o : Obj} (h : XW K w0 w a r l q s) (hf : Fr (fun _ => False) w w') (hk : w.heap.size ≤ k) (hx : w'.heap[k]? = some o) : XW ((k, o) :: K) w0 w' a r l q s :=
  (h.still hf).beside hx (Nat.le_trans h.fr.size hk) (by have := h.wr.lt; omega) (fun e => by have := (h.wr.row_lt _ e).2; omega) (by have := h.xr.lt; omega)

/-- One that stands by is written. -/
theorem XW.wrote {k : Nat} {o o' : Obj} (h : XW ((k, o) :: K) w0 w a r l q s) (ht : 0 < w0.heap.size) (hK : ∀ x ∈ K, x.1 ≠ k) (hf : Fr (fun i => i = k) w w') (hx : w'.heap[k]? = some o') : XW ((k, o') :: K) w0 w' a r l q s := by
  obtain ⟨x1, x0, x2, x3, x4⟩ := h.by_ (k, o) (List.mem_cons_self)
  refine ⟨h.fr.own hf (fun i hi => by subst hi; exact x0), h.wr.keep hf (fun e => x2 e.symm) (fun j hj e => x3 (by rw [hj, e])), h.xr.keep hf (fun e => x4 e.symm), h.qa, h.qr, h.tab.keep hf (fun e => by simp at x0; omega), h.ok, fun x e => ?_⟩
  rcases List.mem_cons.1 e with rfl | e
  · exact ⟨hx, x0, x2, x3, x4⟩
  · obtain ⟨y1, y2⟩ := h.by_ x (List.mem_cons_of_mem _ e)
    exact ⟨hf.keep y1 (hK x e), y2⟩

/-- With a window's variable at block p. -/
structure XP (K : List (Nat × Obj)) (w0 w : World) (a : Nat) (r : Option Nat) (l : List Bool) (q : Nat) (s : XS) (p wa wb : Nat) : Prop where
  x : XW K w0 w a r l q s
  blk : w.heap[p]? = some (.cells #[.int .i64 (wa : Nat), .int .i64 (wb : Nat)] 55 (0, 0))
  pa : p ≠ a
  pr : r ≠ some p
  pq : p ≠ q
  p0 : w0.heap.size ≤ p
  pk : ∀ x ∈ K, p ≠ x.1

theorem XP.c0 (h : XP K w0 w a r l q s p wa wb) : w.cell? ⟨p, 0, none⟩ = some (.int .i64 (wa : Nat)) := by simp [World.cell?, h.blk]
theorem XP.c1 (h : XP K w0 w a r l q s p wa wb) : w.cell? ⟨p, 1, none⟩ = some (.int .i64 (wb : Nat)) := by simp [World.cell?, h.blk]
theorem XP.f (h : XP K w0 w a r l q s p wa wb) (i : Nat) : w.frozen? ⟨p, i, none⟩ = false := by simp [World.frozen?, h.blk]

theorem XP.made (h : XW K w0 w a r l q s) : XP K w0 (w.alloc (.cells #[.int .i64 (wa : Nat), .int .i64 (wb : Nat)] 55)) a r l q s w.heap.size wa wb :=
  ⟨h.still ((Fr.refl _ _).alloc _), heap_alloc_new w _, by have := h.wr.lt; omega, fun e => by have := (h.wr.row_lt _ e).2; omega, by have := h.xr.lt; omega, h.fr.size, fun x e => by have := block_lt (h.by_ x e).1; omega⟩

theorem XP.still (h : XP K w0 w a r l q s p wa wb) (hf : Fr (fun _ => False) w w') : XP K w0 w' a r l q s p wa wb :=
  ⟨h.x.still hf, hf.keep h.blk (fun h => h), h.pa, h.pr, h.pq, h.p0, h.pk⟩

theorem XP.step (h : XP K w0 w a r l q s p wa wb) (ht : 0 < w0.heap.size) (hs : WStep w w0.heap.size a r w' r' l') : XP K w0 w' a r' l' q s p wa wb := by
  refine ⟨h.x.step ht hs, hs.fr.keep h.blk (fun e => e.elim h.pa h.pr), h.pa, ?_, h.pq, h.p0, h.pk⟩
  rcases hs.row with rfl | ⟨k, rfl, hk⟩
  · exact h.pr
  · have := block_lt h.blk
    simp; omega

theorem XP.set (h : XP K w0 w a r l q s p wa wb) (ht : 0 < w0.heap.size) (x y : Nat) : XP K w0 ((w.setCell ⟨p, 0, none⟩ (.int .i64 (x : Int))).setCell ⟨p, 1, none⟩ (.int .i64 (y : Int))) a r l q s p x y := by
  have hf : Fr (fun k => k = p) w ((w.setCell ⟨p, 0, none⟩ (.int .i64 (x : Int))).setCell ⟨p, 1, none⟩ (.int .i64 (y : Int))) := ((Fr.refl (fun k => k = p) w).setCell _ _ (fun _ => rfl)).setCell _ _ (fun _ => rfl)
  refine ⟨⟨h.x.fr.own hf (fun i hi => by subst hi; exact h.p0), h.x.wr.keep hf (fun e => h.pa e.symm) (fun k hk e => h.pr (by rw [hk, e])), h.x.xr.keep hf (fun e => h.pq e.symm), h.x.qa, h.x.qr,
    h.x.tab.keep hf (fun e => by have := h.p0; omega), h.x.ok, fun x e => ⟨hf.keep (h.x.by_ x e).1 (fun e' => h.pk x e e'.symm), (h.x.by_ x e).2⟩⟩, ?_, h.pa, h.pr, h.pq, h.p0, h.pk⟩
  rw [set_block (set_block h.blk _) _]
  simp

theorem xp_put (h : XP K w0 w a r l q s p wa wb) (ht : 0 < w0.heap.size) (v n : Nat) (hv : v < 18446744073709551616) (h1 : 1 ≤ n) (h64 : n ≤ 64) (hl : l.length + 64 < 8000000) :
    Calls Tryd.prog 23 #[.pointer (some ⟨a, 0, none⟩), .int .u64 v, .int .i64 n] w fun e w' => e = .returned (.tuple #[]) ∧ ∃ r', XP K w0 w' a r' (l ++ bitsOf v n) q s p wa wb :=
  (put_yes w _ a r l v n hv h1 h64 hl h.x.wr).mono fun _ _ ⟨he, r', hs⟩ => ⟨he, r', h.step ht hs⟩

theorem xp_bit (h : XP K w0 w a r l q s p wa wb) (ht : 0 < w0.heap.size) (b : Bool) (hl : l.length < 8000000) :
    Calls Tryd.prog 24 #[.pointer (some ⟨a, 0, none⟩), .bool b] w fun e w' => e = .returned (.tuple #[]) ∧ ∃ r', XP K w0 w' a r' (l ++ [b]) q s p wa wb :=
  (wbit_any w _ a r l b hl h.x.wr).mono fun _ _ ⟨he, r', hs⟩ => ⟨he, r', h.step ht hs⟩

theorem xw_take {v : Nat} (h : XW K w0 w a r l q s) (ht : 0 < w0.heap.size) (hn : s.n < 1000000) (hok : XS.Ok ⟨v, s.n + 1, wa, wb⟩) :
    Calls Tryd.prog 28 #[.pointer (some ⟨q, 0, none⟩), .int .u64 v, .agg #[.int .i64 wa, .int .i64 wb]] w fun e w' => e = .returned (.tuple #[]) ∧ XW K w0 w' a r l q ⟨v, s.n + 1, wa, wb⟩ :=
  (xtake_any w _ q s h.xr hn v wa wb).mono fun _ _ ⟨he, hx, hf⟩ => ⟨he, h.took ht hx hok hf⟩
end
end Go.Proofs.YtlfcaigofakkoaaDoor
