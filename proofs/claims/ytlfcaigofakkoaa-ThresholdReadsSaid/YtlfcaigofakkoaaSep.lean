/- A writer and a reader side by side: what one does leaves the other. -/
import Derived.Test.YtlfcaigofakkoaaBit
namespace Go.Proofs.Ytlfcaigofakkoaa
open Go.RowKit Bt

/-- Two objects, each of a struct's block and maybe a row's block, share none. -/
structure Sep (a : Nat) (r : Option Nat) (a2 : Nat) (r2 : Option Nat) : Prop where
  aa : a ≠ a2
  ra : r ≠ some a2
  ar : r2 ≠ some a
  rr : ∀ k, r = some k → r2 ≠ some k

theorem Sep.symm {a a2 : Nat} {r r2 : Option Nat} (h : Sep a r a2 r2) : Sep a2 r2 a r :=
  ⟨fun e => h.aa e.symm, h.ar, h.ra, fun k hk hk' => h.rr k hk' hk⟩

/-- What is there and what is new. -/
theorem Sep.made {a a2 : Nat} {r r2 : Option Nat} {n : Nat} (ha : a < n) (hr : ∀ k, r = some k → k < n) (ha2 : n ≤ a2) (hr2 : ∀ k, r2 = some k → n ≤ k) : Sep a r a2 r2 :=
  ⟨by omega, fun h => by have := hr _ h; omega, fun h => by have := hr2 _ h; omega, fun k hk hk' => by have := hr _ hk; have := hr2 _ hk'; omega⟩

theorem Sep.step {w w' : World} {B a a2 : Nat} {r r' r2 : Option Nat} {l : List Bool} (h : Sep a r a2 r2) (hs : WStep w B a r w' r' l) (ha2 : a2 < w.heap.size) (hr2 : ∀ k, r2 = some k → k < w.heap.size) : Sep a r' a2 r2 := by
  rcases hs.row with rfl | ⟨k, rfl, hk⟩
  · exact h
  · exact ⟨h.aa, fun e => by simp at e; omega, h.ar, fun j hj hj' => by simp at hj; have := hr2 _ hj'; omega⟩

theorem Rd.wstep {w w' : World} {B a a2 B2 pos : Nat} {r r' r2 : Option Nat} {l l2 : List Bool} {short : Bool} (h : Rd w B2 a2 r2 pos l2 short) (hs : WStep w B a r w' r' l) (hp : Sep a r a2 r2) : Rd w' B2 a2 r2 pos l2 short :=
  h.keep hs.fr (fun e => e.elim (fun e => hp.aa e.symm) hp.ra) (fun k hk e => e.elim (fun e => hp.ar (by rw [hk, e])) (fun e => hp.rr k e hk))

theorem Wr.wstep {w w' : World} {B a a2 B2 : Nat} {r r' r2 : Option Nat} {l l2 : List Bool} (h : Wr w B2 a2 r2 l2) (hs : WStep w B a r w' r' l) (hp : Sep a r a2 r2) : Wr w' B2 a2 r2 l2 :=
  h.keep hs.fr (fun e => e.elim (fun e => hp.aa e.symm) hp.ra) (fun k hk e => e.elim (fun e => hp.ar (by rw [hk, e])) (fun e => hp.rr k e hk))

theorem Wr.rstep {w w' : World} {B a a2 : Nat} {r r2 : Option Nat} {l : List Bool} (h : Wr w B a r l) (hf : Fr (fun k => k = a2) w w') (hp : Sep a r a2 r2) : Wr w' B a r l :=
  h.keep hf (fun e => hp.aa e) (fun k hk e => hp.ra (by rw [hk, e]))

theorem Wr.still {w w' : World} {B a : Nat} {r : Option Nat} {l : List Bool} (h : Wr w B a r l) (hf : Fr (fun _ => False) w w') : Wr w' B a r l := h.keep hf (fun e => e) (fun _ _ e => e)
theorem Rd.still {w w' : World} {B a pos : Nat} {r : Option Nat} {l : List Bool} {short : Bool} (h : Rd w B a r pos l short) (hf : Fr (fun _ => False) w w') : Rd w' B a r pos l short := h.keep hf (fun e => e) (fun _ _ e => e)

theorem Wr.base {w : World} {B B' a : Nat} {r : Option Nat} {l : List Bool} (h : Wr w B a r l) (hB : B' ≤ B) : Wr w B' a r l := by
  obtain ⟨h1, v, h2, h3⟩ := h
  exact ⟨by omega, v, h2, h3.base fun k hk => by have := (h3.lt k hk).1; omega⟩
theorem Rd.base {w : World} {B B' a pos : Nat} {r : Option Nat} {l : List Bool} {short : Bool} (h : Rd w B a r pos l short) (hB : B' ≤ B) : Rd w B' a r pos l short := by
  obtain ⟨h1, v, all, n, h2, h3, h4⟩ := h
  exact ⟨by omega, v, all, n, h2, h3.base fun k hk => by have := (h3.lt k hk).1; omega, h4⟩

/-- A new frame's link: nothing old turned so far; a step that touches the run's own blocks alone. -/
theorem Fr.own {w w1 w2 : World} {S : Nat → Prop} (h : Fr (fun _ => False) w w1) (k : Fr S w1 w2) (hs : ∀ i, S i → w.heap.size ≤ i) : Fr (fun _ => False) w w2 :=
  h.trans k (fun i hi hlt => by have := hs i hi; omega)

theorem WStep.own {w w1 w2 : World} {B a : Nat} {r r' : Option Nat} {l l0 : List Bool} (hs : WStep w1 B a r w2 r' l) (h : Fr (fun _ => False) w w1) (hw : Wr w1 B a r l0) (hB : w.heap.size ≤ B) : Fr (fun _ => False) w w2 :=
  h.own hs.fr (fun i hi => by
    rcases hi with rfl | hi
    · have := hw.1; omega
    · have := (hw.row_lt i hi).1; omega)

theorem Rd.own {w w1 w2 : World} {B a pos : Nat} {r : Option Nat} {l : List Bool} {short : Bool} (hr : Rd w1 B a r pos l short) (h : Fr (fun _ => False) w w1) (hf : Fr (fun k => k = a) w1 w2) (hB : w.heap.size ≤ B) : Fr (fun _ => False) w w2 :=
  h.own hf (fun i hi => by subst hi; have := hr.1; omega)

/-- A fresh slice literal of one byte. -/
theorem bs_one (w : World) (b : Nat) : BS (w.alloc (.cells #[.int .u8 (b : Nat)] 5)) (.slice (some ⟨w.heap.size, 0, none⟩) 1 1) [b] :=
  .inr ⟨_, 1, rfl, Nat.le_refl 1, by decide, cell_one_new _ _ _⟩

/-- The run began in w0; a writer of its own has the bits l; nothing old has turned. -/
structure W1 (w0 w : World) (a : Nat) (r : Option Nat) (l : List Bool) : Prop where
  fr : Fr (fun _ => False) w0 w
  wr : Wr w w0.heap.size a r l

/-- The same, and a reader of its own that shares nothing with it. -/
structure WR (w0 w : World) (a : Nat) (r : Option Nat) (l : List Bool) (a2 : Nat) (r2 : Option Nat) (pos : Nat) (l2 : List Bool) (short : Bool) : Prop where
  fr : Fr (fun _ => False) w0 w
  wr : Wr w w0.heap.size a r l
  rd : Rd w w0.heap.size a2 r2 pos l2 short
  sep : Sep a r a2 r2

section
variable {w0 w w' : World} {a a2 pos : Nat} {r r2 : Option Nat} {l l2 : List Bool} {short : Bool}

theorem W1.still (h : W1 w0 w a r l) (hf : Fr (fun _ => False) w w') : W1 w0 w' a r l := ⟨h.fr.trans hf (fun _ h _ => h), h.wr.still hf⟩
theorem WR.still (h : WR w0 w a r l a2 r2 pos l2 short) (hf : Fr (fun _ => False) w w') : WR w0 w' a r l a2 r2 pos l2 short :=
  ⟨h.fr.trans hf (fun _ h _ => h), h.wr.still hf, h.rd.still hf, h.sep⟩
theorem WR.w1 (h : WR w0 w a r l a2 r2 pos l2 short) : W1 w0 w a r l := ⟨h.fr, h.wr⟩

theorem W1.step {r' : Option Nat} {l' : List Bool} (h : W1 w0 w a r l) (hs : WStep w w0.heap.size a r w' r' l') : W1 w0 w' a r' l' :=
  ⟨hs.own h.fr h.wr (Nat.le_refl _), hs.wr⟩
theorem WR.step {r' : Option Nat} {l' : List Bool} (h : WR w0 w a r l a2 r2 pos l2 short) (hs : WStep w w0.heap.size a r w' r' l') : WR w0 w' a r' l' a2 r2 pos l2 short :=
  ⟨hs.own h.fr h.wr (Nat.le_refl _), hs.wr, h.rd.wstep hs h.sep, h.sep.step hs h.rd.lt (fun k hk => (h.rd.row_lt k hk).2)⟩
theorem WR.read {pos' : Nat} {l2' : List Bool} {short' : Bool} (h : WR w0 w a r l a2 r2 pos l2 short) (hr : Rd w' w0.heap.size a2 r2 pos' l2' short') (hf : Fr (fun k => k = a2) w w') : WR w0 w' a r l a2 r2 pos' l2' short' :=
  ⟨h.rd.own h.fr hf (Nat.le_refl _), h.wr.rstep hf h.sep, hr, h.sep⟩

theorem w1_new (v : Value) (bs : List Nat) (n : Nat) (h : Fr (fun _ => False) w0 w) (hl : bs.length ≤ 1000000) (hb : BS w v bs) (h256 : ∀ b ∈ bs, b < 256) (hn : n ≤ 8 * bs.length) :
    Calls Try.prog 15 #[v, .int .i64 n] w fun e w' => ∃ a r, e = .returned (.tuple #[.pointer (some ⟨a, 0, none⟩), .int .i64 0]) ∧ W1 w0 w' a r ((unpack bs).take n) ∧ Fr (fun _ => False) w w' := by
  refine (newWriter_any v bs n w hl hb h256 hn).mono ?_
  rintro e w' ⟨a, r, rfl, hw, hf⟩
  exact ⟨a, r, rfl, ⟨h.trans hf (fun _ h _ => h), hw.base h.size⟩, hf⟩

theorem wr_new (v : Value) (bs : List Nat) (n : Nat) (h : W1 w0 w a r l) (hl : bs.length ≤ 1000000) (hb : BS w v bs) (h256 : ∀ b ∈ bs, b < 256) (hn : n ≤ 8 * bs.length) :
    Calls Try.prog 17 #[v, .int .i64 n] w fun e w' => ∃ a2 r2, e = .returned (.tuple #[.pointer (some ⟨a2, 0, none⟩), .int .i64 0]) ∧ WR w0 w' a r l a2 r2 0 ((unpack bs).take n) false ∧ Fr (fun _ => False) w w' := by
  refine (newReader_any v bs n w hl hb h256 hn).mono ?_
  rintro e w' ⟨a2, r2, rfl, hr, hf⟩
  exact ⟨a2, r2, rfl, ⟨h.fr.trans hf (fun _ h _ => h), h.wr.still hf, hr.base h.fr.size, Sep.made h.wr.lt (fun k hk => (h.wr.row_lt k hk).2) hr.1 (fun k hk => (hr.row_lt k hk).1)⟩, hf⟩

theorem w1_bit (h : W1 w0 w a r l) (b : Bool) (hl : l.length < 8000000) :
    Calls Try.prog 27 #[.pointer (some ⟨a, 0, none⟩), .bool b] w fun e w' => e = .returned (.tuple #[]) ∧ ∃ r', W1 w0 w' a r' (l ++ [b]) ∧ WStep w w0.heap.size a r w' r' (l ++ [b]) :=
  (wbit_any w _ a r l b hl h.wr).mono fun _ _ ⟨he, r', hs⟩ => ⟨he, r', h.step hs, hs⟩

theorem w1_put (h : W1 w0 w a r l) (v n : Nat) (hv : v < 18446744073709551616) (h1 : 1 ≤ n) (h64 : n ≤ 64) (hl : l.length + 64 < 8000000) :
    Calls Try.prog 16 #[.pointer (some ⟨a, 0, none⟩), .int .u64 v, .int .i64 n] w fun e w' => e = .returned (.tuple #[]) ∧ ∃ r', W1 w0 w' a r' (l ++ bitsOf v n) ∧ WStep w w0.heap.size a r w' r' (l ++ bitsOf v n) :=
  (put_yes w _ a r l v n hv h1 h64 hl h.wr).mono fun _ _ ⟨he, r', hs⟩ => ⟨he, r', h.step hs, hs⟩

theorem wr_bit (h : WR w0 w a r l a2 r2 pos l2 short) (b : Bool) (hl : l.length < 8000000) :
    Calls Try.prog 27 #[.pointer (some ⟨a, 0, none⟩), .bool b] w fun e w' => e = .returned (.tuple #[]) ∧ ∃ r', WR w0 w' a r' (l ++ [b]) a2 r2 pos l2 short :=
  (wbit_any w _ a r l b hl h.wr).mono fun _ _ ⟨he, r', hs⟩ => ⟨he, r', h.step hs⟩

theorem wr_put (h : WR w0 w a r l a2 r2 pos l2 short) (v n : Nat) (hv : v < 18446744073709551616) (h1 : 1 ≤ n) (h64 : n ≤ 64) (hl : l.length + 64 < 8000000) :
    Calls Try.prog 16 #[.pointer (some ⟨a, 0, none⟩), .int .u64 v, .int .i64 n] w fun e w' => e = .returned (.tuple #[]) ∧ ∃ r', WR w0 w' a r' (l ++ bitsOf v n) a2 r2 pos l2 short :=
  (put_yes w _ a r l v n hv h1 h64 hl h.wr).mono fun _ _ ⟨he, r', hs⟩ => ⟨he, r', h.step hs⟩

theorem wr_get (h : WR w0 w a r l a2 r2 pos l2 short) (n : Nat) (h1 : 1 ≤ n) (h64 : n ≤ 64) (hl : n ≤ l2.length) :
    Calls Try.prog 21 #[.pointer (some ⟨a2, 0, none⟩), .int .i64 n] w fun e w' => e = .returned (.int .u64 (bval (l2.take n) : Nat)) ∧ WR w0 w' a r l a2 r2 (pos + n) (l2.drop n) short :=
  (get_yes w _ a2 r2 pos l2 short n h1 h64 hl h.rd).mono fun _ _ ⟨he, hr, hf⟩ => ⟨he, h.read hr hf⟩

theorem wr_get_short (h : WR w0 w a r l a2 r2 pos l2 short) (n : Nat) (h1 : 1 ≤ n) (h64 : n ≤ 64) (hl : l2.length < n) :
    Calls Try.prog 21 #[.pointer (some ⟨a2, 0, none⟩), .int .i64 n] w fun e w' => e = .returned (.int .u64 0) ∧ WR w0 w' a r l a2 r2 pos [] true :=
  (get_short w _ a2 r2 pos l2 short n h1 h64 hl h.rd).mono fun _ _ ⟨he, hr, hf⟩ => ⟨he, h.read hr hf⟩

theorem wr_rbit {b : Bool} (h : WR w0 w a r l a2 r2 pos (b :: l2) short) :
    Calls Try.prog 26 #[.pointer (some ⟨a2, 0, none⟩)] w fun e w' => e = .returned (.bool b) ∧ WR w0 w' a r l a2 r2 (pos + 1) l2 short :=
  (rbit_yes w _ a2 r2 pos b l2 short h.rd).mono fun _ _ ⟨he, hr, hf⟩ => ⟨he, h.read hr hf⟩

theorem w1_len (h : W1 w0 w a r l) : Calls Try.prog 19 #[.pointer (some ⟨a, 0, none⟩)] w fun e w' => e = .returned (.int .i64 (l.length : Nat)) ∧ w = w' := wlen_any w _ a r l h.wr

theorem w1_bytes (h : W1 w0 w a r l) (hl : l.length ≤ 8000000) : Calls Try.prog 18 #[.pointer (some ⟨a, 0, none⟩)] w fun e w' => ∃ ao N cap, e = .returned (.slice ao N cap) ∧ W1 w0 w' a r l ∧ BS w' (.slice ao N cap) (pack l) ∧ Fr (fun _ => False) w w' :=
  (wbytes_any w _ a r l hl h.wr).mono fun _ _ ⟨ao, N, cap, _, he, hr, hf⟩ => ⟨ao, N, cap, he, h.still hf, hr.bs, hf⟩

theorem wr_bytes (h : WR w0 w a r l a2 r2 pos l2 short) (hl : l.length ≤ 8000000) : Calls Try.prog 18 #[.pointer (some ⟨a, 0, none⟩)] w fun e w' => ∃ ao N cap, e = .returned (.slice ao N cap) ∧ WR w0 w' a r l a2 r2 pos l2 short ∧ BS w' (.slice ao N cap) (pack l) :=
  (wbytes_any w _ a r l hl h.wr).mono fun _ _ ⟨ao, N, cap, _, he, hr, hf⟩ => ⟨ao, N, cap, he, h.still hf, hr.bs⟩

theorem wr_left (h : WR w0 w a r l a2 r2 pos l2 short) : Calls Try.prog 23 #[.pointer (some ⟨a2, 0, none⟩)] w fun e w' => e = .returned (.int .i64 (l2.length : Nat)) ∧ WR w0 w' a r l a2 r2 pos l2 short :=
  (left_any w _ a2 r2 pos l2 short h.rd).mono fun _ _ ⟨he, n, hn⟩ => ⟨he, by rw [hn]; exact h.still ((Fr.refl _ _).drewN n)⟩

theorem wr_short (h : WR w0 w a r l a2 r2 pos l2 short) : Calls Try.prog 24 #[.pointer (some ⟨a2, 0, none⟩)] w fun e w' => e = .returned (.bool short) ∧ w = w' := short_any w _ a2 r2 pos l2 short h.rd
end

theorem conv_bs {w : World} {v : Value} {bs : List Nat} (h : BS w v bs) : Sem.run Try.prog (convert 35 9 v) w = .ok (.string (str bs)) w := run_conv w v bs h

end Go.Proofs.Ytlfcaigofakkoaa
