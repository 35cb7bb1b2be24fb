/- Memory: a frame ('only these old blocks may have turned'), rows of bytes, the stream's writer and reader as they lie in memory. -/
import Derived.Test.YtlfcaigofakkoaaRows
import Derived.Test.YtlfcaigofakkoaaBits
import Derived.WalkKit
import Derived.Deep.QuietTactic
import Derived.BigQuiet
namespace Go.Proofs.Ytlfcaigofakkoaa
open Go.RowKit Bt

/-- Of the blocks that were there, those in S alone may have turned. -/
structure Fr (S : Nat → Prop) (w w' : World) : Prop where
  os : w'.os = w.os
  tape : w'.tape = w.tape
  output : w'.output = w.output
  size : w.heap.size ≤ w'.heap.size
  block : ∀ k, k < w.heap.size → ¬ S k → w'.heap[k]? = w.heap[k]?

theorem Fr.refl (S : Nat → Prop) (w : World) : Fr S w w := ⟨rfl, rfl, rfl, Nat.le_refl _, fun _ _ _ => rfl⟩

theorem Fr.trans {S S' : Nat → Prop} {a b c : World} (h : Fr S a b) (k : Fr S' b c) (hs : ∀ i, S' i → i < a.heap.size → S i) : Fr S a c :=
  ⟨k.os.trans h.os, k.tape.trans h.tape, k.output.trans h.output, Nat.le_trans h.size k.size,
    fun i hi hn => (k.block i (Nat.lt_of_lt_of_le hi h.size) (fun h' => hn (hs i h' hi))).trans (h.block i hi hn)⟩

theorem Fr.weak {S S' : Nat → Prop} {a b : World} (h : Fr S a b) (hs : ∀ i, S i → S' i) : Fr S' a b :=
  ⟨h.os, h.tape, h.output, h.size, fun i hi hn => h.block i hi fun h' => hn (hs i h')⟩

theorem Fr.drew {S : Nat → Prop} {a w : World} (h : Fr S a w) : Fr S a w.drew := ⟨h.os, h.tape, h.output, h.size, h.block⟩
theorem Fr.drewN {S : Nat → Prop} {a w : World} (h : Fr S a w) (n : Nat) : Fr S a (w.drewN n) := ⟨h.os, h.tape, h.output, h.size, h.block⟩
theorem Fr.alloc {S : Nat → Prop} {a w : World} (h : Fr S a w) (o : Obj) : Fr S a (w.alloc o) :=
  h.trans (S' := fun _ => False) ⟨rfl, rfl, rfl, by simp, fun k hk _ => Below.heap_alloc _ _ _ hk⟩ (fun _ h => h.elim)
theorem Fr.setCell {S : Nat → Prop} {a w : World} (h : Fr S a w) (p : Addr) (u : Value) (hp : p.block < a.heap.size → S p.block) : Fr S a (w.setCell p u) :=
  h.trans (S' := fun k => k = p.block) ⟨rfl, rfl, rfl, by simp [World.setCell], fun k _ hk => Below.heap_setCell _ _ _ _ hk⟩ (fun i hi h' => by subst hi; exact hp h')
theorem Fr.grown {S : Nat → Prop} {a w w' : World} {row : Option Nat} (h : Fr S a w) (hg : w.grownBy w' row) (hr : ∀ k, row = some k → k < a.heap.size → S k) : Fr S a w' :=
  h.trans (S' := fun k => row = some k) ⟨hg.os, hg.tape, hg.output, hg.size, fun k hk hn => hg.block k hk fun e => hn e.symm⟩ (fun i hi h' => hr i hi h')
theorem Fr.below {S : Nat → Prop} {w w' : World} {B : Nat} (h : Fr S w w') (hB : B ≤ w.heap.size) (hs : ∀ k, S k → B ≤ k) : Below B w w' :=
  ⟨h.os, h.tape, h.output, h.size, fun k hk => h.block k (by omega) fun h' => by have := hs k h'; omega⟩
theorem Fr.cell {S : Nat → Prop} {w w' : World} (h : Fr S w w') {p : Addr} (hp : p.block < w.heap.size) (hn : ¬ S p.block) : w'.cell? p = w.cell? p :=
  World.cell?_of_block (h.block p.block hp hn)
theorem Fr.frozen {S : Nat → Prop} {w w' : World} (h : Fr S w w') {p : Addr} (hp : p.block < w.heap.size) (hn : ¬ S p.block) : w'.frozen? p = w.frozen? p :=
  World.frozen?_of_block (h.block p.block hp hn)

theorem block_lt {w : World} {a : Nat} {o : Obj} (h : w.heap[a]? = some o) : a < w.heap.size := by
  rw [Array.getElem?_eq_some_iff] at h; exact h.1

theorem Fr.keep {S : Nat → Prop} {w w' : World} (h : Fr S w w') {a : Nat} {o : Obj} (ha : w.heap[a]? = some o) (hn : ¬ S a) : w'.heap[a]? = some o :=
  (h.block a (block_lt ha) hn).trans ha

def byteVs (bs : List Nat) : List Value := bs.map fun b : Nat => .int .u8 (b : Int)
theorem len_byteVs (bs : List Nat) : (byteVs bs).length = bs.length := by simp [byteVs]

/-- A row of bytes that the run itself made: block r (none: nil) from B on. -/
structure Row (w : World) (B : Nat) (r : Option Nat) (v : Value) (bs : List Nat) : Prop where
  own : w.ownsRow B 5 1 v bs.length (byteVs bs)
  blk : v.ownBlock = r

theorem Row.keep {S : Nat → Prop} {w w' : World} (h : Fr S w w') {B : Nat} {r : Option Nat} {v : Value} {bs : List Nat} (hr : Row w B r v bs) (hn : ∀ k, r = some k → ¬ S k) : Row w' B r v bs := by
  refine ⟨⟨hr.own.1, ?_⟩, hr.blk⟩
  rcases hr.own.2 with h0 | ⟨g, cap, cur, rfl, hb, hg, rest⟩
  · exact .inl h0
  · refine .inr ⟨g, cap, cur, rfl, hb, ?_, rest⟩
    exact h.keep hg (hn g (by rw [← hr.blk]; rfl))

theorem Row.base {w : World} {B B' : Nat} {r : Option Nat} {v : Value} {bs : List Nat} (hr : Row w B r v bs) (h : ∀ k, r = some k → B' ≤ k) : Row w B' r v bs := by
  refine ⟨⟨hr.own.1, ?_⟩, hr.blk⟩
  rcases hr.own.2 with h0 | ⟨g, cap, cur, rfl, hb, rest⟩
  · exact .inl h0
  · exact .inr ⟨g, cap, cur, rfl, h g (by rw [← hr.blk]; rfl), rest⟩

theorem Row.lt {w : World} {B : Nat} {r : Option Nat} {v : Value} {bs : List Nat} (hr : Row w B r v bs) : ∀ k, r = some k → B ≤ k ∧ k < w.heap.size := by
  intro k hk
  exact hr.own.lt k (hr.blk.trans hk)

theorem Row.at {w : World} {B g : Nat} {v : Value} {bs : List Nat} (h : Row w B (some g) v bs) : ∃ cap cur, v = .slice (some ⟨g, 0, none⟩) bs.length cap ∧ w.heap[g]? = some (.cells cur 5 (0, 0)) ∧ bs.length ≤ cap ∧ cap ≤ maxLen ∧ cur.size = cap ∧ cur.toList.take bs.length = byteVs bs := by
  rcases h.own.2 with ⟨rfl, _⟩ | ⟨g', cap, cur, rfl, _, hg, h1, h2, h3, h4⟩
  · have := h.blk; cases this
  · have hga : g' = g := by have := h.blk; simpa [Value.ownBlock] using this
    subst hga
    exact ⟨cap, cur, rfl, hg, h1, h2, by simpa using h3, by simpa using h4⟩

theorem Row.cellAt {w : World} {B g : Nat} {v : Value} {bs : List Nat} (h : Row w B (some g) v bs) (j : Nat) (hj : j < bs.length) : w.cell? ⟨g, j, none⟩ = some (.int .u8 (bs.getD j 0 : Nat)) := by
  obtain ⟨cap, cur, rfl, hg, h1, h2, h3, h4⟩ := h.at
  rw [cell_of_row w g j cur _ (0, 0) hg]
  have hu : (byteVs bs)[j]? = some (.int .u8 (bs.getD j 0 : Nat)) := by
    simp [byteVs, List.getD_eq_getElem?_getD, hj]
  rw [← h4, List.getElem?_take, if_pos hj] at hu
  simpa using hu

theorem Row.frozenAt {w : World} {B g : Nat} {v : Value} {bs : List Nat} (h : Row w B (some g) v bs) (j : Nat) : w.frozen? ⟨g, j, none⟩ = false := by
  obtain ⟨cap, cur, rfl, hg, h1, h2, h3, h4⟩ := h.at
  simp [World.frozen?, hg]

/-- One byte is written. -/
theorem Row.set {w : World} {B g : Nat} {v : Value} {bs : List Nat} (h : Row w B (some g) v bs) (j : Nat) (b : Nat) : Row (w.setCell ⟨g, j, none⟩ (.int .u8 (b : Int))) B (some g) v (bs.set j b) := by
  obtain ⟨cap, cur, rfl, hg, h1, h2, h3, h4⟩ := h.at
  have hB := (h.lt g rfl).1
  refine ⟨⟨by simp [byteVs], .inr ⟨g, cap, cur.setIfInBounds j (.int .u8 (b : Int)), by simp, hB, ?_, by simpa using h1, h2, by simp [h3], ?_⟩⟩, rfl⟩
  · simp [World.setCell, Array.getElem?_modify, hg]
  · rw [Array.toList_setIfInBounds, List.take_set, List.length_set, Nat.mul_one, h4]
    simp [byteVs]

theorem Row.drew {w : World} {B : Nat} {r : Option Nat} {v : Value} {bs : List Nat} (h : Row w B r v bs) : Row w.drew B r v bs := ⟨h.own, h.blk⟩

/-- A slice that reads as these bytes. -/
def BS (w : World) (v : Value) (bs : List Nat) : Prop :=
  (v = .slice none 0 0 ∧ bs = []) ∨
  ∃ a cap, v = .slice (some a) bs.length cap ∧ bs.length ≤ cap ∧ cap ≤ maxLen ∧ ∀ j u, (byteVs bs)[j]? = some u → w.cell? (a.add j) = some u

theorem Row.bs {w : World} {B : Nat} {r : Option Nat} {v : Value} {bs : List Nat} (hr : Row w B r v bs) : BS w v bs := by
  rcases hr.own.2 with ⟨h0, h1⟩ | ⟨g, cap, cur, rfl, hb, hg, h1, h2, h3, h4⟩
  · exact .inl ⟨h0, List.eq_nil_of_length_eq_zero h1⟩
  · exact .inr ⟨⟨g, 0, none⟩, cap, rfl, h1, h2, hr.own.cells (g := g) rfl⟩

theorem BS.keep {S : Nat → Prop} {w w' : World} (h : Fr S w w') {v : Value} {bs : List Nat} (hb : BS w v bs) (hn : ∀ a n c, v = .slice (some a) n c → ¬ S a.block) : BS w' v bs := by
  rcases hb with h0 | ⟨a, cap, rfl, h1, h2, hc⟩
  · exact .inl h0
  · refine .inr ⟨a, cap, rfl, h1, h2, fun j u hu => ?_⟩
    have hcell := hc j u hu
    have hblk : (a.add j).block = a.block := by unfold Addr.add; split <;> rfl
    rw [h.cell (World.block_lt_of_cell? w _ hcell) (by rw [hblk]; exact hn a _ _ rfl)]
    exact hcell

/-- A writer at block a, its bytes in block r: it has the bits l. -/
def Wr (w : World) (B a : Nat) (r : Option Nat) (l : List Bool) : Prop :=
  B ≤ a ∧ ∃ v, w.heap[a]? = some (.cells #[v, .int .i64 (l.length : Nat)] 77 (0, 0)) ∧ Row w B r v (pack l)

theorem Wr.lt {w : World} {B a : Nat} {r : Option Nat} {l : List Bool} (h : Wr w B a r l) : a < w.heap.size := by
  obtain ⟨_, v, hv, _⟩ := h
  exact block_lt hv

theorem Wr.keep {S : Nat → Prop} {w w' : World} (h : Fr S w w') {B a : Nat} {r : Option Nat} {l : List Bool} (hw : Wr w B a r l) (ha : ¬ S a) (hr : ∀ k, r = some k → ¬ S k) : Wr w' B a r l := by
  obtain ⟨hB, v, hv, hrow⟩ := hw
  exact ⟨hB, v, h.keep hv ha, hrow.keep h hr⟩

/-- A reader at block a, its bytes in block r: it has read pos bits, the bits that are left are l; it is short. -/
def Rd (w : World) (B a : Nat) (r : Option Nat) (pos : Nat) (l : List Bool) (short : Bool) : Prop :=
  B ≤ a ∧ ∃ v all n, w.heap[a]? = some (.cells #[v, .int .i64 (pos : Nat), .int .i64 (n : Nat), .bool short] 79 (0, 0)) ∧ Row w B r v (pack all) ∧
    pos ≤ n ∧ n ≤ all.length ∧ all.length ≤ 8000000 ∧ l = (all.take n).drop pos

theorem Rd.lt {w : World} {B a : Nat} {r : Option Nat} {pos : Nat} {l : List Bool} {short : Bool} (h : Rd w B a r pos l short) : a < w.heap.size := by
  obtain ⟨_, v, all, n, hv, _⟩ := h
  exact block_lt hv

theorem Rd.keep {S : Nat → Prop} {w w' : World} (h : Fr S w w') {B a : Nat} {r : Option Nat} {pos : Nat} {l : List Bool} {short : Bool} (hw : Rd w B a r pos l short) (ha : ¬ S a) (hr : ∀ k, r = some k → ¬ S k) : Rd w' B a r pos l short := by
  obtain ⟨hB, v, all, n, hv, hrow, rest⟩ := hw
  exact ⟨hB, v, all, n, h.keep hv ha, hrow.keep h hr, rest⟩

theorem Rd.row_lt {w : World} {B a : Nat} {r : Option Nat} {pos : Nat} {l : List Bool} {short : Bool} (h : Rd w B a r pos l short) : ∀ k, r = some k → B ≤ k ∧ k < w.heap.size := by
  obtain ⟨_, v, all, n, hv, hrow, _⟩ := h
  exact hrow.lt

theorem Wr.row_lt {w : World} {B a : Nat} {r : Option Nat} {l : List Bool} (h : Wr w B a r l) : ∀ k, r = some k → B ≤ k ∧ k < w.heap.size := by
  obtain ⟨_, v, hv, hrow⟩ := h
  exact hrow.lt

/-- A row of bytes and a struct never lie in one block. -/
theorem Row.ne {w : World} {B : Nat} {r : Option Nat} {v : Value} {bs : List Nat} (h : Row w B r v bs) {a : Nat} {cs : Array Value} {T : TypeId} (ha : w.heap[a]? = some (.cells cs T (0, 0))) (hT : T ≠ 5) : r ≠ some a := by
  intro hr
  rcases h.own.2 with ⟨rfl, _⟩ | ⟨g, cap, cur, rfl, hb, hg, _⟩
  · have := h.blk; rw [hr] at this; cases this
  · have hga : g = a := by have := h.blk; rw [hr] at this; simpa [Value.ownBlock] using this
    subst hga
    rw [hg] at ha
    simp only [Option.some.injEq, Obj.cells.injEq] at ha
    exact hT ha.2.1.symm

/-- 'string(b)' of a slice of bytes. -/
theorem foldl_push (ns : List Int) : ∀ s : ByteArray, ns.foldl (fun r n => r.push (UInt8.ofNat n.toNat)) s = s ++ ⟨(ns.map fun n => UInt8.ofNat n.toNat).toArray⟩ := by
  induction ns with
  | nil => intro s; apply ByteArray.ext; simp
  | cons n ns ih =>
    intro s
    rw [List.foldl_cons, ih]
    apply ByteArray.ext
    simp [ByteArray.push]

theorem run_conv (w : World) (v : Value) (bs : List Nat) (h : BS w v bs) : (convert 35 9 v).run Try.prog w = .ok (.string (str bs)) w := by
  rcases h with ⟨rfl, rfl⟩ | ⟨a, cap, rfl, _, _, hc⟩
  · rw [run_convert_bytes_string w _ _ 5 none 0 0 (by kernel_rfl) (by kernel_rfl) (by kernel_rfl)]
    simp [Conv.bytesToString, str, Sem.run_pure]
    rfl
  · rw [run_convert_bytes_string w _ _ 5 _ _ _ (by kernel_rfl) (by kernel_rfl) (by kernel_rfl)]
    have hl := run_loadCells_list (P := Try.prog) (w := w) a (byteVs bs) hc
    rw [len_byteVs] at hl
    rw [run_bytesToString w a bs.length cap (bs.map fun b : Nat => (b : Int)) (by rw [hl]; congr 2; simp [byteVs])]
    rw [foldl_push]
    congr 2
    apply ByteArray.ext
    simp [str]

end Go.Proofs.Ytlfcaigofakkoaa
