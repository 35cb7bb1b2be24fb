/- The walks of a writer's Bit, Put and Copy. -/
import Derived.Test.YtlfcaigofakkoaaGet
import Derived.Deep.RegionWith
namespace Go.Proofs.Ytlfcaigofakkoaa
open Go.RowKit Bt

theorem Row.cells {w : World} {B : Nat} {r : Option Nat} {ao : Option Addr} {N cap : Nat} {bs : List Nat} (h : Row w B r (.slice ao N cap) bs) :
    (ao = none → N = 0 ∧ cap = 0 ∧ bs = []) ∧ (∀ b, ao = some b → N = bs.length ∧ ∃ g, b = ⟨g, 0, none⟩ ∧ r = some g ∧ B ≤ g ∧ ∀ j u, (byteVs bs)[j]? = some u → w.cell? (b.add j) = some u) := by
  rcases h.own.2 with ⟨h0, h1⟩ | ⟨g, cap', cur, he, hb, _⟩
  · simp only [Value.slice.injEq] at h0
    obtain ⟨rfl, rfl, rfl⟩ := h0
    exact ⟨fun _ => ⟨rfl, rfl, List.eq_nil_of_length_eq_zero h1⟩, fun b h => by cases h⟩
  · simp only [Value.slice.injEq] at he
    obtain ⟨rfl, rfl, rfl⟩ := he
    refine ⟨fun h => (by cases h), fun b hb' => ⟨rfl, g, ?_, h.blk.symm, hb, ?_⟩⟩
    · simpa using hb'.symm
    · obtain rfl : b = ⟨g, 0, none⟩ := by simpa using hb'.symm
      exact h.own.cells (g := g) rfl

/-- One byte more, behind a row of the run's own: where it was, or in a new block. -/
theorem wpList_append_byte (w : World) {ops : Array Oper} {rest : List Oper} {o : Oper} {a : Act} {Q : Exit → Act → World → Prop}
    (hg : o.guard = none) (s x : Operand) (hop : o.op = Op.call { callee := Callee.builtin Builtin.append, args := #[s, x], argTypes := #[35, 35] })
    (B : Nat) (r : Option Nat) (ao : Option Addr) (N cap : Nat) (bs : List Nat) (hs : a.eval s = .slice ao N cap) (hrow : Row w B r (.slice ao N cap) bs) (hl : bs.length ≤ 2000000) (hB : B ≤ w.heap.size)
    (ad : Addr) (b : Nat) (hx : a.eval x = .slice (some ad) 1 1) (hc : ∀ j u, [Value.int .u8 (b : Int)][j]? = some u → w.cell? (ad.add j) = some u)
    (hK : ∀ g cap' w', Row w' B (some g) (.slice (some ⟨g, 0, none⟩) (bs.length + 1) cap') (bs ++ [b]) → Fr (fun k => r = some k) w w' → (r = some g ∨ w.heap.size ≤ g) → wpList Try.prog ops Q rest (a.put o.dst (.slice (some ⟨g, 0, none⟩) (bs.length + 1) cap')) w') :
    wpList Try.prog ops Q (o :: rest) a w := by
  obtain ⟨i0, hi, hz0, hz1, hz2⟩ := info_parts Try.info5
  have h1c : ∀ u ∈ [Value.int .u8 (b : Int)], u.oneCell' = true := by intro u hu; simp at hu; subst hu; rfl
  have hbs : byteVs (bs ++ [b]) = byteVs bs ++ [Value.int .u8 (b : Int)] := by simp [byteVs]
  obtain ⟨hnone, hsome⟩ := hrow.cells
  by_cases hroom : N + 1 ≤ cap
  · cases hao : ao with
    | none => have := hnone hao; omega
    | some p =>
      obtain ⟨rfl, g, rfl, rfl, _, _⟩ := hsome p hao
      subst hao
      refine wpList_append_fits w hg s x 35 hop B 5 i0 1 Try.underlying35 hi hz1 g bs.length cap (byteVs bs) hs hrow.own ad 1 1 [Value.int .u8 (b : Int)] hx rfl hc h1c hroom ?_
      intro w' hown hgr
      refine hK g cap w' ⟨?_, rfl⟩ ?_ (.inl rfl)
      · rw [hbs, List.length_append]; exact hown
      · exact (Fr.refl _ w).grown hgr (fun k hk _ => hk)
  · have hlo : (byteVs bs).length = N * 1 := by
      rw [len_byteVs]
      cases hao : ao with
      | none => have := hnone hao; rw [this.2.2, this.1]; rfl
      | some p => rw [(hsome p hao).1]; omega
    have hN : N = bs.length := by rw [len_byteVs] at hlo; omega
    refine wpList_append_grows w hg s x 35 hop 5 i0 (.int .u8 0) 1 1 Try.underlying35 hi hz0 hz1 hz2 rfl (by decide) ao N cap (byteVs bs) hs (fun h => ⟨(hnone h).1, (hnone h).2.1⟩) hlo ?_ ad 1 1 [Value.int .u8 (b : Int)] hx rfl hc h1c (by omega) (by unfold maxLen; omega) (by omega) ?_
    · intro p hp
      obtain ⟨_, g, _, _, _, hcell⟩ := hsome p hp
      exact hcell
    · intro v' w' hown hgr
      rw [hN] at hown
      rcases hown.2 with ⟨_, h0⟩ | ⟨g, cap', cur, rfl, hbg, rest'⟩
      · omega
      · refine hK g cap' w' ⟨?_, rfl⟩ ((Fr.refl _ w).grown hgr (fun k hk _ => by cases hk)) (.inr hbg)
        rw [hbs, List.length_append]
        exact ⟨hown.1, .inr ⟨g, cap', cur, rfl, by omega, rest'⟩⟩

/-- A writer goes on: it has the bits l now; of old blocks its own two alone may have turned; its bytes lie where they lay, or in a new block. -/
structure WStep (w : World) (B a : Nat) (r : Option Nat) (w' : World) (r' : Option Nat) (l : List Bool) : Prop where
  wr : Wr w' B a r' l
  fr : Fr (fun k => k = a ∨ r = some k) w w'
  row : r' = r ∨ ∃ k, r' = some k ∧ w.heap.size ≤ k

theorem WStep.start {w : World} {B a : Nat} {r : Option Nat} {l : List Bool} (h : Wr w B a r l) : WStep w B a r w r l := ⟨h, Fr.refl _ _, .inl rfl⟩

theorem WStep.trans {w w1 w2 : World} {B a : Nat} {r r1 r2 : Option Nat} {l1 l2 : List Bool} (h : WStep w B a r w1 r1 l1) (k : WStep w1 B a r1 w2 r2 l2) : WStep w B a r w2 r2 l2 := by
  refine ⟨k.wr, h.fr.trans k.fr (fun i hi hlt => ?_), ?_⟩
  · rcases hi with hi | hi
    · exact .inl hi
    · rcases h.row with h1 | ⟨j, h1, h2⟩
      · exact .inr (by rw [← h1]; exact hi)
      · rw [h1] at hi; simp only [Option.some.injEq] at hi; omega
  · rcases k.row with h1 | ⟨j, h1, h2⟩
    · rcases h.row with h3 | h3
      · exact .inl (h1.trans h3)
      · exact .inr (by rw [h1]; exact h3)
    · exact .inr ⟨j, h1, Nat.le_trans h.fr.size h2⟩

/-- What Bit leaves. -/
def BitPost (w : World) (B a : Nat) (r : Option Nat) (l : List Bool) (e : Ending) (w' : World) : Prop :=
  e = .returned (.tuple #[]) ∧ ∃ r', WStep w B a r w' r' l

theorem after_append {w w1 : World} {a g : Nat} {r : Option Nat} {v n : Value} {T : TypeId} {o : Obj} {B : Nat} {v' : Value} {bs : List Nat} {b : Nat} (hv : w.heap[a]? = some (.cells #[v, n] T (0, 0))) (hra : r ≠ some a)
    (hf : Fr (fun k => r = some k) (w.alloc o) w1) (hg : r = some g ∨ (w.alloc o).heap.size ≤ g) (hrow : Row w1 B (some g) v' (bs ++ [b])) :
    g ≠ a ∧ Hid (Fr (fun k => r = some k) w w1 ∧ w1.heap[a]? = some (.cells #[v, n] T (0, 0)) ∧ (r = some g ∨ w.heap.size ≤ g)) ∧
    w1.cell? ⟨a, 0, none⟩ = some v ∧ w1.cell? ⟨a, 1, none⟩ = some n ∧ w1.frozen? ⟨a, 0, none⟩ = false ∧ w1.frozen? ⟨a, 1, none⟩ = false ∧
    w1.cell? ⟨g, bs.length, none⟩ = some (.int .u8 b) ∧ w1.frozen? ⟨g, bs.length, none⟩ = false := by
  have hfw : Fr (fun k => r = some k) w w1 := ((Fr.refl (fun k => r = some k) w).alloc o).trans hf (fun i h _ => h)
  have hv1 := hfw.keep hv hra
  have hlt := block_lt hv
  have hg' : r = some g ∨ w.heap.size ≤ g := by
    rcases hg with h | h
    · exact .inl h
    · simp at h; exact .inr (by omega)
  refine ⟨?_, hid ⟨hfw, hv1, hg'⟩, by simp [World.cell?, hv1], by simp [World.cell?, hv1], by simp [World.frozen?, hv1], by simp [World.frozen?, hv1], ?_, hrow.frozenAt _⟩
  · intro e
    subst e
    rcases hg' with h | h
    · exact hra h
    · omega
  · rw [hrow.cellAt _ (by simp)]
    simp

theorem bit_close {w w2 : World} {B a g : Nat} {r : Option Nat} {l' : List Bool} {V : Value} (hB : B ≤ a) (hf : Fr (fun k => k = a ∨ r = some k) w w2) (hg : r = some g ∨ w.heap.size ≤ g)
    (hb : w2.heap[a]? = some (.cells #[V, .int .i64 (l'.length : Nat)] 77 (0, 0))) (hrow : Row w2 B (some g) V (pack l')) :
    BitPost w B a r l' (.returned (.tuple #[])) w2 := by
  refine ⟨rfl, some g, ⟨⟨hB, V, hb, hrow⟩, hf, ?_⟩⟩
  rcases hg with h | h
  · exact .inl h.symm
  · exact .inr ⟨g, rfl, h⟩

theorem two_set {w : World} {a : Nat} {v n : Value} {T : TypeId} (h : w.heap[a]? = some (.cells #[v, n] T (0, 0))) (u m : Value) (g j : Nat) (x : Value) (hga : g ≠ a) :
    ((w.setCell ⟨a, 0, none⟩ u).setCell ⟨a, 1, none⟩ m).heap[a]? = some (.cells #[u, m] T (0, 0)) ∧
    ((((w.setCell ⟨a, 0, none⟩ u).setCell ⟨g, j, none⟩ x).setCell ⟨a, 1, none⟩ m).drew).heap[a]? = some (.cells #[u, m] T (0, 0)) := by
  constructor
  · rw [set_block (set_block h u) m]; simp
  · show (((w.setCell ⟨a, 0, none⟩ u).setCell ⟨g, j, none⟩ x).setCell ⟨a, 1, none⟩ m).heap[a]? = _
    have h1 := set_block (i := 0) h u
    have h2 : ((w.setCell ⟨a, 0, none⟩ u).setCell ⟨g, j, none⟩ x).heap[a]? = some (.cells (#[v, n].setIfInBounds 0 u) T (0, 0)) := by
      rw [Below.heap_setCell _ _ _ _ (fun e => hga e.symm)]; exact h1
    rw [set_block h2 m]; simp

theorem or_0_128 : bits BinOp.or IntKind.u8 0 128 = ((128 : Nat) : Int) := by
  have := u8_or_nat 0 128 (by decide) (by decide)
  exact this

theorem Row.setOther {w : World} {B : Nat} {r : Option Nat} {v : Value} {bs : List Nat} (h : Row w B r v bs) (a i : Nat) (u : Value) (hra : r ≠ some a) : Row (w.setCell ⟨a, i, none⟩ u) B r v bs :=
  h.keep ((Fr.refl (fun k => k = a) w).setCell _ _ (fun _ => rfl)) (fun k hk e => hra (by rw [hk, e]))

set_option maxHeartbeats 400000 in
theorem wbit_new (w : World) (B a : Nat) (r : Option Nat) (l : List Bool) (b : Bool) (hl : l.length < 8000000) (hm : l.length % 8 = 0) (h : Wr w B a r l) :
    Calls Try.prog 27 #[.pointer (some ⟨a, 0, none⟩), .bool b] w fun e w' => BitPost w B a r (l ++ [b]) e w' := by
  obtain ⟨hB, v, hv, hrow⟩ := h
  obtain ⟨ao, N, cap, rfl⟩ := hrow.slice
  have hra : r ≠ some a := hrow.ne hv (by decide)
  have hc0 : w.cell? ⟨a, 0, none⟩ = some (.slice ao N cap) := by simp [World.cell?, hv]
  have hc1 : w.cell? ⟨a, 1, none⟩ = some (.int .i64 (l.length : Nat)) := by simp [World.cell?, hv]
  have haw := block_lt hv
  have HV := hid hv
  have HR := hid (hrow.keep ((Fr.refl (fun _ => False) w).alloc (.cells #[.int .u8 0] 5)) (fun _ _ h => h))
  have hm1 : (l.length : Int) % 8 = 0 := by omega
  have HRA := hid hra
  have HM := hid (pack_snoc_new l b hm)
  have hpl : (pack l).length ≤ 1000000 := by rw [len_pack]; omega
  clear hv hrow hm hra
  cases b
  · go_enter Try.func27, Try.ntmps27
    go_wp2_with (at_builtin; refine wpList_append_byte _ rfl _ _ rfl B r ao N cap (pack l) rfl HR.out (by omega) (by simp; omega) ⟨w.heap.size, 0, none⟩ 0 rfl (cell_one_new _ _ _) ?_; intro g cap' w1 hrow1 hf1 hg1; obtain ⟨hga, HF, hc10, hc11, hf10, hf11, hcg, hfg⟩ := after_append HV.out HRA.out hf1 hg1 hrow1; have HR1 := hid hrow1; clear hrow1 hf1 hg1)
    go_end0
    obtain ⟨hfw, hv1, hg1⟩ := HF.out
    have hne : some g ≠ some a := fun e => hga (Option.some.inj e)
    refine bit_close (g := g) hB (((hfw.weak (fun i h => .inr h)).setCell _ _ (fun _ => .inl rfl)).setCell _ _ (fun _ => .inl rfl)) hg1 (V := .slice (some ⟨g, 0, none⟩) ((pack l).length + 1) cap') ?_ ?_
    · rw [(two_set hv1 _ _ g 0 undef hga).1, List.length_append]; rfl
    · rw [HM.out]
      exact (HR1.out.setOther a 0 _ hne).setOther a 1 _ hne
  · go_enter Try.func27, Try.ntmps27
    go_wp2_with (at_builtin; refine wpList_append_byte _ rfl _ _ rfl B r ao N cap (pack l) rfl HR.out (by omega) (by simp; omega) ⟨w.heap.size, 0, none⟩ 0 rfl (cell_one_new _ _ _) ?_; intro g cap' w1 hrow1 hf1 hg1; obtain ⟨hga, HF, hc10, hc11, hf10, hf11, hcg, hfg⟩ := after_append HV.out HRA.out hf1 hg1 hrow1; have HR1 := hid hrow1; clear hrow1 hf1 hg1)
    go_region
    all_goals go_wp2
    go_end0
    obtain ⟨hfw, hv1, hg1⟩ := HF.out
    have hne : some g ≠ some a := fun e => hga (Option.some.inj e)
    rw [or_0_128]
    refine bit_close (g := g) hB (((((hfw.weak (fun i h => .inr h)).setCell _ _ (fun _ => .inl rfl)).setCell _ _ (fun h => ?_)).setCell _ _ (fun _ => .inl rfl)).drew) hg1 (V := .slice (some ⟨g, 0, none⟩) ((pack l).length + 1) cap') ?_ ?_
    · rcases hg1 with h' | h'
      · exact .inr h'
      · simp at h; omega
    · rw [(two_set hv1 _ _ g (pack l).length _ hga).2, List.length_append]; rfl
    · have h1 := (HR1.out.setOther a 0 (.slice (some ⟨g, 0, none⟩) ((pack l).length + 1) cap') hne).set (pack l).length 128
      rw [HM.out]
      have h2 : (pack l ++ [0]).set (pack l).length 128 = pack l ++ [true.toNat * 128] := by simp
      rw [h2] at h1
      exact (h1.setOther a 1 _ hne).drew

set_option maxHeartbeats 400000 in
theorem wbit_mid (w : World) (B a : Nat) (r : Option Nat) (l : List Bool) (b : Bool) (hl : l.length < 8000000) (hm : 0 < l.length % 8) (h : Wr w B a r l) :
    Calls Try.prog 27 #[.pointer (some ⟨a, 0, none⟩), .bool b] w fun e w' => BitPost w B a r (l ++ [b]) e w' := by
  obtain ⟨hB, v, hv, hrow⟩ := h
  obtain ⟨g, cap, rfl, rfl⟩ := hrow.nonnil (by rw [len_pack]; omega)
  have hra : some g ≠ some a := hrow.ne hv (by decide)
  have hga : g ≠ a := fun e => hra (by rw [e])
  have hpl : (pack l).length = (l.length + 7) / 8 := len_pack l
  have hc0 : w.cell? ⟨a, 0, none⟩ = some (.slice (some ⟨g, 0, none⟩) (pack l).length cap) := by simp [World.cell?, hv]
  have hc1 : w.cell? ⟨a, 1, none⟩ = some (.int .i64 (l.length : Nat)) := by simp [World.cell?, hv]
  have hf1 : w.frozen? ⟨a, 1, none⟩ = false := by simp [World.frozen?, hv]
  have hcg : w.cell? ⟨g, (pack l).length - 1, none⟩ = some (.int .u8 (byteAt l ((l.length + 7) / 8 - 1) : Nat)) := by
    rw [hrow.cellAt _ (by omega), getD_pack, hpl]
  have hfg : w.frozen? ⟨g, (pack l).length - 1, none⟩ = false := hrow.frozenAt _
  obtain ⟨b0, hb0⟩ : ∃ b0, b0 = byteAt l ((l.length + 7) / 8 - 1) := ⟨_, rfl⟩
  rw [← hb0] at hcg
  have hb1 : b0 < 256 := by rw [hb0]; exact byteAt_lt _ _
  have HV := hid hv
  have HR := hid hrow
  have HRA := hid hra
  have HB0 := hid hb0
  have HPL := hid hpl
  have hpl1 : (pack l).length ≤ 1000000 := by omega
  have hpl2 : 1 ≤ (pack l).length := by omega
  have hm1 : (0 : Int) < (l.length : Int) % 8 := by omega
  have hm2 : ((l.length : Int) % 8 == 0) = false := by rw [beq_eq_false_iff_ne]; omega
  clear hv hrow hra hb0 hpl
  cases b
  · have HM := hid (pack_snoc_false l hm)
    go_enter Try.func27, Try.ntmps27
    go_wp2
    go_end0
    refine bit_close (g := g) hB ((Fr.refl _ _).setCell _ _ (fun _ => .inl rfl)) (.inl rfl) (V := .slice (some ⟨g, 0, none⟩) (pack l).length cap) ?_ ?_
    · rw [set_block HV.out, List.length_append]; simp
    · rw [HM.out]
      exact HR.out.setOther a 1 _ HRA.out
  · have HM := hid (pack_snoc_true l hm)
    go_enter Try.func27, Try.ntmps27
    go_wp2
    go_region
    all_goals go_wp2
    go_end0
    have e : bits BinOp.or IntKind.u8 (b0 : Int) (2 ^ (7 - l.length % 8) % 256) = ((b0 ||| 2 ^ (7 - l.length % 8) : Nat) : Int) := by
      have hp : 2 ^ (7 - l.length % 8) ≤ 2 ^ 7 := Nat.pow_le_pow_right (by omega) (by omega)
      have e1 : ((2 : Int) ^ (7 - l.length % 8) % 256) = ((2 ^ (7 - l.length % 8) : Nat) : Int) := by
        rw [show (2 : Int) ^ (7 - l.length % 8) = ((2 ^ (7 - l.length % 8) : Nat) : Int) by rw [Int.natCast_pow]; rfl]
        generalize 2 ^ (7 - l.length % 8) = z at hp ⊢
        omega
      rw [e1]
      exact u8_or_nat _ _ hb1 (by omega)
    rw [e]
    refine bit_close (g := g) hB ((((Fr.refl _ _).setCell _ _ (fun _ => .inr rfl)).setCell _ _ (fun _ => .inl rfl)).drew) (.inl rfl) (V := .slice (some ⟨g, 0, none⟩) (pack l).length cap) ?_ ?_
    · show ((w.setCell _ _).setCell _ _).heap[a]? = _
      rw [set_block (by rw [Below.heap_setCell _ _ _ _ (fun e => hga e.symm)]; exact HV.out), List.length_append]; simp
    · rw [HM.out, ← HB0.out, ← HPL.out]
      exact ((HR.out.set _ _).setOther a 1 _ HRA.out).drew

theorem wbit_any (w : World) (B a : Nat) (r : Option Nat) (l : List Bool) (b : Bool) (hl : l.length < 8000000) (h : Wr w B a r l) :
    Calls Try.prog 27 #[.pointer (some ⟨a, 0, none⟩), .bool b] w fun e w' => BitPost w B a r (l ++ [b]) e w' := by
  by_cases hm : l.length % 8 = 0
  · exact wbit_new w B a r l b hl hm h
  · exact wbit_mid w B a r l b hl (by omega) h

theorem put_no (w : World) (B a : Nat) (r : Option Nat) (l : List Bool) (v : Int) (n : Int) (hn : n < 1 ∨ 64 < n) (_h : Wr w B a r l) :
    Calls Try.prog 16 #[.pointer (some ⟨a, 0, none⟩), .int .u64 v, .int .i64 n] w fun e w' => e = .returned (.tuple #[]) ∧ w = w' := by
  rcases hn with hn | hn
  · go_enter Try.func16, Try.ntmps16
    go_wp2
    exact bodyPost_ret (results_none rfl _ _ _) rfl ⟨rfl, rfl⟩
  · go_enter Try.func16, Try.ntmps16
    go_wp2
    exact bodyPost_ret (results_none rfl _ _ _) rfl ⟨rfl, rfl⟩

theorem put_bit (v k : Nat) (hv : v < 18446744073709551616) : (bits BinOp.and IntKind.u64 ((v : Int) / 2 ^ k) 1 == 1) = v.testBit k := by
  have e : ((v : Int) / 2 ^ k) = ((v / 2 ^ k : Nat) : Int) := by rw [Int.natCast_ediv, Int.natCast_pow]; rfl
  rw [e, show (1 : Int) = ((1 : Nat) : Int) from rfl, u64_and_nat _ _ (Nat.lt_of_le_of_lt (Nat.div_le_self _ _) hv) (by decide), nat_mask1, Nat.testBit_eq_decide_div_mod_eq]
  rcases Nat.mod_two_eq_zero_or_one (v / 2 ^ k) with h | h <;> rw [h] <;> rfl

set_option maxHeartbeats 400000 in
theorem put_yes (w : World) (B a : Nat) (r : Option Nat) (l : List Bool) (v n : Nat) (hv : v < 18446744073709551616) (h1 : 1 ≤ n) (h64 : n ≤ 64) (hl : l.length + 64 < 8000000) (h : Wr w B a r l) :
    Calls Try.prog 16 #[.pointer (some ⟨a, 0, none⟩), .int .u64 v, .int .i64 n] w fun e w' => BitPost w B a r (l ++ bitsOf v n) e w' := by
  have H0 := hid (WStep.start h)
  clear h
  go_enter Try.func16, Try.ntmps16
  go_wp2
  go_loopw [6] (fun i wr => ∃ (m : Nat) (d : List Bool) (r' : Option Nat), m ≤ n ∧ i = .int .i64 ((m : Int) - 1) ∧ d.length ≤ 64 ∧ Hid (d ++ bitsOf v m = bitsOf v n) ∧ Hid (WStep w B a r wr r' (l ++ d)))
    (fun i _ => (intOf i + 1).toNat)
  case atStart => exact ⟨n, [], r, Nat.le_refl _, rfl, by simp, hid rfl, by rw [List.append_nil]; exact H0⟩
  case round =>
    obtain ⟨m, d, r', hm, rfl, hd, HD, HW⟩ := hrel
    rcases Nat.eq_zero_or_pos m with rfl | hpos
    · go_wp2
      go_end0
      have e := HD.out
      rw [bitsOf, List.append_nil] at e
      rw [← e]
      exact ⟨rfl, r', HW.out⟩
    · obtain ⟨k, rfl⟩ : ∃ k, m = k + 1 := ⟨m - 1, by omega⟩
      rw [show (((k + 1 : Nat) : Int) - 1) = (k : Int) by omega]
      go_wp2_with fail
      refine (wbit_any wr B a r' (l ++ d) _ (by rw [List.length_append]; omega) HW.out.wr).mono ?_
      rintro e w' ⟨rfl, r2, hst⟩
      have HS := hid (HW.out.trans hst)
      clear hst
      go_wp2
      go_roundw
      case rel =>
        refine ⟨k, d ++ [v.testBit k], r2, by omega, rfl, ?_, hid ?_, hid ?_⟩
        · have := congrArg List.length HD.out
          rw [List.length_append, len_bitsOf, len_bitsOf] at this
          rw [List.length_append, List.length_singleton]; omega
        · have := HD.out
          rw [bitsOf] at this
          rw [List.append_assoc]; exact this
        · have := HS.out
          rw [put_bit v k hv] at this
          rw [← List.append_assoc]; exact this
      case measure => simp [intOf]

set_option maxHeartbeats 400000 in
theorem copy_any (w : World) (B a : Nat) (r : Option Nat) (l : List Bool) (hl : l.length ≤ 8000000) (h : Wr w B a r l) :
    Calls Try.prog 29 #[.pointer (some ⟨a, 0, none⟩)] w fun e w' => ∃ a' r', e = .returned (.pointer (some ⟨a', 0, none⟩)) ∧ Wr w' w.heap.size a' r' l ∧ Fr (fun _ => False) w w' := by
  have HC := fun q : Nat => hid (wbytes_any (w.drewN q) B a r l hl (h.keep ((Fr.refl (fun _ => False) w).drewN q) (fun h => h) (fun _ _ h => h)))
  obtain ⟨_, v, hv, _⟩ := h
  have hc1 : w.cell? ⟨a, 1, none⟩ = some (.int .i64 (l.length : Nat)) := by simp [World.cell?, hv]
  have HV := hid hv
  clear hv
  go_enter Try.func29, Try.ntmps29
  go_wp2
  go_region_with (go_at_call 18; refine (HC 1).out.mono ?_; rintro e w' ⟨ao, N, cap, r', rfl, hrow, hf⟩; have hc2 : w'.cell? ⟨a, 1, none⟩ = some (.int .i64 (l.length : Nat)) := (hf.cell (p := ⟨a, 1, none⟩) (block_lt HV.out) (fun h => h)).trans hc1; have HR := hid hrow; clear hrow)
  all_goals
    go_wp2
    go_ret
    exact ⟨_, _, rfl, ⟨hf.size, _, heap_alloc_new w' _, HR.out.keep ((Fr.refl (fun _ => False) w').alloc _) (fun _ _ h => h)⟩, ((Fr.refl (fun _ => False) w).drewN 1).trans (hf.alloc _) (fun _ h _ => h)⟩
end Go.Proofs.Ytlfcaigofakkoaa
