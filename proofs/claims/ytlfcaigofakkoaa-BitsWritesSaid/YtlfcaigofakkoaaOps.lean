/- A slice of calls that came in, opened to its cells. -/
import Derived.Test.YtlfcaigofakkoaaArg
import Derived.ProofKit
import Derived.Deep.Strs
namespace Go.Proofs.Ytlfcaigofakkoaa
open Go.ChangeShapes Go.WideShapes Go.RowKit Go.Deep

theorem ops_of_reading {H : Type} {enc : TypeId × Value → H} {w : World} {fuel : Nat} {v : Value} {x : DataW H × List MemPlace}
    (h : DataW.trod enc Try.prog w 0 (fun _ => true) true fuel 22 [v] = some x) : ∃ ops, OpsAt w v ops := by
  rcases open_slice Try.underlying22 h with ⟨h0, _⟩ | ⟨a, len, cap, m, n, D, Pl, hcs, _, hl, hm, hmm, _, hi⟩
  · exact ⟨[], .inl ⟨by simpa using h0, rfl⟩⟩
  · have hC : Try.prog.cellsOf 30 = 3 := by kernel_rfl
    have each : ∀ i, i < len → ∃ o : Op3, w.cell? (a.add (i * 3)) = some (.int .i64 o.k) ∧ w.cell? (a.add (i * 3 + 1)) = some (.int .i64 o.n) ∧ w.cell? (a.add (i * 3 + 2)) = some (.int .u64 (o.v : Nat)) ∧
        (-9223372036854775808 ≤ o.k ∧ o.k ≤ 9223372036854775807) ∧ (-9223372036854775808 ≤ o.n ∧ o.n ≤ 9223372036854775807) := by
      intro i hil
      obtain ⟨cs', hc, ht'⟩ := hi i (by simp at hmm; omega)
      rw [hC] at hc
      obtain ⟨_, hcl, hat⟩ := World.cells?_some hc
      obtain ⟨y0, y1, y2, n', _, _, hf0, hf1, hf2⟩ := trod_struct3 Try.underlying30 ht'
      obtain ⟨k0, e0, _, wf0⟩ := DataW.trod_int (k := .i64) (by kernel_rfl) hf0
      obtain ⟨k1, e1, _, wf1⟩ := DataW.trod_int (k := .i64) (by kernel_rfl) hf1
      obtain ⟨k2, e2, _, wf2⟩ := DataW.trod_int (k := .u64) (by kernel_rfl) hf2
      have c0 : cs'[0]? = some (.int .i64 k0) := by
        have := congrArg (fun l : List Value => l[0]?) e0
        simp [List.getElem?_take] at this
        exact this.2
      have c1 : cs'[1]? = some (.int .i64 k1) := by
        have := congrArg (fun l : List Value => l[0]?) e1
        simp [List.getElem?_take] at this
        exact this.2
      have c2 : cs'[2]? = some (.int .u64 k2) := by
        have := congrArg (fun l : List Value => l[0]?) e2
        simp [List.getElem?_take, List.getElem?_drop] at this
        exact this.2
      simp [Lit.wf, IntKind.min, IntKind.max, IntKind.bits, IntKind.signed] at wf0 wf1 wf2
      have h0 := hat 0 (by omega)
      have h1 := hat 1 (by omega)
      have h2 := hat 2 (by omega)
      rw [add_add] at h0 h1 h2
      refine ⟨⟨k0, k1, k2.toNat, by omega⟩, h0.trans c0, h1.trans c1, ?_, by omega, by omega⟩
      rw [h2, c2, Int.toNat_of_nonneg (by omega)]
    obtain ⟨f, hf⟩ : ∃ f : Nat → Op3, ∀ i, i < len → w.cell? (a.add (i * 3)) = some (.int .i64 (f i).k) ∧ w.cell? (a.add (i * 3 + 1)) = some (.int .i64 (f i).n) ∧ w.cell? (a.add (i * 3 + 2)) = some (.int .u64 ((f i).v : Nat)) ∧
        (-9223372036854775808 ≤ (f i).k ∧ (f i).k ≤ 9223372036854775807) ∧ (-9223372036854775808 ≤ (f i).n ∧ (f i).n ≤ 9223372036854775807) := by
      have : ∀ i, ∃ o : Op3, i < len → w.cell? (a.add (i * 3)) = some (.int .i64 o.k) ∧ w.cell? (a.add (i * 3 + 1)) = some (.int .i64 o.n) ∧ w.cell? (a.add (i * 3 + 2)) = some (.int .u64 (o.v : Nat)) ∧
        (-9223372036854775808 ≤ o.k ∧ o.k ≤ 9223372036854775807) ∧ (-9223372036854775808 ≤ o.n ∧ o.n ≤ 9223372036854775807) := by
        intro i
        by_cases hil : i < len
        · obtain ⟨o, ho⟩ := each i hil
          exact ⟨o, fun _ => ho⟩
        · exact ⟨⟨0, 0, 0, by omega⟩, fun h => absurd h hil⟩
      exact ⟨fun i => (this i).choose, fun i => (this i).choose_spec⟩
    refine ⟨(List.range len).map f, .inr ⟨a, cap, by simpa using hcs, fun i o ho => ?_⟩⟩
    have hil : i < len := by simpa using (List.getElem?_eq_some_iff.1 ho).1
    have : o = f i := by simpa [hil] using ho.symm
    subst this
    exact hf i hil
end Go.Proofs.Ytlfcaigofakkoaa
