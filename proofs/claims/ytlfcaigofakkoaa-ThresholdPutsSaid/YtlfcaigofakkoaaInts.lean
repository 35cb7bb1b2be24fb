/- Arguments as the walks want them: a slice of integers that came in (the door seat's copy; the main seat's lies in Reads). -/
import Derived.Test.YtlfcaigofakkoaaMem
import Derived.Test.YtlfcaigofakkoaaArg
import Derived.ProofKit
namespace Go.Proofs.Ytlfcaigofakkoaa
open Go.RowKit Bt


/-- A slice of integers of a kind, as it lies in memory. -/
def IntsAt (K : IntKind) (w : World) (v : Value) (zs : List Int) : Prop :=
  (v = .slice none 0 0 ∧ zs = []) ∨
  ∃ a cap, v = .slice (some a) zs.length cap ∧ ∀ (i : Nat) (z : Int), zs[i]? = some z → w.cell? (a.add i) = some (.int K z) ∧ (Lit.int K z).wf = true

theorem IntsAt.len {K : IntKind} {w : World} {v : Value} {zs : List Int} (h : IntsAt K w v zs) : ∃ ao cap, v = .slice ao zs.length cap := by
  rcases h with ⟨rfl, rfl⟩ | ⟨a, cap, rfl, _⟩
  · exact ⟨none, 0, rfl⟩
  · exact ⟨some a, cap, rfl⟩

theorem IntsAt.cell {K : IntKind} {w wr : World} {ao : Option Addr} {n cap : Nat} {zs : List Int} (h : IntsAt K w (.slice ao n cap) zs) (hf : Fr (fun _ => False) w wr) {m : Nat} {z : Int} (hm : zs[m]? = some z) :
    ∃ b off, ao = some ⟨b, off, none⟩ ∧ wr.cell? ⟨b, off + m, none⟩ = some (.int K z) ∧ (Lit.int K z).wf = true := by
  rcases h with ⟨_, h0⟩ | ⟨a, cap', he, hc⟩
  · rw [h0] at hm; cases hm
  · simp only [Value.slice.injEq] at he
    obtain ⟨rfl, _, _⟩ := he
    have h0 := hc 0 _ (List.getElem?_eq_getElem (show 0 < zs.length by have := (List.getElem?_eq_some_iff.1 hm).1; omega))
    obtain ⟨b, off, spot⟩ := a
    have hspot : spot = none := by simpa [Addr.add] using World.cell?_spot h0.1
    subst hspot
    obtain ⟨h1, h4⟩ := hc m z hm
    rw [Go.WideShapes.add_plain] at h1
    refine ⟨b, off, rfl, ?_, h4⟩
    rw [hf.cell (World.block_lt_of_cell? w _ h1) (fun h => h)]; exact h1

theorem ints_of_row {K : IntKind} {w : World} {a : Option Addr} {len cap : Nat} {zs : List Int}
    (h : (a = none ∧ len = 0 ∧ cap = 0 ∧ zs = []) ∨ ∃ x, a = some x ∧ len ≤ cap ∧ cap ≤ maxLen ∧ zs.length = cap ∧ (∀ i, i < zs.length → w.cell? (x.add i) = some (.int K (zs.getD i 0))) ∧ ∀ n ∈ zs, (Lit.int K n).wf = true) :
    ∃ ys : List Int, ys.length = len ∧ IntsAt K w (.slice a len cap) ys := by
  rcases h with ⟨rfl, rfl, rfl, _⟩ | ⟨x, rfl, hl, hm, hz, hc, hwf⟩
  · exact ⟨[], rfl, .inl ⟨rfl, rfl⟩⟩
  · refine ⟨zs.take len, by rw [List.length_take]; omega, .inr ⟨x, cap, by rw [List.length_take, Nat.min_eq_left (by omega)], fun i z hi => ?_⟩⟩
    rw [List.getElem?_take] at hi
    split at hi
    · have hil := (List.getElem?_eq_some_iff.1 hi).1
      refine ⟨?_, hwf z (List.mem_of_getElem? hi)⟩
      rw [hc i hil, List.getD_eq_getElem?_getD, hi]; rfl
    · cases hi

theorem wf_bounds {z : Int} (h : (Lit.int .i64 z).wf = true) : -9223372036854775808 ≤ z ∧ z ≤ 9223372036854775807 := by
  simp [Lit.wf, IntKind.min, IntKind.max, IntKind.bits, IntKind.signed] at h
  omega

theorem wf_u64 {z : Int} (h : (Lit.int .u64 z).wf = true) : ∃ v : Nat, z = (v : Int) ∧ v < 18446744073709551616 := by
  simp [Lit.wf, IntKind.min, IntKind.max, IntKind.bits, IntKind.signed] at h
  obtain ⟨v, hv⟩ := nat_of (n := z) (by omega)
  exact ⟨v, hv, by omega⟩
end Go.Proofs.Ytlfcaigofakkoaa
