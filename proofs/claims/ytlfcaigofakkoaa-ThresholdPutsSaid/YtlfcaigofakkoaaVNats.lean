/- Numbers as arguments (the main seat's copy; the door seat's lies in XRound). -/
import Derived.Test.YtlfcaigofakkoaaInts
namespace Go.Proofs.Ytlfcaigofakkoaa
open Go.RowKit Bt

/-- A slice of numbers as it lies in memory. -/
structure NatsAt (w : World) (v : Value) (vs : List Nat) : Prop where
  ints : IntsAt .u64 w v (vs.map (fun n : Nat => (n : Int)))
  lt : ∀ v ∈ vs, v < 18446744073709551616

theorem NatsAt.len {w : World} {v : Value} {vs : List Nat} (h : NatsAt w v vs) : ∃ ao cap, v = .slice ao vs.length cap := by
  obtain ⟨ao, cap, e⟩ := h.ints.len
  exact ⟨ao, cap, by rw [e, List.length_map]⟩

theorem NatsAt.cell {w wr : World} {ao : Option Addr} {n cap m : Nat} {vs : List Nat} (h : NatsAt w (.slice ao n cap) vs) (hf : Fr (fun _ => False) w wr) (hm : m < vs.length) :
    ∃ b off, ao = some ⟨b, off, none⟩ ∧ wr.cell? ⟨b, off + m, none⟩ = some (.int .u64 (vs[m] : Nat)) ∧ vs[m] < 18446744073709551616 := by
  obtain ⟨b, off, e, hc, _⟩ := h.ints.cell hf (m := m) (z := (vs[m] : Int)) (by rw [List.getElem?_map, List.getElem?_eq_getElem hm]; rfl)
  exact ⟨b, off, e, hc, h.lt _ (List.getElem_mem _)⟩

theorem nats_of {w : World} {v : Value} {zs : List Int} (h : IntsAt .u64 w v zs) (hwf : ∀ z ∈ zs, (Lit.int .u64 z).wf = true) : ∃ vs : List Nat, vs.length = zs.length ∧ NatsAt w v vs := by
  refine ⟨zs.map Int.toNat, List.length_map _, ?_, ?_⟩
  · rw [List.map_map, List.map_congr_left (g := id) (fun z hz => ?_), List.map_id]
    · exact h
    · obtain ⟨n, rfl, _⟩ := wf_u64 (hwf z hz)
      simp
  · intro v hv
    simp only [List.mem_map] at hv
    obtain ⟨z, hz, rfl⟩ := hv
    obtain ⟨n, rfl, hn⟩ := wf_u64 (hwf z hz)
    simpa using hn

theorem nats_of_row {w : World} {a : Option Addr} {len cap : Nat} {zs : List Int}
    (h : (a = none ∧ len = 0 ∧ cap = 0 ∧ zs = []) ∨ ∃ x, a = some x ∧ len ≤ cap ∧ cap ≤ maxLen ∧ zs.length = cap ∧ (∀ i, i < zs.length → w.cell? (x.add i) = some (.int .u64 (zs.getD i 0))) ∧ ∀ n ∈ zs, (Lit.int .u64 n).wf = true) :
    ∃ vs : List Nat, vs.length = len ∧ NatsAt w (.slice a len cap) vs := by
  obtain ⟨ys, hy, hi⟩ := ints_of_row h
  have hw : ∀ z ∈ ys, (Lit.int .u64 z).wf = true := by
    intro z hz
    obtain ⟨i, hi'⟩ := List.getElem?_of_mem hz
    rcases hi with ⟨_, rfl⟩ | ⟨a', c', _, hc⟩
    · cases hz
    · exact (hc i z hi').2
  obtain ⟨vs, hl, hv⟩ := nats_of hi hw
  exact ⟨vs, by omega, hv⟩
end Go.Proofs.Ytlfcaigofakkoaa
