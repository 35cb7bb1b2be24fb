/- Arguments as the walks want them: a slice of bytes that came in. -/
import Derived.Test.YtlfcaigofakkoaaMem
import Derived.ProofKit
namespace Go.Proofs.Ytlfcaigofakkoaa
open Go.RowKit Bt

theorem bs_of_row {w : World} {a : Option Addr} {len cap : Nat} {zs : List Int}
    (h : (a = none ∧ len = 0 ∧ cap = 0 ∧ zs = []) ∨ ∃ x, a = some x ∧ len ≤ cap ∧ cap ≤ maxLen ∧ zs.length = cap ∧ (∀ i, i < zs.length → w.cell? (x.add i) = some (.int .u8 (zs.getD i 0))) ∧ ∀ n ∈ zs, (Lit.int .u8 n).wf = true) :
    ∃ bs : List Nat, bs.length = len ∧ (∀ b ∈ bs, b < 256) ∧ BS w (.slice a len cap) bs := by
  rcases h with ⟨rfl, rfl, rfl, _⟩ | ⟨x, rfl, hl, hm, hz, hc, hwf⟩
  · exact ⟨[], rfl, by simp, .inl ⟨rfl, rfl⟩⟩
  · have hb : ∀ n ∈ zs, 0 ≤ n ∧ n < 256 := by
      intro n hn
      have := hwf n hn
      simp [Lit.wf, IntKind.min, IntKind.max, IntKind.bits, IntKind.signed] at this
      omega
    refine ⟨(zs.take len).map Int.toNat, by rw [List.length_map, List.length_take]; omega, ?_, .inr ⟨x, cap, by rw [List.length_map, List.length_take, Nat.min_eq_left (by omega)], by rw [List.length_map, List.length_take]; omega, hm, ?_⟩⟩
    · intro b hb'
      simp only [List.mem_map] at hb'
      obtain ⟨n, hn, rfl⟩ := hb'
      have := hb n (List.mem_of_mem_take hn)
      omega
    · intro j u hu
      have hj : j < len := by
        have := (List.getElem?_eq_some_iff.1 hu).1
        rw [len_byteVs, List.length_map, List.length_take] at this
        omega
      rw [hc j (by omega)]
      simp only [byteVs, List.map_map, List.getElem?_map, List.getElem?_take, if_pos hj] at hu
      rw [List.getElem?_eq_getElem (show j < zs.length by omega)] at hu
      rw [List.getD_eq_getElem?_getD, List.getElem?_eq_getElem (show j < zs.length by omega)]
      simp only [Option.map_some, Option.some.injEq, Function.comp] at hu
      rw [← hu, Option.getD_some]
      have := hb zs[j] (List.getElem_mem _)
      rw [Int.toNat_of_nonneg this.1]

theorem nat_of {n : Int} (h : 0 ≤ n) : ∃ k : Nat, n = (k : Int) := ⟨n.toNat, (Int.toNat_of_nonneg h).symm⟩

/-- One call of a list of calls: kind, how many bits, the number. -/
structure Op3 where
  k : Int
  n : Int
  v : Nat
  vlt : v < 18446744073709551616

/-- A slice of calls as it lies in memory. -/
def OpsAt (w : World) (v : Value) (ops : List Op3) : Prop :=
  (v = .slice none 0 0 ∧ ops = []) ∨
  ∃ a cap, v = .slice (some a) ops.length cap ∧ ∀ (i : Nat) (o : Op3), ops[i]? = some o →
    w.cell? (a.add (i * 3)) = some (.int .i64 o.k) ∧ w.cell? (a.add (i * 3 + 1)) = some (.int .i64 o.n) ∧ w.cell? (a.add (i * 3 + 2)) = some (.int .u64 (o.v : Nat)) ∧
    (-9223372036854775808 ≤ o.k ∧ o.k ≤ 9223372036854775807) ∧ (-9223372036854775808 ≤ o.n ∧ o.n ≤ 9223372036854775807)

/-- Call m of the list, in whatever later world in which nothing old has turned. -/
theorem OpsAt.cell {w wr : World} {ao : Option Addr} {n cap : Nat} {ops : List Op3} (h : OpsAt w (.slice ao n cap) ops) (hf : Fr (fun _ => False) w wr) {m : Nat} {o : Op3} (hm : ops[m]? = some o) :
    ∃ b off, ao = some ⟨b, off, none⟩ ∧ wr.cell? ⟨b, off + m * 3, none⟩ = some (.int .i64 o.k) ∧ wr.cell? ⟨b, off + m * 3 + 1, none⟩ = some (.int .i64 o.n) ∧ wr.cell? ⟨b, off + m * 3 + 2, none⟩ = some (.int .u64 (o.v : Nat)) ∧
      (-9223372036854775808 ≤ o.k ∧ o.k ≤ 9223372036854775807) ∧ (-9223372036854775808 ≤ o.n ∧ o.n ≤ 9223372036854775807) := by
  rcases h with ⟨_, h0⟩ | ⟨a, cap', he, hc⟩
  · rw [h0] at hm; cases hm
  · simp only [Value.slice.injEq] at he
    obtain ⟨rfl, _, _⟩ := he
    have h0 := hc 0 _ (List.getElem?_eq_getElem (show 0 < ops.length by have := (List.getElem?_eq_some_iff.1 hm).1; omega))
    obtain ⟨b, off, spot⟩ := a
    have hspot : spot = none := by simpa [Addr.add] using World.cell?_spot h0.1
    subst hspot
    obtain ⟨h1, h2, h3, h4⟩ := hc m o hm
    rw [Go.WideShapes.add_plain] at h1 h2 h3
    refine ⟨b, off, rfl, ?_, ?_, ?_, h4⟩
    · rw [hf.cell (World.block_lt_of_cell? w _ h1) (fun h => h)]; exact h1
    · rw [Nat.add_assoc, hf.cell (World.block_lt_of_cell? w _ h2) (fun h => h)]; exact h2
    · rw [Nat.add_assoc, hf.cell (World.block_lt_of_cell? w _ h3) (fun h => h)]; exact h3

theorem OpsAt.len {w : World} {v : Value} {ops : List Op3} (h : OpsAt w v ops) : ∃ ao cap, v = .slice ao ops.length cap := by
  rcases h with ⟨rfl, rfl⟩ | ⟨a, cap, rfl, _⟩
  · exact ⟨none, 0, rfl⟩
  · exact ⟨some a, cap, rfl⟩

end Go.Proofs.Ytlfcaigofakkoaa
