/- The walk of XorRound: whatever it is called with, it returns true, and nothing old has turned. -/
import Derived.Test.YtlfcaigofakkoaaDoorXAwake
import Derived.Test.YtlfcaigofakkoaaDoorInts
namespace Go.Proofs.YtlfcaigofakkoaaDoor
open Go.RowKit Bt

/-- A slice of numbers as it lies in memory. -/
structure NatsAt (w : World) (v : Value) (vs : List Nat) : Prop where
  ints : IntsAt .u64 w v (vs.map (fun n : Nat => (n : Int)))
  lt : ∀ v ∈ vs, v < 18446744073709551616

theorem NatsAt.len {w : World} {v : Value} {vs : List Nat} (h : NatsAt w v vs) : ∃ ao cap, v = .slice ao vs.length cap := by
  obtain ⟨ao, cap, e⟩ := h.ints.len
  exact ⟨ao, cap, by rw [e, List.length_map]⟩

theorem NatsAt.cell {w wr : World} {ao : Option Addr} {n cap m : Nat} {vs : List Nat} (h : NatsAt w (.slice ao n cap) vs) (hf : Fr (fun _ => False) w wr) (hm : m < vs.length) :
    ∃ b off, ao = some ⟨b, off, none⟩ ∧ wr.cell? ⟨b, off + m, none⟩ = some (.int .u64 (vs[m] : Nat)) ∧ vs[m] < 18446744073709551616 := by
  obtain ⟨b, off, e, hc, _⟩ := h.ints.cell hf (m := m) (z := (vs[m] : Int)) (by rw [List.getElem?_map, List.getElem?_eq_getElem hm]; rfl)
  exact ⟨b, off, e, hc, h.lt _ (List.getElem_mem _)⟩

theorem nats_of {w : World} {v : Value} {zs : List Int} (h : IntsAt .u64 w v zs) (hwf : ∀ z ∈ zs, (Lit.int .u64 z).wf = true) : ∃ vs : List Nat, vs.length = zs.length ∧ NatsAt w v vs := by
  refine ⟨zs.map Int.toNat, List.length_map _, ?_, ?_⟩
  · rw [List.map_map, List.map_congr_left (g := id) (fun z hz => ?_), List.map_id]
    · exact h
    · obtain ⟨n, rfl, _⟩ := wf_u64 (hwf z hz)
      simp
  · intro v hv
    simp only [List.mem_map] at hv
    obtain ⟨z, hz, rfl⟩ := hv
    obtain ⟨n, rfl, hn⟩ := wf_u64 (hwf z hz)
    simpa using hn

theorem nats_of_row {w : World} {a : Option Addr} {len cap : Nat} {zs : List Int}
    (h : (a = none ∧ len = 0 ∧ cap = 0 ∧ zs = []) ∨ ∃ x, a = some x ∧ len ≤ cap ∧ cap ≤ maxLen ∧ zs.length = cap ∧ (∀ i, i < zs.length → w.cell? (x.add i) = some (.int .u64 (zs.getD i 0))) ∧ ∀ n ∈ zs, (Lit.int .u64 n).wf = true) :
    ∃ vs : List Nat, vs.length = len ∧ NatsAt w (.slice a len cap) vs := by
  obtain ⟨ys, hy, hi⟩ := ints_of_row h
  have hw : ∀ z ∈ ys, (Lit.int .u64 z).wf = true := by
    intro z hz
    obtain ⟨i, hi'⟩ := List.getElem?_of_mem hz
    rcases hi with ⟨_, rfl⟩ | ⟨a', c', _, hc⟩
    · cases hz
    · exact (hc i z hi').2
  obtain ⟨vs, hl, hv⟩ := nats_of hi hw
  exact ⟨vs, by omega, hv⟩

namespace Bt
def XS.puts (s : XS) : List Nat → XS × List Bool
  | [] => (s, [])
  | v :: vs => (((s.put v).1.puts vs).1, (s.put v).2 ++ ((s.put v).1.puts vs).2)

theorem puts_snoc (s : XS) (vs : List Nat) (v : Nat) : s.puts (vs ++ [v]) = (((s.puts vs).1.put v).1, (s.puts vs).2 ++ ((s.puts vs).1.put v).2) := by
  induction vs generalizing s with
  | nil => simp [XS.puts]
  | cons u vs ih => simp [XS.puts, ih]

theorem puts_snoc_eq {s t : XS} {vs : List Nat} {L : List Bool} {m : Nat} (hm : m < vs.length) (h : s.puts (vs.take m) = (t, L)) : s.puts (vs.take (m + 1)) = ((t.put vs[m]).1, L ++ (t.put vs[m]).2) := by
  rw [List.take_add_one, List.getElem?_eq_getElem hm, Option.toList_some, puts_snoc, h]

theorem puts_cons_eq {s t : XS} {vs : List Nat} {L : List Bool} {m : Nat} (hm : m < vs.length) (h : s.puts (vs.drop m) = (t, L)) : ∃ L', L = (s.put vs[m]).2 ++ L' ∧ (s.put vs[m]).1.puts (vs.drop (m + 1)) = (t, L') := by
  rw [List.drop_eq_getElem_cons hm, XS.puts] at h
  obtain ⟨h1, h2⟩ := Prod.mk.inj h
  exact ⟨_, h2.symm, Prod.ext h1 rfl⟩
end Bt

theorem xround_out (ao : Option Addr) (len cap : Nat) (w : World) (t : Tab w) (h : 60 < len) :
    Calls Tryd.prog 3 #[.slice ao len cap] w fun e w' => e = .returned (.bool true) ∧ Fr (fun _ => False) w w' := by
  go_enter Tryd.func3, Tryd.ntmps3
  go_wp2_with fail
  refine (awake5_any _ t).mono ?_
  rintro e w1 ⟨rfl, hf⟩
  go_wp2
  go_ret
  exact ⟨rfl, hf⟩

section
variable {K : List (Nat × Obj)} {w0 w w' w1 : World} {a q a2 q2 pos : Nat} {r r2 : Option Nat} {lw l l3 : List Bool} {s s2 : XS}
theorem xw_new2 (h : XW [] w0 w a r lw q s) : Calls Tryd.prog 7 #[] w fun e w' => ∃ q2, e = .returned (.pointer (some ⟨q2, 0, none⟩)) ∧ XW [(q2, xob ⟨0, 0, 0, 0⟩)] w0 w' a r lw q s :=
  (xnew_any w).mono fun _ _ ⟨q2, he, hx, hf⟩ => ⟨q2, he, h.newer hf hx.1 hx.2⟩

theorem xw_put1 (v : Nat) (h : XW K w0 w a r lw q s) (ht : 0 < w0.heap.size) (hv : v < 18446744073709551616) (hl : lw.length + 200 < 8000000) (hn1 : s.n < 1000000) :
    Calls Tryd.prog 8 #[.pointer (some ⟨q, 0, none⟩), .pointer (some ⟨a, 0, none⟩), .int .u64 v] w fun e w' => e = .returned (.tuple #[]) ∧ ∃ r', Hid (XW K w0 w' a r' (lw ++ (s.put v).2) q (s.put v).1) :=
  xput_any h ht v hv hl hn1

theorem xa_reader (h : XW [(q2, xob ⟨0, 0, 0, 0⟩)] w0 w a r lw q s) (v : Value) (hb : BS w v (pack lw)) (hl : lw.length ≤ 7000000) :
    Calls Tryd.prog 9 #[v, .int .i64 lw.length] w fun e w' => ∃ a2 r2, e = .returned (.tuple #[.pointer (some ⟨a2, 0, none⟩), .int .i64 0]) ∧ XA w0 w' a r lw q s a2 r2 0 lw q2 ⟨0, 0, 0, 0⟩ := by
  refine (newReader_any v (pack lw) lw.length w (by rw [len_pack]; omega) hb (pack_lt _) (by rw [len_pack]; omega)).mono ?_
  rintro e w' ⟨a2, r2, rfl, hr, hf⟩
  rw [take_unpack_pack] at hr
  exact ⟨a2, r2, rfl, XA.made' h hr hf⟩

theorem xa_get1 (v : Nat) (h : XA w0 w a r lw q s a2 r2 pos ((s2.put v).2 ++ l3) q2 s2) (ht : 0 < w0.heap.size) (hv : v < 18446744073709551616) (hn : s2.n < 1000000) :
    Calls Tryd.prog 12 #[.pointer (some ⟨q2, 0, none⟩), .pointer (some ⟨a2, 0, none⟩)] w fun e w' =>
      e = .returned (.tuple #[.int .u64 v, .int .i64 0]) ∧ ∃ pos', XA w0 w' a r lw q s a2 r2 pos' l3 q2 (s2.put v).1 := xa_get v rfl h ht hv hn

theorem xa_left (h : XA w0 w a r lw q s a2 r2 pos [] q2 s2) : Calls Tryd.prog 14 #[.pointer (some ⟨a2, 0, none⟩)] w fun e w' => e = .returned (.int .i64 0) ∧ XA w0 w' a r lw q s a2 r2 pos [] q2 s2 :=
  (left_any w _ a2 r2 pos [] false h.g.rd).mono fun _ _ ⟨he, n, hn⟩ => ⟨he, by rw [hn]; exact h.still ((Fr.refl _ _).drewN n)⟩
end

set_option maxHeartbeats 1000000 in
set_option maxRecDepth 100000 in
theorem xround_in (v : Value) (vs : List Nat) (w : World) (t : Tab w) (hl : vs.length ≤ 60) (ho : NatsAt w v vs) :
    Calls Tryd.prog 3 #[v] w fun e w' => e = .returned (.bool true) ∧ Fr (fun _ => False) w w' := by
  have ht := t.pos
  have HO := hid ho
  obtain ⟨ao, cap, rfl⟩ := ho.len
  clear ho
  go_enter Tryd.func3, Tryd.ntmps3
  go_wp2_with fail
  refine (w1_new (w0 := w) (.slice none 0 0) [] 0 (Fr.refl _ _) (by decide) (.inl ⟨rfl, rfl⟩) (by simp) (by decide)).mono ?_
  rintro e w1 ⟨a, r, rfl, h1, hf1⟩
  rw [show (unpack []).take 0 = [] from rfl] at h1
  have H1 := hid (And.intro h1 (t.keep hf1 (fun h => h)))
  clear h1 hf1 t
  go_wp2_with fail
  refine (xw_new H1.out.1 H1.out.2).mono ?_
  rintro e w2 ⟨q, rfl, h2⟩
  have H2 := hid h2
  clear h2 H1
  go_wp2_with fail
  refine (xw_new2 H2.out).mono ?_
  rintro e w3 ⟨q2, rfl, h3⟩
  have H3 := hid h3
  clear h3 H2
  go_wp2_with fail
  go_loopw [45] (fun i wr => ∃ (m : Nat) (r' : Option Nat) (L : List Bool) (s : XS), m ≤ vs.length ∧ i = .int .i64 m ∧ s.n = m ∧ L.length ≤ 77 * m ∧ Hid (XW [(q2, xob ⟨0, 0, 0, 0⟩)] w wr a r' L q s) ∧ Hid (XS.puts ⟨0, 0, 0, 0⟩ (vs.take m) = (s, L))) (fun i _ => vs.length - (intOf i).toNat)
  case atStart => exact ⟨0, r, [], ⟨0, 0, 0, 0⟩, by omega, rfl, rfl, by simp, H3, hid rfl⟩
  case round =>
    obtain ⟨m, r', L, s, hm, rfl, hsn, hL, H, HP⟩ := hrel
    by_cases hlt : m < vs.length
    · obtain ⟨b, off, rfl, c0, hv⟩ := HO.out.cell H.out.fr hlt
      have HM := hid (And.intro (puts_snoc_eq hlt HP.out) (put_n s vs[m]))
      have HL := hid (put_len s vs[m] H.out.ok hv)
      generalize vs[m] = u at *
      go_wp2_with fail
      refine (xw_put1 u H.out ht hv (by omega) (by omega)).mono ?_
      rintro e w4 ⟨rfl, r2, h4⟩
      clear c0
      go_wp2
      go_roundw
      case rel => exact ⟨m + 1, r2, L ++ (s.put u).2, (s.put u).1, by omega, by go_num, by rw [HM.out.2, hsn], by have := HL.out; rw [List.length_append]; omega, h4, hid HM.out.1⟩
      case measure => simp [intOf]; omega
    · obtain rfl : m = vs.length := by omega
      have h3 := HP.out
      rw [List.take_length] at h3
      have HP := hid h3
      clear h3
      go_wp2_with fail
      refine (w1_bytes H.out.w1 (by omega)).mono ?_
      rintro e w4 ⟨ao2, N2, cap2, rfl, _, hb, hf4⟩
      have H4 := hid (And.intro (H.out.still hf4) hb)
      clear hb hf4
      go_wp2_with fail
      refine (w1_len H4.out.1.w1).mono ?_
      rintro e w5 ⟨rfl, rfl⟩
      go_wp2_with fail
      refine (xa_reader H4.out.1 _ H4.out.2 (by omega)).mono ?_
      rintro e w5 ⟨a2, r2, rfl, h5⟩
      have H5 := hid h5
      clear h5
      go_wp2_with fail
      go_loopw [70] (fun i wr => ∃ (m pos : Nat) (l : List Bool) (s2 : XS), m ≤ vs.length ∧ i = .int .i64 m ∧ s2.n = m ∧ Hid (XA w wr a r' L q s a2 r2 pos l q2 s2) ∧ Hid (XS.puts s2 (vs.drop m) = (s, l))) (fun i _ => vs.length - (intOf i).toNat)
      case atStart => exact ⟨0, 0, L, ⟨0, 0, 0, 0⟩, by omega, rfl, rfl, H5, HP⟩
      case round =>
        obtain ⟨m, pos, l, s2, hm, rfl, hsn2, H, HP⟩ := hrel
        by_cases hlt : m < vs.length
        · obtain ⟨b, off, rfl, c0, hv⟩ := HO.out.cell H.out.g.fr hlt
          obtain ⟨l', rfl, hp'⟩ := puts_cons_eq hlt HP.out
          have HP' := hid (And.intro hp' (put_n s2 vs[m]))
          clear hp' HP
          generalize vs[m] = u at *
          go_wp2_with fail
          refine (xa_get1 u H.out ht hv (by omega)).mono ?_
          rintro e w6 ⟨rfl, pos', h6⟩
          have H6 := hid h6
          clear c0 h6
          go_wp2
          go_roundw
          case rel => exact ⟨m + 1, pos', l', (s2.put u).1, by omega, by go_num, by rw [HP'.out.2, hsn2], H6, hid HP'.out.1⟩
          case measure => simp [intOf]; omega
        · obtain rfl : m = vs.length := by omega
          have h7 := HP.out
          rw [List.drop_length, XS.puts] at h7
          obtain ⟨rfl, rfl⟩ := Prod.mk.inj h7
          clear h7 HP
          go_wp2_with fail
          refine (xwindow_any _ _ q _ H.out.xr).mono ?_
          rintro e w7 ⟨rfl, hf7⟩
          have H7 := hid (H.out.still hf7)
          clear hf7
          go_wp2_with fail
          refine (xwindow_any _ _ q2 _ H7.out.g.xr).mono ?_
          rintro e w8 ⟨rfl, hf8⟩
          have H8 := hid (H7.out.still hf8)
          clear hf8
          go_wp2_with fail
          refine (xa_left H8.out).mono ?_
          rintro e w9 ⟨rfl, h9⟩
          have H9 := hid h9
          clear h9
          go_wp2_with fail
          refine (xlen_any _ _ q _ H9.out.xr).mono ?_
          rintro e w10 ⟨rfl, rfl⟩
          go_wp2_with fail
          refine (xlen_any _ _ q2 _ H9.out.g.xr).mono ?_
          rintro e w10 ⟨rfl, rfl⟩
          go_wp2_with fail
          refine (xlast_any _ _ q _ H9.out.xr).mono ?_
          rintro e w10 ⟨rfl, rfl⟩
          go_wp2_with fail
          refine (xlast_any _ _ q2 _ H9.out.g.xr).mono ?_
          rintro e w10 ⟨rfl, rfl⟩
          go_wp2_with fail
          refine (awake5_any _ H9.out.g.tab).mono ?_
          rintro e w11 ⟨rfl, hf⟩
          go_wp2
          go_ret
          exact ⟨rfl, H9.out.g.fr.trans hf (fun _ h _ => h)⟩
end Go.Proofs.YtlfcaigofakkoaaDoor
