/- The walks of a reader's Get and Bit. -/
import Derived.Test.YtlfcaigofakkoaaStream
namespace Go.Proofs.Ytlfcaigofakkoaa
open Go.RowKit Bt

theorem set_block {w : World} {a i : Nat} {cs : Array Value} {T : TypeId} (h : w.heap[a]? = some (.cells cs T (0, 0))) (u : Value) : (w.setCell ⟨a, i, none⟩ u).heap[a]? = some (.cells (cs.setIfInBounds i u) T (0, 0)) := by
  simp [World.setCell, Array.getElem?_modify, h]

theorem or_one (x : Nat) (b : Bool) (hx : x < 9223372036854775808) : bits BinOp.or IntKind.u64 ((x : Int) * 2) (IntKind.u64.wrap ((b.toNat : Nat) : Int)) = ((2 * x + b.toNat : Nat) : Int) := by
  have hb := toNat_le b
  have e : IntKind.u64.wrap ((b.toNat : Nat) : Int) = ((b.toNat : Nat) : Int) := by rw [IntKind.wrap_u64]; omega
  rw [e, show ((x : Int) * 2) = ((x * 2 : Nat) : Int) by omega, u64_or_nat _ _ (by omega) (by omega), nat_join 1 _ _ (by omega) (by omega)]
  congr 1
  omega

theorem get_bit {b0 x p : Nat} {all : List Bool} (hx : x < 9223372036854775808) (hb : b0 = byteAt all (p / 8)) :
    bits BinOp.or IntKind.u64 ((x : Int) * 2) (IntKind.u64.wrap (bits BinOp.and IntKind.u8 ((b0 : Int) / 2 ^ (7 - p % 8)) 1)) = ((2 * x + (all.getD p false).toNat : Nat) : Int) := by
  rw [and_one_pow _ _ (by rw [hb]; exact byteAt_lt _ _), hb, bit_pack, or_one _ _ hx]

theorem get_step {x k pos p m : Nat} {all l : List Bool} (hX : x = bval (l.take k)) (hE : l = (all.take m).drop pos) (hP : p = pos + k) (hm : m ≤ all.length) (hpm : p < m) :
    2 * x + (all.getD p false).toNat = bval (l.take (k + 1)) ∧ 2 * x + (all.getD p false).toNat < 2 ^ (k + 1) ∧ k < l.length := by
  have hk : k < l.length := by rw [hE, List.length_drop, List.length_take]; omega
  have e : l[k] = all.getD p false := by
    have : l[k]? = some (all.getD p false) := by
      rw [hE, List.getElem?_drop, List.getElem?_take, if_pos (by omega), List.getD_eq_getElem?_getD, ← hP, List.getElem?_eq_getElem (by omega)]; rfl
    rw [List.getElem?_eq_getElem hk] at this
    exact Option.some.inj this
  have e2 : 2 * x + (all.getD p false).toNat = bval (l.take (k + 1)) := by
    rw [List.take_succ_eq_append_getElem hk, bval_snoc, e, hX]
  refine ⟨e2, ?_, hk⟩
  rw [e2]
  have := bval_lt (l.take (k + 1))
  rw [List.length_take] at this
  exact Nat.lt_of_lt_of_le this (Nat.pow_le_pow_right (by omega) (by omega))

theorem get_no (w : World) (B a : Nat) (r : Option Nat) (pos : Nat) (l : List Bool) (short : Bool) (n : Int) (hn : n < 1 ∨ 64 < n) (_h : Rd w B a r pos l short) :
    Calls Try.prog 21 #[.pointer (some ⟨a, 0, none⟩), .int .i64 n] w fun e w' => e = .returned (.int .u64 0) ∧ w = w' := by
  rcases hn with hn | hn
  · go_enter Try.func21, Try.ntmps21
    go_wp2
    go_ret
    exact ⟨rfl, rfl⟩
  · go_enter Try.func21, Try.ntmps21
    go_wp2
    go_ret
    exact ⟨rfl, rfl⟩

set_option maxHeartbeats 400000 in
theorem get_short (w : World) (B a : Nat) (r : Option Nat) (pos : Nat) (l : List Bool) (short : Bool) (n : Nat) (h1 : 1 ≤ n) (h64 : n ≤ 64) (hl : l.length < n) (h : Rd w B a r pos l short) :
    Calls Try.prog 21 #[.pointer (some ⟨a, 0, none⟩), .int .i64 n] w fun e w' => e = .returned (.int .u64 0) ∧ Rd w' B a r pos [] true ∧ Fr (fun k => k = a) w w' := by
  have HL := hid (left_any w B a r pos l short h)
  obtain ⟨hB, v, all, m, hv, hrow, h2, h3, h4, hl'⟩ := h
  have hc1 : w.cell? ⟨a, 1, none⟩ = some (.int .i64 (pos : Nat)) := by simp [World.cell?, hv]
  have hc2 : w.cell? ⟨a, 2, none⟩ = some (.int .i64 (m : Nat)) := by simp [World.cell?, hv]
  have hc3 : w.cell? ⟨a, 3, none⟩ = some (.bool short) := by simp [World.cell?, hv]
  have hf2 : w.frozen? ⟨a, 2, none⟩ = false := by simp [World.frozen?, hv]
  have hf3 : w.frozen? ⟨a, 3, none⟩ = false := by simp [World.frozen?, hv]
  have HV := hid hv
  have HR := hid hrow
  have HE := hid hl'
  clear hv hrow hl'
  go_enter Try.func21, Try.ntmps21
  go_wp2_with fail
  refine HL.out.mono ?_
  rintro e w' ⟨rfl, q, rfl⟩
  go_wp2
  go_ret
  have hfr : Fr (fun k => k = a) w (((w.drewN q).setCell ⟨a, 3, none⟩ (.bool true)).setCell ⟨a, 2, none⟩ (.int .i64 (pos : Nat))) := (((Fr.refl (fun k => k = a) w).drewN q).setCell _ _ (fun _ => rfl)).setCell _ _ (fun _ => rfl)
  refine ⟨rfl, ⟨hB, v, all, pos, ?_, HR.out.keep hfr (fun k hk e => HR.out.ne HV.out (by decide) (by rw [hk, e])), Nat.le_refl _, by omega, h4, ?_⟩, hfr⟩
  · have := set_block (i := 2) (set_block (i := 3) (w := w.drewN q) HV.out (.bool true)) (.int .i64 (pos : Nat))
    rw [this]
    simp
  · rw [List.drop_eq_nil_of_le (by rw [List.length_take]; omega)]

set_option maxHeartbeats 400000 in
theorem get_yes (w : World) (B a : Nat) (r : Option Nat) (pos : Nat) (l : List Bool) (short : Bool) (n : Nat) (h1 : 1 ≤ n) (h64 : n ≤ 64) (hl : n ≤ l.length) (h : Rd w B a r pos l short) :
    Calls Try.prog 21 #[.pointer (some ⟨a, 0, none⟩), .int .i64 n] w fun e w' => e = .returned (.int .u64 (bval (l.take n) : Nat)) ∧ Rd w' B a r (pos + n) (l.drop n) short ∧ Fr (fun k => k = a) w w' := by
  have HL := hid (left_any w B a r pos l short h)
  obtain ⟨hB, v, all, m, hv, hrow, h2, h3, h4, hl'⟩ := h
  have hlen : l.length = m - pos := by rw [hl', List.length_drop, List.length_take]; omega
  have hmn : pos + n ≤ m := by omega
  obtain ⟨g, cap, rfl, rfl⟩ := hrow.nonnil (by rw [len_pack]; omega)
  have hga : g ≠ a := fun e => hrow.ne hv (by decide) (by rw [e])
  have HV := hid hv
  have HR := hid hrow
  have HE := hid hl'
  clear hv hrow hl' hlen
  go_enter Try.func21, Try.ntmps21
  go_wp2_with fail
  refine HL.out.mono ?_
  rintro e w' ⟨rfl, q, rfl⟩
  go_wp2
  go_loopw [5, 27] (fun o i wr => ∃ (k x : Nat), k ≤ n ∧ i = .int .i64 k ∧ o = .int .u64 x ∧ x < 2 ^ k ∧ Hid (x = bval (l.take k)) ∧ Fr (fun k => k = a) w wr ∧
      Hid (wr.heap[a]? = some (.cells #[.slice (some ⟨g, 0, none⟩) (pack all).length cap, .int .i64 ((pos + k : Nat) : Int), .int .i64 (m : Nat), .bool short] 79 (0, 0))))
    (fun _ i _ => n - (intOf i).toNat)
  case atStart => exact ⟨0, 0, by omega, rfl, rfl, by decide, hid rfl, (Fr.refl _ _).drewN _, HV⟩
  case round =>
    obtain ⟨k, x, hk, rfl, rfl, hx, HX, hf, HW⟩ := hrel
    by_cases hlt : k < n
    · have hp2 : 2 ^ k ≤ 2 ^ 63 := Nat.pow_le_pow_right (by omega) (by omega)
      have hx2 : x < 9223372036854775808 := by omega
      clear hp2
      obtain ⟨p, hp⟩ : ∃ p, p = pos + k := ⟨_, rfl⟩
      have hpm : p < m := by omega
      have hv := HW.out
      rw [← hp] at hv
      have hc0 : wr.cell? ⟨a, 0, none⟩ = some (.slice (some ⟨g, 0, none⟩) (pack all).length cap) := by simp [World.cell?, hv]
      have hc1 : wr.cell? ⟨a, 1, none⟩ = some (.int .i64 (p : Nat)) := by simp [World.cell?, hv]
      have hf1 : wr.frozen? ⟨a, 1, none⟩ = false := by simp [World.frozen?, hv]
      have hpl : p / 8 < (pack all).length := by rw [len_pack]; omega
      have hcell : wr.cell? ⟨g, p / 8, none⟩ = some (.int .u8 (byteAt all (p / 8) : Nat)) := by
        rw [hf.cell (p := ⟨g, p / 8, none⟩) (HR.out.lt g rfl).2 hga, HR.out.cellAt _ hpl, getD_pack]
      obtain ⟨b0, hb0⟩ : ∃ b0, b0 = byteAt all (p / 8) := ⟨_, rfl⟩
      rw [← hb0] at hcell
      have hb1 : b0 < 256 := by rw [hb0]; exact byteAt_lt _ _
      have HB0 := hid hb0
      have HP := hid hp
      have HV2 := hid hv
      clear hb0 hp hv
      go_wp2
      go_quiet (fail)
      go_wp2
      have G := get_bit (p := p) hx2 HB0.out
      have S := get_step HX.out HE.out HP.out h3 hpm
      go_roundw
      case rel =>
        refine ⟨k + 1, _, by omega, by go_num, by rw [G], S.2.1, hid S.1, (hf.drewN nq).setCell _ _ (fun _ => rfl), hid ?_⟩
        have := set_block (i := 1) (w := wr.drewN nq) HV2.out (.int .i64 ((p : Int) + 1))
        rw [this]
        have := HP.out
        simp only [List.setIfInBounds_toArray, List.set_cons_succ, List.set_cons_zero]
        rw [show ((p : Int) + 1) = ((pos + (k + 1) : Nat) : Int) by omega]
      case measure => simp [intOf]; omega
    · go_wp2
      go_ret
      obtain rfl : k = n := by omega
      refine ⟨ret_nat HX.out, ⟨hB, _, all, m, HW.out, HR.out.keep hf (fun k hk => by simp at hk; omega), hmn, h3, h4, ?_⟩, hf⟩
      rw [HE.out, List.drop_drop]

theorem rbit_yes (w : World) (B a : Nat) (r : Option Nat) (pos : Nat) (b : Bool) (l : List Bool) (short : Bool) (h : Rd w B a r pos (b :: l) short) :
    Calls Try.prog 26 #[.pointer (some ⟨a, 0, none⟩)] w fun e w' => e = .returned (.bool b) ∧ Rd w' B a r (pos + 1) l short ∧ Fr (fun k => k = a) w w' := by
  have HG := hid (get_yes w B a r pos (b :: l) short 1 (by decide) (by decide) (by simp) h)
  clear h
  go_enter Try.func26, Try.ntmps26
  go_wp2_with fail
  refine HG.out.mono ?_
  rintro e w' ⟨rfl, hr, hf⟩
  have HR := hid hr
  clear hr
  cases b
  · go_wp2
    go_ret
    exact ⟨rfl, HR.out, hf⟩
  · go_wp2
    go_ret
    exact ⟨rfl, HR.out, hf⟩

theorem rbit_short (w : World) (B a : Nat) (r : Option Nat) (pos : Nat) (short : Bool) (h : Rd w B a r pos [] short) :
    Calls Try.prog 26 #[.pointer (some ⟨a, 0, none⟩)] w fun e w' => e = .returned (.bool false) ∧ Rd w' B a r pos [] true ∧ Fr (fun k => k = a) w w' := by
  have HG := hid (get_short w B a r pos [] short 1 (by decide) (by decide) (by simp) h)
  clear h
  go_enter Try.func26, Try.ntmps26
  go_wp2_with fail
  refine HG.out.mono ?_
  rintro e w' ⟨rfl, hr, hf⟩
  have HR := hid hr
  clear hr
  go_wp2
  go_ret
  exact ⟨rfl, HR.out, hf⟩

end Go.Proofs.Ytlfcaigofakkoaa
