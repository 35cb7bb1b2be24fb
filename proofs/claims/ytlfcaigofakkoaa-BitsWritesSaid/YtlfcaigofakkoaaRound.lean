/- The walk of BitsRound: whatever it is called with, it returns true, and nothing old has turned. -/
import Derived.Test.YtlfcaigofakkoaaAwake1
import Derived.Test.YtlfcaigofakkoaaArg
import Derived.Deep.RegionHeld3
namespace Go.Proofs.Ytlfcaigofakkoaa
open Go.RowKit Bt

/-- The bits of one call. -/
def opBits (o : Op3) : List Bool := if 1 ≤ o.n ∧ o.n ≤ 64 then bitsOf o.v o.n.toNat else []
def opsBits (l : List Op3) : List Bool := l.flatMap opBits

theorem len_opBits (o : Op3) : (opBits o).length ≤ 64 := by
  unfold opBits
  split
  · rw [len_bitsOf]; omega
  · simp

theorem len_opsBits (l : List Op3) : (opsBits l).length ≤ 64 * l.length := by
  induction l with
  | nil => simp [opsBits]
  | cons o l ih =>
    have := len_opBits o
    simp only [opsBits, List.flatMap_cons, List.length_append, List.length_cons] at *
    omega

theorem opsBits_snoc (l : List Op3) (o : Op3) : opsBits (l ++ [o]) = opsBits l ++ opBits o := by simp [opsBits]

theorem round_out (ao : Option Addr) (len cap : Nat) (w : World) (h : 60 < len) :
    Calls Try.prog 3 #[.slice ao len cap] w fun e w' => e = .returned (.bool true) ∧ Fr (fun _ => False) w w' := by
  go_enter Try.func3, Try.ntmps3
  go_wp2_with fail
  refine (awake1_any _).mono ?_
  rintro e w1 ⟨rfl, hf⟩
  go_wp2
  go_ret
  exact ⟨rfl, hf⟩

theorem w1_put_any {w0 w : World} {a : Nat} {r : Option Nat} {l : List Bool} (h : W1 w0 w a r l) (o : Op3) (hl : l.length + 64 < 8000000) :
    Calls Try.prog 16 #[.pointer (some ⟨a, 0, none⟩), .int .u64 (o.v : Nat), .int .i64 o.n] w fun e w' => e = .returned (.tuple #[]) ∧ ∃ r', W1 w0 w' a r' (l ++ opBits o) := by
  unfold opBits
  by_cases hn : 1 ≤ o.n ∧ o.n ≤ 64
  · obtain ⟨n, hn'⟩ := nat_of (n := o.n) (by omega)
    rw [if_pos hn]
    have := w1_put h o.v n o.vlt (by omega) (by omega) hl
    rw [hn', Int.toNat_natCast]
    exact this.mono fun _ _ ⟨he, r', hw, _⟩ => ⟨he, r', hw⟩
  · rw [if_neg hn, List.append_nil]
    exact (put_no w _ a r l o.v o.n (by omega) h.wr).mono fun _ _ ⟨he, hw⟩ => ⟨he, r, by rw [← hw]; exact h⟩

theorem round_get {w0 w : World} {a a2 pos n x : Nat} {r r2 : Option Nat} {l l2 l3 : List Bool} {d : List Bool} (h : WR w0 w a r l a2 r2 pos l2 false) (h1 : 1 ≤ n) (h64 : n ≤ 64) (hd : Hid (l2 = d ++ l3 ∧ d.length = n ∧ bval d = x)) :
    Calls Try.prog 21 #[.pointer (some ⟨a2, 0, none⟩), .int .i64 n] w fun e w' => e = .returned (.int .u64 x) ∧ WR w0 w' a r l a2 r2 (pos + n) l3 false ∧ Fr (fun k => k = a2) w w' := by
  obtain ⟨e1, e2, e3⟩ := hd.out
  have hr := h.rd
  rw [e1] at hr
  refine (get_yes w _ a2 r2 pos _ false n h1 h64 (by rw [List.length_append]; omega) hr).mono ?_
  rintro e w' ⟨rfl, hr', hf⟩
  rw [show (d ++ l3).take n = d by rw [← e2]; exact List.take_left' rfl, e3]
  rw [show (d ++ l3).drop n = l3 by rw [← e2]; exact List.drop_left' rfl] at hr'
  exact ⟨rfl, h.read hr' hf, hf⟩

theorem number_lt (v n : Nat) (h : n ≤ 64) : bval (bitsOf v n) < 18446744073709551616 := by
  have h1 := bval_lt (bitsOf v n)
  rw [len_bitsOf] at h1
  exact Nat.lt_of_lt_of_le h1 (Nat.pow_le_pow_right (by omega) h)

theorem round_value {v n x : Nat} (hn : n ≤ 64) (hx : Hid (bval (bitsOf v n) = x)) (w : World) :
    Calls Try.prog 22 #[.string (txt (bitsOf v n))] w fun e w' => e = .returned (.int .u64 x) ∧ w = w' := by
  have := value_any (bitsOf v n) (by rw [len_bitsOf]; exact hn) w
  rw [hx.out] at this
  exact this

set_option maxHeartbeats 1000000 in
theorem round_in (v : Value) (ops : List Op3) (w : World) (hl : ops.length ≤ 60) (ho : OpsAt w v ops) :
    Calls Try.prog 3 #[v] w fun e w' => e = .returned (.bool true) ∧ Fr (fun _ => False) w w' := by
  have HO := hid ho
  obtain ⟨ao, cap, rfl⟩ := ho.len
  clear ho
  go_enter Try.func3, Try.ntmps3
  go_wp2_with fail
  refine (w1_new (w0 := w) (.slice none 0 0) [] 0 (Fr.refl _ _) (by decide) (.inl ⟨rfl, rfl⟩) (by simp) (by decide)).mono ?_
  rintro e w1 ⟨a, r, rfl, h1, _⟩
  have H1 := hid h1
  clear h1
  go_wp2_with fail
  go_loopw [27] (fun i wr => ∃ (m : Nat) (r' : Option Nat), m ≤ ops.length ∧ i = .int .i64 m ∧ Hid (W1 w wr a r' (opsBits (ops.take m)))) (fun i _ => ops.length - (intOf i).toNat)
  case atStart => exact ⟨0, r, by omega, rfl, H1⟩
  case round =>
    obtain ⟨m, r', hm, rfl, H⟩ := hrel
    by_cases hlt : m < ops.length
    · obtain ⟨o, ho⟩ : ∃ o, o = ops[m] := ⟨_, rfl⟩
      have hom : ops[m]? = some o := by rw [ho]; exact List.getElem?_eq_getElem hlt
      obtain ⟨b, off, rfl, c0, c1, c2, hk, hn⟩ := HO.out.cell H.out.fr hom
      have hv := o.vlt
      have HM := hid hom
      clear ho hom
      go_wp2_with fail
      refine (w1_put_any (H.out.still ((Fr.refl _ _).alloc _)) o (by have := len_opsBits (ops.take m); rw [List.length_take] at this; omega)).mono ?_
      rintro e w2 ⟨rfl, r2, h2⟩
      have H2 := hid h2
      clear h2 c0 c1 c2
      go_wp2
      go_roundw
      case rel =>
        refine ⟨m + 1, r2, by omega, by go_num, hid ?_⟩
        rw [List.take_add_one, HM.out, Option.toList_some, opsBits_snoc]
        exact H2.out
      case measure => simp [intOf]; omega
    · obtain rfl : m = ops.length := by omega
      obtain ⟨L, hL⟩ : ∃ L, L = opsBits ops := ⟨_, rfl⟩
      have hLl : L.length ≤ 3840 := by rw [hL]; have := len_opsBits ops; omega
      have h3 := H.out
      rw [List.take_length, ← hL] at h3
      have H3 := hid h3
      have HL := hid hL
      clear h3 hL H H1
      go_wp2_with fail
      refine (w1_bytes H3.out (by omega)).mono ?_
      rintro e w2 ⟨ao2, N2, cap2, rfl, h4, hb, _⟩
      have H4 := hid h4
      have HB := hid hb
      clear h4 hb
      go_wp2_with fail
      refine (w1_len H4.out).mono ?_
      rintro e w3 ⟨rfl, rfl⟩
      go_wp2_with fail
      refine (wr_new _ (pack L) L.length H4.out (by rw [len_pack]; omega) HB.out (pack_lt L) (by rw [len_pack]; omega)).mono ?_
      rintro e w3 ⟨a2, r2, rfl, h5, _⟩
      rw [take_unpack_pack] at h5
      have H5 := hid h5
      clear h5
      go_wp2_with fail
      go_loopw [54] (fun i wr => ∃ (m pos : Nat), m ≤ ops.length ∧ i = .int .i64 m ∧ Hid (WR w wr a r' L a2 r2 pos (opsBits (ops.drop m)) false)) (fun i _ => ops.length - (intOf i).toNat)
      case atStart => exact ⟨0, 0, by omega, rfl, by rw [List.drop_zero, ← HL.out]; exact H5⟩
      case round =>
        obtain ⟨m, pos, hm, rfl, H⟩ := hrel
        by_cases hlt2 : m < ops.length
        · obtain ⟨o, ho⟩ : ∃ o, o = ops[m] := ⟨_, rfl⟩
          have hom : ops[m]? = some o := by rw [ho]; exact List.getElem?_eq_getElem hlt2
          have hdrop : ops.drop m = o :: ops.drop (m + 1) := by rw [ho]; exact List.drop_eq_getElem_cons hlt2
          obtain ⟨b, off, rfl, c0, c1, c2, hk, hn⟩ := HO.out.cell H.out.fr hom
          have hv := o.vlt
          have HD := hid hdrop
          clear ho hom hdrop
          by_cases hin : 1 ≤ o.n ∧ o.n ≤ 64
          · obtain ⟨n, hn'⟩ := nat_of (n := o.n) (by omega)
            have hb : opBits o = bitsOf o.v n := by unfold opBits; rw [if_pos hin, hn', Int.toNat_natCast]
            have hn1 : 1 ≤ n := by omega
            have hn64 : n ≤ 64 := by omega
            obtain ⟨x, hx⟩ : ∃ x, bval (bitsOf o.v n) = x := ⟨_, rfl⟩
            have hx1 : x < 18446744073709551616 := by rw [← hx]; exact number_lt _ _ hn64
            have HX := hid hx
            have HG := hid (show opsBits (ops.drop m) = bitsOf o.v n ++ opsBits (ops.drop (m + 1)) ∧ (bitsOf o.v n).length = n ∧ bval (bitsOf o.v n) = x by
              refine ⟨?_, len_bitsOf _ _, hx⟩
              rw [HD.out, ← hb]; simp [opsBits])
            rw [hn'] at c1
            have hq : a2 < wr.heap.size := H.out.rd.lt
            have hwr : WR w (wr.alloc (.cells #[.int .i64 o.k, .int .i64 (n : Int), .int .u64 (o.v : Nat)] 30)).drew a r' L a2 r2 pos (opsBits (ops.drop m)) false := H.out.still ((Fr.refl _ _).alloc _).drew
            clear hin hn' hb hx H HD
            go_wp2_with fail
            go_region_held3 (fun w' => w'.cell? ⟨wr.heap.size, 1, none⟩ = some (.int .i64 (n : Int)) ∧ w'.cell? ⟨wr.heap.size, 2, none⟩ = some (.int .u64 (o.v : Nat))) (go_keep)
              (first | (go_at_call 21; refine (round_get hwr hn1 hn64 HG).mono ?_; rintro e w' ⟨rfl, hwr, hf⟩; have d1 : w'.cell? ⟨wr.heap.size, 1, none⟩ = some (.int .i64 (n : Int)) := (hf.cell (by simp) (by simp; omega)).trans (by simp); have d2 : w'.cell? ⟨wr.heap.size, 2, none⟩ = some (.int .u64 (o.v : Nat)) := (hf.cell (by simp) (by simp; omega)).trans (by simp)) | (go_at_call_of 20 ((64 : Int)); refine (number_any x 64 hx1 (by decide) _).mono ?_; rintro e w' ⟨rfl, rfl⟩) | (go_at_call 20; refine (number_any o.v n hv hn64 _).mono ?_; rintro e w' ⟨rfl, rfl⟩) | (go_at_call 22; refine (round_value hn64 HX _).mono ?_; rintro e w' ⟨rfl, rfl⟩))
            have HW := hid hwr
            clear hwr d1 d2
            go_wp2
            go_roundw
            case rel => exact ⟨m + 1, pos + n, by omega, by go_num, HW⟩
            case measure => simp [intOf]; omega
          · have hb : opBits o = [] := by unfold opBits; rw [if_neg hin]
            have H6 := H.out.still ((Fr.refl (fun _ => False) wr).alloc (.cells #[.int .i64 o.k, .int .i64 o.n, .int .u64 (o.v : Nat)] 30))
            rw [HD.out, show opsBits (o :: ops.drop (m + 1)) = opsBits (ops.drop (m + 1)) by simp [opsBits, hb]] at H6
            have HW := hid H6
            clear H6 hb
            by_cases hlo : o.n < 1
            · go_wp2
              go_roundw
              case rel => exact ⟨m + 1, pos, by omega, by go_num, HW⟩
              case measure => simp [intOf]; omega
            · have hhi : 64 < o.n := by omega
              go_wp2
              go_roundw
              case rel => exact ⟨m + 1, pos, by omega, by go_num, HW⟩
              case measure => simp [intOf]; omega
        · obtain rfl : m = ops.length := by omega
          have h7 := H.out
          rw [List.drop_length] at h7
          have H7 := hid h7
          clear h7
          go_wp2_with fail
          refine (wr_left H7.out).mono ?_
          rintro e w7 ⟨rfl, h8⟩
          have H8 := hid h8
          clear h8
          go_wp2_with fail
          refine (wr_short H8.out).mono ?_
          rintro e w8 ⟨rfl, rfl⟩
          go_wp2_with fail
          refine (awake1_any _).mono ?_
          rintro e w9 ⟨rfl, hf⟩
          go_wp2
          go_ret
          exact ⟨rfl, H8.out.fr.trans hf (fun _ h _ => h)⟩
end Go.Proofs.Ytlfcaigofakkoaa
