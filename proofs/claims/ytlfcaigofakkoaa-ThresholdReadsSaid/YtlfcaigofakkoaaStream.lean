/- The walks of package stream: a writer's and a reader's functions, each by what it does to memory. -/
import Derived.Test.YtlfcaigofakkoaaPure
namespace Go.Proofs.Ytlfcaigofakkoaa
open Go.RowKit Bt

theorem Try.info5 : (Try.prog.info? 5).map (fun i => (i.zero, i.size, i.bytes)) = some (some (.int .u8 0), 1, 1) := by kernel_rfl

theorem oneCell_byteVs (bs : List Nat) : ∀ u ∈ byteVs bs, u.oneCell' = true := by
  intro u hu
  simp only [byteVs, List.mem_map] at hu
  obtain ⟨b, _, rfl⟩ := hu
  rfl

set_option maxHeartbeats 400000 in
theorem clone_any (v : Value) (bs : List Nat) (w : World) (hl : bs.length ≤ 1000000) (hb : BS w v bs) :
    Calls Try.prog 55 #[v] w fun e w' => ∃ v' r, e = .returned v' ∧ Row w' w.heap.size r v' bs ∧ Fr (fun _ => False) w w' := by
  obtain ⟨i0, hi, hz0, hz1, hz2⟩ := info_parts Try.info5
  rcases hb with ⟨rfl, rfl⟩ | ⟨a, cap, rfl, h1, h2, hc⟩
  · have hnil := @Lib.run_eql_slice_nil Try.prog
    go_enter Try.func55, Try.ntmps55
    go_wp2
    go_ret
    exact ⟨_, none, rfl, ⟨World.ownsRow_nil _ _ _ _, rfl⟩, Fr.refl _ _⟩
  · have hnil := @Lib.run_eql_slice_nil Try.prog
    have hown : (w.alloc (.cells #[] 5)).ownsRow w.heap.size 5 1 (.slice (some ⟨w.heap.size, 0, none⟩) 0 0) 0 [] := World.ownsRow_made w #[] 0 (Nat.le_refl _) (by decide) rfl
    have hcells : ∀ (j : Nat) (u : Value), (byteVs bs)[j]? = some u → (w.alloc (.cells #[] 5)).cell? (a.add j) = some u := fun j u hu => by
      rw [((Fr.refl (fun _ => False) w).alloc _).cell (World.block_lt_of_cell? w _ (hc j u hu)) (fun h => h)]
      exact hc j u hu
    have HC := hid hcells
    have HO := hid hown
    clear hcells hown hc
    go_enter Try.func55, Try.ntmps55
    go_wp2_with (at_builtin; refine wpList_append_own _ rfl _ _ 35 rfl w.heap.size 5 i0 (.int .u8 0) 1 1 Try.underlying35 hi hz0 hz1 hz2 rfl (by decide) _ 0 [] rfl HO.out a bs.length cap (byteVs bs) rfl (by rw [len_byteVs, Nat.mul_one]) HC.out (oneCell_byteVs bs) (by unfold maxLen; omega) (by omega) (by simp) ?_; intro v' w1 hown1 hgrow1 _; have HO1 := hid hown1; have HG1 : Hid ((w.alloc (.cells #[] 5)).grownBy w1 (some w.heap.size)) := hid hgrow1; clear hown1 hgrow1)
    go_ret
    exact ⟨_, v'.ownBlock, rfl, ⟨by have := HO1.out; simpa using this, rfl⟩, ((Fr.refl _ w).alloc _).grown HG1.out (fun k hk hlt => by simp at hk; omega)⟩

theorem Row.nonnil {w : World} {B : Nat} {r : Option Nat} {v : Value} {bs : List Nat} (h : Row w B r v bs) (h0 : 0 < bs.length) : ∃ g cap, v = .slice (some ⟨g, 0, none⟩) bs.length cap ∧ r = some g := by
  rcases h.own.2 with ⟨_, h1⟩ | ⟨g, cap, cur, rfl, _⟩
  · omega
  · exact ⟨g, cap, rfl, h.blk.symm⟩

theorem clone_some (v : Value) (bs : List Nat) (w : World) (N : Nat) (hN : bs.length = N) (h0 : 0 < N) (hl : N ≤ 1000000) (hb : BS w v bs) :
    Calls Try.prog 55 #[v] w fun e w' => ∃ g cap, e = .returned (.slice (some ⟨g, 0, none⟩) N cap) ∧ w.heap.size ≤ g ∧ Row w' w.heap.size (some g) (.slice (some ⟨g, 0, none⟩) N cap) bs ∧ Fr (fun _ => False) w w' := by
  refine (clone_any v bs w (by omega) hb).mono ?_
  rintro e w' ⟨v', r, rfl, hr, hf⟩
  obtain ⟨g, cap, rfl, rfl⟩ := hr.nonnil (by omega)
  subst hN
  exact ⟨g, cap, rfl, (hr.lt g rfl).1, hr, hf⟩

theorem BS.take {w : World} {a : Addr} {bs : List Nat} {cap n : Nat} (h : BS w (.slice (some a) bs.length cap) bs) (hn : n ≤ bs.length) : BS w (.slice (some a) n cap) (bs.take n) := by
  rcases h with ⟨h0, _⟩ | ⟨a', cap', he, h1, h2, hc⟩
  · cases h0
  · simp only [Value.slice.injEq, Option.some.injEq] at he
    obtain ⟨rfl, _, rfl⟩ := he
    refine .inr ⟨a, cap, by rw [List.length_take, Nat.min_eq_left hn], by rw [List.length_take]; omega, h2, fun j u hu => hc j u ?_⟩
    simp only [byteVs, List.map_take, List.getElem?_take] at hu ⊢
    split at hu
    · exact hu
    · cases hu

theorem BS.take_nil {w : World} : BS w (.slice none 0 0) (([] : List Nat).take 0) := .inl ⟨rfl, rfl⟩


set_option maxHeartbeats 400000 in
theorem first_whole (v : Value) (bs : List Nat) (n : Nat) (w : World) (hl : bs.length ≤ 1000000) (hb : BS w v bs) (h256 : ∀ b ∈ bs, b < 256) (hn : n ≤ 8 * bs.length) (hm : n % 8 = 0) :
    Calls Try.prog 54 #[v, .int .i64 n] w fun e w' => ∃ v' r, e = .returned v' ∧ Row w' w.heap.size r v' (pack ((unpack bs).take n)) ∧ Fr (fun _ => False) w w' := by
  have HP := hid (pack_take bs h256 n hn hm)
  have hm1 : (n : Int) % 8 = 0 := by omega
  clear hm
  rcases hb with ⟨rfl, rfl⟩ | ⟨a, cap, rfl, h1, h2, hc⟩
  · have hn0 : n = 0 := by simpa using hn
    subst hn0
    go_enter Try.func54, Try.ntmps54
    have HB : BS w (.slice none 0 0) [] := .inl ⟨rfl, rfl⟩
    go_wp2_with (go_at_call 59; refine (size_any _ (by omega) (by omega) _).mono ?_; rintro e w' ⟨rfl, rfl⟩)
    refine (clone_any _ _ _ hl HB).mono ?_
    rintro e w' ⟨v', r, rfl, hrow, hf⟩
    have HR := hid hrow
    clear hrow HB
    go_wp2
    go_ret
    exact ⟨_, r, rfl, by rw [HP.out]; exact HR.out, hf⟩
  · have HB : BS w (.slice (some a) ((n + 7) / 8) cap) (bs.take ((n + 7) / 8)) := BS.take (.inr ⟨a, cap, rfl, h1, h2, hc⟩) (by omega)
    have h8 : (n + 7) / 8 ≤ bs.length := by omega
    clear hc
    go_enter Try.func54, Try.ntmps54
    go_wp2_with (go_at_call 59; refine (size_any _ (by omega) (by omega) _).mono ?_; rintro e w' ⟨rfl, rfl⟩)
    refine (clone_any _ _ _ (by rw [List.length_take]; omega) HB).mono ?_
    rintro e w' ⟨v', r, rfl, hrow, hf⟩
    have HR := hid hrow
    clear hrow HB
    go_wp2
    go_ret
    exact ⟨_, r, rfl, by rw [HP.out]; exact HR.out, hf⟩

set_option maxHeartbeats 400000 in
theorem first_cut (v : Value) (bs : List Nat) (n : Nat) (w : World) (hl : bs.length ≤ 1000000) (hb : BS w v bs) (h256 : ∀ b ∈ bs, b < 256) (hn : n ≤ 8 * bs.length) (hm : 0 < n % 8) :
    Calls Try.prog 54 #[v, .int .i64 n] w fun e w' => ∃ v' r, e = .returned v' ∧ Row w' w.heap.size r v' (pack ((unpack bs).take n)) ∧ Fr (fun _ => False) w w' := by
  have HP := hid (pack_take_cut bs h256 n hn hm)
  rcases hb with ⟨rfl, rfl⟩ | ⟨a, cap, rfl, h1, h2, hc⟩
  · simp at hn; omega
  · have HB : BS w (.slice (some a) ((n + 7) / 8) cap) (bs.take ((n + 7) / 8)) := BS.take (.inr ⟨a, cap, rfl, h1, h2, hc⟩) (by omega)
    have h8 : (n + 7) / 8 ≤ bs.length := by omega
    clear hc
    go_enter Try.func54, Try.ntmps54
    go_wp2_with (go_at_call 59; refine (size_any _ (by omega) (by omega) _).mono ?_; rintro e w' ⟨rfl, rfl⟩)
    refine (clone_some _ _ _ ((n + 7) / 8) (by rw [List.length_take]; omega) (by omega) (by omega) HB).mono ?_
    rintro e w' ⟨g, cap', rfl, hg, hrow, hf⟩
    have hcell : w'.cell? ⟨g, (n + 7) / 8 - 1, none⟩ = some (.int .u8 (bs.getD ((n + 7) / 8 - 1) 0 : Nat)) := by
      rw [hrow.cellAt _ (by rw [List.length_take]; omega), List.getD_eq_getElem?_getD, List.getD_eq_getElem?_getD, List.getElem?_take, if_pos (by omega)]
    have hfrz : w'.frozen? ⟨g, (n + 7) / 8 - 1, none⟩ = false := hrow.frozenAt _
    have HR := hid hrow
    obtain ⟨b0, hb0⟩ : ∃ b0, b0 = bs.getD ((n + 7) / 8 - 1) 0 := ⟨_, rfl⟩
    rw [← hb0] at hcell
    have hb1 : b0 < 256 := by rw [hb0]; exact byte_getD h256 _
    have HB0 := hid hb0
    clear hrow HB hb0
    go_wp2
    go_region
    all_goals go_wp2
    go_ret
    have e : bits BinOp.and IntKind.u8 (b0 : Int) (255 * 2 ^ (8 - n % 8) % 256) = ((b0 &&& (255 * 2 ^ (8 - n % 8) % 256) : Nat) : Int) := by
      have e1 : ((255 : Int) * 2 ^ (8 - n % 8) % 256) = ((255 * 2 ^ (8 - n % 8) % 256 : Nat) : Int) := by
        rw [Int.natCast_emod, Int.natCast_mul, Int.natCast_pow]; rfl
      rw [e1]
      exact u8_and_nat _ _ hb1 (Nat.mod_lt _ (by decide))
    rw [e]
    have hrow := (HR.out.set ((n + 7) / 8 - 1) (b0 &&& (255 * 2 ^ (8 - n % 8) % 256))).drew
    exact ⟨_, some g, rfl, by rw [HP.out, ← HB0.out]; exact hrow, (hf.setCell _ _ (fun h => by simp at h; omega)).drew⟩

theorem first_any (v : Value) (bs : List Nat) (n : Nat) (w : World) (hl : bs.length ≤ 1000000) (hb : BS w v bs) (h256 : ∀ b ∈ bs, b < 256) (hn : n ≤ 8 * bs.length) :
    Calls Try.prog 54 #[v, .int .i64 n] w fun e w' => ∃ v' r, e = .returned v' ∧ Row w' w.heap.size r v' (pack ((unpack bs).take n)) ∧ Fr (fun _ => False) w w' := by
  by_cases hm : n % 8 = 0
  · exact first_whole v bs n w hl hb h256 hn hm
  · exact first_cut v bs n w hl hb h256 hn (by omega)

theorem Row.slice {w : World} {B : Nat} {r : Option Nat} {v : Value} {bs : List Nat} (h : Row w B r v bs) : ∃ ao n cap, v = .slice ao n cap := by
  rcases h.own.2 with ⟨rfl, _⟩ | ⟨g, cap, cur, rfl, _⟩ <;> exact ⟨_, _, _, rfl⟩

theorem first_slice (v : Value) (bs : List Nat) (n : Nat) (w : World) (hl : bs.length ≤ 1000000) (hb : BS w v bs) (h256 : ∀ b ∈ bs, b < 256) (hn : n ≤ 8 * bs.length) :
    Calls Try.prog 54 #[v, .int .i64 n] w fun e w' => ∃ ao N cap r, e = .returned (.slice ao N cap) ∧ Row w' w.heap.size r (.slice ao N cap) (pack ((unpack bs).take n)) ∧ Fr (fun _ => False) w w' := by
  refine (first_any v bs n w hl hb h256 hn).mono ?_
  rintro e w' ⟨v', r, rfl, hr, hf⟩
  obtain ⟨ao, N, cap, rfl⟩ := hr.slice
  exact ⟨ao, N, cap, r, rfl, hr, hf⟩

theorem BS.len {w : World} {v : Value} {bs : List Nat} (h : BS w v bs) : ∃ ao cap, v = .slice ao bs.length cap := by
  rcases h with ⟨rfl, rfl⟩ | ⟨a, cap, rfl, _⟩
  · exact ⟨none, 0, rfl⟩
  · exact ⟨some a, cap, rfl⟩

/-- NewWriter of more bits than there are, or fewer than none: refused. -/
theorem newWriter_no (v : Value) (bs : List Nat) (n : Int) (w : World) (hl : bs.length ≤ 1000000) (hb : BS w v bs) (hn : ¬ (0 ≤ n ∧ n ≤ 8 * bs.length)) :
    Calls Try.prog 15 #[v, .int .i64 n] w fun e w' => e = .returned (.tuple #[.pointer none, .int .i64 11]) ∧ w = w' := by
  obtain ⟨ao, cap, rfl⟩ := hb.len
  have hd : decide (0 ≤ n ∧ n ≤ 8 * bs.length) = false := decide_eq_false hn
  have HR := right_any n ao bs.length cap hl w
  rw [hd] at HR
  have HR := hid HR
  clear hb hn hd
  go_enter Try.func15, Try.ntmps15
  go_wp2_with fail
  refine HR.out.mono ?_
  rintro e w' ⟨rfl, rfl⟩
  go_wp2
  go_ret2
  exact ⟨rfl, rfl⟩

theorem newReader_no (v : Value) (bs : List Nat) (n : Int) (w : World) (hl : bs.length ≤ 1000000) (hb : BS w v bs) (hn : ¬ (0 ≤ n ∧ n ≤ 8 * bs.length)) :
    Calls Try.prog 17 #[v, .int .i64 n] w fun e w' => e = .returned (.tuple #[.pointer none, .int .i64 11]) ∧ w = w' := by
  obtain ⟨ao, cap, rfl⟩ := hb.len
  have hd : decide (0 ≤ n ∧ n ≤ 8 * bs.length) = false := decide_eq_false hn
  have HR := right_any n ao bs.length cap hl w
  rw [hd] at HR
  have HR := hid HR
  clear hb hn hd
  go_enter Try.func17, Try.ntmps17
  go_wp2_with fail
  refine HR.out.mono ?_
  rintro e w' ⟨rfl, rfl⟩
  go_wp2
  go_ret2
  exact ⟨rfl, rfl⟩

theorem newWriter_any (v : Value) (bs : List Nat) (n : Nat) (w : World) (hl : bs.length ≤ 1000000) (hb : BS w v bs) (h256 : ∀ b ∈ bs, b < 256) (hn : n ≤ 8 * bs.length) :
    Calls Try.prog 15 #[v, .int .i64 n] w fun e w' => ∃ a r, e = .returned (.tuple #[.pointer (some ⟨a, 0, none⟩), .int .i64 0]) ∧ Wr w' w.heap.size a r ((unpack bs).take n) ∧ Fr (fun _ => False) w w' := by
  obtain ⟨ao, cap, rfl⟩ := hb.len
  have hd : decide (0 ≤ (n : Int) ∧ (n : Int) ≤ 8 * bs.length) = true := decide_eq_true (by omega)
  have HR := right_any n ao bs.length cap hl w
  rw [hd] at HR
  have HR := hid HR
  have HF := hid (first_slice _ bs n w hl hb h256 hn)
  clear hb hd
  go_enter Try.func15, Try.ntmps15
  go_wp2_with fail
  refine HR.out.mono ?_
  rintro e w' ⟨rfl, rfl⟩
  go_wp2_with fail
  refine HF.out.mono ?_
  rintro e w' ⟨ao', N', cap', r, rfl, hrow, hf⟩
  have HW := hid hrow
  clear hrow
  go_wp2
  go_ret2
  refine ⟨_, r, rfl, ⟨hf.size, _, ?_, (HW.out.keep ((Fr.refl (fun _ => False) w').alloc _) (fun _ _ h => h))⟩, hf.alloc _⟩
  rw [List.length_take, len_unpack, Nat.min_eq_left hn]
  exact heap_alloc_new w' _

theorem newReader_any (v : Value) (bs : List Nat) (n : Nat) (w : World) (hl : bs.length ≤ 1000000) (hb : BS w v bs) (h256 : ∀ b ∈ bs, b < 256) (hn : n ≤ 8 * bs.length) :
    Calls Try.prog 17 #[v, .int .i64 n] w fun e w' => ∃ a r, e = .returned (.tuple #[.pointer (some ⟨a, 0, none⟩), .int .i64 0]) ∧ Rd w' w.heap.size a r 0 ((unpack bs).take n) false ∧ Fr (fun _ => False) w w' := by
  obtain ⟨ao, cap, rfl⟩ := hb.len
  have hd : decide (0 ≤ (n : Int) ∧ (n : Int) ≤ 8 * bs.length) = true := decide_eq_true (by omega)
  have HR := right_any n ao bs.length cap hl w
  rw [hd] at HR
  have HR := hid HR
  have HF := hid (first_slice _ bs n w hl hb h256 hn)
  clear hb hd
  go_enter Try.func17, Try.ntmps17
  go_wp2_with fail
  refine HR.out.mono ?_
  rintro e w' ⟨rfl, rfl⟩
  go_wp2_with fail
  refine HF.out.mono ?_
  rintro e w' ⟨ao', N', cap', r, rfl, hrow, hf⟩
  have HW := hid hrow
  clear hrow
  go_wp2
  go_ret2
  have hlen : ((unpack bs).take n).length = n := by rw [List.length_take, len_unpack]; omega
  refine ⟨_, r, rfl, ⟨hf.size, _, (unpack bs).take n, n, heap_alloc_new w' _, (HW.out.keep ((Fr.refl (fun _ => False) w').alloc _) (fun _ _ h => h)), Nat.zero_le _, by omega, by omega, ?_⟩, hf.alloc _⟩
  rw [List.drop_zero, List.take_take, Nat.min_self]

theorem wlen_any (w : World) (B a : Nat) (r : Option Nat) (l : List Bool) (h : Wr w B a r l) :
    Calls Try.prog 19 #[.pointer (some ⟨a, 0, none⟩)] w fun e w' => e = .returned (.int .i64 (l.length : Nat)) ∧ w = w' := by
  obtain ⟨_, v, hv, _⟩ := h
  have hc : w.cell? ⟨a, 1, none⟩ = some (.int .i64 (l.length : Nat)) := by simp [World.cell?, hv]
  clear hv
  go_enter Try.func19, Try.ntmps19
  go_wp2
  go_ret
  exact ⟨rfl, rfl⟩

theorem wbytes_any (w : World) (B a : Nat) (r : Option Nat) (l : List Bool) (hl : l.length ≤ 8000000) (h : Wr w B a r l) :
    Calls Try.prog 18 #[.pointer (some ⟨a, 0, none⟩)] w fun e w' => ∃ ao N cap r', e = .returned (.slice ao N cap) ∧ Row w' w.heap.size r' (.slice ao N cap) (pack l) ∧ Fr (fun _ => False) w w' := by
  obtain ⟨_, v, hv, hrow⟩ := h
  obtain ⟨ao, N, cap, rfl⟩ := hrow.slice
  have hc : w.cell? ⟨a, 0, none⟩ = some (.slice ao N cap) := by simp [World.cell?, hv]
  have HC := hid (clone_any _ _ w (by rw [len_pack]; omega) hrow.bs)
  clear hv hrow
  go_enter Try.func18, Try.ntmps18
  go_wp2_with fail
  refine HC.out.mono ?_
  rintro e w' ⟨v', r', rfl, hr, hf⟩
  obtain ⟨ao', N', cap', rfl⟩ := hr.slice
  have HR := hid hr
  clear hr
  go_wp2
  go_ret
  exact ⟨_, _, _, r', rfl, HR.out, hf⟩

theorem left_any (w : World) (B a : Nat) (r : Option Nat) (pos : Nat) (l : List Bool) (short : Bool) (h : Rd w B a r pos l short) :
    Calls Try.prog 23 #[.pointer (some ⟨a, 0, none⟩)] w fun e w' => e = .returned (.int .i64 (l.length : Nat)) ∧ ∃ n, w' = w.drewN n := by
  obtain ⟨_, v, all, n, hv, _, h1, h2, h3, hl⟩ := h
  have hc : w.cell? ⟨a, 1, none⟩ = some (.int .i64 (pos : Nat)) := by simp [World.cell?, hv]
  have hd : w.cell? ⟨a, 2, none⟩ = some (.int .i64 (n : Nat)) := by simp [World.cell?, hv]
  have HL := hid (show l.length = n - pos by rw [hl, List.length_drop, List.length_take]; omega)
  clear hv hl
  go_enter Try.func23, Try.ntmps23
  go_wp2
  go_quiet (fail)
  go_wp2
  go_ret
  exact ⟨ret_int (by rw [HL.out]; omega), _, rfl⟩

theorem pos_any (w : World) (B a : Nat) (r : Option Nat) (pos : Nat) (l : List Bool) (short : Bool) (h : Rd w B a r pos l short) :
    Calls Try.prog 31 #[.pointer (some ⟨a, 0, none⟩)] w fun e w' => e = .returned (.int .i64 (pos : Nat)) ∧ w = w' := by
  obtain ⟨_, v, all, n, hv, _⟩ := h
  have hc : w.cell? ⟨a, 1, none⟩ = some (.int .i64 (pos : Nat)) := by simp [World.cell?, hv]
  clear hv
  go_enter Try.func31, Try.ntmps31
  go_wp2
  go_ret
  exact ⟨rfl, rfl⟩

theorem short_any (w : World) (B a : Nat) (r : Option Nat) (pos : Nat) (l : List Bool) (short : Bool) (h : Rd w B a r pos l short) :
    Calls Try.prog 24 #[.pointer (some ⟨a, 0, none⟩)] w fun e w' => e = .returned (.bool short) ∧ w = w' := by
  obtain ⟨_, v, all, n, hv, _⟩ := h
  have hc : w.cell? ⟨a, 3, none⟩ = some (.bool short) := by simp [World.cell?, hv]
  clear hv
  go_enter Try.func24, Try.ntmps24
  go_wp2
  go_ret
  exact ⟨rfl, rfl⟩
end Go.Proofs.Ytlfcaigofakkoaa
