/- The walk of XorPuts: whatever it is called with, it returns true, and nothing old has turned. -/
import Derived.Test.YtlfcaigofakkoaaDoorXRefNew
import Derived.Test.YtlfcaigofakkoaaDoorXCost
import Derived.Test.YtlfcaigofakkoaaDoorXRound
namespace Go.Proofs.YtlfcaigofakkoaaDoor
open Go.RowKit Bt

theorem rput_any (s : XS) (v : Nat) (hs : s.Ok) (hv : v < 18446744073709551616) (hn1 : s.n < 1000000) (w : World) :
    Calls Tryd.prog 19 #[.agg #[.int .u64 (s.last : Nat), .int .i64 (s.n : Nat), .int .i64 (s.ahead : Nat), .int .i64 (s.bits : Nat)], .int .u64 v] w fun e w' =>
      e = .returned (putRes (s.put v)) ∧ Fr (fun _ => False) w w' := by
  by_cases hn : s.n = 0
  · exact rput_first s v hs hv hn w
  · by_cases hd : v ^^^ s.last = 0
    · exact rput_same s v hs hv hn hn1 hd w
    · cases hh : s.holds (v ^^^ s.last) with
      | true => exact rput_held s v hs hv hn hn1 hd hh w
      | false => exact rput_new s v hs hv hn hn1 hd hh w

theorem xputs_out (ao : Option Addr) (len cap : Nat) (w : World) (t : Tab w) (h : 30 < len) :
    Calls Tryd.prog 4 #[.slice ao len cap] w fun e w' => e = .returned (.bool true) ∧ Fr (fun _ => False) w w' := by
  go_enter Tryd.func4, Tryd.ntmps4
  go_wp2_with fail
  refine (awake5_any _ t).mono ?_
  rintro e w1 ⟨rfl, hf⟩
  go_wp2
  go_ret
  exact ⟨rfl, hf⟩

/-- The reference's row as it lies in its variable. -/
abbrev robOf (s : XS) : Obj := rob (s.last : Nat) (s.n : Nat) (s.ahead : Nat) (s.bits : Nat)

set_option maxHeartbeats 1000000 in
set_option maxRecDepth 100000 in
theorem xputs_in (v : Value) (vs : List Nat) (w : World) (t : Tab w) (hl : vs.length ≤ 30) (ho : NatsAt w v vs) :
    Calls Tryd.prog 4 #[v] w fun e w' => e = .returned (.bool true) ∧ Fr (fun _ => False) w w' := by
  have ht := t.pos
  have HO := hid ho
  obtain ⟨ao, cap, rfl⟩ := ho.len
  clear ho
  go_enter Tryd.func4, Tryd.ntmps4
  go_wp2_with fail
  refine (w1_new (w0 := w) (.slice none 0 0) [] 0 (Fr.refl _ _) (by decide) (.inl ⟨rfl, rfl⟩) (by simp) (by decide)).mono ?_
  rintro e w1 ⟨a, r, rfl, h1, hf1⟩
  rw [show (unpack []).take 0 = [] from rfl] at h1
  have H1 := hid (And.intro h1 (t.keep hf1 (fun h => h)))
  clear h1 hf1 t
  go_wp2_with fail
  refine (xw_new H1.out.1 H1.out.2).mono ?_
  rintro e w2 ⟨q, rfl, h2⟩
  obtain ⟨p, hp⟩ : ∃ p, p = w2.heap.size := ⟨_, rfl⟩
  have H2 := hid (h2.newer ((Fr.refl (fun _ => False) w2).alloc (robOf ⟨0, 0, 0, 0⟩)) (Nat.le_of_eq hp.symm) (by rw [hp]; exact heap_alloc_new w2 (robOf ⟨0, 0, 0, 0⟩)))
  clear h2 H1
  go_wp2_with fail
  rw [← hp]
  clear hp
  go_loopw [37, 7] (fun i t wr => ∃ (m : Nat) (r' : Option Nat) (L : List Bool) (s : XS), m ≤ vs.length ∧ i = .int .i64 m ∧ t = .string (txt L) ∧ Hid (s.n = m) ∧ L.length ≤ 77 * m ∧ Hid (XW [(p, robOf s)] w wr a r' L q s)) (fun i _ _ => vs.length - (intOf i).toNat)
  case atStart => exact ⟨0, r, [], ⟨0, 0, 0, 0⟩, by omega, rfl, rfl, hid rfl, by simp, H2⟩
  case round =>
    obtain ⟨m, r', L, s, hm, rfl, rfl, hsn, hL, H⟩ := hrel
    by_cases hlt : m < vs.length
    · obtain ⟨b, off, rfl, c0, hv⟩ := HO.out.cell H.out.fr hlt
      have hn1 : s.n < 1000000 := by have := hsn.out; omega
      generalize vs[m] = u at *
      have HL := hid (put_len s u H.out.ok hv)
      have HM := hid (put_n s u)
      have HA := hid (put_last s u)
      go_wp2_with fail
      refine (xcopy_any _ _ q s H.out.xr).mono ?_
      rintro e w3 ⟨c, rfl, hx3, hf3⟩
      have H3 := hid (H.out.newer hf3 hx3.1 hx3.2)
      clear hx3 hf3 c0
      go_wp2_with fail
      refine (xcost_any _ _ q H3.out.xr H3.out.ok H3.out.tab hv).mono ?_
      rintro e w4 ⟨rfl, hf4⟩
      have H4 := hid (H3.out.still hf4)
      clear hf4
      obtain ⟨⟨y0, y1, y2, y3⟩, -⟩ := cells4 (H4.out.by_ (p, robOf s) (by simp)).1
      go_wp2_with fail
      refine (rput_any s u H4.out.ok hv hn1 _).mono ?_
      rintro e w5 ⟨rfl, hf5⟩
      have h5 := H4.out.still hf5
      have H6 := hid (h5.newer ((Fr.refl (fun _ => False) w5).alloc (robOf (s.put u).1)) (Nat.le_refl _) (heap_alloc_new w5 (robOf (s.put u).1)))
      have hpl : p < w5.heap.size := block_lt (h5.by_ (p, robOf s) (by simp)).1
      have hcl : c < w5.heap.size := block_lt (h5.by_ (c, xob s) (by simp)).1
      clear h5 hf5 y0 y1 y2 y3
      go_wp2_with fail
      refine (xw_put1 u H6.out ht hv (by omega) hn1).mono ?_
      rintro e w6 ⟨rfl, r2, h7⟩
      obtain ⟨nb, hnb⟩ : ∃ nb, nb = w5.heap.size := ⟨_, rfl⟩
      rw [← hnb] at h7 ⊢
      obtain ⟨pr, hpr⟩ : ∃ pr, pr = s.put u := ⟨_, rfl⟩
      rw [← hpr] at h7 HL HM HA ⊢
      obtain ⟨s2, more⟩ := pr
      simp only at h7 HL HM HA ⊢
      obtain ⟨k, hk⟩ : ∃ k, k = more.length := ⟨_, rfl⟩
      have hM1 : (txt more).size = k := by rw [hk, len_txt]
      have hk1 : k ≤ 77 := by rw [hk]; exact HL.out
      rw [← hk]
      have hL1 : (txt L).size ≤ 2310 := by rw [len_txt]; omega
      have hne1 : nb ≠ p := by omega
      have H7 := hid (h7.still (Fr.refl _ _).drew)
      obtain ⟨⟨f0, f1, f2, f3⟩, f4, f5, f6, f7⟩ := cells4 (h7.by_ (p, robOf s) (by simp)).1
      have HK := hid hk
      have H70 := hid h7
      have hxc := H7.out.by_ (c, xob s) (by simp)
      have HC := hid (show Xr w6.drew w.heap.size c s from ⟨hxc.2.1, hxc.1⟩)
      obtain ⟨⟨y0, y1, y2, y3⟩, -⟩ := cells4 (H7.out.by_ (p, robOf s) (by simp)).1
      obtain ⟨⟨z0, z1, z2, z3⟩, -⟩ := cells4 (H7.out.by_ (nb, robOf s2) (by simp)).1
      clear h7 hxc hk H6 H4 H3 H hpr hnb hpl hcl
      go_wp2_with fail
      go_region_held3 (fun w' => w'.cell? ⟨p, 0, none⟩ = some (.int .u64 (s.last : Nat)) ∧ w'.cell? ⟨p, 1, none⟩ = some (.int .i64 (s.n : Nat))) (go_keep)
        (first | (go_at_call 15; refine (xlen_any _ _ c _ HC.out).mono ?_; rintro e w' ⟨rfl, rfl⟩) | (go_at_call 16; refine (xlast_any _ _ c _ HC.out).mono ?_; rintro e w' ⟨rfl, rfl⟩))
      go_wp2_with fail
      have hK1 : ∀ x ∈ [(p, robOf s)], x ∈ [(nb, robOf s2), (c, xob s), (p, robOf s)] := by intro x hx; simp only [List.mem_singleton] at hx; subst hx; simp
      have h8 := (H70.out.fewer hK1).wrote (o' := robOf s2) ht (fun x hx => by cases hx) (set4_fr (p := p) (l := (s2.last : Nat)) (n := (s2.n : Nat)) (a := (s2.ahead : Nat)) (b := (s2.bits : Nat)) (Fr.refl (fun i => i = p) w6) (fun _ => rfl)) (set4_block ((H70.out.by_ (p, robOf s) (by simp)).1))
      have H8 := hid (h8.still (Fr.refl _ _).drew)
      clear h8 hK1 H7 H70 HC y0 y1 y2 y3 z0 z1 z2 z3 f0 f1 f2 f3 f4 f5 f6 f7 hne1
      refine (xwindow_any _ _ q _ H8.out.xr).mono ?_
      rintro e w8 ⟨rfl, hf8⟩
      have h9 := H8.out.still hf8
      obtain ⟨⟨f0, f1, f2, f3⟩, -⟩ := cells4 (h9.by_ (p, robOf s2) (by simp)).1
      have H9 := hid (h9.still (Fr.refl _ _).drew)
      obtain ⟨⟨y0, y1, y2, y3⟩, -⟩ := cells4 (H9.out.by_ (p, robOf s2) (by simp)).1
      have hu := HA.out
      subst hu
      clear hf8 h9 H8
      go_wp2_with fail
      go_region_held3 (fun w' => w'.cell? ⟨p, 1, none⟩ = some (.int .i64 (s2.n : Nat)) ∧ w'.cell? ⟨p, 2, none⟩ = some (.int .i64 (s2.ahead : Nat)) ∧ w'.cell? ⟨p, 3, none⟩ = some (.int .i64 (s2.bits : Nat))) (go_keep)
        (first | (go_at_call 15; refine (xlen_any _ _ q _ H9.out.xr).mono ?_; rintro e w' ⟨rfl, rfl⟩) | (go_at_call 16; refine (xlast_any _ _ q _ H9.out.xr).mono ?_; rintro e w' ⟨rfl, rfl⟩))
      clear y0 y1 y2 y3 f0 f1 f2 f3
      go_wp2
      go_roundw
      case rel => exact ⟨m + 1, r2, L ++ more, s2, by omega, by go_num, by rw [txt_append], hid (by rw [HM.out, hsn.out]), by have := HL.out; rw [List.length_append]; omega, H9⟩
      case measure => simp [intOf]; omega
    · obtain rfl : m = vs.length := by omega
      have hL2 : L.length ≤ 2310 := by omega
      have hL3 : (txt L).size ≤ 2310 := by rw [len_txt]; omega
      go_wp2_with fail
      refine (bits_any _ _ a _ L H.out.w1 (by omega)).mono ?_
      rintro e w4 ⟨rfl, hf4⟩
      have H4 := hid (H.out.still hf4)
      clear hf4
      go_wp2_with fail
      refine (awake5_any _ H4.out.tab).mono ?_
      rintro e w5 ⟨rfl, hf⟩
      go_wp2
      go_ret
      exact ⟨rfl, H4.out.fr.trans hf (fun _ h _ => h)⟩
end Go.Proofs.YtlfcaigofakkoaaDoor
