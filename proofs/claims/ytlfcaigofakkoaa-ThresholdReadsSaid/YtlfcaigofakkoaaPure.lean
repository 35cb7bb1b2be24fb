/- The walks of the functions that only reckon: the reference's texts of bits (Number, Value, Text, Bytes), sizes. -/
import Derived.Test.YtlfcaigofakkoaaRows
import Derived.Test.YtlfcaigofakkoaaMem
import Derived.WalkSpells
import Derived.WalkLawsBesides

namespace Go.Proofs.Ytlfcaigofakkoaa
open Go.RowKit Bt

theorem ret_str {a b : ByteArray} (h : a = b) : Ending.returned (.string a) = .returned (.string b) := by rw [h]
theorem ret_nat {k : IntKind} {a b : Nat} (h : a = b) : Ending.returned (.int k a) = .returned (.int k b) := by rw [h]

theorem num_one {r k v : Nat} (hr : r = v / 2 ^ k) (h : r % 2 = 1) : v.testBit k = true := by
  rw [Nat.testBit_eq_decide_div_mod_eq, ← hr]; simp [h]
theorem num_nought {r k v : Nat} (hr : r = v / 2 ^ k) (h : r % 2 = 0) : v.testBit k = false := by
  rw [Nat.testBit_eq_decide_div_mod_eq, ← hr]; simp [h]

theorem num_step {r k v : Nat} {t : ByteArray} {c : UInt8} (b : Bool) (hr : r = v / 2 ^ k) (ht : t = txt (bitsOf v k)) (hb : r % 2 = b.toNat) (hc : c = if b then 49 else 48) :
    r / 2 = v / 2 ^ (k + 1) ∧ (⟨#[c]⟩ : ByteArray) ++ t = txt (bitsOf v (k + 1)) := by
  refine ⟨by rw [hr, Nat.div_div_eq_div_mul, Nat.pow_succ], ?_⟩
  have hbit : v.testBit k = b := by
    cases b
    · exact num_nought hr hb
    · exact num_one hr hb
  subst hc
  rw [bitsOf, hbit, ht, show b :: bitsOf v k = [b] ++ bitsOf v k from rfl, txt_append]
  rfl

set_option maxHeartbeats 400000 in
theorem number_any (v n : Nat) (hv : v < 18446744073709551616) (hn : n ≤ 64) (w : World) :
    Calls Try.prog 20 #[.int .u64 v, .int .i64 n] w fun e w' => e = .returned (.string (txt (bitsOf v n))) ∧ w = w' := by
  go_enter Try.func20, Try.ntmps20
  go_wp2
  go_loop [0, 5, 6] (fun x o i => ∃ (k r : Nat) (t : ByteArray), k ≤ n ∧ i = .int .i64 k ∧ x = .int .u64 r ∧ r < 18446744073709551616 ∧ o = .string t ∧ t.size ≤ 64 ∧ Hid (r = v / 2 ^ k ∧ t = txt (bitsOf v k))) (fun _ _ i => n - (intOf i).toNat)
  case atStart => exact ⟨0, v, _, Nat.zero_le _, rfl, rfl, hv, rfl, by decide, hid ⟨by simp, rfl⟩⟩
  case round =>
    obtain ⟨k, r, t, hk, rfl, rfl, hr, rfl, ht, H⟩ := hrel
    by_cases hlt : k < n
    · rcases Nat.mod_two_eq_zero_or_one r with h2 | h2
      · go_wp2
        have S := num_step (c := 48) false H.out.1 H.out.2 h2 rfl
        go_round
        case rel => exact ⟨k + 1, r / 2, _, by omega, by go_num, by go_num, by omega, rfl, by rw [S.2, len_txt, len_bitsOf]; omega, hid S⟩
        case measure => simp [intOf]; omega
      · go_wp2
        have S := num_step (c := 49) true H.out.1 H.out.2 h2 rfl
        go_round
        case rel => exact ⟨k + 1, r / 2, _, by omega, by go_num, by go_num, by omega, rfl, by rw [S.2, len_txt, len_bitsOf]; omega, hid S⟩
        case measure => simp [intOf]; omega
    · go_wp2
      go_ret
      obtain rfl : k = n := by omega
      exact ⟨ret_str H.out.2, rfl⟩

theorem byte_txt {s : ByteArray} {l : List Bool} (hs : s = txt l) (k : Nat) (hk : k < s.size) (hk' : k < l.length) : s[k] = if l[k] then (49 : UInt8) else 48 := by
  subst hs
  simp [txt, ByteArray.getElem_eq_getElem_data]

theorem val_step {s : ByteArray} {l : List Bool} {r k : Nat} (hs : s = txt l) (hr : r = bval (l.take k)) {hk : k < s.size} (hk' : k < l.length) (b : Bool) (hb : b = true ∧ s[k].toNat = 49 ∨ b = false ∧ s[k].toNat ≠ 49) :
    2 * r + b.toNat = bval (l.take (k + 1)) := by
  have h := byte_txt hs k hk hk'
  have hlb : l[k] = b := by
    rcases hb with ⟨rfl, hb⟩ | ⟨rfl, hb⟩
    · cases hl : l[k] with
      | true => rfl
      | false => rw [hl] at h; rw [h] at hb; exact absurd hb (by decide)
    · cases hl : l[k] with
      | false => rfl
      | true => rw [hl] at h; rw [h] at hb; exact absurd rfl hb
  rw [List.take_succ_eq_append_getElem hk', bval_snoc, hlb, hr]

set_option maxHeartbeats 400000 in
theorem value_any (l : List Bool) (hl : l.length ≤ 64) (w : World) :
    Calls Try.prog 22 #[.string (txt l)] w fun e w' => e = .returned (.int .u64 (bval l : Nat)) ∧ w = w' := by
  obtain ⟨s, hs⟩ : ∃ s, s = txt l := ⟨_, rfl⟩
  have hz : s.size = l.length := by rw [hs, len_txt]
  have hz1 : s.size ≤ 64 := by omega
  rw [← hs]
  have HS := hid hs
  have HZ := hid hz
  clear hs hz
  go_enter Try.func22, Try.ntmps22
  go_wp2
  go_loop [3, 4] (fun x i => ∃ k r : Nat, k ≤ s.size ∧ i = .int .i64 k ∧ x = .int .u64 r ∧ r < 2 ^ k ∧ Hid (r = bval (l.take k))) (fun _ i => s.size - (intOf i).toNat)
  case atStart => exact ⟨0, 0, Nat.zero_le _, rfl, rfl, by omega, hid rfl⟩
  case round =>
    obtain ⟨k, r, hk, rfl, rfl, hr, H⟩ := hrel
    by_cases hlt : k < s.size
    · have hp : 2 ^ k ≤ 2 ^ 63 := Nat.pow_le_pow_right (by omega) (by omega)
      have hr2 : r < 9223372036854775808 := by omega
      clear hp
      go_wp2
      · have hb : (s[k].toNat : Int) = 49 := by simpa using ‹((s[k].toNat : Int) == 49) = true›
        have S := val_step HS.out H.out (by have := HZ.out; omega) true (.inl ⟨rfl, by omega⟩)
        go_round
        case rel => exact ⟨k + 1, 2 * r + 1, by omega, by go_num, by go_num, by rw [Nat.pow_succ]; omega, hid S⟩
        case measure => simp [intOf]; omega
      · have hb : ¬ (s[k].toNat : Int) = 49 := by simpa using ‹((s[k].toNat : Int) == 49) = false›
        have S := val_step HS.out H.out (by have := HZ.out; omega) false (.inr ⟨rfl, by omega⟩)
        go_round
        case rel => exact ⟨k + 1, 2 * r, by omega, by go_num, by go_num, by rw [Nat.pow_succ]; omega, hid S⟩
        case measure => simp [intOf]; omega
    · go_wp2
      go_ret
      obtain rfl : k = s.size := by omega
      exact ⟨ret_nat (by rw [H.out, HZ.out, List.take_length]), rfl⟩

theorem byte_getD {bs : List Nat} (hb : ∀ b ∈ bs, b < 256) (i : Nat) : bs.getD i 0 < 256 := by
  rw [List.getD_eq_getElem?_getD]
  by_cases h : i < bs.length
  · rw [List.getElem?_eq_getElem h]; exact hb _ (List.getElem_mem _)
  · rw [List.getElem?_eq_none (by omega)]; decide

theorem and_one_pow (b j : Nat) (h : b < 256) : bits BinOp.and IntKind.u8 ((b : Int) / 2 ^ j) 1 = ((b.testBit j).toNat : Nat) := by
  have e : ((b : Int) / 2 ^ j) = ((b / 2 ^ j : Nat) : Int) := by rw [Int.natCast_ediv, Int.natCast_pow]; rfl
  rw [e, show (1 : Int) = ((1 : Nat) : Int) from rfl, u8_and_nat _ _ (Nat.lt_of_le_of_lt (Nat.div_le_self _ _) h) (by decide), nat_mask1, testBit_toNat]

theorem byte_str {s : ByteArray} {bs : List Nat} (hs : s = str bs) (hb : ∀ b ∈ bs, b < 256) (i : Nat) (hi : i < s.size) : s[i].toNat = bs.getD i 0 := by
  subst hs
  have h' : i < bs.length := by rw [len_str] at hi; exact hi
  have e : (str bs)[i] = UInt8.ofNat bs[i] := by simp [str, ByteArray.getElem_eq_getElem_data]
  rw [e, List.getD_eq_getElem?_getD, List.getElem?_eq_getElem h']
  simp only [Option.getD_some, UInt8.toNat_ofNat']
  exact Nat.mod_eq_of_lt (hb _ (List.getElem_mem _))

theorem text_step {s : ByteArray} {bs : List Nat} {t : ByteArray} {k : Nat} (hs : s = str bs) (hb : ∀ b ∈ bs, b < 256) (ht : t = txt ((unpack bs).take k)) (hk : k < 8 * bs.length) (b : Bool) {hi : k / 8 < s.size}
    (h : decide (bits BinOp.and IntKind.u8 ((s[k / 8].toNat : Int) / 2 ^ (7 - k % 8)) 1 = 1) = b) : t ++ ⟨#[if b then 49 else 48]⟩ = txt ((unpack bs).take (k + 1)) := by
  rw [byte_str hs hb _ hi, and_one_pow _ _ (by exact byte_getD hb _)] at h
  have hl : (unpack bs).length = 8 * bs.length := len_unpack bs
  rw [List.take_succ_eq_append_getElem (by omega), txt_append, ht]
  congr 1
  have e : (unpack bs)[k]'(by omega) = b := by
    have := unpack_getElem? bs k hk
    rw [List.getElem?_eq_getElem (by omega)] at this
    rw [Option.some.inj this, ← h]
    generalize (bs.getD (k / 8) 0).testBit (7 - k % 8) = x
    cases x <;> rfl
  rw [e]
  cases b <;> rfl

set_option maxHeartbeats 400000 in
theorem text_any (bs : List Nat) (hb : ∀ b ∈ bs, b < 256) (n : Nat) (hn : n ≤ 8 * bs.length) (hl : bs.length ≤ 1000000) (w : World) :
    Calls Try.prog 28 #[.string (str bs), .int .i64 n] w fun e w' => e = .returned (.string (txt ((unpack bs).take n))) ∧ w = w' := by
  obtain ⟨s, hs⟩ : ∃ s, s = str bs := ⟨_, rfl⟩
  have hz : s.size = bs.length := by rw [hs, len_str]
  have hz1 : n ≤ 8 * s.size := by omega
  have hz2 : s.size ≤ 1000000 := by omega
  rw [← hs]
  have HS := hid hs
  have HZ := hid hz
  clear hs hz
  go_enter Try.func28, Try.ntmps28
  go_wp2
  go_loop [5, 6] (fun o i => ∃ (k : Nat) (t : ByteArray), k ≤ n ∧ i = .int .i64 k ∧ o = .string t ∧ t.size ≤ k ∧ Hid (t = txt ((unpack bs).take k))) (fun _ i => n - (intOf i).toNat)
  case atStart => exact ⟨0, _, Nat.zero_le _, rfl, rfl, by decide, hid rfl⟩
  case round =>
    obtain ⟨k, t, hk, rfl, rfl, ht, H⟩ := hrel
    by_cases hlt : k < n
    · go_wp2
      · have S := text_step HS.out hb H.out (by have := HZ.out; omega) true (hi := by omega) (by have := ‹(bits BinOp.and IntKind.u8 ((s[k / 8]'(by omega)).toNat / 2 ^ (7 - k % 8)) 1 == 1) = true›; simpa using this)
        go_round
        case rel => exact ⟨k + 1, _, by omega, by go_num, rfl, by rw [ByteArray.size_append]; exact Nat.add_le_add ht (Nat.le_refl _), hid S⟩
        case measure => simp [intOf]; omega
      · have S := text_step HS.out hb H.out (by have := HZ.out; omega) false (hi := by omega) (by have := ‹(bits BinOp.and IntKind.u8 ((s[k / 8]'(by omega)).toNat / 2 ^ (7 - k % 8)) 1 == 1) = false›; simpa using this)
        go_round
        case rel => exact ⟨k + 1, _, by omega, by go_num, rfl, by rw [ByteArray.size_append]; exact Nat.add_le_add ht (Nat.le_refl _), hid S⟩
        case measure => simp [intOf]; omega
    · go_wp2
      go_ret
      obtain rfl : k = n := by omega
      exact ⟨ret_str H.out, rfl⟩
theorem bval_eight (f : Nat → Bool) : bval ((List.range 8).map f) = mk8 f := by
  simp only [bval, mk8, List.range, List.range.loop, List.map_cons, List.map_nil, List.foldl_cons, List.foldl_nil]
  omega

theorem bval_part (f : Nat → Bool) (k : Nat) : bval ((List.range (k + 1)).map f) = 2 * bval ((List.range k).map f) + (f k).toNat := by
  rw [List.range_succ, List.map_append, List.map_singleton, bval_snoc]

theorem bval_part_lt (f : Nat → Bool) (k : Nat) : bval ((List.range k).map f) < 2 ^ k := by
  have := bval_lt ((List.range k).map f)
  simpa using this

theorem bit_txt {s : ByteArray} {l : List Bool} (hs : s = txt l) (i : Nat) {hi : i < s.size} (b : Bool) (h : decide (s[i].toNat = 49) = b) : l.getD i false = b := by
  have h' : i < l.length := by rw [hs, len_txt] at hi; exact hi
  rw [byte_txt hs i hi h'] at h
  rw [List.getD_eq_getElem?_getD, List.getElem?_eq_getElem h', ← h]
  generalize l[i] = x
  cases x <;> rfl

theorem no_bit_txt {s : ByteArray} {l : List Bool} (hs : s = txt l) (i : Nat) (hi : s.size ≤ i) : l.getD i false = false := by
  rw [hs, len_txt] at hi
  rw [List.getD_eq_getElem?_getD, List.getElem?_eq_none hi]; rfl

theorem bytes_step {l : List Bool} {k m r : Nat} (h : r = bval ((List.range m).map fun i => l.getD (8 * k + i) false)) {b : Bool} (hb : l.getD (8 * k + m) false = b) :
    2 * r + b.toNat = bval ((List.range (m + 1)).map fun i => l.getD (8 * k + i) false) := by
  rw [bval_part, ← h, hb]

theorem bytes_next {l : List Bool} {k r : Nat} {t : ByteArray} (ht : t = str ((List.range k).map (byteAt l))) (h : r = bval ((List.range 8).map fun i => l.getD (8 * k + i) false)) :
    t ++ str [r] = str ((List.range (k + 1)).map (byteAt l)) := by
  rw [List.range_succ, List.map_append, str_append, ht, h, bval_eight]
  rfl

theorem conv_one (w : World) (r : Nat) :
    Sem.run Try.prog (convert 35 9 (.slice (some ⟨w.heap.size, 0, none⟩) 1 1)) (w.alloc (.cells #[.int .u8 r] 5)) = .ok (.string (str [r])) (w.alloc (.cells #[.int .u8 r] 5)) := by
  refine run_conv _ _ [r] (.inr ⟨⟨w.heap.size, 0, none⟩, 1, rfl, Nat.le_refl 1, by decide, ?_⟩)
  intro j u hu
  match j, hu with
  | 0, hu => simp [byteVs] at hu; subst hu; simp [Addr.add]
  | j + 1, hu => simp [byteVs] at hu

set_option maxHeartbeats 1000000 in
theorem bytes_any (l : List Bool) (hl : l.length ≤ 1000000) (w : World) :
    Calls Try.prog 30 #[.string (txt l)] w fun e w' => e = .returned (.string (str (pack l))) ∧ Fr (fun _ => False) w w' := by
  obtain ⟨s, hs⟩ : ∃ s, s = txt l := ⟨_, rfl⟩
  have hz : s.size = l.length := by rw [hs, len_txt]
  have hz1 : s.size ≤ 1000000 := by omega
  rw [← hs]
  have HS := hid hs
  have HZ := hid hz
  clear hs hz
  go_enter Try.func30, Try.ntmps30
  go_wp2
  go_loopw [3, 4] (fun o i wr => ∃ (k : Nat) (t : ByteArray), k ≤ 125000 ∧ 8 * k ≤ s.size + 7 ∧ i = .int .i64 (8 * (k : Int)) ∧ o = .string t ∧ t.size ≤ k ∧ Hid (t = str ((List.range k).map (byteAt l))) ∧ Fr (fun _ => False) w wr) (fun _ i _ => s.size - (intOf i).toNat)
  case atStart => exact ⟨0, _, by omega, by omega, by go_num, rfl, by decide, hid rfl, Fr.refl _ _⟩
  case round =>
    obtain ⟨k, t, hk, hks, rfl, rfl, ht, H, hf⟩ := hrel
    by_cases hlt : 8 * k < s.size
    · have hlt' : (8 * (k : Int)) < (s.size : Int) := by omega
      go_wp2
      go_loop [5, 6] (fun c j => ∃ (m r : Nat), m ≤ 8 ∧ j = .int .i64 m ∧ c = .int .u8 r ∧ r < 2 ^ m ∧ Hid (r = bval ((List.range m).map fun i => l.getD (8 * k + i) false))) (fun _ j => 8 - (intOf j).toNat)
      case atStart => exact ⟨0, 0, by omega, rfl, rfl, by decide, hid rfl⟩
      case round =>
        obtain ⟨m, r, hm, rfl, rfl, hr, G⟩ := hrel
        by_cases hm8 : m < 8
        · have hp : 2 ^ m ≤ 2 ^ 7 := Nat.pow_le_pow_right (by omega) (by omega)
          have hr2 : r < 128 := by omega
          clear hp
          by_cases hin : 8 * k + m < s.size
          · go_wp2
            · have S := bytes_step G.out (b := true) (bit_txt HS.out (8 * k + m) (hi := hin) true (by have := ‹(((s[8 * k + m]'hin).toNat : Int) == 49) = true›; rw [beq_iff_eq] at this; exact decide_eq_true (by omega)))
              go_round
              case rel => exact ⟨m + 1, 2 * r + 1, by omega, by go_num, by go_num, by rw [Nat.pow_succ]; omega, hid S⟩
              case measure => simp [intOf]; omega
            · have S := bytes_step G.out (b := false) (bit_txt HS.out (8 * k + m) (hi := hin) false (by have := ‹(((s[8 * k + m]'hin).toNat : Int) == 49) = false›; rw [beq_eq_false_iff_ne] at this; exact decide_eq_false (by omega)))
              go_round
              case rel => exact ⟨m + 1, 2 * r, by omega, by go_num, by go_num, by rw [Nat.pow_succ]; omega, hid S⟩
              case measure => simp [intOf]; omega
          · go_wp2
            have S := bytes_step G.out (b := false) (no_bit_txt HS.out (8 * k + m) (by omega))
            go_round
            case rel => exact ⟨m + 1, 2 * r, by omega, by go_num, by go_num, by rw [Nat.pow_succ]; omega, hid S⟩
            case measure => simp [intOf]; omega
        · obtain rfl : m = 8 := by omega
          have hc := conv_one wr r
          have hs1 : (str [r]).size ≤ 1 := by rw [len_str]; exact Nat.le_refl 1
          go_wp2
          go_roundw
          case rel => exact ⟨k + 1, _, by omega, by omega, by go_num, rfl, by rw [ByteArray.size_append, len_str]; exact Nat.add_le_add ht (Nat.le_refl 1), hid (bytes_next H.out G.out), hf.alloc _⟩
          case measure => simp [intOf]; omega
    · go_wp2
      go_ret
      exact ⟨ret_str (by rw [H.out]; unfold pack; rw [show (l.length + 7) / 8 = k by have := HZ.out; omega]), hf⟩

theorem ret_int {k : IntKind} {a b : Int} (h : a = b) : Ending.returned (.int k a) = .returned (.int k b) := by rw [h]

theorem size_any (n : Int) (h0 : 0 ≤ n) (h : n ≤ 100000000) (w : World) :
    Calls Try.prog 59 #[.int .i64 n] w fun e w' => e = .returned (.int .i64 ((n + 7) / 8)) ∧ w = w' := by
  go_enter Try.func59, Try.ntmps59
  go_wp2
  go_ret
  exact ⟨ret_int (by omega), rfl⟩

set_option maxHeartbeats 400000 in
theorem right_any (n : Int) (ao : Option Addr) (len cap : Nat) (hl : len ≤ 1000000) (w : World) :
    Calls Try.prog 53 #[.slice ao len cap, .int .i64 n] w fun e w' => e = .returned (.bool (decide (0 ≤ n ∧ n ≤ 8 * len))) ∧ w = w' := by
  by_cases h0 : 0 ≤ n
  · by_cases h1 : n ≤ 8 * len
    · have h2 : decide (n ≤ 8 * len) = true := by simpa using h1
      have e : decide (0 ≤ n ∧ n ≤ 8 * len) = true := by simp [h0, h1]
      rw [e]; clear e
      go_enter Try.func53, Try.ntmps53
      go_wp2
      go_ret
      exact ⟨rfl, rfl⟩
    · have h2 : decide (n ≤ 8 * len) = false := by simpa using h1
      have e : decide (0 ≤ n ∧ n ≤ 8 * len) = false := by simp [h1]
      rw [e]; clear e
      go_enter Try.func53, Try.ntmps53
      go_wp2
      go_ret
      exact ⟨rfl, rfl⟩
  · have e : decide (0 ≤ n ∧ n ≤ 8 * len) = false := by simp [h0]
    rw [e]; clear e
    go_enter Try.func53, Try.ntmps53
    go_wp2
    go_ret
    exact ⟨rfl, rfl⟩
end Go.Proofs.Ytlfcaigofakkoaa
