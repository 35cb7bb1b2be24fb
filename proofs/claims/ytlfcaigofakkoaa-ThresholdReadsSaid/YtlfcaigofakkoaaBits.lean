/- Plain facts on bits in bytes: a list of bits, its bytes, its number, its text of 0 and 1. No program here. -/
import Derived.Below
namespace Go.Proofs.Ytlfcaigofakkoaa
namespace Bt
theorem hid {p : Prop} (h : p) : RowKit.Hid p := h

/-- The lowest n bits of a number, the highest one first. -/
def bitsOf (v : Nat) : Nat → List Bool
  | 0 => []
  | n + 1 => v.testBit n :: bitsOf v n

/-- Bits as a number, the first one highest. -/
def bval (l : List Bool) : Nat := l.foldl (fun v b => 2 * v + b.toNat) 0

/-- Bits as a text of 0 and 1. -/
def txt (l : List Bool) : ByteArray := ⟨(l.map fun b => if b then (49 : UInt8) else 48).toArray⟩

/-- Bytes as a string. -/
def str (bs : List Nat) : ByteArray := ⟨(bs.map UInt8.ofNat).toArray⟩

/-- Eight bits as a byte. -/
def mk8 (f : Nat → Bool) : Nat :=
  128 * (f 0).toNat + 64 * (f 1).toNat + 32 * (f 2).toNat + 16 * (f 3).toNat + 8 * (f 4).toNat + 4 * (f 5).toNat + 2 * (f 6).toNat + (f 7).toNat

def byteAt (l : List Bool) (i : Nat) : Nat := mk8 fun k => l.getD (8 * i + k) false

/-- Bits as bytes, noughts behind. -/
def pack (l : List Bool) : List Nat := (List.range ((l.length + 7) / 8)).map (byteAt l)

/-- The bits of bytes. -/
def unpack (bs : List Nat) : List Bool := (List.range (8 * bs.length)).map fun i => (bs.getD (i / 8) 0).testBit (7 - i % 8)

theorem toNat_le (b : Bool) : b.toNat ≤ 1 := by cases b <;> decide

theorem mk8_lt (f : Nat → Bool) : mk8 f < 256 := by
  have h0 := toNat_le (f 0); have h1 := toNat_le (f 1); have h2 := toNat_le (f 2); have h3 := toNat_le (f 3)
  have h4 := toNat_le (f 4); have h5 := toNat_le (f 5); have h6 := toNat_le (f 6); have h7 := toNat_le (f 7)
  unfold mk8; omega

theorem byteAt_lt (l : List Bool) (i : Nat) : byteAt l i < 256 := mk8_lt _

theorem lt8 {k : Nat} (h : k < 8) : k = 0 ∨ k = 1 ∨ k = 2 ∨ k = 3 ∨ k = 4 ∨ k = 5 ∨ k = 6 ∨ k = 7 := by omega


theorem mk8_testBit (f : Nat → Bool) {k : Nat} (h : k < 8) : (mk8 f).testBit (7 - k) = f k := by
  unfold mk8
  rcases lt8 h with rfl | rfl | rfl | rfl | rfl | rfl | rfl | rfl <;>
  · generalize f 0 = b0, f 1 = b1, f 2 = b2, f 3 = b3, f 4 = b4, f 5 = b5, f 6 = b6, f 7 = b7
    revert b0 b1 b2 b3 b4 b5 b6 b7
    decide

theorem mk8_congr {f g : Nat → Bool} (h : ∀ k, k < 8 → f k = g k) : mk8 f = mk8 g := by
  unfold mk8
  rw [h 0 (by omega), h 1 (by omega), h 2 (by omega), h 3 (by omega), h 4 (by omega), h 5 (by omega), h 6 (by omega), h 7 (by omega)]

/-- One more bit: it is put in by 'or'. -/
theorem mk8_or (f g : Nat → Bool) {k : Nat} (h : k < 8) (hg : g k = true) (hf : f k = false) (ho : ∀ j, j < 8 → j ≠ k → g j = f j) : mk8 f ||| 2 ^ (7 - k) = mk8 g := by
  unfold mk8
  rcases lt8 h with rfl | rfl | rfl | rfl | rfl | rfl | rfl | rfl <;>
  · (try rw [ho 0 (by omega) (by omega)]); (try rw [ho 1 (by omega) (by omega)]); (try rw [ho 2 (by omega) (by omega)]); (try rw [ho 3 (by omega) (by omega)])
    (try rw [ho 4 (by omega) (by omega)]); (try rw [ho 5 (by omega) (by omega)]); (try rw [ho 6 (by omega) (by omega)]); (try rw [ho 7 (by omega) (by omega)])
    rw [hf, hg]
    clear ho hf hg
    generalize f 0 = b0, f 1 = b1, f 2 = b2, f 3 = b3, f 4 = b4, f 5 = b5, f 6 = b6, f 7 = b7
    revert b0 b1 b2 b3 b4 b5 b6 b7
    decide

/-- The first k of eight bits of a byte: it is masked. -/
theorem mk8_and (f g : Nat → Bool) {k : Nat} (h : k < 8) (hg : ∀ j, j < 8 → g j = if j < k then f j else false) : mk8 f &&& (255 * 2 ^ (8 - k) % 256) = mk8 g := by
  unfold mk8
  rw [hg 0 (by omega), hg 1 (by omega), hg 2 (by omega), hg 3 (by omega), hg 4 (by omega), hg 5 (by omega), hg 6 (by omega), hg 7 (by omega)]
  clear hg
  generalize f 0 = b0, f 1 = b1, f 2 = b2, f 3 = b3, f 4 = b4, f 5 = b5, f 6 = b6, f 7 = b7
  rcases lt8 h with rfl | rfl | rfl | rfl | rfl | rfl | rfl | rfl <;> (revert b0 b1 b2 b3 b4 b5 b6 b7; decide)

set_option maxRecDepth 20000 in
/-- A byte is its own eight bits. -/
theorem mk8_bits (b : Nat) (h : b < 256) : mk8 (fun k => b.testBit (7 - k)) = b := by
  unfold mk8
  revert b
  decide

theorem len_bitsOf (v n : Nat) : (bitsOf v n).length = n := by
  induction n with
  | zero => rfl
  | succ n ih => simp [bitsOf, ih]

theorem len_pack (l : List Bool) : (pack l).length = (l.length + 7) / 8 := by simp [pack]
theorem len_unpack (bs : List Nat) : (unpack bs).length = 8 * bs.length := by simp [unpack]

theorem pack_lt (l : List Bool) : ∀ b ∈ pack l, b < 256 := by
  intro b hb
  simp only [pack, List.mem_map] at hb
  obtain ⟨i, _, rfl⟩ := hb
  exact byteAt_lt l i

theorem getD_pack (l : List Bool) (i : Nat) : (pack l).getD i 0 = byteAt l i := by
  unfold pack
  by_cases h : i < (l.length + 7) / 8
  · simp [List.getD_eq_getElem?_getD, h]
  · rw [List.getD_eq_getElem?_getD, List.getElem?_eq_none (by simp; omega)]
    unfold byteAt
    rw [mk8_congr (g := fun _ => false) (fun k hk => by rw [List.getD_eq_getElem?_getD, List.getElem?_eq_none (by omega)]; rfl)]
    rfl

theorem pack_getElem? (l : List Bool) (i : Nat) (h : i < (l.length + 7) / 8) : (pack l)[i]? = some (byteAt l i) := by
  simp [pack, h]

theorem getD_unpack (bs : List Nat) (i : Nat) (h : i < 8 * bs.length) : (unpack bs).getD i false = (bs.getD (i / 8) 0).testBit (7 - i % 8) := by
  simp [unpack, List.getD_eq_getElem?_getD, h]

theorem unpack_getElem? (bs : List Nat) (i : Nat) (h : i < 8 * bs.length) : (unpack bs)[i]? = some ((bs.getD (i / 8) 0).testBit (7 - i % 8)) := by
  simp [unpack, h]

/-- Bit i of l lies in its bytes. -/
theorem bit_pack (l : List Bool) (i : Nat) : (byteAt l (i / 8)).testBit (7 - i % 8) = l.getD i false := by
  unfold byteAt
  rw [mk8_testBit _ (Nat.mod_lt _ (by omega)), Nat.div_add_mod]

theorem take_unpack_pack (l : List Bool) : (unpack (pack l)).take l.length = l := by
  apply List.ext_getElem?
  intro i
  rw [List.getElem?_take]
  by_cases h : i < l.length
  · rw [if_pos h, unpack_getElem? _ _ (by rw [len_pack]; omega), getD_pack, bit_pack, List.getD_eq_getElem?_getD, List.getElem?_eq_getElem h]; rfl
  · rw [if_neg h, List.getElem?_eq_none (by omega)]

/-- The bytes of the first n bits of bytes that are whole. -/
theorem pack_take (bs : List Nat) (hb : ∀ b ∈ bs, b < 256) (n : Nat) (h : n ≤ 8 * bs.length) (hn : n % 8 = 0) : pack ((unpack bs).take n) = bs.take ((n + 7) / 8) := by
  apply List.ext_getElem?
  intro i
  rw [List.getElem?_take]
  have hl : ((unpack bs).take n).length = n := by rw [List.length_take, len_unpack]; omega
  by_cases hi : i < (n + 7) / 8
  · rw [if_pos hi, pack_getElem? _ _ (by rw [hl]; exact hi), List.getElem?_eq_getElem (by omega)]
    congr 1
    unfold byteAt
    rw [mk8_congr (g := fun k => (bs[i]'(by omega)).testBit (7 - k))]
    · exact mk8_bits _ (hb _ (List.getElem_mem _))
    · intro k hk
      rw [List.getD_eq_getElem?_getD, List.getElem?_take, if_pos (by omega), unpack_getElem? _ _ (by omega), show (8 * i + k) / 8 = i by omega, show (8 * i + k) % 8 = k by omega,
        List.getD_eq_getElem?_getD, List.getElem?_eq_getElem (by omega)]
      rfl
  · rw [if_neg hi, List.getElem?_eq_none (by rw [len_pack, hl]; omega)]

/-- The bytes of the first n bits of bytes, where the last one is cut. -/
theorem pack_take_cut (bs : List Nat) (hb : ∀ b ∈ bs, b < 256) (n : Nat) (h : n ≤ 8 * bs.length) (hn : 0 < n % 8) :
    pack ((unpack bs).take n) = (bs.take ((n + 7) / 8)).set ((n + 7) / 8 - 1) (bs.getD ((n + 7) / 8 - 1) 0 &&& (255 * 2 ^ (8 - n % 8) % 256)) := by
  apply List.ext_getElem?
  intro i
  have hl : ((unpack bs).take n).length = n := by rw [List.length_take, len_unpack]; omega
  have hL : (bs.take ((n + 7) / 8)).length = (n + 7) / 8 := by rw [List.length_take]; omega
  rw [List.getElem?_set]
  by_cases hi : i < (n + 7) / 8
  · rw [pack_getElem? _ _ (by rw [hl]; exact hi)]
    have hget : ∀ k, k < 8 → ((unpack bs).take n).getD (8 * i + k) false = if 8 * i + k < n then (bs[i]'(by omega)).testBit (7 - k) else false := by
      intro k hk
      rw [List.getD_eq_getElem?_getD, List.getElem?_take]
      split
      · rw [unpack_getElem? _ _ (by omega), show (8 * i + k) / 8 = i by omega, show (8 * i + k) % 8 = k by omega,
          List.getD_eq_getElem?_getD, List.getElem?_eq_getElem (by omega)]
        rfl
      · rfl
    have hbi : (bs[i]'(by omega)) < 256 := hb _ (List.getElem_mem _)
    by_cases hlast : (n + 7) / 8 - 1 = i
    · rw [if_pos hlast, if_pos (by omega)]
      congr 1
      rw [hlast, List.getD_eq_getElem?_getD, List.getElem?_eq_getElem (by omega), Option.getD_some]
      conv => rhs; rw [← mk8_bits _ hbi]
      refine (mk8_and _ _ (Nat.mod_lt _ (by omega)) ?_).symm
      intro j hj
      rw [hget j hj]
      by_cases hjn : j < n % 8
      · rw [if_pos hjn, if_pos (by omega)]
      · rw [if_neg hjn, if_neg (by omega)]
    · rw [if_neg hlast, List.getElem?_take, if_pos hi, List.getElem?_eq_getElem (by omega)]
      congr 1
      refine Eq.trans (mk8_congr (g := fun k => (bs[i]'(by omega)).testBit (7 - k)) ?_) (mk8_bits _ hbi)
      intro k hk
      rw [hget k hk, if_pos (by omega)]
  · rw [List.getElem?_eq_none (by rw [len_pack, hl]; omega), if_neg (by omega), List.getElem?_eq_none (by rw [hL]; omega)]

/-- One bit more, at a byte's begin. -/
theorem pack_snoc_new (l : List Bool) (b : Bool) (h : l.length % 8 = 0) : pack (l ++ [b]) = pack l ++ [b.toNat * 128] := by
  unfold pack
  rw [List.length_append, List.length_singleton, show (l.length + 1 + 7) / 8 = (l.length + 7) / 8 + 1 by omega, List.range_succ, List.map_append]
  congr 1
  · apply List.map_congr_left
    intro i hi
    have hi := List.mem_range.1 hi
    apply mk8_congr
    intro k hk
    rw [List.getD_eq_getElem?_getD, List.getD_eq_getElem?_getD, List.getElem?_append_left (by omega)]
  · simp only [List.map_cons, List.map_nil]
    congr 1
    unfold byteAt
    rw [mk8_congr (g := fun k => if k = 0 then b else false)]
    · cases b <;> rfl
    · intro k hk
      rw [List.getD_eq_getElem?_getD, List.getElem?_append_right (by omega), show 8 * ((l.length + 7) / 8) + k - l.length = k by omega]
      by_cases h0 : k = 0
      · subst h0; rfl
      · rw [if_neg h0, List.getElem?_eq_none (by simp; omega)]; rfl

/-- A nought more, within a byte: the bytes are the same. -/
theorem pack_snoc_false (l : List Bool) (h : 0 < l.length % 8) : pack (l ++ [false]) = pack l := by
  unfold pack
  rw [List.length_append, List.length_singleton, show (l.length + 1 + 7) / 8 = (l.length + 7) / 8 by omega]
  apply List.map_congr_left
  intro i _
  apply mk8_congr
  intro k _
  rw [List.getD_eq_getElem?_getD, List.getD_eq_getElem?_getD]
  by_cases hlt : 8 * i + k < l.length
  · rw [List.getElem?_append_left hlt]
  · rw [List.getElem?_eq_none (l := l) (by omega)]
    by_cases he : 8 * i + k = l.length
    · rw [he, List.getElem?_append_right (Nat.le_refl _)]; simp
    · rw [List.getElem?_eq_none (by simp; omega)]

/-- A one more, within a byte: it is put in by 'or'. -/
theorem pack_snoc_true (l : List Bool) (h : 0 < l.length % 8) :
    pack (l ++ [true]) = (pack l).set ((l.length + 7) / 8 - 1) (byteAt l ((l.length + 7) / 8 - 1) ||| 2 ^ (7 - l.length % 8)) := by
  apply List.ext_getElem?
  intro i
  rw [List.getElem?_set]
  by_cases hi : i < (l.length + 7) / 8
  · rw [pack_getElem? _ _ (by rw [List.length_append, List.length_singleton]; omega)]
    by_cases hlast : (l.length + 7) / 8 - 1 = i
    · rw [if_pos hlast, if_pos (by rw [len_pack]; omega)]
      congr 1
      rw [hlast]
      refine (mk8_or _ _ (Nat.mod_lt _ (by omega)) ?_ ?_ ?_).symm
      · rw [List.getD_eq_getElem?_getD, List.getElem?_append_right (by omega), show 8 * i + l.length % 8 - l.length = 0 by omega]; rfl
      · rw [List.getD_eq_getElem?_getD, List.getElem?_eq_none (by omega)]; rfl
      · intro j hj hne
        rw [List.getD_eq_getElem?_getD, List.getD_eq_getElem?_getD]
        by_cases hlt : 8 * i + j < l.length
        · rw [List.getElem?_append_left hlt]
        · rw [List.getElem?_eq_none (l := l) (by omega), List.getElem?_eq_none (by simp; omega)]
    · rw [if_neg hlast, pack_getElem? _ _ hi]
      congr 1
      apply mk8_congr
      intro k hk
      rw [List.getD_eq_getElem?_getD, List.getD_eq_getElem?_getD, List.getElem?_append_left (by omega)]
  · rw [List.getElem?_eq_none (by rw [len_pack, List.length_append, List.length_singleton]; omega), if_neg (by omega),
      List.getElem?_eq_none (by rw [len_pack]; omega)]

theorem bval_snoc (l : List Bool) (b : Bool) : bval (l ++ [b]) = 2 * bval l + b.toNat := by simp [bval]

theorem foldl_lt (l : List Bool) : ∀ a : Nat, l.foldl (fun v b => 2 * v + b.toNat) a < (a + 1) * 2 ^ l.length := by
  induction l with
  | nil => intro a; simp
  | cons b l ih =>
    intro a
    have h1 := ih (2 * a + b.toNat)
    have h2 := toNat_le b
    have h3 : (2 * a + b.toNat + 1) * 2 ^ l.length ≤ (2 * a + 2) * 2 ^ l.length := Nat.mul_le_mul_right _ (by omega)
    have h4 : (2 * a + 2) * 2 ^ l.length = (a + 1) * (2 ^ l.length * 2) := by
      rw [Nat.mul_comm (2 ^ l.length) 2, ← Nat.mul_assoc]; congr 1; omega
    simp only [List.foldl_cons, List.length_cons, Nat.pow_succ]
    omega

theorem bval_lt (l : List Bool) : bval l < 2 ^ l.length := by
  have := foldl_lt l 0
  simpa [bval] using this

theorem foldl_add (l : List Bool) : ∀ a : Nat, l.foldl (fun v b => 2 * v + b.toNat) a = a * 2 ^ l.length + bval l := by
  induction l with
  | nil => intro a; simp [bval]
  | cons b l ih =>
    intro a
    have h1 := ih (2 * a + b.toNat)
    have h2 := ih b.toNat
    unfold bval at *
    simp only [List.foldl_cons, List.length_cons, Nat.pow_succ, Nat.mul_zero, Nat.zero_add] at *
    rw [h1, h2, Nat.add_mul, Nat.mul_comm (2 ^ l.length) 2, ← Nat.mul_assoc, Nat.mul_comm a 2]
    omega

theorem bval_cons (b : Bool) (l : List Bool) : bval (b :: l) = b.toNat * 2 ^ l.length + bval l := by
  have := foldl_add l b.toNat
  simpa [bval] using this

theorem bval_append (a b : List Bool) : bval (a ++ b) = bval a * 2 ^ b.length + bval b := by
  have := foldl_add b (bval a)
  unfold bval at *
  rw [List.foldl_append, this]

theorem testBit_toNat (v n : Nat) : (v.testBit n).toNat = v / 2 ^ n % 2 := by
  rw [Nat.testBit_eq_decide_div_mod_eq]
  have := Nat.mod_lt (v / 2 ^ n) (show 0 < 2 by omega)
  by_cases h : v / 2 ^ n % 2 = 1
  · simp [h]
  · simp [h]; omega

theorem bval_bitsOf (v n : Nat) : bval (bitsOf v n) = v % 2 ^ n := by
  induction n with
  | zero => simp [bitsOf, bval, Nat.mod_one]
  | succ n ih =>
    rw [bitsOf, bval_cons, ih, len_bitsOf, testBit_toNat, Nat.pow_succ, Nat.mod_mul]
    rw [Nat.mul_comm]
    omega

theorem bitsOf_mod (v n m : Nat) (h : n ≤ m) : bitsOf (v % 2 ^ m) n = bitsOf v n := by
  induction n with
  | zero => rfl
  | succ n ih => rw [bitsOf, bitsOf, ih (by omega), Nat.testBit_mod_two_pow, decide_eq_true (by omega), Bool.true_and]

theorem bitsOf_bval (l : List Bool) : bitsOf (bval l) l.length = l := by
  induction l with
  | nil => rfl
  | cons b l ih =>
    have hlt := bval_lt l
    rw [List.length_cons, bitsOf]
    congr 1
    · rw [bval_cons, Nat.mul_comm, Nat.testBit_two_pow_mul_add _ hlt]
      simp
      cases b <;> rfl
    · rw [bval_cons, ← bitsOf_mod _ l.length l.length (Nat.le_refl _), Nat.mul_comm, Nat.mul_add_mod, Nat.mod_eq_of_lt hlt]
      exact ih

theorem len_txt (l : List Bool) : (txt l).size = l.length := by simp [txt, ByteArray.size]
theorem txt_append (a b : List Bool) : txt (a ++ b) = txt a ++ txt b := by
  apply ByteArray.ext
  simp [txt]
theorem txt_inj {a b : List Bool} (h : txt a = txt b) : a = b := by
  have h1 := congrArg (fun s : ByteArray => s.data.toList) h
  simp only [txt] at h1
  induction a generalizing b with
  | nil => cases b with
    | nil => rfl
    | cons y b => simp at h1
  | cons x a ih => cases b with
    | nil => simp at h1
    | cons y b =>
      simp only [List.map_cons, List.cons.injEq] at h1
      obtain ⟨hx, ht⟩ := h1
      have : x = y := by cases x <;> cases y <;> simp at hx ⊢
      rw [this, ih (by rw [txt, txt, ht]) ht]

theorem len_str (bs : List Nat) : (str bs).size = bs.length := by simp [str, ByteArray.size]
theorem str_append (a b : List Nat) : str (a ++ b) = str a ++ str b := by
  apply ByteArray.ext
  simp [str]
end Bt
end Go.Proofs.Ytlfcaigofakkoaa
