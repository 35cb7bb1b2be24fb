/- The walk of the first layer's fixed answer. -/
import Derived.Test.YtlfcaigofakkoaaSep
namespace Go.Proofs.Ytlfcaigofakkoaa
open Go.RowKit Bt

set_option maxHeartbeats 1000000 in
theorem awake1_any (w : World) : Calls Try.prog 14 #[] w fun e w' => e = .returned (.bool true) ∧ Fr (fun _ => False) w w' := by
  go_enter Try.func14, Try.ntmps14
  go_wp2_with fail
  refine (w1_new (w0 := w) (.slice none 0 0) [] 0 (Fr.refl _ _) (by decide) (.inl ⟨rfl, rfl⟩) (by simp) (by decide)).mono ?_
  rintro e w1 ⟨a, r, rfl, hw1, _⟩
  go_wp2_with fail
  refine (wr_new (.slice (some ⟨w1.heap.size, 0, none⟩) 1 1) [176] 4 (hw1.still ((Fr.refl _ _).alloc _)) (by decide) (bs_one w1 176) (by decide) (by decide)).mono ?_
  rintro e w2 ⟨a2, r2, rfl, h2, _⟩
  clear hw1
  go_wp2_with fail
  refine (newReader_no (.slice none 0 0) [] 1 _ (by decide) (.inl ⟨rfl, rfl⟩) (by decide)).mono ?_
  rintro e w3 ⟨rfl, rfl⟩
  go_wp2_with fail
  refine (wr_put h2 5 3 (by decide) (by decide) (by decide) (by decide)).mono ?_
  rintro e w3 ⟨rfl, r3, h3⟩
  clear h2
  go_wp2_with fail
  refine (wr_bit h3 true (by decide)).mono ?_
  rintro e w4 ⟨rfl, r4, h4⟩
  clear h3
  go_wp2_with fail
  refine (wr_bytes h4 (by decide)).mono ?_
  rintro e w5 ⟨ao, N, cap, rfl, h5, hb⟩
  have hcv := conv_bs hb
  rw [show str (pack (((unpack []).take 0 ++ bitsOf 5 3) ++ [true])) = ⟨#[176]⟩ from by decide] at hcv
  clear h4 hb
  go_wp2_with fail
  refine (w1_len h5.w1).mono ?_
  rintro e w6 ⟨rfl, rfl⟩
  clear hcv
  rw [show (((unpack []).take 0 ++ bitsOf 5 3) ++ [true]).length = 4 from by decide, show (unpack [176]).take 4 = [true, false, true, true] from by decide] at *
  go_wp2_with fail
  refine (wr_get h5 3 (by decide) (by decide) (by decide)).mono ?_
  rintro e w6 ⟨rfl, h6⟩
  clear h5
  go_wp2_with fail
  refine (wr_rbit (b := true) (l2 := []) h6).mono ?_
  rintro e w7 ⟨rfl, h7⟩
  clear h6
  go_wp2_with fail
  refine (wr_left h7).mono ?_
  rintro e w8 ⟨rfl, h8⟩
  clear h7
  go_wp2_with fail
  refine (wr_get_short h8 1 (by decide) (by decide) (by decide)).mono ?_
  rintro e w9 ⟨rfl, h9⟩
  clear h8
  go_wp2_with fail
  refine (wr_short h9).mono ?_
  rintro e w10 ⟨rfl, rfl⟩
  go_wp2
  go_ret
  exact ⟨rfl, h9.fr⟩
end Go.Proofs.Ytlfcaigofakkoaa
