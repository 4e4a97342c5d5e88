/-
  The walks of FramesBack and FramesWrong.
-/
import Derived.Test.YtnffhhmfclcmjaaFrmY
namespace Go.Proofs.Ytnffhhmfclcmjaa
open Go.RowKit
set_option linter.unusedVariables false

theorem good_cuts (ls : List (List UInt8)) : Cuts (stream (good ls)) (good ls) [] := by
  have := cuts_stream (good ls) [] (.inl (by simp)) (good_ok ls)
  rw [List.append_nil] at this
  exact this
theorem nil_not_bad : ¬ bad [] := fun h => absurd h.1 (by simp)

set_option maxRecDepth 100000 in
theorem framesBack_walk {w : World} {A : Option Addr} {n c : Nat} {ls : List (List UInt8)} (h : Rl w w.heap.size A n c ls) (hs : ∀ x ∈ ls, x.length ≤ 140737488355328) : Calls Try.prog 6 #[.slice A n c] w (Yes w) := by
  by_cases hm : 3000 < much ls
  · have HF := Lib.hid (fun (w1 : World) (h1 : Rl w1 w.heap.size A n c ls) => few_no h1 hs hm)
    go_enter Try.func6, Try.ntmps6
    go_wp2_with fail
    refine (live_ok w).mono ?_
    rintro e w1 ⟨rfl, b1⟩
    go_wp2_with fail
    refine (HF.out _ (h.below b1)).mono ?_
    rintro e w2 ⟨rfl, rfl⟩
    go_wp2
    go_ret
    exact ⟨rfl, b1⟩
  · have HF := Lib.hid (fun (w1 : World) (h1 : Rl w1 w.heap.size A n c ls) => few_yes h1 (by omega))
    have hsm := stream_much ls
    have HFR := Lib.hid (fun (w1 : World) (h1 : Rl w1 w1.heap.size A n c ls) => framed_ok h1 (by omega))
    have HN : Hid ((stream (good ls)).length ≤ 100000000) := Lib.hid (by omega)
    clear hm hs hsm
    go_enter Try.func6, Try.ntmps6
    go_wp2_with fail
    refine (live_ok w).mono ?_
    rintro e w1 ⟨rfl, b1⟩
    go_wp2_with fail
    refine (HF.out _ (h.below b1)).mono ?_
    rintro e w2 ⟨rfl, rfl⟩
    go_wp2_with fail
    refine (HFR.out _ ((h.below b1).more b1.size)).mono ?_
    rintro e w2 ⟨A1, n1, c1, A2, n2, c2, rfl, ho1, ho2, hb2⟩
    have b2 := bthen b1 hb2
    have HL := Lib.hid (show n2 ≤ 100000000 by have := ho2.len; have := HN.out; omega)
    go_wp2_with fail
    refine (split_ok ho2.rd HL.out (good_cuts ls) nil_not_bad).mono ?_
    rintro e w3 ⟨A3, n3, c3, A4, n4, c4, rfl, ho3, ho4, hb3⟩
    have b3 := bthen b2 hb3
    obtain rfl : n4 = 0 := ho4.len.symm
    go_wp2_with fail
    refine (same_is (ho1.kept hb3).rl ho3.rl).mono ?_
    rintro e w4 ⟨rfl, hb4⟩
    have b4 := bthen b3 hb4
    go_wp2
    go_ret
    exact ⟨rfl, b4⟩

theorem head_be (x : Nat) (hx : x < 4294967296) (m : List UInt8) : headN (be x 4 ++ m) = x := by
  rw [headN, List.take_left' (be_length x 4), num_be]
  omega

set_option maxRecDepth 100000 in
theorem framesWrong_walkN {w : World} {A : Option Addr} {n c : Nat} {ls : List (List UInt8)} (h : Rl w w.heap.size A n c ls) (hs : ∀ x ∈ ls, x.length ≤ 140737488355328) (H : Nat) (hH : H < 4294967296) {A' : Option Addr} {n' c' : Nat} {l' : List UInt8} (h' : Rd w w.heap.size A' n' c' l') :
    Calls Try.prog 9 #[.slice A n c, .int .u32 (H : Int), .slice A' n' c'] w (Yes w) := by
  have htop' := h'.top
  have hcap' := h'.cap
  by_cases hm : 3000 < much ls
  · have HF := Lib.hid (fun (w1 : World) (h1 : Rl w1 w.heap.size A n c ls) => few_no h1 hs hm)
    clear hs hm
    go_enter Try.func9, Try.ntmps9
    go_wp2_with fail
    refine (live_ok w).mono ?_
    rintro e w1 ⟨rfl, b1⟩
    go_wp2_with fail
    refine (HF.out _ (h.below b1)).mono ?_
    rintro e w2 ⟨rfl, rfl⟩
    go_wp2
    go_ret
    exact ⟨rfl, b1⟩
  have HF := Lib.hid (fun (w1 : World) (h1 : Rl w1 w.heap.size A n c ls) => few_yes h1 (by omega))
  by_cases h2 : 3000 < n'
  · have t2 : decide ((3000 : Int) < (n' : Int)) = true := by simp only [decide_eq_true_eq]; omega
    clear hs hm
    go_enter Try.func9, Try.ntmps9
    go_wp2_with fail
    refine (live_ok w).mono ?_
    rintro e w1 ⟨rfl, b1⟩
    go_wp2_with fail
    refine (HF.out _ (h.below b1)).mono ?_
    rintro e w2 ⟨rfl, rfl⟩
    go_wp2
    go_ret
    exact ⟨rfl, b1⟩
  have t2 : decide ((3000 : Int) < (n' : Int)) = false := by simp only [decide_eq_false_iff_not]; omega
  by_cases hh : 1 ≤ H ∧ H ≤ 4096
  · have t3 : decide ((1 : Int) ≤ (H : Int)) = true := by simp only [decide_eq_true_eq]; omega
    have t4 : decide ((H : Int) ≤ 4096) = true := by simp only [decide_eq_true_eq]; omega
    clear hs hm hh
    go_enter Try.func9, Try.ntmps9
    go_wp2_with fail
    refine (live_ok w).mono ?_
    rintro e w1 ⟨rfl, b1⟩
    go_wp2_with fail
    refine (HF.out _ (h.below b1)).mono ?_
    rintro e w2 ⟨rfl, rfl⟩
    go_wp2
    go_ret
    exact ⟨rfl, b1⟩
  have hbd : bad (be H 4 ++ l') := ⟨by rw [List.length_append, be_length]; omega, by rw [head_be H hH]; exact hh⟩
  have HB := Lib.hid hbd
  have HC := Lib.hid (show Cuts (stream (good ls) ++ (be H 4 ++ l')) (good ls) (be H 4 ++ l') from cuts_stream _ _ (.inr (.inl hbd)) (good_ok ls))
  have hsm := stream_much ls
  have HFR := Lib.hid (fun (w1 : World) (h1 : Rl w1 w1.heap.size A n c ls) => framed_ok h1 (by omega))
  have HN : Hid ((stream (good ls)).length ≤ 12000) := Lib.hid (by omega)
  have HP := Lib.hid (fun (w1 : World) (A2 : Option Addr) (n2 c2 : Nat) (l2 : List UInt8) (h : Rd w1 w1.heap.size A2 n2 c2 l2) (hn : n2 ≤ 12000) => put_ok h (Nat.le_refl _) (by omega) H (by omega) 4 (by omega) (by omega))
  have hH0 : (0 : Int) ≤ (H : Int) := by omega
  have hH1 : (H : Int) ≤ 4294967295 := by omega
  have hmod : (H : Int) % 18446744073709551616 = (H : Int) := by omega
  clear hm hs hsm hbd
  have HWALK : (decide ((1 : Int) ≤ (H : Int)) = false) ∨ (decide ((1 : Int) ≤ (H : Int)) = true ∧ decide ((H : Int) ≤ 4096) = false) := by
    simp only [decide_eq_false_iff_not, decide_eq_true_eq]
    omega
  clear hh hH
  rcases HWALK with t3 | ⟨t3, t4⟩
  all_goals
    go_enter Try.func9, Try.ntmps9
    go_wp2_with fail
    refine (live_ok w).mono ?_
    rintro e w1 ⟨rfl, b1⟩
    go_wp2_with fail
    refine (HF.out _ (h.below b1)).mono ?_
    rintro e w2 ⟨rfl, rfl⟩
    go_wp2_with fail
    refine (HFR.out _ ((h.below b1).more b1.size)).mono ?_
    rintro e w2 ⟨A1, n1, c1, A2, n2, c2, rfl, ho1, ho2, hb2⟩
    have b2 := bthen b1 hb2
    have hl2 : n2 ≤ 12000 := by have := ho2.len; have := HN.out; omega
    have HL := Lib.hid (show n2 ≤ 100000000 by omega)
    go_wp2_with fail
    refine (split_ok ho2.rd HL.out (good_cuts ls) nil_not_bad).mono ?_
    rintro e w3 ⟨A3, n3, c3, A4, n4, c4, rfl, ho3, ho4, hb3⟩
    have b3 := bthen b2 hb3
    obtain rfl : n4 = 0 := ho4.len.symm
    go_wp2_with fail
    refine (same_is (ho1.kept hb3).rl ho3.rl).mono ?_
    rintro e w4 ⟨rfl, hb4⟩
    have b4 := bthen b3 hb4
    have o2 := (ho2.step hb3).step hb4
    clear ho1 ho2 ho3 ho4 hb2 hb3 hb4
    go_wp2_with fail
    refine (HP.out _ _ _ _ _ o2.rd hl2).mono ?_
    rintro e w5 ⟨A5, n5, c5, rfl, ho5, hb5⟩
    have b5 := bthen b4 hb5
    have hl5 : n5 = n2 + 4 := by have := ho5.len; rw [List.length_append, be_length, o2.len] at this; omega
    subst hl5
    go_wp2_with (at_builtin; refine wpList_app rfl (.tmp 60) (.tmp 61) rfl Try.underlying22 byteInfo rfl ho5 rfl (h'.below b5) ?_ ?_ ?_)
    · omega
    · exact hb5.size
    · intro A6 c6 w6 ho6 hb6
      have b6 := b5.trans (hb6.mono b4.size)
      have HL6 := Lib.hid (show n2 + 4 + n' ≤ 100000000 by omega)
      go_wp2_with fail
      refine (split_bad ho6.rd HL6.out HC.out HB.out).mono ?_
      rintro e w7 ⟨rfl, hb7⟩
      have b7 := bthen b6 hb7
      have o7 := (o2.step (hb5.trans hb6)).step hb7
      clear ho5 ho6
      go_wp2_with fail
      refine (HP.out _ _ _ _ _ (Rd.nil _ _) (by omega)).mono ?_
      rintro e w8 ⟨A8, n8, c8, rfl, ho8, hb8⟩
      have b8 := bthen b7 hb8
      rw [List.nil_append] at ho8
      have hl8 : n8 = 4 := by have := ho8.len; rw [be_length] at this; omega
      subst hl8
      go_wp2_with (at_builtin; refine wpList_app rfl (.tmp 71) (.tmp 72) rfl Try.underlying22 byteInfo rfl ho8 rfl (h'.below b8) ?_ ?_ ?_)
      · omega
      · exact hb8.size
      · intro A9 c9 w9 ho9 hb9
        have b9 := b8.trans (hb9.mono b7.size)
        have o9 := o7.step (hb8.trans hb9)
        have HL9 := Lib.hid (show n2 + (4 + n') ≤ 100000000 by omega)
        go_wp2_with fail
        refine (feed_bad o9.rd ho9.rd HL9.out HC.out HB.out).mono ?_
        rintro e w10 ⟨rfl, hb10⟩
        have b10 := bthen b9 hb10
        go_wp2
        go_ret
        exact ⟨rfl, b10⟩
theorem framesWrong_walk {w : World} {A : Option Addr} {n c : Nat} {ls : List (List UInt8)} (h : Rl w w.heap.size A n c ls) (hs : ∀ x ∈ ls, x.length ≤ 140737488355328) (a : Int) (ha : 0 ≤ a ∧ a ≤ 4294967295) {A' : Option Addr} {n' c' : Nat} {l' : List UInt8} (h' : Rd w w.heap.size A' n' c' l') :
    Calls Try.prog 9 #[.slice A n c, .int .u32 a, .slice A' n' c'] w (Yes w) := by
  obtain ⟨H, rfl⟩ := Int.eq_ofNat_of_zero_le ha.1
  exact framesWrong_walkN h hs H (by omega) h'
end Go.Proofs.Ytnffhhmfclcmjaa
