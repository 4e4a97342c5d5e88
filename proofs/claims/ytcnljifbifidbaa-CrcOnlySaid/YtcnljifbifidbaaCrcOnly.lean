/-
  CrcOnly answers true and leaves what was there as it was, for every input.
-/
import Derived.Test.YtcnljifbifidbaaCrcL
namespace Go.Proofs.Ytcnljifbifidbaa
open Go.RowKit
set_option linter.unusedVariables false
attribute [local go_sem ↓] Go.wp_at_zero Go.wp_at_succ

/-- The bytes as a string. -/
theorem str_on {B : Nat} {w : World} {A : Option Addr} {n c : Nat} {l : List UInt8} (h : Rd w B A n c l) {S : ByteArray} (hS : strOf l = S) :
    (convert 22 9 (.slice A n c)).run Try.prog w = .ok (.string S) w := by
  subst hS
  exact run_str (P := Try.prog) Try.underlying22 Try.underlying5 Try.underlying9 h

set_option maxRecDepth 100000 in
set_option maxHeartbeats 3200000 in
theorem crcOnly_walk {w : World} {A : Option Addr} {n c : Nat} {l : List UInt8} (h : Rd w w.heap.size A n c l) :
    Calls Try.prog 6 #[.slice A n c] w (Yes w) := by
  have hlen := h.len
  by_cases hn : n ≤ 2000
  · have t1 : decide ((2000 : Int) < (n : Int)) = false := by simp only [decide_eq_false_iff_not]; omega
    by_cases h4 : n < 4
    · have hE : openE l = 10 := by rw [openE, if_pos (by omega)]
      have hX : openL l = [] := by rw [openL, hE, if_neg (by omega)]
      have HE := Lib.hid hE
      have HX := Lib.hid hX
      have t2 : decide (n < 4) = true := by simp only [decide_eq_true_eq]; omega
      have t3 : decide ((n : Int) < 4) = true := by simp only [decide_eq_true_eq]; omega
      clear hE hX
      go_enter Try.func6, Try.ntmps6
      go_wp2_with fail
      refine (live_ok w).mono ?_
      rintro e w1 ⟨rfl, b1⟩
      go_wp2_with fail
      refine (open_is (h.below b1) b1.size (by omega) HE.out HX.out).mono ?_
      rintro e w2 ⟨A2, n2, c2, rfl, ho2, hb2⟩
      have b2 := bthen b1 hb2
      have l2 := ho2.len
      simp only [List.length_nil] at l2
      subst l2
      go_wp2
      go_ret
      exact ⟨rfl, b2⟩
    have hI := open_iff l (by omega)
    have t2 : decide (n < 4) = false := by simp only [decide_eq_false_iff_not]; omega
    have t3 : decide ((n : Int) < 4) = false := by simp only [decide_eq_false_iff_not]; omega
    by_cases hd : l.drop (l.length - 4) = be (crc (l.take (l.length - 4))) 4
    · rw [if_pos hd] at hI
      obtain ⟨X, hX⟩ : ∃ X, openL l = X := ⟨_, rfl⟩
      have hX' := hX
      rw [openL, hI, if_pos rfl] at hX'
      have hL : X ++ be (crc X) 4 = l := by rw [← hX', ← hd, List.take_append_drop]
      obtain ⟨SL, hSL⟩ : ∃ S, strOf l = S := ⟨_, rfl⟩
      have HL := Lib.hid hL
      have HE := Lib.hid hI
      have HX := Lib.hid hX
      have HSL := Lib.hid hSL
      have q1 : (SL.toList == SL.toList) = true := by simp
      clear hL hI hX hX' hSL hd
      go_enter Try.func6, Try.ntmps6
      go_wp2_with fail
      refine (live_ok w).mono ?_
      rintro e w1 ⟨rfl, b1⟩
      go_wp2_with fail
      refine (open_is (h.below b1) b1.size (by omega) HE.out HX.out).mono ?_
      rintro e w2 ⟨A2, n2, c2, rfl, ho2, hb2⟩
      have b2 := bthen b1 hb2
      have l2 := ho2.len
      have lX : X.length ≤ 2000 := by
        have := congrArg List.length HL.out
        rw [List.length_append, be_length] at this
        omega
      have k2 := str_on (h.below b2).drew HSL.out
      go_wp2_with fail
      go_region_with (first
        | (go_at_call 17; (with_reducible refine (seal_is ho2.drew.rd (Nat.le_refl _) (by omega) HL.out).mono ?_); rintro e w4 ⟨A4, n4, c4, rfl, ho4, hb4⟩; have b4 := bthen b2.drew hb4; have k4 := str_on ho4.rd HSL.out; have k5 := str_on (h.below b4) HSL.out))
      all_goals
        go_wp2
        go_ret
        exact ⟨rfl, b4⟩
    · rw [if_neg hd] at hI
      have hX : openL l = [] := by rw [openL, hI, if_neg (by omega)]
      have HE := Lib.hid hI
      have HX := Lib.hid hX
      clear hI hX hd
      go_enter Try.func6, Try.ntmps6
      go_wp2_with fail
      refine (live_ok w).mono ?_
      rintro e w1 ⟨rfl, b1⟩
      go_wp2_with fail
      refine (open_is (h.below b1) b1.size (by omega) HE.out HX.out).mono ?_
      rintro e w2 ⟨A2, n2, c2, rfl, ho2, hb2⟩
      have b2 := bthen b1 hb2
      have l2 := ho2.len
      simp only [List.length_nil] at l2
      subst l2
      go_wp2
      go_ret
      exact ⟨rfl, b2⟩
  · have t1 : decide ((2000 : Int) < (n : Int)) = true := by simp only [decide_eq_true_eq]; omega
    go_enter Try.func6, Try.ntmps6
    go_wp2_with fail
    refine (live_ok w).mono ?_
    rintro e w1 ⟨rfl, b1⟩
    go_wp2
    go_ret
    exact ⟨rfl, b1⟩
end Go.Proofs.Ytcnljifbifidbaa
