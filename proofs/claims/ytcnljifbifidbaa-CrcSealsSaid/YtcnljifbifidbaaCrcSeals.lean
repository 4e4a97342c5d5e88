/-
  CrcSeals answers true and leaves what was there as it was, for every input.
-/
import Derived.Test.YtcnljifbifidbaaCrcL
namespace Go.Proofs.Ytcnljifbifidbaa
open Go.RowKit
set_option linter.unusedVariables false
attribute [local go_sem ↓] Go.wp_at_zero Go.wp_at_succ

/-- The bytes as a string. -/
theorem str_is {B : Nat} {w : World} {A : Option Addr} {n c : Nat} {l : List UInt8} (h : Rd w B A n c l) {S : ByteArray} (hS : strOf l = S) :
    (convert 22 9 (.slice A n c)).run Try.prog w = .ok (.string S) w := by
  subst hS
  exact run_str (P := Try.prog) Try.underlying22 Try.underlying5 Try.underlying9 h

set_option maxRecDepth 100000 in
set_option maxHeartbeats 3200000 in
theorem crcSeals_walk {w : World} {A : Option Addr} {n c : Nat} {l : List UInt8} (h : Rd w w.heap.size A n c l) :
    Calls Try.prog 4 #[.slice A n c] w (Yes w) := by
  by_cases hn : n ≤ 2000
  · have t1 : decide ((2000 : Int) < (n : Int)) = false := by simp only [decide_eq_false_iff_not]; omega
    obtain ⟨L, hL⟩ : ∃ L, l ++ be (crc l) 4 = L := ⟨_, rfl⟩
    obtain ⟨E, hE⟩ : ∃ E, openE l = E := ⟨_, rfl⟩
    obtain ⟨X, hX⟩ : ∃ X, openL l = X := ⟨_, rfl⟩
    obtain ⟨SL, hSL⟩ : ∃ S, strOf L = S := ⟨_, rfl⟩
    obtain ⟨SX, hSX⟩ : ∃ S, strOf X = S := ⟨_, rfl⟩
    have HL := Lib.hid hL
    have HE := Lib.hid hE
    have HX := Lib.hid hX
    have HSL := Lib.hid hSL
    have HSX := Lib.hid hSX
    have q1 : (SL.toList == SL.toList) = true := by simp
    have q2 : (SX.toList == SX.toList) = true := by simp
    clear hL hE hX hSL hSX
    go_enter Try.func4, Try.ntmps4
    go_wp2_with fail
    refine (live_ok w).mono ?_
    rintro e w1 ⟨rfl, b1⟩
    go_wp2_with fail
    refine (open_is (h.below b1) b1.size (by omega) HE.out HX.out).mono ?_
    rintro e w2 ⟨A2, n2, c2, rfl, ho2, hb2⟩
    have b2 := bthen b1 hb2
    go_wp2_with fail
    refine (rOpen_is (h.below b2) b2.size (by omega) HE.out HX.out).mono ?_
    rintro e w3 ⟨A3, n3, c3, rfl, ho3, hb3⟩
    have b3 := bthen b2 hb3
    have o2 := ho2.step hb3
    clear ho2
    go_wp2_with fail
    go_region_with (first
      | (go_at_call 17; (with_reducible refine (seal_is (h.below b3.drew) b3.drew.size (by omega) HL.out).mono ?_); rintro e w4 ⟨A4, n4, c4, rfl, ho4, hb4⟩; have b4 := bthen b3.drew hb4; have k4 := str_is ho4.rd HSL.out)
      | (go_at_call 18; (with_reducible refine (rSeal_is (h.below b4) b4.size (by omega) HL.out).mono ?_); rintro e w5 ⟨A5, n5, c5, rfl, ho5, hb5⟩; have b5 := bthen b4 hb5; have k5 := str_is ho5.rd HSL.out; have k6 := str_is (ho4.step hb5).rd HSL.out; have k7 := str_is (o2.drew.step (bthen hb4 hb5)).rd HSX.out; have k8 := str_is (ho3.drew.step (bthen hb4 hb5)).rd HSX.out))
    all_goals
      dsimp only [List.getElem_toArray, List.getElem_cons_succ, List.getElem_cons_zero]
      simp only [Act.put, List.setIfInBounds_toArray, List.set_cons_zero, List.set_cons_succ]
      go_wp2
      go_ret
      exact ⟨rfl, b5⟩
  · have t1 : decide ((2000 : Int) < (n : Int)) = true := by simp only [decide_eq_true_eq]; omega
    go_enter Try.func4, Try.ntmps4
    go_wp2_with fail
    refine (live_ok w).mono ?_
    rintro e w1 ⟨rfl, b1⟩
    go_wp2
    go_ret
    exact ⟨rfl, b1⟩

end Go.Proofs.Ytcnljifbifidbaa
