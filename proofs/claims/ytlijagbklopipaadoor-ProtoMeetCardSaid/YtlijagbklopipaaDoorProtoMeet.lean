/-
  The walk of ProtoMeet. Conditions: those that it states.
-/
import Derived.Deep.DeepCutAuto
import Derived.Test.YtlijagbklopipaaDoorSpnW
import Derived.Test.YtlijagbklopipaaDoorLivB
namespace Go.Proofs.YtlijagbklopipaaDoor
open Go.RowKit
set_option linter.unusedVariables false

set_option maxRecDepth 100000 in
set_option maxHeartbeats 8000000 in
theorem protoMeet_walk {w : World} (hs : Shp w) {A : Option Addr} {n c : Nat} {m : List Sp} (h : Rp w w.heap.size A n c m) {A' : Option Addr} {n' c' : Nat} {t : List Sp} (h' : Rp w w.heap.size A' n' c' t) :
    Calls Tryd.prog 8 #[.slice A n c, .slice A' n' c'] w (Says w (.bool true)) := by
  obtain ⟨hpc, hpl⟩ := meet_plain m t
  have HPC := Lib.hid hpc
  have HPL := Lib.hid hpl
  have HQ : Hid (∀ w', Below w.heap.size w w' → Rp w' w'.heap.size A n c m ∧ Rp w' w'.heap.size A' n' c' t) := Lib.hid fun w' hb =>
    ⟨(h.below hb).more hb.size, (h'.below hb).more hb.size⟩
  have hL := live_ok w hs
  have HL := Lib.hid hL
  have hc1 := h.cap
  have ht1 := h.top
  have hc2 := h'.cap
  have ht2 := h'.top
  have HLN := Lib.hid h.len
  clear hpc hpl h h' hs hL
  go_enter Tryd.func8, Tryd.ntmps8
  go_wp2_with fail
  refine HL.out.mono ?_
  rintro e w2 ⟨rfl, b2⟩
  have B2 := Lib.hid b2
  clear b2
  by_cases hn : n ≤ 300
  case neg =>
    have t1 : decide ((300 : Int) < (n : Int)) = true := by simp only [decide_eq_true_eq]; omega
    have t2 : decide (300 < n) = true := by simp only [decide_eq_true_eq]; omega
    clear hn
    go_wp2
    go_ret
    exact ⟨rfl, B2.out⟩
  have t1 : decide ((300 : Int) < (n : Int)) = false := by simp only [decide_eq_false_iff_not]; omega
  have t2 : decide (300 < n) = false := by simp only [decide_eq_false_iff_not]; omega
  by_cases hn' : n' ≤ 300
  case neg =>
    have t3 : decide ((300 : Int) < (n' : Int)) = true := by simp only [decide_eq_true_eq]; omega
    have t4 : decide (300 < n') = true := by simp only [decide_eq_true_eq]; omega
    clear hn hn'
    go_wp2
    go_ret
    exact ⟨rfl, B2.out⟩
  have t3 : decide ((300 : Int) < (n' : Int)) = false := by simp only [decide_eq_false_iff_not]; omega
  have t4 : decide (300 < n') = false := by simp only [decide_eq_false_iff_not]; omega
  rcases HPL.out with ⟨e, he, hee⟩ | ⟨a, ha, hmm, ham, hwm, hwt⟩
  · have HP := Lib.hid (p_agree_ok (HQ.out w2 B2.out).1 (HQ.out w2 B2.out).2 (by omega))
    have HP2 : Hid (∀ w', Below w.heap.size w w' → _) := Lib.hid fun w' hb => p_agree_ok (HQ.out w' hb).2 (HQ.out w' hb).1 (by omega)
    rw [he] at HP
    rw [HPC.out, he] at HP2
    have HEE := Lib.hid hee
    clear he hee HPC HPL
    go_wp2_with fail
    refine HP.out.mono ?_
    rintro e1 w3 ⟨A3, n3, c3, rfl, ho3, b3⟩
    obtain rfl : n3 = 0 := ho3.1.symm
    have B3 := Lib.hid (bthen B2.out b3)
    have HO3 := Lib.hid ho3.rp
    clear ho3 b3 HP
    go_wp2_with fail
    refine (HP2.out w3 B3.out).mono ?_
    rintro e1 w4 ⟨A4, n4, c4, rfl, ho4, b4⟩
    obtain rfl : n4 = 0 := ho4.1.symm
    have B4 := Lib.hid (bthen B3.out b4)
    have HO4 := Lib.hid ho4.rp
    have HO34 := Lib.hid ((HO3.out.step b4 (Nat.le_refl _)).more b4.size)
    clear ho4 b4 HP2
    rcases HEE.out with rfl | rfl
    all_goals
      clear HEE
      go_wp2_with fail
      refine (same_spans HO34.out HO4.out (Nat.le_refl _)).mono ?_
      rintro e1 w5 ⟨rfl, b5⟩
      have B5 := Lib.hid (bthen B4.out b5)
      clear b5
      go_wp2
      go_ret
      exact ⟨rfl, B5.out⟩
  · have HP := Lib.hid (p_agree_ok (HQ.out w2 B2.out).1 (HQ.out w2 B2.out).2 (by omega))
    have HP2 : Hid (∀ w', Below w.heap.size w w' → _) := Lib.hid fun w' hb => p_agree_ok (HQ.out w' hb).2 (HQ.out w' hb).1 (by omega)
    have HP3 : Hid (∀ w', Below w.heap.size w w' → _) := Lib.hid fun w' hb => p_agree_ok (HQ.out w' hb).1 (HQ.out w' hb).1 (by omega)
    have HP4 : Hid (∀ w' (A : Option Addr) (n c : Nat), Below w.heap.size w w' → Rp w' w'.heap.size A n c a → n ≤ 1000000 → _) := Lib.hid fun w' A n c hb hr hn => p_agree_ok hr (HQ.out w' hb).1 hn
    rw [ha] at HP
    rw [HPC.out, ha] at HP2
    rw [hmm] at HP3
    rw [ham] at HP4
    have HWM := Lib.hid hwm
    have HWT := Lib.hid hwt
    have hal := agree_len ha
    rw [HLN.out] at hal
    have HAL := Lib.hid hal
    clear ha hmm ham hwm hwt HPC HPL hal HLN
    go_wp2_with fail
    refine HP.out.mono ?_
    rintro e1 w3 ⟨A3, n3, c3, rfl, ho3, b3⟩
    have hl3 : a.length = n3 := ho3.1
    have B3 := Lib.hid (bthen B2.out b3)
    have HO3 := Lib.hid ho3.rp
    have HL3 := Lib.hid (show n3 ≤ 1000000 by have := HAL.out; omega)
    clear ho3 b3 HP hl3
    go_wp2_with fail
    refine (HP2.out w3 B3.out).mono ?_
    rintro e1 w4 ⟨A4, n4, c4, rfl, ho4, b4⟩
    have B4 := Lib.hid (bthen B3.out b4)
    have HO4 := Lib.hid ho4.rp
    have HO34 := Lib.hid ((HO3.out.step b4 (Nat.le_refl _)).more b4.size)
    clear ho4 b4 HP2 HO3
    go_wp2_with fail
    refine (same_spans HO34.out HO4.out (Nat.le_refl _)).mono ?_
    rintro e1 w5 ⟨rfl, b5⟩
    have B5 := Lib.hid (bthen B4.out b5)
    have HO35 := Lib.hid ((HO34.out.step b5 (Nat.le_refl _)).more b5.size)
    clear b5 HO34 HO4
    go_wp2_with fail
    refine (HP3.out w5 B5.out).mono ?_
    rintro e1 w6 ⟨A6, n6, c6, rfl, ho6, b6⟩
    have B6 := Lib.hid (bthen B5.out b6)
    have HO6 := Lib.hid ho6.rp
    have HO36 := Lib.hid ((HO35.out.step b6 (Nat.le_refl _)).more b6.size)
    clear ho6 b6 HO35 HP3
    go_wp2_with fail
    refine (HP4.out w6 A3 n3 c3 B6.out HO36.out HL3.out).mono ?_
    rintro e1 w7 ⟨A7, n7, c7, rfl, ho7, b7⟩
    have B7 := Lib.hid (bthen B6.out b7)
    have HO7 := Lib.hid ho7.rp
    have HO37 := Lib.hid ((HO36.out.step b7 (Nat.le_refl _)).more b7.size)
    have HO67 := Lib.hid ((HO6.out.step b7 (Nat.le_refl _)).more b7.size)
    clear ho7 b7 HO6 HO36 HP4
    go_wp2_with fail
    refine (same_spans HO67.out (HQ.out w7 B7.out).1 (Nat.le_refl _)).mono ?_
    rintro e1 w8 ⟨rfl, b8⟩
    have B8 := Lib.hid (bthen B7.out b8)
    have HO38 := Lib.hid ((HO37.out.step b8 (Nat.le_refl _)).more b8.size)
    have HO78 := Lib.hid ((HO7.out.step b8 (Nat.le_refl _)).more b8.size)
    clear b8 HO7 HO37 HO67
    go_wp2_with fail
    refine (same_spans HO78.out HO38.out (Nat.le_refl _)).mono ?_
    rintro e1 w9 ⟨rfl, b9⟩
    have B9 := Lib.hid (bthen B8.out b9)
    have HO39 := Lib.hid ((HO38.out.step b9 (Nat.le_refl _)).more b9.size)
    clear b9 HO38 HO78
    go_wp2_with fail
    refine (within_ok HO39.out (HQ.out w9 B9.out).1 (Nat.le_refl _) HWM.out).mono ?_
    rintro e1 w10 ⟨rfl, b10⟩
    have B10 := Lib.hid (bthen B9.out b10)
    have HO310 := Lib.hid ((HO39.out.step b10 (Nat.le_refl _)).more b10.size)
    clear b10 HO39
    go_wp2_with fail
    refine (within_ok HO310.out (HQ.out w10 B10.out).2 (Nat.le_refl _) HWT.out).mono ?_
    rintro e1 w11 ⟨rfl, b11⟩
    have B11 := Lib.hid (bthen B10.out b11)
    clear b11
    go_wp2
    go_ret
    exact ⟨rfl, B11.out⟩
end Go.Proofs.YtlijagbklopipaaDoor
