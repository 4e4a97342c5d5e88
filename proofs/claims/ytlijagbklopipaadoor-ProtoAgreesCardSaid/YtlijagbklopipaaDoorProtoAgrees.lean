/-
  The walk of ProtoAgrees. Conditions: those that it states.
-/
import Derived.Deep.DeepCutAuto
import Derived.Test.YtlijagbklopipaaDoorSpnS
import Derived.Test.YtlijagbklopipaaDoorLivB
namespace Go.Proofs.YtlijagbklopipaaDoor
open Go.RowKit
set_option linter.unusedVariables false

set_option maxRecDepth 100000 in
set_option maxHeartbeats 8000000 in
theorem protoAgrees_walk {w : World} (hs : Shp w) {A : Option Addr} {n c : Nat} {m : List Sp} (h : Rp w w.heap.size A n c m) {A' : Option Addr} {n' c' : Nat} {t : List Sp} (h' : Rp w w.heap.size A' n' c' t) :
    Calls Tryd.prog 5 #[.slice A n c, .slice A' n' c'] w (Says w (.bool true)) := by
  have HQ : Hid (∀ w', Below w.heap.size w w' → Rp w' w'.heap.size A n c m ∧ Rp w' w'.heap.size A' n' c' t) := Lib.hid fun w' hb =>
    ⟨(h.below hb).more hb.size, (h'.below hb).more hb.size⟩
  have hL := live_ok w hs
  have HL := Lib.hid hL
  have hc1 := h.cap
  have ht1 := h.top
  have hc2 := h'.cap
  have ht2 := h'.top
  clear h h' hs hL
  go_enter Tryd.func5, Tryd.ntmps5
  go_wp2_with fail
  refine HL.out.mono ?_
  rintro e w2 ⟨rfl, b2⟩
  have B2 := Lib.hid b2
  clear b2
  by_cases hn : n ≤ 300
  case neg =>
    have t1 : decide ((300 : Int) < (n : Int)) = true := by simp only [decide_eq_true_eq]; omega
    have t2 : decide (300 < n) = true := by simp only [decide_eq_true_eq]; omega
    clear hn
    go_wp2
    go_ret
    exact ⟨rfl, B2.out⟩
  have t1 : decide ((300 : Int) < (n : Int)) = false := by simp only [decide_eq_false_iff_not]; omega
  have t2 : decide (300 < n) = false := by simp only [decide_eq_false_iff_not]; omega
  by_cases hn' : n' ≤ 300
  case neg =>
    have t3 : decide ((300 : Int) < (n' : Int)) = true := by simp only [decide_eq_true_eq]; omega
    have t4 : decide (300 < n') = true := by simp only [decide_eq_true_eq]; omega
    clear hn hn'
    go_wp2
    go_ret
    exact ⟨rfl, B2.out⟩
  have t3 : decide ((300 : Int) < (n' : Int)) = false := by simp only [decide_eq_false_iff_not]; omega
  have t4 : decide (300 < n') = false := by simp only [decide_eq_false_iff_not]; omega
  obtain ⟨a, e0, ha⟩ : ∃ a e, agreeL m t = (a, e) := ⟨_, _, rfl⟩
  have HP := Lib.hid (p_agree_ok (HQ.out w2 B2.out).1 (HQ.out w2 B2.out).2 (by omega))
  have HP2 : Hid (∀ w', Below w.heap.size w w' → _) := Lib.hid fun w' hb => r_agree_ok (HQ.out w' hb).1 (HQ.out w' hb).2 hn hn'
  rw [ha] at HP
  rw [ha] at HP2
  clear ha
  go_wp2_with fail
  refine HP.out.mono ?_
  rintro e1 w3 ⟨A3, n3, c3, rfl, ho3, b3⟩
  have B3 := Lib.hid (bthen B2.out b3)
  have HO3 := Lib.hid ho3.rp
  clear ho3 b3 HP
  go_wp2_with fail
  refine (HP2.out w3 B3.out).mono ?_
  rintro e1 w4 ⟨A4, n4, c4, rfl, ho4, b4⟩
  have B4 := Lib.hid (bthen B3.out b4)
  have HO4 := Lib.hid ho4.rp
  have HO34 := Lib.hid ((HO3.out.step b4 (Nat.le_refl _)).more b4.size)
  clear ho4 b4 HP2 HO3
  go_wp2_with fail
  refine (same_spans HO34.out HO4.out (Nat.le_refl _)).mono ?_
  rintro e1 w5 ⟨rfl, b5⟩
  have B5 := Lib.hid (bthen B4.out b5)
  clear b5 HO34 HO4
  go_wp2_with fail
  refine (p_spans_ok w5).mono ?_
  rintro e1 w6 ⟨A6, n6, c6, rfl, ho6, b6⟩
  have B6 := Lib.hid (bthen B5.out b6)
  have HO6 := Lib.hid ho6.rp
  clear ho6 b6
  go_wp2_with fail
  refine (r_spans_ok w6).mono ?_
  rintro e1 w7 ⟨A7, n7, c7, rfl, ho7, b7⟩
  have B7 := Lib.hid (bthen B6.out b7)
  have HO7 := Lib.hid ho7.rp
  have HO67 := Lib.hid ((HO6.out.step b7 (Nat.le_refl _)).more b7.size)
  clear ho7 b7 HO6
  go_wp2_with fail
  refine (same_spans HO67.out HO7.out (Nat.le_refl _)).mono ?_
  rintro e1 w8 ⟨rfl, b8⟩
  have B8 := Lib.hid (bthen B7.out b8)
  clear b8
  go_wp2
  go_ret
  exact ⟨rfl, B8.out⟩
end Go.Proofs.YtlijagbklopipaaDoor
