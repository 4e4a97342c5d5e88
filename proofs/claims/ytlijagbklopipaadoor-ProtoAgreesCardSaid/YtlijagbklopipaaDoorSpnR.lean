/-
  Contracts of the document's Spans and right. Conditions: those that each states.
-/
import Derived.Deep.DeepCutAuto
import Derived.Test.YtlijagbklopipaaDoorSpnP
import Derived.Test.YtlijagbklopipaaDoorSpnD
namespace Go.Proofs.YtlijagbklopipaaDoor
open Go.RowKit
set_option linter.unusedVariables false

set_option maxHeartbeats 2000000 in
theorem r_spans_ok (w : World) : Calls Tryd.prog 31 #[] w (SpansPost w) := by
  go_enter Tryd.func31, Tryd.ntmps31
  go_wp2_with fail
  go_loopw [1, 2] (fun v i wr => ∃ (j : Nat) (A : Option Addr) (c : Nat), j ≤ 12 ∧ i = .int .i64 ((j : Int) + 1) ∧ v = .slice A j c ∧ Hid (Osp 54 wr w.heap.size A j c (spansL j) ∧ Below w.heap.size w wr)) (fun _ i _ => 13 - (intOf i).toNat)
  case atStart => exact ⟨0, none, 0, by omega, rfl, rfl, Osp.nil _ _ _, Below.refl _ w⟩
  case round =>
    obtain ⟨j, A, c, hj, rfl, rfl, HX⟩ := hrel
    by_cases hlt : j < 12
    · have t1 : decide ((j : Int) + 1 ≤ 12) = true := by simp only [decide_eq_true_eq]; omega
      go_wp2_with (at_builtin; go_must (refine wpList_appSp rfl (.tmp 7) (.tmp 10) rfl rfl HX.out.1 ⟨(j : Int) + 1, 0, 2⟩ rfl (by omega) HX.out.2.size ?_))
      intro A' c' w' ho hb
      rw [spansL_snoc] at ho
      have HY : Hid (Osp 54 w' w.heap.size A' (j + 1) c' (spansL (j + 1)) ∧ Below w.heap.size w w') := ⟨ho, HX.out.2.trans hb⟩
      clear ho hb HX
      go_wp2
      go_roundw
      case rel => exact ⟨j + 1, A', c', by omega, by go_num, rfl, HY⟩
      case measure => simp only [intOf]; omega
    · have hjn : j = 12 := by omega
      subst hjn
      go_wp2
      go_ret
      exact ⟨_, _, _, rfl, HX.out.1, HX.out.2⟩

theorem badB {w w' : World} {C z : Bool} (h : C = z) (hb : Below w.heap.size w w') : Says w (.bool C) (.returned (.bool z)) w' := ⟨by rw [h], hb⟩

set_option maxRecDepth 100000 in
set_option maxHeartbeats 8000000 in
theorem r_right_ok {w : World} {B : Nat} {A : Option Addr} {n c : Nat} {l : List Sp} (h : Rp w B A n c l) (hB : B ≤ w.heap.size) :
    Calls Tryd.prog 77 #[.slice A n c] w (Says w (.bool (rightL l))) := by
  have hlen := h.len
  have hcap := h.cap
  have htop := h.top
  have HA : Hid (rightL l = rightFrom (-1) (l.drop 0)) := Lib.hid (by rw [List.drop_zero]; rfl)
  generalize rightL l = V at *
  have HR := Lib.hid h
  have HLN := Lib.hid hlen
  clear h hlen
  go_enter Tryd.func77, Tryd.ntmps77
  go_wp2_with fail
  go_loopw [3] (fun i wr => ∃ j : Nat, j ≤ n ∧ i = .int .i64 j ∧ Hid (∃ q : Int, ((j = 0 ∧ q = -1) ∨ (0 < j ∧ 0 ≤ q ∧ q = (l.getD (j - 1) ⟨0, 0, 0⟩).k)) ∧ V = rightFrom q (l.drop j)) ∧ Hid (Below w.heap.size w wr)) (fun i _ => n - (intOf i).toNat)
  case atStart => exact ⟨0, by omega, rfl, Lib.hid ⟨-1, Or.inl ⟨rfl, rfl⟩, HA.out⟩, Lib.hid (Below.refl _ w)⟩
  case round =>
    obtain ⟨j, hj, rfl, HV, HBW⟩ := hrel
    clear HA
    by_cases hlt : j < n
    · obtain ⟨b, off, rfl, hb, hc⟩ := HR.out.cells (by omega)
      have hlb : b < w.heap.size := by omega
      obtain ⟨c0, c1, c2⟩ := hc j hlt
      have d0 := (HBW.out.cell (p := ⟨b, off + j * 3, none⟩) hlb).trans c0
      have d1 := (HBW.out.cell (p := ⟨b, off + j * 3 + 1, none⟩) hlb).trans c1
      have d2 := (HBW.out.cell (p := ⟨b, off + j * 3 + 2, none⟩) hlb).trans c2
      obtain ⟨q, hq, hv⟩ := HV.out
      have hd := drop_sp (l := l) (j := j) (by rw [HLN.out]; exact hlt)
      rw [hd] at hv
      have HPV : Hid (∀ i, j = i + 1 → wr.cell? ⟨b, off + i * 3, none⟩ = some (.int .i64 (l.getD i ⟨0, 0, 0⟩).k)) := Lib.hid fun i hi => (HBW.out.cell (p := ⟨b, off + i * 3, none⟩) hlb).trans (hc i (by omega)).1
      have HSJ := Lib.hid (show (l.getD (j + 1 - 1) ⟨0, 0, 0⟩).k = (l.getD j ⟨0, 0, 0⟩).k from rfl)
      obtain ⟨s, hs⟩ : ∃ s, s = l.getD j ⟨0, 0, 0⟩ := ⟨_, rfl⟩
      rw [← hs] at d0 d1 d2 hv HSJ
      have HSS := Lib.hid hs
      clear hs
      obtain ⟨sk, slo, shi⟩ := s
      simp only at d0 d1 d2
      have HVV := Lib.hid hv
      have x1 : (0 : Int) ≤ (j : Int) := by omega
      have x2 : (j : Int) < (n : Int) := by omega
      have HPQ := Lib.hid hq
      clear hc c0 c1 c2 hd hv HV hb hlb
      by_cases b1 : sk < 0
      · have t1 : decide (sk < 0) = true := by simpa using b1
        have UU : Hid (sk ≤ q) := Lib.hid (by omega)
        clear b1 hq
        have HFV : Hid (V = false) := Lib.hid (by have hv := HVV.out; rw [right_bad (by have := UU.out; simp only [Bool.or_eq_true, decide_eq_true_eq]; omega)] at hv; exact hv)
        clear HVV
        go_wp2_with fail
        go_quiet (fail)
        go_wp2
        go_ret
        exact badB HFV.out (bdrewN HBW.out _)
      have t1 : decide (sk < 0) = false := by simpa using b1
      by_cases b2 : 255 < sk
      · have t2 : decide (255 < sk) = true := by simpa using b2
        have UU := Lib.hid b2
        clear b2 hq
        have HFV : Hid (V = false) := Lib.hid (by have hv := HVV.out; rw [right_bad (by have := UU.out; simp only [Bool.or_eq_true, decide_eq_true_eq]; omega)] at hv; exact hv)
        clear HVV
        go_wp2_with fail
        go_quiet (fail)
        go_wp2
        go_ret
        exact badB HFV.out (bdrewN HBW.out _)
      have t2 : decide (255 < sk) = false := by simpa using b2
      by_cases hj0 : j = 0
      · have HQ0 : Hid (q = -1) := Lib.hid (by omega)
        have t0 : decide ((0 : Int) < (j : Int)) = false := by simp only [decide_eq_false_iff_not]; omega
        have t0' : decide (0 < j) = false := by simp only [decide_eq_false_iff_not]; omega
        obtain rfl : q = -1 := HQ0.out
        have HSK : Hid (0 ≤ sk ∧ sk = (l.getD (j + 1 - 1) ⟨0, 0, 0⟩).k) := Lib.hid ⟨by omega, by rw [HSJ.out]⟩
        clear hq HPQ HPV HQ0 hj0
        by_cases b0 : slo < 0
        · have u0 : decide (slo < 0) = true := by simpa using b0
          have UU := Lib.hid b0
          clear b0
          have HFV : Hid (V = false) := Lib.hid (by have hv := HVV.out; rw [right_bad (by have := UU.out; simp only [Bool.or_eq_true, decide_eq_true_eq]; omega)] at hv; exact hv)
          clear HVV
          go_wp2_with fail
          go_quiet (fail)
          go_wp2
          go_ret
          exact badB HFV.out (bdrewN HBW.out _)
        have u0 : decide (slo < 0) = false := by simpa using b0
        by_cases b1 : shi < slo
        · have u1 : decide (shi < slo) = true := by simpa using b1
          have UU := Lib.hid b1
          clear b1
          have HFV : Hid (V = false) := Lib.hid (by have hv := HVV.out; rw [right_bad (by have := UU.out; simp only [Bool.or_eq_true, decide_eq_true_eq]; omega)] at hv; exact hv)
          clear HVV
          go_wp2_with fail
          go_quiet (fail)
          go_wp2
          go_ret
          exact badB HFV.out (bdrewN HBW.out _)
        have u1 : decide (shi < slo) = false := by simpa using b1
        by_cases b2 : 255 < shi
        · have u2 : decide (255 < shi) = true := by simpa using b2
          have UU := Lib.hid b2
          clear b2
          have HFV : Hid (V = false) := Lib.hid (by have hv := HVV.out; rw [right_bad (by have := UU.out; simp only [Bool.or_eq_true, decide_eq_true_eq]; omega)] at hv; exact hv)
          clear HVV
          go_wp2_with fail
          go_quiet (fail)
          go_wp2
          go_ret
          exact badB HFV.out (bdrewN HBW.out _)
        have u2 : decide (255 < shi) = false := by simpa using b2
        have HFV : Hid (V = rightFrom sk (l.drop (j + 1))) := Lib.hid (by have hv := HVV.out; rw [right_on (by simp only [Bool.or_eq_false_iff, decide_eq_false_iff_not]; omega)] at hv; exact hv)
        clear HVV b0 b1 b2
        go_wp2_with fail
        go_quiet (fail)
        go_wp2
        go_roundw
        case rel => exact ⟨j + 1, by omega, by go_num, Lib.hid ⟨sk, Or.inr ⟨by omega, HSK.out⟩, HFV.out⟩, Lib.hid (bdrewN HBW.out _)⟩
        case measure => simp only [intOf]; omega
      · obtain ⟨i, rfl⟩ : ∃ i, j = i + 1 := ⟨j - 1, by omega⟩
        have HQP : Hid (0 ≤ q ∧ q = (l.getD i ⟨0, 0, 0⟩).k) := Lib.hid (HPQ.out.resolve_left (by omega)).2
        have e0 := HPV.out i rfl
        rw [← HQP.out.2] at e0
        have HSK : Hid (0 ≤ sk ∧ sk = (l.getD (i + 1 + 1 - 1) ⟨0, 0, 0⟩).k) := Lib.hid ⟨by omega, by rw [HSJ.out]⟩
        have y1 : (0 : Int) ≤ (i : Int) := by omega
        clear hq HPQ HPV hj0
        by_cases b3 : sk ≤ q
        · have t3 : decide (sk ≤ q) = true := by simpa using b3
          have UU := Lib.hid b3
          clear b3
          have HFV : Hid (V = false) := Lib.hid (by have hv := HVV.out; rw [right_bad (by have := UU.out; simp only [Bool.or_eq_true, decide_eq_true_eq]; omega)] at hv; exact hv)
          clear HVV
          go_wp2_with fail
          go_quiet (fail)
          go_wp2
          go_ret
          exact badB HFV.out (bdrewN HBW.out _)
        have t3 : decide (sk ≤ q) = false := by simpa using b3
        by_cases b0 : slo < 0
        · have u0 : decide (slo < 0) = true := by simpa using b0
          have UU := Lib.hid b0
          clear b0
          have HFV : Hid (V = false) := Lib.hid (by have hv := HVV.out; rw [right_bad (by have := UU.out; simp only [Bool.or_eq_true, decide_eq_true_eq]; omega)] at hv; exact hv)
          clear HVV
          go_wp2_with fail
          go_quiet (fail)
          go_wp2
          go_ret
          exact badB HFV.out (bdrewN HBW.out _)
        have u0 : decide (slo < 0) = false := by simpa using b0
        by_cases b1 : shi < slo
        · have u1 : decide (shi < slo) = true := by simpa using b1
          have UU := Lib.hid b1
          clear b1
          have HFV : Hid (V = false) := Lib.hid (by have hv := HVV.out; rw [right_bad (by have := UU.out; simp only [Bool.or_eq_true, decide_eq_true_eq]; omega)] at hv; exact hv)
          clear HVV
          go_wp2_with fail
          go_quiet (fail)
          go_wp2
          go_ret
          exact badB HFV.out (bdrewN HBW.out _)
        have u1 : decide (shi < slo) = false := by simpa using b1
        by_cases b2 : 255 < shi
        · have u2 : decide (255 < shi) = true := by simpa using b2
          have UU := Lib.hid b2
          clear b2
          have HFV : Hid (V = false) := Lib.hid (by have hv := HVV.out; rw [right_bad (by have := UU.out; simp only [Bool.or_eq_true, decide_eq_true_eq]; omega)] at hv; exact hv)
          clear HVV
          go_wp2_with fail
          go_quiet (fail)
          go_wp2
          go_ret
          exact badB HFV.out (bdrewN HBW.out _)
        have u2 : decide (255 < shi) = false := by simpa using b2
        have HFV : Hid (V = rightFrom sk (l.drop ((i + 1) + 1))) := Lib.hid (by have hv := HVV.out; rw [right_on (by simp only [Bool.or_eq_false_iff, decide_eq_false_iff_not]; omega)] at hv; exact hv)
        clear HVV b0 b1 b2
        clear b3
        go_wp2_with fail
        go_quiet (fail)
        go_wp2
        go_roundw
        case rel => exact ⟨i + 1 + 1, by omega, by go_num, Lib.hid ⟨sk, Or.inr ⟨by omega, HSK.out⟩, HFV.out⟩, Lib.hid (bdrewN HBW.out _)⟩
        case measure => simp only [intOf]; omega
    · have HFV : Hid (V = true) := Lib.hid (by
        obtain ⟨q, -, hv⟩ := HV.out
        rw [List.drop_eq_nil_of_le (by have := HLN.out; omega)] at hv
        exact hv)
      clear HV HR
      go_wp2
      go_ret
      exact badB HFV.out HBW.out
end Go.Proofs.YtlijagbklopipaaDoor
