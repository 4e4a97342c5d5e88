/-
  Contracts of layer 6: may spans be; which versions there are. Conditions: those that each states.
-/
import Derived.Test.YtlijagbklopipaaDoorSpnA
namespace Go.Proofs.YtlijagbklopipaaDoor
open Go.RowKit
set_option linter.unusedVariables false

theorem drop_sp {l : List Sp} {j : Nat} (h : j < l.length) : l.drop j = l.getD j ⟨0, 0, 0⟩ :: l.drop (j + 1) := by
  rw [List.drop_eq_getElem_cons h]
  simp [List.getD, h]
theorem right_bad {q : Int} {s : Sp} {l : List Sp} (h : (decide (s.k ≤ q) || decide (255 < s.k) || decide (s.lo < 0) || decide (s.hi < s.lo) || decide (255 < s.hi)) = true) : rightFrom q (s :: l) = false := by
  simp only [rightFrom, h, Bool.not_true, Bool.false_and]
theorem right_on {q : Int} {s : Sp} {l : List Sp} (h : (decide (s.k ≤ q) || decide (255 < s.k) || decide (s.lo < 0) || decide (s.hi < s.lo) || decide (255 < s.hi)) = false) : rightFrom q (s :: l) = rightFrom s.k l := by
  simp only [rightFrom, h, Bool.not_false, Bool.true_and]

set_option maxHeartbeats 2000000 in
theorem p_right_ok {w : World} {B : Nat} {A : Option Addr} {n c : Nat} {l : List Sp} (h : Rp w B A n c l) (hB : B ≤ w.heap.size) :
    Calls Tryd.prog 76 #[.slice A n c] w (Says w (.bool (rightL l))) := by
  have hlen := h.len
  have hcap := h.cap
  have htop := h.top
  have HA : Hid (rightL l = rightFrom (-1) (l.drop 0)) := by rw [List.drop_zero]; exact rfl
  generalize rightL l = V at *
  go_enter Tryd.func76, Tryd.ntmps76
  go_wp2_with fail
  go_loopw [3, 8] (fun la i wr => ∃ (j : Nat) (q : Int), j ≤ n ∧ i = .int .i64 j ∧ la = .int .i64 q ∧ Hid (V = rightFrom q (l.drop j)) ∧ Below w.heap.size w wr) (fun _ i _ => n - (intOf i).toNat)
  case atStart => exact ⟨0, -1, by omega, rfl, rfl, HA, Below.refl _ w⟩
  case round =>
    obtain ⟨j, q, hj, rfl, rfl, HV, hbw⟩ := hrel
    clear HA
    by_cases hlt : j < n
    · obtain ⟨b, off, rfl, hb, hc⟩ := h.cells (by omega)
      have hlb : b < w.heap.size := by omega
      obtain ⟨c0, c1, c2⟩ := hc j hlt
      have d0 := (hbw.cell (p := ⟨b, off + j * 3, none⟩) hlb).trans c0
      have d1 := (hbw.cell (p := ⟨b, off + j * 3 + 1, none⟩) hlb).trans c1
      have d2 := (hbw.cell (p := ⟨b, off + j * 3 + 2, none⟩) hlb).trans c2
      have hd := drop_sp (l := l) (j := j) (by omega)
      have hv := HV.out
      rw [hd] at hv
      generalize l.getD j ⟨0, 0, 0⟩ = s at *
      obtain ⟨sk, slo, shi⟩ := s
      simp only at d0 d1 d2
      have HBW := Lib.hid (bput hbw (.cells #[.int .i64 sk, .int .i64 slo, .int .i64 shi] 54))
      have HVV := Lib.hid hv
      clear hc c0 c1 c2 h hd hv hbw HV
      by_cases b1 : sk ≤ q
      · have t1 : decide (sk ≤ q) = true := by simpa using b1
        have hv := HVV.out
        rw [right_bad (by simp only [t1]; rfl)] at hv
        subst hv
        clear HVV b1
        go_wp2
        go_ret
        exact ⟨rfl, HBW.out⟩
      have t1 : decide (sk ≤ q) = false := by simpa using b1
      by_cases b2 : 255 < sk
      · have t2 : decide (255 < sk) = true := by simpa using b2
        have hv := HVV.out
        rw [right_bad (by simp only [t1, t2]; rfl)] at hv
        subst hv
        clear HVV b1 b2
        go_wp2
        go_ret
        exact ⟨rfl, HBW.out⟩
      have t2 : decide (255 < sk) = false := by simpa using b2
      by_cases b3 : slo < 0
      · have t3 : decide (slo < 0) = true := by simpa using b3
        have hv := HVV.out
        rw [right_bad (by simp only [t1, t2, t3]; rfl)] at hv
        subst hv
        clear HVV b1 b2 b3
        go_wp2
        go_ret
        exact ⟨rfl, HBW.out⟩
      have t3 : decide (slo < 0) = false := by simpa using b3
      by_cases b4 : shi < slo
      · have t4 : decide (shi < slo) = true := by simpa using b4
        have hv := HVV.out
        rw [right_bad (by simp only [t1, t2, t3, t4]; rfl)] at hv
        subst hv
        clear HVV b1 b2 b3 b4
        go_wp2
        go_ret
        exact ⟨rfl, HBW.out⟩
      have t4 : decide (shi < slo) = false := by simpa using b4
      by_cases b5 : 255 < shi
      · have t5 : decide (255 < shi) = true := by simpa using b5
        have hv := HVV.out
        rw [right_bad (by simp only [t1, t2, t3, t4, t5]; rfl)] at hv
        subst hv
        clear HVV b1 b2 b3 b4 b5
        go_wp2
        go_ret
        exact ⟨rfl, HBW.out⟩
      have t5 : decide (255 < shi) = false := by simpa using b5
      have hv := HVV.out
      rw [right_on (by simp only [t1, t2, t3, t4, t5]; rfl)] at hv
      have HW := Lib.hid hv
      clear hv HVV b1 b2 b3 b4 b5
      go_wp2
      go_roundw
      case rel => exact ⟨j + 1, sk, by omega, by go_num, rfl, HW, HBW.out⟩
      case measure => simp only [intOf]; omega
    · have hjn : j = n := by omega
      have hv := HV.out
      rw [List.drop_eq_nil_of_le (by omega)] at hv
      simp only [rightFrom] at hv
      subst hv
      have HBW := Lib.hid hbw
      clear HV hbw
      go_wp2
      go_ret
      exact ⟨rfl, HBW.out⟩

/-- The versions that there are. -/
def spansL (n : Nat) : List Sp := (List.range n).map fun (i : Nat) => (⟨(i : Int) + 1, 0, 2⟩ : Sp)
theorem spansL_snoc (n : Nat) : spansL n ++ [⟨(n : Int) + 1, 0, 2⟩] = spansL (n + 1) := by simp [spansL, List.range_succ]

def SpansPost (w : World) (e : Ending) (w' : World) : Prop := ∃ A n c, e = .returned (.slice A n c) ∧ Osp 54 w' w.heap.size A n c (spansL 12) ∧ Below w.heap.size w w'
set_option maxHeartbeats 2000000 in
theorem p_spans_ok (w : World) : Calls Tryd.prog 30 #[] w (SpansPost w) := by
  go_enter Tryd.func30, Tryd.ntmps30
  go_wp2_with fail
  go_loopw [1, 3] (fun v i wr => ∃ (j : Nat) (A : Option Addr) (c : Nat), j ≤ 12 ∧ i = .int .i64 j ∧ v = .slice A j c ∧ Hid (Osp 54 wr w.heap.size A j c (spansL j) ∧ Below w.heap.size w wr)) (fun _ i _ => 12 - (intOf i).toNat)
  case atStart => exact ⟨0, none, 0, by omega, rfl, rfl, Osp.nil _ _ _, Below.refl _ w⟩
  case round =>
    obtain ⟨j, A, c, hj, rfl, rfl, HX⟩ := hrel
    by_cases hlt : j < 12
    · have t1 : decide ((j : Int) < 12) = true := by simp only [decide_eq_true_eq]; omega
      go_wp2_with (at_builtin; go_must (refine wpList_appSp rfl (.tmp 6) (.tmp 10) rfl rfl HX.out.1 ⟨(j : Int) + 1, 0, 2⟩ rfl (by omega) HX.out.2.size ?_))
      intro A' c' w' ho hb
      rw [spansL_snoc] at ho
      have HY : Hid (Osp 54 w' w.heap.size A' (j + 1) c' (spansL (j + 1)) ∧ Below w.heap.size w w') := ⟨ho, HX.out.2.trans hb⟩
      clear ho hb HX
      go_wp2
      go_roundw
      case rel => exact ⟨j + 1, A', c', by omega, by go_num, rfl, HY⟩
      case measure => simp only [intOf]; omega
    · have hjn : j = 12 := by omega
      subst hjn
      go_wp2
      go_ret
      exact ⟨_, _, _, rfl, HX.out.1, HX.out.2⟩
end Go.Proofs.YtlijagbklopipaaDoor
