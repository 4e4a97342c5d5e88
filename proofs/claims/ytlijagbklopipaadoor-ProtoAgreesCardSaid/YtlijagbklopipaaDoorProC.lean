/-
  Contracts of layer 6's document: are two lists of numbers, of texts, the same.
-/
import Derived.BigQuiet
import Derived.Deep.DrawnRows
import Derived.Deep.QuietTactic
import Derived.Deep.RegionHeld3
import Derived.Test.YtlijagbklopipaaDoorProA
namespace Go.Proofs.YtlijagbklopipaaDoor
open Go.RowKit
set_option linter.unusedVariables false

theorem same_drop {α : Type} [DecidableEq α] (d : α) {l m : List α} {j : Nat} (h : j < l.length) (h' : j < m.length) : decide (l.drop j = m.drop j) = (decide (l.getD j d = m.getD j d) && decide (l.drop (j + 1) = m.drop (j + 1))) := by
  have e1 : l.getD j d = l[j] := by simp [List.getD, h]
  have e2 : m.getD j d = m[j] := by simp [List.getD, h']
  rw [List.drop_eq_getElem_cons h, List.drop_eq_getElem_cons h', e1, e2, Bool.eq_iff_iff]
  simp only [decide_eq_true_eq, Bool.and_eq_true, List.cons.injEq]

theorem rints_same {w : World} {B B' : Nat} {A A' : Option Addr} {n c m c' : Nat} {zs ys : List (Int)} (h : Rx w B A n c (iv zs)) (h' : Rx w B' A' m c' (iv ys)) (hB : B ≤ w.heap.size) (hB' : B' ≤ w.heap.size) :
    Calls Tryd.prog 69 #[.slice A n c, .slice A' m c'] w (Says w (.bool (decide (zs = ys)))) := by
  have hlen := h.len
  rw [iv_len] at hlen
  have hlen' := h'.len
  rw [iv_len] at hlen'
  have htop := h.top
  have hcap := h.cap
  have htop' := h'.top
  have hcap' := h'.cap
  by_cases hnm : n = m
  case neg =>
    have t1 : ((n : Int) != (m : Int)) = true := by simp; omega
    have hv : decide (zs = ys) = false := decide_eq_false fun e => hnm (by rw [← hlen, ← hlen', e])
    rw [hv]
    clear hv
    go_enter Tryd.func69, Tryd.ntmps69
    go_wp2
    go_ret
    exact ⟨rfl, Below.refl _ w⟩
  subst hnm
  have t1 : ((n : Int) != (n : Int)) = false := by simp
  have HA : Hid (decide (zs = ys) = decide (zs.drop 0 = ys.drop 0)) := by rw [List.drop_zero, List.drop_zero]; exact rfl
  generalize decide (zs = ys) = V at *
  go_enter Tryd.func69, Tryd.ntmps69
  go_wp2_with fail
  go_loopw [5] (fun i wr => ∃ j : Nat, j ≤ n ∧ i = .int .i64 j ∧ Hid (V = decide (zs.drop j = ys.drop j)) ∧ Below w.heap.size w wr) (fun i _ => n - (intOf i).toNat)
  case atStart => exact ⟨0, by omega, rfl, HA, Below.refl _ w⟩
  case round =>
    obtain ⟨j, hj, rfl, HV, hbw⟩ := hrel
    replace h := h.below (hbw.mono hB)
    replace h' := h'.below (hbw.mono hB')
    have HBW := Lib.hid hbw
    clear hbw
    clear HA
    by_cases hlt : j < n
    · obtain ⟨b, off, rfl, hb, hc⟩ := h.cells (by omega)
      obtain ⟨b', off', rfl, hb', hc'⟩ := h'.cells (by omega)
      have hcell := hc j hlt
      rw [iv_at (by omega)] at hcell
      have hcell' := hc' j hlt
      rw [iv_at (by omega)] at hcell'
      have hn := same_drop 0 (l := zs) (m := ys) (j := j) (by omega) (by omega)
      generalize zs.getD j 0 = x at *
      generalize ys.getD j 0 = y at *
      have hxy : decide (x = y) = (x == y) := rfl
      rw [hxy] at hn
      have HN := Lib.hid hn
      clear hc hc' h h' hn hxy
      by_cases hq : (x == y) = true
      · have t2 : (x != y) = false := by simp only [bne, hq]; rfl
        have HW : Hid (V = decide (zs.drop (j + 1) = ys.drop (j + 1))) := by
          have hv := HV.out
          rw [HN.out, hq, Bool.true_and] at hv
          exact hv
        clear HV HN hq
        go_wp2_with fail
        go_region
        all_goals
          go_wp2
          go_roundw
        case rel => exact ⟨j + 1, by omega, by go_num, HW, HBW.out.drew⟩
        case measure => simp only [intOf]; omega
      · have hq' : (x == y) = false := by simpa using hq
        have t2 : (x != y) = true := by simp only [bne, hq']; rfl
        have hv := HV.out
        rw [HN.out, hq', Bool.false_and] at hv
        subst hv
        clear HV HN hq hq'
        go_wp2_with fail
        go_region
        all_goals
          go_wp2
          go_ret
          exact ⟨rfl, HBW.out.drew⟩
    · have hjn : j = n := by omega
      have hv := HV.out
      rw [List.drop_eq_nil_of_le (by omega), List.drop_eq_nil_of_le (by omega)] at hv
      simp only [decide_true] at hv
      subst hv
      clear HV
      go_wp2
      go_ret
      exact ⟨rfl, HBW.out⟩

theorem rtexts_same {w : World} {B B' : Nat} {A A' : Option Addr} {n c m c' : Nat} {zs ys : List (List UInt8)} (h : Rx w B A n c (sv zs)) (h' : Rx w B' A' m c' (sv ys)) (hB : B ≤ w.heap.size) (hB' : B' ≤ w.heap.size) :
    Calls Tryd.prog 70 #[.slice A n c, .slice A' m c'] w (Says w (.bool (decide (zs = ys)))) := by
  have hlen := h.len
  rw [sv_len] at hlen
  have hlen' := h'.len
  rw [sv_len] at hlen'
  have htop := h.top
  have hcap := h.cap
  have htop' := h'.top
  have hcap' := h'.cap
  by_cases hnm : n = m
  case neg =>
    have t1 : ((n : Int) != (m : Int)) = true := by simp; omega
    have hv : decide (zs = ys) = false := decide_eq_false fun e => hnm (by rw [← hlen, ← hlen', e])
    rw [hv]
    clear hv
    go_enter Tryd.func70, Tryd.ntmps70
    go_wp2
    go_ret
    exact ⟨rfl, Below.refl _ w⟩
  subst hnm
  have t1 : ((n : Int) != (n : Int)) = false := by simp
  have HA : Hid (decide (zs = ys) = decide (zs.drop 0 = ys.drop 0)) := by rw [List.drop_zero, List.drop_zero]; exact rfl
  generalize decide (zs = ys) = V at *
  go_enter Tryd.func70, Tryd.ntmps70
  go_wp2_with fail
  go_loopw [5] (fun i wr => ∃ j : Nat, j ≤ n ∧ i = .int .i64 j ∧ Hid (V = decide (zs.drop j = ys.drop j)) ∧ Below w.heap.size w wr) (fun i _ => n - (intOf i).toNat)
  case atStart => exact ⟨0, by omega, rfl, HA, Below.refl _ w⟩
  case round =>
    obtain ⟨j, hj, rfl, HV, hbw⟩ := hrel
    replace h := h.below (hbw.mono hB)
    replace h' := h'.below (hbw.mono hB')
    have HBW := Lib.hid hbw
    clear hbw
    clear HA
    by_cases hlt : j < n
    · obtain ⟨b, off, rfl, hb, hc⟩ := h.cells (by omega)
      obtain ⟨b', off', rfl, hb', hc'⟩ := h'.cells (by omega)
      have hcell := hc j hlt
      rw [sv_at (by omega)] at hcell
      have hcell' := hc' j hlt
      rw [sv_at (by omega)] at hcell'
      have hn := same_drop [] (l := zs) (m := ys) (j := j) (by omega) (by omega)
      have hxy : decide (zs.getD j [] = ys.getD j []) = ((strOf (zs.getD j [])).toList == (strOf (ys.getD j [])).toList) := by
        rw [strOf_toList, strOf_toList, Bool.eq_iff_iff]
        simp
      generalize decide (zs.getD j [] = ys.getD j []) = dd at *
      generalize strOf (zs.getD j []) = x at *
      generalize strOf (ys.getD j []) = y at *
      rw [hxy] at hn
      have HN := Lib.hid hn
      clear hc hc' h h' hn hxy
      by_cases hq : (x.toList == y.toList) = true
      · have t2 := hq
        have HW : Hid (V = decide (zs.drop (j + 1) = ys.drop (j + 1))) := by
          have hv := HV.out
          rw [HN.out, hq, Bool.true_and] at hv
          exact hv
        clear HV HN hq
        go_wp2_with fail
        go_region
        all_goals
          go_wp2
          go_roundw
        case rel => exact ⟨j + 1, by omega, by go_num, HW, HBW.out.drew⟩
        case measure => simp only [intOf]; omega
      · have hq' : (x.toList == y.toList) = false := by simpa using hq
        have t2 := hq'
        have hv := HV.out
        rw [HN.out, hq', Bool.false_and] at hv
        subst hv
        clear HV HN hq hq'
        go_wp2_with fail
        go_region
        all_goals
          go_wp2
          go_ret
          exact ⟨rfl, HBW.out.drew⟩
    · have hjn : j = n := by omega
      have hv := HV.out
      rw [List.drop_eq_nil_of_le (by omega), List.drop_eq_nil_of_le (by omega)] at hv
      simp only [decide_true] at hv
      subst hv
      clear HV
      go_wp2
      go_ret
      exact ⟨rfl, HBW.out⟩
end Go.Proofs.YtlijagbklopipaaDoor
