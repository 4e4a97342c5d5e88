/-
  Contracts of layer 6: Agree; lists of spans that are the same. Conditions: those that each states.
-/
import Derived.Test.YtlijagbklopipaaDoorSpnC
namespace Go.Proofs.YtlijagbklopipaaDoor
open Go.RowKit
set_option linter.unusedVariables false

set_option maxHeartbeats 1000000 in
theorem p_agree_bad {w : World} {A : Option Addr} {n c : Nat} {l : List Sp} (h : Rp w w.heap.size A n c l) {A' : Option Addr} {n' c' : Nat} {l' : List Sp} (h' : Rp w w.heap.size A' n' c' l') (hr : (!rightL l || !rightL l') = true) :
    Calls Tryd.prog 27 #[.slice A n c, .slice A' n' c'] w (Agrees w ([], 1)) := by
  have HC := Lib.hid (p_right_ok h (Nat.le_refl _))
  have HC' := Lib.hid (fun w' hb => p_right_ok (h'.below hb) (w := w') hb.size)
  clear h h'
  generalize rightL l = a at *
  generalize rightL l' = b at *
  cases a with
  | false =>
    go_enter Tryd.func27, Tryd.ntmps27
    go_wp2_with fail
    refine HC.out.mono ?_
    rintro e w1 ⟨rfl, hb1⟩
    go_wp2
    go_ret2
    exact ⟨_, _, _, rfl, Osp.nil _ _ _, hb1⟩
  | true =>
    obtain rfl : b = false := by simpa using hr
    go_enter Tryd.func27, Tryd.ntmps27
    go_wp2_with fail
    refine HC.out.mono ?_
    rintro e w1 ⟨rfl, hb1⟩
    go_wp2_with fail
    refine (HC'.out w1 hb1).mono ?_
    rintro e w2 ⟨rfl, hb2⟩
    go_wp2
    go_ret2
    exact ⟨_, _, _, rfl, Osp.nil _ _ _, bthen hb1 hb2⟩
theorem p_agree_ok {w : World} {A : Option Addr} {n c : Nat} {l : List Sp} (h : Rp w w.heap.size A n c l) {A' : Option Addr} {n' c' : Nat} {l' : List Sp} (h' : Rp w w.heap.size A' n' c' l') (hn : n ≤ 1000000) :
    Calls Tryd.prog 27 #[.slice A n c, .slice A' n' c'] w (Agrees w (agreeL l l')) := by
  unfold agreeL
  by_cases hr : (!rightL l || !rightL l') = true
  · rw [if_pos hr]
    exact p_agree_bad h h' hr
  · rw [if_neg hr]
    simp only [Bool.or_eq_true, not_or, Bool.not_eq_true, Bool.not_eq_false'] at hr
    exact p_agree_main h h' hn hr.1 hr.2

set_option maxHeartbeats 2000000 in
theorem same_spans {w : World} {B : Nat} {A : Option Addr} {n c : Nat} {l : List Sp} (h : Rp w B A n c l) {A' : Option Addr} {n' c' : Nat} (h' : Rp w B A' n' c' l) (hB : B ≤ w.heap.size) :
    Calls Tryd.prog 29 #[.slice A n c, .slice A' n' c'] w (Says w (.bool true)) := by
  have hlen := h.len
  obtain rfl : n' = n := by rw [← h'.len]; exact hlen
  have hcap := h.cap
  have htop := h.top
  have hcap' := h'.cap
  have htop' := h'.top
  go_enter Tryd.func29, Tryd.ntmps29
  go_wp2_with fail
  go_loopw [5] (fun i wr => ∃ j : Nat, j ≤ n' ∧ i = .int .i64 j ∧ Below w.heap.size w wr) (fun i _ => n' - (intOf i).toNat)
  case atStart => exact ⟨0, by omega, rfl, Below.refl _ w⟩
  case round =>
    obtain ⟨j, hj, rfl, hbw⟩ := hrel
    by_cases hlt : j < n'
    · obtain ⟨b, off, rfl, hb, hc⟩ := (h.step hbw hB).cells (by omega)
      obtain ⟨b', off', rfl, hb', hc'⟩ := (h'.step hbw hB).cells (by omega)
      obtain ⟨a0, a1, a2⟩ := hc j hlt
      obtain ⟨b0, b1, b2⟩ := hc' j hlt
      generalize l.getD j ⟨0, 0, 0⟩ = s at *
      obtain ⟨sk, slo, shi⟩ := s
      simp only at a0 a1 a2 b0 b1 b2
      have HS : Hid (∀ w', Below wr.heap.size wr w' → (w'.cell? ⟨b, off + j * 3, none⟩ = some (.int .i64 sk) ∧ w'.cell? ⟨b, off + j * 3 + 1, none⟩ = some (.int .i64 slo) ∧ w'.cell? ⟨b, off + j * 3 + 2, none⟩ = some (.int .i64 shi) ∧
          w'.cell? ⟨b', off' + j * 3, none⟩ = some (.int .i64 sk) ∧ w'.cell? ⟨b', off' + j * 3 + 1, none⟩ = some (.int .i64 slo) ∧ w'.cell? ⟨b', off' + j * 3 + 2, none⟩ = some (.int .i64 shi))) := Lib.hid fun w' hb2 => by
        have l1 := block_lt_of_cell a0
        have l2 := block_lt_of_cell b0
        exact ⟨(hb2.cell (p := ⟨b, off + j * 3, none⟩) l1).trans a0, (hb2.cell (p := ⟨b, off + j * 3 + 1, none⟩) l1).trans a1, (hb2.cell (p := ⟨b, off + j * 3 + 2, none⟩) l1).trans a2,
          (hb2.cell (p := ⟨b', off' + j * 3, none⟩) l2).trans b0, (hb2.cell (p := ⟨b', off' + j * 3 + 1, none⟩) l2).trans b1, (hb2.cell (p := ⟨b', off' + j * 3 + 2, none⟩) l2).trans b2⟩
      have z0 := (Below.refl wr.heap.size wr).drew
      have x1 : (0 : Int) ≤ (j : Int) := by omega
      have x2 : (j : Int) < (n' : Int) := by omega
      have HBW := Lib.hid hbw
      clear hc hc' a0 a1 a2 b0 b1 b2 h h' hbw
      go_wp2_with fail
      go_region_held3 (fun w' => (w'.cell? ⟨b, off + j * 3, none⟩ = some (.int .i64 sk) ∧ w'.cell? ⟨b, off + j * 3 + 1, none⟩ = some (.int .i64 slo) ∧ w'.cell? ⟨b, off + j * 3 + 2, none⟩ = some (.int .i64 shi) ∧
          w'.cell? ⟨b', off' + j * 3, none⟩ = some (.int .i64 sk) ∧ w'.cell? ⟨b', off' + j * 3 + 1, none⟩ = some (.int .i64 slo) ∧ w'.cell? ⟨b', off' + j * 3 + 2, none⟩ = some (.int .i64 shi))) (first | exact HS.out _ z0 | fail) (fail)
      go_wp2
      go_roundw
      case rel => exact ⟨j + 1, by omega, by go_num, HBW.out.drew⟩
      case measure => simp only [intOf]; omega
    · have hjn : j = n' := by omega
      have HBW := Lib.hid hbw
      clear hbw
      go_wp2
      go_ret
      exact ⟨rfl, HBW.out⟩
end Go.Proofs.YtlijagbklopipaaDoor
