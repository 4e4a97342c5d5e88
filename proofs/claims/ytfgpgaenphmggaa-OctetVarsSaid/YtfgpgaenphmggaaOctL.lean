/-
  The example that each statement of layer 1 begins with, and what is few.
-/
import Derived.Test.YtfgpgaenphmggaaOctR
namespace Go.Proofs.Ytfgpgaenphmggaa
open Go.RowKit
set_option linter.unusedVariables false

/-- A call that answers true and leaves what was there as it was. -/
def Yes (w : World) (e : Ending) (w' : World) : Prop := e = .returned (.bool true) ∧ Below w.heap.size w w'

theorem same_yes {w : World} {B : Nat} {A : Option Addr} {n c : Nat} {l : List UInt8} (h : Rd w B A n c l) {B2 : Nat} {A2 : Option Addr} {n2 c2 : Nat} {l2 : List UInt8} (h2 : Rd w B2 A2 n2 c2 l2) (hl : l = l2) :
    Calls Try.prog 17 #[.slice A n c, .slice A2 n2 c2] w (Tells w (.bool true)) := by
  have := same_ok h h2
  rw [beq_iff_eq.2 hl] at this
  exact this

theorem few_ok {w : World} {A : Option Addr} {n c : Nat} : Calls Try.prog 12 #[.slice A n c] w (Tells w (.bool (decide ((n : Int) ≤ 5000)))) := by
  go_enter Try.func12, Try.ntmps12
  go_wp2
  go_ret
  exact ⟨rfl, rfl⟩
theorem few_yes {w : World} {A : Option Addr} {n c : Nat} (h : n ≤ 5000) : Calls Try.prog 12 #[.slice A n c] w (Tells w (.bool true)) := by
  have := few_ok (w := w) (A := A) (n := n) (c := c)
  rw [decide_eq_true (by omega)] at this
  exact this
theorem few_no {w : World} {A : Option Addr} {n c : Nat} (h : ¬ n ≤ 5000) : Calls Try.prog 12 #[.slice A n c] w (Tells w (.bool false)) := by
  have := few_ok (w := w) (A := A) (n := n) (c := c)
  rw [decide_eq_false (by omega)] at this
  exact this

theorem getV_ex : getV [216, 4] 0 = (300, 2, 0) := by decide +kernel
theorem enc_ex : enc (zig 300) = [216, 4] := by
  rw [show zig 300 = 600 from by decide, enc_ge (by omega), enc_lt (by omega)]
  decide
theorem enc_ex1 : enc (zig (-1)) = [1] := by
  rw [show zig (-1) = 1 from by decide, enc_lt (by omega)]
  decide

theorem live_ok (w : World) : Calls Try.prog 11 #[] w (Yes w) := by
  go_enter Try.func11, Try.ntmps11
  go_wp2_with fail
  refine (getVar_ok (Rd.lit w _ _ [216, 4] rfl (by decide)) 0).mono ?_
  rw [getV_ex]
  rintro e w1 ⟨rfl, rfl⟩
  simp only [three]
  go_wp2_with fail
  refine (putVar_ok (Rd.nil _ 0) (Nat.zero_le _) (by omega) 300 (by omega) (by omega)).mono ?_
  rintro e w2 ⟨A1, n1, c1, rfl, ho1, hb1⟩
  go_wp2_with fail
  have hr2 := Rd.lit w2 5 (bcs [216, 4]) [216, 4] rfl (by decide)
  refine (same_yes (ho1.rd.alloc (Nat.le_refl _) _) hr2 (by rw [enc_ex]; rfl)).mono ?_
  rintro e w3 ⟨rfl, rfl⟩
  go_wp2_with fail
  refine (putVar_ok (Rd.nil _ 0) (Nat.zero_le _) (by omega) (-1) (by omega) (by omega)).mono ?_
  rintro e w4 ⟨A2, n2, c2, rfl, ho2, hb2⟩
  go_wp2_with fail
  have hr4 := Rd.lit w4 5 (bcs [1]) [1] rfl (by decide)
  refine (same_yes (ho2.rd.alloc (Nat.le_refl _) _) hr4 (by rw [enc_ex1]; rfl)).mono ?_
  rintro e w5 ⟨rfl, rfl⟩
  go_wp2
  go_ret
  exact ⟨rfl, bput (bthen (bput (bthen (bput (Below.refl _ _) _) hb1) _) hb2) _⟩
end Go.Proofs.Ytfgpgaenphmggaa
