/-
  OctetSmall answers true and leaves what was there as it was, for every two numbers.
-/
import Derived.Test.YtfgpgaenphmggaaOctL
import Derived.Test.YtfgpgaenphmggaaOctQ
namespace Go.Proofs.Ytfgpgaenphmggaa
open Go.RowKit
set_option linter.unusedVariables false

theorem zig_le {m n : Int} (h : (0 ≤ m ∧ m ≤ n) ∨ (m < 0 ∧ n ≤ m)) : zig m ≤ zig n := by
  unfold zig
  split <;> split <;> omega
theorem zig_128 (m : Int) : zig m < 128 ↔ -64 ≤ m ∧ m ≤ 63 := by
  unfold zig
  split <;> omega

set_option maxRecDepth 100000 in
theorem octetSmall_walk {w : World} (m : Int) (hm : -9223372036854775808 ≤ m ∧ m ≤ 9223372036854775807) (n : Int) (hn : -9223372036854775808 ≤ n ∧ n ≤ 9223372036854775807) :
    Calls Try.prog 4 #[.int .i64 m, .int .i64 n] w (Yes w) := by
  go_enter Try.func4, Try.ntmps4
  go_wp2_with fail
  refine (live_ok w).mono ?_
  rintro e w1 ⟨rfl, b1⟩
  go_wp2_with fail
  refine (putVar_ok (Rd.nil _ 0) (Nat.zero_le _) (by omega) m hm.1 hm.2).mono ?_
  rintro e w2 ⟨A2, n2, c2, rfl, ho2, hb2⟩
  have b2 := bthen b1 hb2
  go_wp2_with fail
  refine (putVar_ok (Rd.nil _ 0) (Nat.zero_le _) (by omega) n hn.1 hn.2).mono ?_
  rintro e w3 ⟨A3, n3, c3, rfl, ho3, hb3⟩
  have b3 := bthen b2 hb3
  have l2 := ho2.len
  have l3 := ho3.len
  rw [List.nil_append] at l2 l3
  have u1 := enc_pos (zig m)
  have u2 := enc_ten (zig m) (zig_lt m hm.1 hm.2)
  have one := enc_one (zig m)
  rw [zig_128] at one
  have le : ((0 ≤ m ∧ m ≤ n) ∨ (m < 0 ∧ n ≤ m)) → n2 ≤ n3 := fun h => by rw [← l2, ← l3]; exact enc_mono _ _ (zig_le h)
  rw [l2] at u1 u2 one
  clear ho2 ho3 hb2 hb3 l2 l3 hm hn
  have p1 : decide ((n2 : Int) < 1) = false := by simp; omega
  have p2 : decide ((10 : Int) < (n2 : Int)) = false := by simp; omega
  have hc : (decide (-64 ≤ m) = true ∧ decide (m ≤ 63) = true ∧ ((n2 : Int) == 1) = true) ∨ (decide (-64 ≤ m) = true ∧ decide (m ≤ 63) = false ∧ ((n2 : Int) == 1) = false) ∨ (decide (-64 ≤ m) = false ∧ ((n2 : Int) == 1) = false) := by
    simp only [decide_eq_true_eq, decide_eq_false_iff_not, beq_iff_eq, beq_eq_false_iff_ne, ne_eq]
    omega
  have hd : (decide (0 ≤ m) = true ∧ decide (m ≤ n) = true ∧ decide (n2 ≤ n3) = true) ∨ (decide (0 ≤ m) = true ∧ decide (m < 0) = false ∧ decide (m ≤ n) = false) ∨
      (decide (0 ≤ m) = false ∧ decide (m < 0) = true ∧ decide (n ≤ m) = true ∧ decide (n2 ≤ n3) = true) ∨ (decide (0 ≤ m) = false ∧ decide (m < 0) = true ∧ decide (n ≤ m) = false) := by
    simp only [decide_eq_true_eq, decide_eq_false_iff_not]
    omega
  clear one le u1 u2
  rcases hc with ⟨c1, c2, c3⟩ | ⟨c1, c2, c3⟩ | ⟨c1, c3⟩ <;> rcases hd with ⟨d1, d2, d3⟩ | ⟨d1, d2, d3⟩ | ⟨d1, d2, d3, d4⟩ | ⟨d1, d2, d3⟩
  all_goals
    go_wp2
    go_ret
    exact ⟨rfl, b3⟩
end Go.Proofs.Ytfgpgaenphmggaa
