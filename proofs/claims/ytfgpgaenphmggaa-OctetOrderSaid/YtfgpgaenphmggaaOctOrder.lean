/-
  OctetOrder answers true and leaves what was there as it was, for every two numbers.
-/
import Derived.Deep.RegionWith
import Derived.Deep.DrawnRows
import Derived.Test.YtfgpgaenphmggaaOctL
import Derived.Test.YtfgpgaenphmggaaOctQ
namespace Go.Proofs.Ytfgpgaenphmggaa
open Go.RowKit
set_option linter.unusedVariables false
attribute [local go_sem ↓] Go.wp_at_zero Go.wp_at_succ

theorem put8_ok {w : World} (x : Nat) (hx : x < 18446744073709551616) :
    Calls Try.prog 19 #[.slice none 0 0, .int .u64 (x : Int), .int .i64 8] w (Gives w (be x 8)) := by
  have := put_ok (Rd.nil w 0) (Nat.zero_le _) (by omega) x hx 8 (by omega) (by omega)
  rw [List.nil_append] at this
  exact this

set_option maxRecDepth 100000 in
theorem octetOrder_walk {w : World} (m : Int) (hm : 0 ≤ m ∧ m ≤ 18446744073709551615) (n : Int) (hn : 0 ≤ n ∧ n ≤ 18446744073709551615) :
    Calls Try.prog 5 #[.int .u64 m, .int .u64 n] w (Yes w) := by
  obtain ⟨x, rfl⟩ := Int.eq_ofNat_of_zero_le hm.1
  obtain ⟨y, rfl⟩ := Int.eq_ofNat_of_zero_le hn.1
  have HX : Hid (x < 18446744073709551616) := by unfold Hid; omega
  have HY : Hid (y < 18446744073709551616) := by unfold Hid; omega
  have s1 := strOf_toList (be x 8)
  have s2 := strOf_toList (be y 8)
  have s3 : (strOf (be x 8)).size = 8 := by rw [strOf_size, be_length]
  have s4 : (strOf (be y 8)).size = 8 := by rw [strOf_size, be_length]
  have s5 : (Op.bytesLess (be x 8) (be y 8) == decide (x < y)) = true := by rw [be_less 8 x y HX.out HY.out]; simp
  have s6 : ((be x 8 == be y 8) == ((x : Int) == (y : Int))) = true := by
    rw [beq_iff_eq, Bool.eq_iff_iff]
    simp only [beq_iff_eq, be_inj 8 x y HX.out HY.out]
    omega
  clear hm hn
  go_enter Try.func5, Try.ntmps5
  go_wp2_with fail
  refine (live_ok w).mono ?_
  rintro e w1 ⟨rfl, b1⟩
  go_wp2_with fail
  go_region_with (first
    | (go_at_call 19; (with_reducible refine (put8_ok x HX.out).mono ?_); rintro e w2 ⟨A2, n2, c2, rfl, ho2, hb2⟩; have b2 := bthen b1.drew hb2; have k2 := run_str (P := Try.prog) (src := 22) (dst := 9) Try.underlying22 Try.underlying5 Try.underlying9 ho2.rd)
    | (go_at_call 19; (with_reducible refine (put8_ok y HY.out).mono ?_); rintro e w3 ⟨A3, n3, c3, rfl, ho3, hb3⟩; have b3 := bthen b2 hb3; have k3 := run_str (P := Try.prog) (src := 22) (dst := 9) Try.underlying22 Try.underlying5 Try.underlying9 ho3.rd; have k4 := run_str (P := Try.prog) (src := 22) (dst := 9) Try.underlying22 Try.underlying5 Try.underlying9 (ho2.step hb3).rd))
  all_goals
    go_wp2
    go_ret
    exact ⟨rfl, b3⟩
end Go.Proofs.Ytfgpgaenphmggaa
