/-
  CrcTells, CrcJoins, CrcBehind and CrcGroups answer true and leave what was there as it was, for every input.
-/
import Derived.Test.YtcnljifbifidbaaCrcL
namespace Go.Proofs.Ytcnljifbifidbaa
open Go.RowKit
set_option linter.unusedVariables false
attribute [local go_sem ↓] Go.wp_at_zero Go.wp_at_succ

set_option maxRecDepth 100000 in
theorem crcTells_walk {w : World} {A : Option Addr} {n c : Nat} {l : List UInt8} (h : Rd w w.heap.size A n c l) :
    Calls Try.prog 3 #[.slice A n c] w (Yes w) := by
  by_cases hn : n ≤ 2000
  · have t1 : decide ((2000 : Int) < (n : Int)) = false := by simp only [decide_eq_false_iff_not]; omega
    go_enter Try.func3, Try.ntmps3
    go_wp2_with fail
    refine (live_ok w).mono ?_
    rintro e w1 ⟨rfl, b1⟩
    go_wp2_with fail
    refine (sum_ok (h.below b1) b1.size).mono ?_
    rintro e w2 ⟨rfl, hb2⟩
    have b2 := bthen b1 hb2
    go_wp2_with fail
    refine (rSum_ok (h.below b2)).mono ?_
    rintro e w3 ⟨rfl, rfl⟩
    generalize crc l = V at *
    go_wp2
    go_ret
    exact ⟨rfl, b2⟩
  · have t1 : decide ((2000 : Int) < (n : Int)) = true := by simp only [decide_eq_true_eq]; omega
    go_enter Try.func3, Try.ntmps3
    go_wp2_with fail
    refine (live_ok w).mono ?_
    rintro e w1 ⟨rfl, b1⟩
    go_wp2
    go_ret
    exact ⟨rfl, b1⟩

theorem join_at {w : World} {a b V : Int} (ha : 0 ≤ a ∧ a ≤ 4294967295) (hb : 0 ≤ b ∧ b ≤ 4294967295) (n : Int) (hV : ((join a.toNat b.toNat n : Nat) : Int) = V) :
    Calls Try.prog 20 #[.int .u32 a, .int .u32 b, .int .i64 n] w (Tells w (.int .u32 V)) := by
  subst hV
  obtain ⟨x, rfl⟩ := Int.eq_ofNat_of_zero_le ha.1
  obtain ⟨y, rfl⟩ := Int.eq_ofNat_of_zero_le hb.1
  exact join_ok x y (by omega) (by omega) n
theorem rJoin_at {w : World} {a b V : Int} (ha : 0 ≤ a ∧ a ≤ 4294967295) (hb : 0 ≤ b ∧ b ≤ 4294967295) (n : Int) (hV : ((join a.toNat b.toNat n : Nat) : Int) = V) :
    Calls Try.prog 21 #[.int .u32 a, .int .u32 b, .int .i64 n] w (Tells w (.int .u32 V)) := by
  subst hV
  obtain ⟨x, rfl⟩ := Int.eq_ofNat_of_zero_le ha.1
  obtain ⟨y, rfl⟩ := Int.eq_ofNat_of_zero_le hb.1
  exact rJoin_ok x y (by omega) (by omega) n
theorem crcJoins_walk {w : World} (a : Int) (ha : 0 ≤ a ∧ a ≤ 4294967295) (b : Int) (hb : 0 ≤ b ∧ b ≤ 4294967295) (n : Int) (hn : -9223372036854775808 ≤ n ∧ n ≤ 9223372036854775807) :
    Calls Try.prog 9 #[.int .u32 a, .int .u32 b, .int .i64 n] w (Yes w) := by
  have HA := Lib.hid ha
  have HB := Lib.hid hb
  clear ha hb hn
  obtain ⟨V, hV⟩ : ∃ V, ((join a.toNat b.toNat n : Nat) : Int) = V := ⟨_, rfl⟩
  have HV := Lib.hid hV
  clear hV
  go_enter Try.func9, Try.ntmps9
  go_wp2_with fail
  refine (live_ok w).mono ?_
  rintro e w1 ⟨rfl, b1⟩
  go_wp2_with fail
  refine (join_at HA.out HB.out n HV.out).mono ?_
  rintro e w2 ⟨rfl, rfl⟩
  go_wp2_with fail
  refine (rJoin_at HA.out HB.out n HV.out).mono ?_
  rintro e w2 ⟨rfl, rfl⟩
  go_wp2
  go_ret
  exact ⟨rfl, b1⟩

theorem joined_lt {a b : Nat} (ha : a < 2 ^ 32) (hb : b < 2 ^ 32) (n : Int) : join a b n < 2 ^ 32 := by
  unfold join
  split
  · omega
  · exact Nat.xor_lt_two_pow (its_lt _ ha) hb

set_option maxRecDepth 100000 in
theorem crcBehind_walk {w : World} {A : Option Addr} {n c : Nat} {l : List UInt8} (h : Rd w w.heap.size A n c l) {A' : Option Addr} {n' c' : Nat} {l' : List UInt8} (h' : Rd w w.heap.size A' n' c' l') :
    Calls Try.prog 10 #[.slice A n c, .slice A' n' c'] w (Yes w) := by
  have hl := h.len
  have hl' := h'.len
  by_cases hn : n ≤ 2000
  · have t1 : decide ((2000 : Int) < (n : Int)) = false := by simp only [decide_eq_false_iff_not]; omega
    by_cases hn' : n' ≤ 2000
    · have t2 : decide ((2000 : Int) < (n' : Int)) = false := by simp only [decide_eq_false_iff_not]; omega
      have HJ := Lib.hid (crc_behind l l' (by omega))
      rw [hl'] at HJ
      go_enter Try.func10, Try.ntmps10
      go_wp2_with fail
      refine (live_ok w).mono ?_
      rintro e w1 ⟨rfl, b1⟩
      have hown : Own (w1.alloc (.cells #[] 5)) w.heap.size (some ⟨w1.heap.size, 0, none⟩) 0 0 [] := Ob.made w1 b1.size
      have b1' := bput b1 (.cells #[] 5)
      go_wp2_with (at_builtin; refine wpList_app rfl (.tmp 19) (.tmp 20) rfl Try.underlying22 byteInfo rfl hown rfl (h.below b1') ?_ ?_ ?_)
      · omega
      · exact b1'.size
      · intro A2 c2 w2 ho2 hb2
        have b2 := b1'.trans hb2
        go_wp2_with (at_builtin; refine wpList_app rfl (.tmp 21) (.tmp 22) rfl Try.underlying22 byteInfo rfl ho2 rfl (h'.below b2) ?_ ?_ ?_)
        · omega
        · exact b2.size
        · intro A3 c3 w3 ho3 hb3
          have b3 := b2.trans hb3
          go_wp2_with fail
          refine (sum_ok ho3.rd (Nat.le_refl _)).mono ?_
          rintro e w4 ⟨rfl, hb4⟩
          have b4 := bthen b3 hb4
          go_wp2_with fail
          refine (sum_ok (h.below b4) b4.size).mono ?_
          rintro e w5 ⟨rfl, hb5⟩
          have b5 := bthen b4 hb5
          go_wp2_with fail
          refine (sum_ok (h'.below b5) b5.size).mono ?_
          rintro e w6 ⟨rfl, hb6⟩
          have b6 := bthen b5 hb6
          go_wp2_with fail
          refine (join_ok (crc l) (crc l') (crc_lt _) (crc_lt _) (n' : Int)).mono ?_
          rintro e w7 ⟨rfl, rfl⟩
          rw [HJ.out]
          generalize join (crc l) (crc l') (n' : Int) = V at *
          go_wp2
          go_ret
          exact ⟨rfl, b6⟩
    · have t2 : decide ((2000 : Int) < (n' : Int)) = true := by simp only [decide_eq_true_eq]; omega
      go_enter Try.func10, Try.ntmps10
      go_wp2_with fail
      refine (live_ok w).mono ?_
      rintro e w1 ⟨rfl, b1⟩
      go_wp2
      go_ret
      exact ⟨rfl, b1⟩
  · have t1 : decide ((2000 : Int) < (n : Int)) = true := by simp only [decide_eq_true_eq]; omega
    go_enter Try.func10, Try.ntmps10
    go_wp2_with fail
    refine (live_ok w).mono ?_
    rintro e w1 ⟨rfl, b1⟩
    go_wp2
    go_ret
    exact ⟨rfl, b1⟩


set_option maxRecDepth 100000 in
theorem crcGroups_walk {w : World} (a : Int) (ha : 0 ≤ a ∧ a ≤ 4294967295) (b : Int) (hb : 0 ≤ b ∧ b ≤ 4294967295) (c : Int) (hc : 0 ≤ c ∧ c ≤ 4294967295) (n : Int) (hn : -9223372036854775808 ≤ n ∧ n ≤ 9223372036854775807) (m : Int) (hm : -9223372036854775808 ≤ m ∧ m ≤ 9223372036854775807) :
    Calls Try.prog 11 #[.int .u32 a, .int .u32 b, .int .u32 c, .int .i64 n, .int .i64 m] w (Yes w) := by
  have HA := Lib.hid ha
  have HB := Lib.hid hb
  have HC := Lib.hid hc
  by_cases h1 : n < 0
  · have t1 : decide (n < 0) = true := by simp only [decide_eq_true_eq]; omega
    clear ha hb hc hn hm
    go_enter Try.func11, Try.ntmps11
    go_wp2_with fail
    refine (live_ok w).mono ?_
    rintro e w1 ⟨rfl, b1⟩
    go_wp2
    go_ret
    exact ⟨rfl, b1⟩
  have t1 : decide (n < 0) = false := by simp only [decide_eq_false_iff_not]; omega
  by_cases h2 : m < 0
  · have t2 : decide (m < 0) = true := by simp only [decide_eq_true_eq]; omega
    clear ha hb hc hn hm
    go_enter Try.func11, Try.ntmps11
    go_wp2_with fail
    refine (live_ok w).mono ?_
    rintro e w1 ⟨rfl, b1⟩
    go_wp2
    go_ret
    exact ⟨rfl, b1⟩
  have t2 : decide (m < 0) = false := by simp only [decide_eq_false_iff_not]; omega
  by_cases h3 : 4096 < n
  · have t3 : decide (4096 < n) = true := by simp only [decide_eq_true_eq]; omega
    clear ha hb hc hn hm
    go_enter Try.func11, Try.ntmps11
    go_wp2_with fail
    refine (live_ok w).mono ?_
    rintro e w1 ⟨rfl, b1⟩
    go_wp2
    go_ret
    exact ⟨rfl, b1⟩
  have t3 : decide (4096 < n) = false := by simp only [decide_eq_false_iff_not]; omega
  by_cases h4 : 4096 < m
  · have t4 : decide (4096 < m) = true := by simp only [decide_eq_true_eq]; omega
    clear ha hb hc hn hm
    go_enter Try.func11, Try.ntmps11
    go_wp2_with fail
    refine (live_ok w).mono ?_
    rintro e w1 ⟨rfl, b1⟩
    go_wp2
    go_ret
    exact ⟨rfl, b1⟩
  have t4 : decide (4096 < m) = false := by simp only [decide_eq_false_iff_not]; omega
  have hw : IntKind.i64.wrap (n + m) = n + m := IntWalk.i64_in _ (by omega)
  by_cases h5 : 4096 < n + m
  · have t5 : decide (4096 < n + m) = true := by simp only [decide_eq_true_eq]; omega
    clear ha hb hc hn hm
    go_enter Try.func11, Try.ntmps11
    go_wp2_with fail
    refine (live_ok w).mono ?_
    rintro e w1 ⟨rfl, b1⟩
    go_wp2
    go_ret
    exact ⟨rfl, b1⟩
  have t5 : decide (4096 < n + m) = false := by simp only [decide_eq_false_iff_not]; omega
  obtain ⟨x, rfl⟩ := Int.eq_ofNat_of_zero_le ha.1
  obtain ⟨y, rfl⟩ := Int.eq_ofNat_of_zero_le hb.1
  obtain ⟨z, rfl⟩ := Int.eq_ofNat_of_zero_le hc.1
  have bx : x < 2 ^ 32 := by omega
  have by' : y < 2 ^ 32 := by omega
  have bz : z < 2 ^ 32 := by omega
  have HG := Lib.hid (join_groups x y z n m (by omega) (by omega) (by omega))
  have HN := Lib.hid (join_none y n (by omega) (by omega))
  have H1 := Lib.hid (fun w : World => join_ok (w := w) x y bx by' n)
  have H2 := Lib.hid (fun w : World => join_ok (w := w) (join x y n) z (joined_lt bx by' n) bz m)
  have H3 := Lib.hid (fun w : World => join_ok (w := w) y z by' bz m)
  have H4 := Lib.hid (fun w : World => join_ok (w := w) x (join y z m) bx (joined_lt by' bz m) (n + m))
  have H5 := Lib.hid (fun w : World => join_ok (w := w) 0 y (by omega) by' n)
  clear ha hb hc hn hm HA HB HC bx by' bz
  go_enter Try.func11, Try.ntmps11
  go_wp2_with fail
  refine (live_ok w).mono ?_
  rintro e w1 ⟨rfl, b1⟩
  go_wp2_with fail
  refine (H1.out _).mono ?_
  rintro e w2 ⟨rfl, rfl⟩
  go_wp2_with fail
  refine (H2.out _).mono ?_
  rintro e w2 ⟨rfl, rfl⟩
  rw [HG.out]
  go_wp2_with fail
  refine (H3.out _).mono ?_
  rintro e w2 ⟨rfl, rfl⟩
  go_wp2_with fail
  refine (H4.out _).mono ?_
  rintro e w2 ⟨rfl, rfl⟩
  generalize join x (join y z m) (n + m) = V at *
  go_wp2_with fail
  refine (H5.out _).mono ?_
  rintro e w2 ⟨rfl, rfl⟩
  rw [HN.out]
  go_wp2
  go_ret
  exact ⟨rfl, b1⟩
end Go.Proofs.Ytcnljifbifidbaa
