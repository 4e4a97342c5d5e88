/-
  OctetShort answers true and leaves what was there as it was, for every input.
-/
import Derived.Test.YtfgpgaenphmggaaOctL
import Derived.Test.YtfgpgaenphmggaaOctQ
namespace Go.Proofs.Ytfgpgaenphmggaa
open Go.RowKit
set_option linter.unusedVariables false

set_option maxRecDepth 100000 in
theorem octetShort_walk {w : World} (x : Int) (hx : 0 ≤ x ∧ x ≤ 18446744073709551615) (k : Int) (hk : -9223372036854775808 ≤ k ∧ k ≤ 9223372036854775807) (m : Int) (hm : -9223372036854775808 ≤ m ∧ m ≤ 9223372036854775807) (s : ByteArray) (hs : s.size ≤ maxLen) (cut : Int) (hcut : -9223372036854775808 ≤ cut ∧ cut ≤ 9223372036854775807) :
    Calls Try.prog 10 #[.int .u64 x, .int .i64 k, .int .i64 m, .string s, .int .i64 cut] w (Yes w) := by
  have HM := Lib.hid hm
  have HX := Lib.hid hx
  clear hk hm hs hx
  by_cases hs : s.size ≤ 1000
  · have q1 : decide ((1000 : Int) < (s.size : Int)) = false := by simp; omega
    by_cases h1 : k < 1
    · have q2 : decide (k < 1) = true := by simp; omega
      go_enter Try.func10, Try.ntmps10
      go_wp2_with fail
      refine (live_ok w).mono ?_
      rintro e w1 ⟨rfl, b1⟩
      go_wp2
      go_ret
      exact ⟨rfl, b1⟩
    have q2 : decide (k < 1) = false := by simp; omega
    by_cases h8 : 8 < k
    · have q3 : decide (8 < k) = true := by simp; omega
      go_enter Try.func10, Try.ntmps10
      go_wp2_with fail
      refine (live_ok w).mono ?_
      rintro e w1 ⟨rfl, b1⟩
      go_wp2
      go_ret
      exact ⟨rfl, b1⟩
    have q3 : decide (8 < k) = false := by simp; omega
    by_cases hc : cut < 0
    · have q4 : decide (cut < 0) = true := by simp; omega
      go_enter Try.func10, Try.ntmps10
      go_wp2_with fail
      refine (live_ok w).mono ?_
      rintro e w1 ⟨rfl, b1⟩
      go_wp2
      go_ret
      exact ⟨rfl, b1⟩
    have q4 : decide (cut < 0) = false := by simp; omega
    obtain ⟨c, rfl⟩ := Int.eq_ofNat_of_zero_le (show 0 ≤ cut by omega)
    obtain ⟨q, rfl⟩ := Int.eq_ofNat_of_zero_le (show 0 ≤ k by omega)
    have hss : s.data.toList.length = s.size := by rw [Array.length_toList]; rfl
    have hxx := HX.out
    obtain ⟨y, rfl⟩ := Int.eq_ofNat_of_zero_le hxx.1
    have hy : y < 18446744073709551616 := by omega
    have HY := Lib.hid hy
    clear hy hxx
    go_enter Try.func10, Try.ntmps10
    go_wp2_with fail
    refine (live_ok w).mono ?_
    rintro e w1 ⟨rfl, b1⟩
    go_wp2_with fail
    refine (put_ok (Rd.nil _ 0) (Nat.zero_le _) (by omega) y HY.out q (by omega) (by omega)).mono ?_
    rintro e w2 ⟨A2, n2, c2, rfl, ho2, hb2⟩
    have b2 := bthen b1 hb2
    go_wp2_with fail
    refine (putVar_ok (Rd.nil _ 0) (Nat.zero_le _) (by omega) m HM.out.1 HM.out.2).mono ?_
    rintro e w3 ⟨A3, n3, c3, rfl, ho3, hb3⟩
    have b3 := bthen b2 hb3
    go_wp2_with fail
    refine (putText_ok (Rd.nil _ 0) (Nat.zero_le _) s (by omega)).mono ?_
    rintro e w4 ⟨A4, n4, c4, rfl, ho4, hb4⟩
    have b4 := bthen b3 hb4
    rw [List.nil_append] at ho2 ho3 ho4
    have r2 := ((ho2.step hb3).step hb4).rd
    have r3 := (ho3.step hb4).rd
    have r4 := ho4.rd
    have l2 := ho2.len
    have l3 := ho3.len
    have l4 := ho4.len
    rw [be_length] at l2
    subst l2
    have p3 := enc_pos (zig m)
    have p4 : 1 ≤ (putT s.data.toList).length := by
      have := enc_pos (zig (s.data.toList.length : Int))
      unfold putT
      rw [List.length_append]
      omega
    rw [l3] at p3
    rw [l4] at p4
    have e3 : ((n3 : Int) == 0) = false := by simp; omega
    have e4 : ((n4 : Int) == 0) = false := by simp; omega
    have m2 : c % q < q := Nat.mod_lt _ (by omega)
    have m3 : c % n3 < n3 := Nat.mod_lt _ (by omega)
    have m4 : c % n4 < n4 := Nat.mod_lt _ (by omega)
    have cc2 := ho2.cap
    have cc3 := ho3.cap
    have cc4 := ho4.cap
    obtain ⟨A5, k5, r5⟩ := run_upto (P := Try.prog) (t := 22) Try.underlying22 byteInfo r2 (c % q) (by omega)
    obtain ⟨A6, k6, r6⟩ := run_upto (P := Try.prog) (t := 22) Try.underlying22 byteInfo r3 (c % n3) (by omega)
    obtain ⟨A7, k7, r7⟩ := run_upto (P := Try.prog) (t := 22) Try.underlying22 byteInfo r4 (c % n4) (by omega)
    have e5 : (((c % q : Nat) : Int)) = (c : Int) % (q : Int) := by simp
    have e6 : (((c % n3 : Nat) : Int)) = (c : Int) % (n3 : Int) := by simp
    have e7 : (((c % n4 : Nat) : Int)) = (c : Int) % (n4 : Int) := by simp
    rw [e5] at k5
    rw [e6] at k6
    rw [e7] at k7
    have g5 := get_at r5 (get_short_n y q (c % q) (by omega) (by omega) m2) (get_short y q (c % q) (by omega) (by omega) m2)
    have g6 := getVar_at r6 (getV_short m HM.out.1 HM.out.2 (c % n3) (by rw [l3]; exact m3))
    have g7 := getText_at r7 (getT_short s.data.toList (by omega) (c % n4) (by rw [l4]; exact m4))
    rw [hss] at g7
    have G5 := Lib.hid g5
    have G6 := Lib.hid g6
    have G7 := Lib.hid g7
    clear g5 g6 g7 e5 e6 e7 r5 r6 r7 r2 r3 r4
    clear ho2 ho3 ho4 hb2 hb3 hb4 b2 b3 l3 l4 hss m2 m3 m4
    go_wp2_with fail
    refine G5.out.mono ?_
    rintro e w5 ⟨rfl, rfl⟩
    go_wp2_with fail
    refine G6.out.mono ?_
    rintro e w5 ⟨rfl, rfl⟩
    go_wp2_with fail
    refine G7.out.mono ?_
    rintro e w5 ⟨rfl, rfl⟩
    go_wp2
    go_ret
    exact ⟨rfl, b4⟩
  · have q1 : decide ((1000 : Int) < (s.size : Int)) = true := by simp; omega
    go_enter Try.func10, Try.ntmps10
    go_wp2_with fail
    refine (live_ok w).mono ?_
    rintro e w1 ⟨rfl, b1⟩
    go_wp2
    go_ret
    exact ⟨rfl, b1⟩
end Go.Proofs.Ytfgpgaenphmggaa
