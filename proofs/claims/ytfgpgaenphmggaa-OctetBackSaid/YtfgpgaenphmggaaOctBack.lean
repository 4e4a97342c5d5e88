/-
  OctetBack answers true and leaves what was there as it was, for every input.
-/
import Derived.Test.YtfgpgaenphmggaaOctL
import Derived.Test.YtfgpgaenphmggaaOctQ
namespace Go.Proofs.Ytfgpgaenphmggaa
open Go.RowKit
set_option linter.unusedVariables false

/-- 1 << (8 * k), as the walk spells it, where k is less than 8. -/
theorem low_walk (q : Nat) (hq : q < 8) : IntKind.u64.wrap (2 ^ (8 * q)) = ((256 ^ q : Nat) : Int) := by
  have hc : q = 0 ∨ q = 1 ∨ q = 2 ∨ q = 3 ∨ q = 4 ∨ q = 5 ∨ q = 6 ∨ q = 7 := by omega
  rcases hc with rfl | rfl | rfl | rfl | rfl | rfl | rfl | rfl <;> decide

set_option maxRecDepth 100000 in
set_option maxHeartbeats 800000 in
theorem octetBack_walk {w : World} {A : Option Addr} {n c : Nat} {l : List UInt8} (h : Rd w w.heap.size A n c l) (x : Int) (hx : 0 ≤ x ∧ x ≤ 18446744073709551615) (k : Int) (hk : -9223372036854775808 ≤ k ∧ k ≤ 9223372036854775807) (m : Int) (hm : -9223372036854775808 ≤ m ∧ m ≤ 9223372036854775807) (s : ByteArray) (hs : s.size ≤ maxLen) :
    Calls Try.prog 9 #[.slice A n c, .int .u64 x, .int .i64 k, .int .i64 m, .string s] w (Yes w) := by
  have HM := Lib.hid hm
  have HX := Lib.hid hx
  clear hk hm hs hx
  by_cases hn : n ≤ 5000
  · by_cases hs : s.size ≤ 5000
    · have q1 : decide ((5000 : Int) < (s.size : Int)) = false := by simp; omega
      by_cases h1 : k < 1
      · have q2 : decide (k < 1) = true := by simp; omega
        go_enter Try.func9, Try.ntmps9
        go_wp2_with fail
        refine (live_ok w).mono ?_
        rintro e w1 ⟨rfl, b1⟩
        go_wp2_with fail
        refine (few_yes hn).mono ?_
        rintro e w1' ⟨rfl, rfl⟩
        go_wp2
        go_ret
        exact ⟨rfl, b1⟩
      have q2 : decide (k < 1) = false := by simp; omega
      by_cases h8 : 8 < k
      · have q3 : decide (8 < k) = true := by simp; omega
        go_enter Try.func9, Try.ntmps9
        go_wp2_with fail
        refine (live_ok w).mono ?_
        rintro e w1 ⟨rfl, b1⟩
        go_wp2_with fail
        refine (few_yes hn).mono ?_
        rintro e w1' ⟨rfl, rfl⟩
        go_wp2
        go_ret
        exact ⟨rfl, b1⟩
      have q3 : decide (8 < k) = false := by simp; omega
      obtain ⟨q, rfl⟩ := Int.eq_ofNat_of_zero_le (show 0 ≤ k by omega)
      have hss : s.data.toList.length = s.size := by rw [Array.length_toList]; rfl
      have hxx := HX.out
      obtain ⟨y, rfl⟩ := Int.eq_ofNat_of_zero_le hxx.1
      have hy : y < 18446744073709551616 := by omega
      have HY := Lib.hid hy
      have hel := enc_ten (zig m) (zig_lt m HM.out.1 HM.out.2)
      have hep := enc_pos (zig m)
      have htp : 1 ≤ (putT s.data.toList).length := by
        have := enc_pos (zig (s.data.toList.length : Int))
        unfold putT
        rw [List.length_append]
        omega
      have hll := h.len
      clear hy hxx
      go_enter Try.func9, Try.ntmps9
      go_wp2_with fail
      refine (live_ok w).mono ?_
      rintro e w1 ⟨rfl, b1⟩
      go_wp2_with fail
      refine (few_yes hn).mono ?_
      rintro e w1' ⟨rfl, rfl⟩
      go_wp2_with fail
      refine (put_ok (h.below b1) b1.size (by omega) y HY.out q (by omega) (by omega)).mono ?_
      rintro e w2 ⟨A2, n2, c2, rfl, ho2, hb2⟩
      have b2 := bthen b1 hb2
      have l2 := ho2.len
      rw [List.length_append, be_length, hll] at l2
      go_wp2_with fail
      refine (putVar_ok ho2.rd (Nat.le_refl _) (by omega) m HM.out.1 HM.out.2).mono ?_
      rintro e w3 ⟨A3, n3, c3, rfl, ho3, hb3⟩
      have b3 := bthen b2 hb3
      have l3 := ho3.len
      rw [List.length_append, List.length_append, be_length, hll] at l3
      go_wp2_with fail
      refine (putText_ok ho3.rd (Nat.le_refl _) s (by omega)).mono ?_
      rintro e w4 ⟨A4, n4, c4, rfl, ho4, hb4⟩
      have b4 := bthen b3 hb4
      have l4 := ho4.len
      rw [List.length_append, ho3.len] at l4
      have r4 := ho4.rd
      have cc4 := ho4.cap
      obtain ⟨A5, k5, r5⟩ := run_upto (P := Try.prog) (t := 22) Try.underlying22 byteInfo r4 n (by omega)
      have z1 : (l ++ be y q ++ enc (zig m) ++ putT s.data.toList).take n = l := by
        rw [List.append_assoc, List.append_assoc, List.take_left' hll]
      rw [z1] at r5
      have g1 := get_put l (enc (zig m) ++ putT s.data.toList) y q (by omega) (by omega)
      rw [hll, ← List.append_assoc, ← List.append_assoc] at g1
      have g2 := getV_put (l ++ be y q) (putT s.data.toList) m HM.out.1 HM.out.2
      rw [ho2.len, ← List.append_assoc] at g2
      have g3 := getT_put (l ++ be y q ++ enc (zig m)) [] s.data.toList s.size (by omega) (by omega)
      rw [ho3.len, List.append_nil] at g3
      have e2 : (n2 : Int) + ((enc (zig m)).length : Int) = (n3 : Int) := by omega
      have e3 : (n3 : Int) + ((putT s.data.toList).length : Int) = (n4 : Int) := by omega
      rw [e2] at g2
      rw [e3] at g3
      have G2 := Lib.hid (getVar_at r4 g2)
      have g3' := getText_at r4 g3
      rw [strOf_self] at g3'
      have G3 := Lib.hid g3'
      have S5 := Lib.hid (same_yes r5 (h.below b4) rfl)
      have t0 : ((n2 : Int) != (n : Int) + (q : Int)) = false := by simp; omega
      have t1 : decide (n3 ≤ n2) = false := by simp; omega
      have t2 : decide (n4 ≤ n3) = false := by simp; omega
      clear e2 e3 g2 g3 g3' z1 r5 hel hep htp ho2 ho3 ho4 hb2 hb3 hb4 b2 b3 h hll l2 l3 l4 hss
      by_cases hq8 : q < 8
      · have hw := low_walk q hq8
        have hP : 0 < 256 ^ q := Nat.pow_pos (by omega)
        generalize 256 ^ q = P at *
        have G1 := Lib.hid (get_at r4 g1.1 g1.2)
        clear g1 r4
        have hP0 : ((P : Int) == 0) = false := by simp; omega
        have hP1 : (1 : Int) ≤ (P : Int) := by omega
        go_wp2_with fail
        refine S5.out.mono ?_
        rintro e w5 ⟨rfl, rfl⟩
        go_wp2_with fail
        refine G1.out.mono ?_
        rintro e w5 ⟨rfl, rfl⟩
        go_wp2_with fail
        refine G2.out.mono ?_
        rintro e w5 ⟨rfl, rfl⟩
        go_wp2_with fail
        refine G3.out.mono ?_
        rintro e w5 ⟨rfl, rfl⟩
        go_wp2
        go_ret
        exact ⟨rfl, b4⟩
      · have hq : q = 8 := by omega
        subst hq
        have hyy := HY.out
        rw [Nat.mod_eq_of_lt (by omega)] at g1
        rw [show ((8 : Nat) : Int) = 8 from rfl] at g1 t0
        have G1 := Lib.hid (get_at r4 g1.1 g1.2)
        clear g1 r4 hyy
        go_wp2_with fail
        refine S5.out.mono ?_
        rintro e w5 ⟨rfl, rfl⟩
        go_wp2_with fail
        refine G1.out.mono ?_
        rintro e w5 ⟨rfl, rfl⟩
        go_wp2_with fail
        refine G2.out.mono ?_
        rintro e w5 ⟨rfl, rfl⟩
        go_wp2_with fail
        refine G3.out.mono ?_
        rintro e w5 ⟨rfl, rfl⟩
        go_wp2
        go_ret
        exact ⟨rfl, b4⟩
    · have q1 : decide ((5000 : Int) < (s.size : Int)) = true := by simp; omega
      go_enter Try.func9, Try.ntmps9
      go_wp2_with fail
      refine (live_ok w).mono ?_
      rintro e w1 ⟨rfl, b1⟩
      go_wp2_with fail
      refine (few_yes hn).mono ?_
      rintro e w1' ⟨rfl, rfl⟩
      go_wp2
      go_ret
      exact ⟨rfl, b1⟩
  · go_enter Try.func9, Try.ntmps9
    go_wp2_with fail
    refine (live_ok w).mono ?_
    rintro e w1 ⟨rfl, b1⟩
    go_wp2_with fail
    refine (few_no hn).mono ?_
    rintro e w1' ⟨rfl, rfl⟩
    go_wp2
    go_ret
    exact ⟨rfl, b1⟩
end Go.Proofs.Ytfgpgaenphmggaa
