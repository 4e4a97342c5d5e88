/-
  OctetTexts answers true and leaves what was there as it was, for every input.
-/
import Derived.Test.YtfgpgaenphmggaaOctL
import Derived.Test.YtfgpgaenphmggaaOctQ
namespace Go.Proofs.Ytfgpgaenphmggaa
open Go.RowKit
set_option linter.unusedVariables false

set_option maxRecDepth 100000 in
theorem octetTexts_walk {w : World} {A : Option Addr} {n c : Nat} {l : List UInt8} (h : Rd w w.heap.size A n c l) (s : ByteArray) (hs : s.size ≤ maxLen) (at_ : Int) (hat : -9223372036854775808 ≤ at_ ∧ at_ ≤ 9223372036854775807) (most : Int) (hmost : -9223372036854775808 ≤ most ∧ most ≤ 9223372036854775807) :
    Calls Try.prog 6 #[.slice A n c, .string s, .int .i64 at_, .int .i64 most] w (Yes w) := by
  clear hat hmost hs
  obtain ⟨ts, tn, te, hT⟩ : ∃ ts tn te, getT l at_ most = (ts, tn, te) := ⟨_, _, _, rfl⟩
  have HT := Lib.hid hT
  clear hT
  by_cases hn : n ≤ 5000
  · by_cases hs : s.size ≤ 5000
    · have q1 : decide ((5000 : Int) < (s.size : Int)) = false := by simp; omega
      have q2 : ((strOf ts).toList == (strOf ts).toList) = true := by simp
      have q3 : (tn == tn) = true := by simp
      have q4 : (te == te) = true := by simp
      go_enter Try.func6, Try.ntmps6
      go_wp2_with fail
      refine (live_ok w).mono ?_
      rintro e w1 ⟨rfl, b1⟩
      go_wp2_with fail
      refine (few_yes hn).mono ?_
      rintro e w1' ⟨rfl, rfl⟩
      go_wp2_with fail
      refine (getText_at (h.below b1) HT.out).mono ?_
      rintro e w1' ⟨rfl, rfl⟩
      go_wp2_with fail
      refine (rGetText_at (h.below b1) HT.out).mono ?_
      rintro e w1' ⟨rfl, rfl⟩
      go_wp2_with fail
      refine (putText_ok (h.below b1) b1.size s (by omega)).mono ?_
      rintro e w2 ⟨A2, n2, c2, rfl, ho2, hb2⟩
      have b2 := bthen b1 hb2
      go_wp2_with fail
      refine (rPutText_ok (h.below b2) s (by omega)).mono ?_
      rintro e w3 ⟨A3, n3, c3, rfl, ho3, hb3⟩
      have b3 := bthen b2 hb3
      go_wp2_with fail
      refine (same_yes (ho2.step hb3).rd ho3.rd rfl).mono ?_
      rintro e w3' ⟨rfl, rfl⟩
      go_wp2
      go_ret
      exact ⟨rfl, b3⟩
    · have q1 : decide ((5000 : Int) < (s.size : Int)) = true := by simp; omega
      go_enter Try.func6, Try.ntmps6
      go_wp2_with fail
      refine (live_ok w).mono ?_
      rintro e w1 ⟨rfl, b1⟩
      go_wp2_with fail
      refine (few_yes hn).mono ?_
      rintro e w1' ⟨rfl, rfl⟩
      go_wp2
      go_ret
      exact ⟨rfl, b1⟩
  · go_enter Try.func6, Try.ntmps6
    go_wp2_with fail
    refine (live_ok w).mono ?_
    rintro e w1 ⟨rfl, b1⟩
    go_wp2_with fail
    refine (few_no hn).mono ?_
    rintro e w1' ⟨rfl, rfl⟩
    go_wp2
    go_ret
    exact ⟨rfl, b1⟩
end Go.Proofs.Ytfgpgaenphmggaa
