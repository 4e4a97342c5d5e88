/-
  The walk of RecReads.
-/
import Derived.Test.YteamnapboophiaaRecM
namespace Go.Proofs.Yteamnapboophiaa
open Go.RowKit
set_option linter.unusedVariables false

set_option maxRecDepth 100000 in
set_option maxHeartbeats 2000000 in
theorem recReads_walk {w : World} {A : Option Addr} {n c : Nat} {l : List UInt8} (h : Rd w w.heap.size A n c l) (at_ : Int) (ha : -9223372036854775808 ≤ at_ ∧ at_ ≤ 9223372036854775807) (base : Int) (hb : -9223372036854775808 ≤ base ∧ base ≤ 9223372036854775807) (st : Int) (hst : -9223372036854775808 ≤ st ∧ st ≤ 9223372036854775807) :
    Calls Try.prog 4 #[.slice A n c, .int .i64 at_, .int .i64 base, .int .i64 st] w (Yes w) := by
  have htop := h.top
  have hcap := h.cap
  by_cases h1 : 500 < n
  · have t1 : decide ((500 : Int) < (n : Int)) = true := by simp only [decide_eq_true_eq]; omega
    go_enter Try.func4, Try.ntmps4
    go_wp2_with fail
    refine (live_ok w).mono ?_
    rintro e w1 ⟨rfl, b1⟩
    go_wp2
    go_ret
    exact ⟨rfl, b1⟩
  · have t1 : decide ((500 : Int) < (n : Int)) = false := by simp only [decide_eq_false_iff_not]; omega
    obtain ⟨r, m, z, hg⟩ : ∃ r m z, getR l at_ base st = (r, m, z) := ⟨_, _, _, rfl⟩
    have HG := Lib.hid hg
    clear hg
    obtain ⟨o, k, v, d, s⟩ := r
    obtain ⟨ks, hk⟩ : ∃ ks, strOf k = ks := ⟨_, rfl⟩
    obtain ⟨vs, hv⟩ : ∃ vs, strOf v = vs := ⟨_, rfl⟩
    have HK := Lib.hid hk
    have HV := Lib.hid hv
    clear hk hv
    have HG1 : Hid (∀ w1, Rd w1 w1.heap.size A n c l → Calls Try.prog 20 #[.slice A n c, .int .i64 at_, .int .i64 base, .int .i64 st] w1 (Got w1 o ks vs d s m z)) := Lib.hid fun w1 h => get_is h HG.out HK.out HV.out
    have HG2 : Hid (∀ w1, Rd w1 w1.heap.size A n c l → Calls Try.prog 21 #[.slice A n c, .int .i64 at_, .int .i64 base, .int .i64 st] w1 (Got w1 o ks vs d s m z)) := Lib.hid fun w1 h => rget_is h HG.out HK.out HV.out
    go_enter Try.func4, Try.ntmps4
    go_wp2_with fail
    refine (live_ok w).mono ?_
    rintro e w1 ⟨rfl, b1⟩
    go_wp2_with fail
    refine (HG1.out _ ((h.below b1).more b1.size)).mono ?_
    rintro e w2 ⟨rfl, hb2⟩
    have b2 := bput (bthen b1 hb2) (.cells #[.int .i64 o, .string ks, .string vs, .bool d, .int .i64 s] 23)
    go_wp2_with fail
    refine (HG2.out _ ((h.below b2).more b2.size)).mono ?_
    rintro e w3 ⟨rfl, hb3⟩
    have b3 := bput (bthen b2 hb3) (.cells #[.int .i64 o, .string ks, .string vs, .bool d, .int .i64 s] 23)
    obtain ⟨q0, q1, q2, q3, q4⟩ := boxed5 w2 o ks vs d s ((bput hb3 (.cells #[.int .i64 o, .string ks, .string vs, .bool d, .int .i64 s] 23)).mono (by simp))
    go_wp2
    go_ret
    exact ⟨rfl, b3⟩
end Go.Proofs.Yteamnapboophiaa
