/-
  CrcBack answers true and leaves what was there as it was, for every input.
-/
import Derived.Test.YtcnljifbifidbaaCrcL
namespace Go.Proofs.Ytcnljifbifidbaa
open Go.RowKit
set_option linter.unusedVariables false
attribute [local go_sem ↓] Go.wp_at_zero Go.wp_at_succ

theorem str_eq {B : Nat} {w : World} {A : Option Addr} {n c : Nat} {l : List UInt8} (h : Rd w B A n c l) {S : ByteArray} (hS : strOf l = S) :
    (convert 22 9 (.slice A n c)).run Try.prog w = .ok (.string S) w := by
  subst hS
  exact run_str (P := Try.prog) Try.underlying22 Try.underlying5 Try.underlying9 h

theorem get_tail {w : World} {B : Nat} {A : Option Addr} {n c : Nat} {l : List UInt8} {V : Nat} (hV : V < 2 ^ 32) (h : Rd w B A n c (l ++ be V 4)) :
    Calls Try.prog 19 #[.slice A n c, .int .i64 (l.length : Int), .int .i64 4] w (Tells w (.tuple #[.int .u64 (V : Int), .int .i64 0])) := by
  have := get_ok h (l.length : Int) 4
  have hl := h.len
  rw [List.length_append, be_length] at hl
  have e1 : getN (l ++ be V 4) (l.length : Int) 4 = (V : Int) := by
    rw [getN, if_neg (by rw [List.length_append, be_length]; omega), Int.toNat_natCast, List.drop_left, show ((4 : Int)).toNat = 4 from rfl, List.take_of_length_le (by rw [be_length]; omega), num_be, Nat.mod_eq_of_lt (by omega)]
    omega
  have e2 : getE (l ++ be V 4) (l.length : Int) 4 = 0 := by rw [getE, if_neg (by omega), if_neg (by rw [List.length_append, be_length]; omega)]
  unfold GetPost at this
  rw [e1, e2] at this
  exact this

theorem get_tail_at {w : World} {B : Nat} {A : Option Addr} {n c k : Nat} {l : List UInt8} {V : Nat} (hV : V < 2 ^ 32) (hk : l.length = k) (h : Rd w B A n c (l ++ be V 4)) :
    Calls Try.prog 19 #[.slice A n c, .int .i64 (k : Int), .int .i64 4] w (Tells w (.tuple #[.int .u64 (V : Int), .int .i64 0])) := by
  subst hk
  exact get_tail hV h

set_option maxRecDepth 100000 in
set_option maxHeartbeats 1600000 in
theorem crcBack_walk {w : World} {A : Option Addr} {n c : Nat} {l : List UInt8} (h : Rd w w.heap.size A n c l) :
    Calls Try.prog 5 #[.slice A n c] w (Yes w) := by
  have hlen := h.len
  by_cases hn : n ≤ 2000
  · have t1 : decide ((2000 : Int) < (n : Int)) = false := by simp only [decide_eq_false_iff_not]; omega
    obtain ⟨hE, hX⟩ := open_seal l
    obtain ⟨V, hV⟩ : ∃ V, crc l = V := ⟨_, rfl⟩
    have hVlt := crc_lt l
    rw [hV] at hE hX hVlt
    obtain ⟨S, hS⟩ : ∃ S, strOf l = S := ⟨_, rfl⟩
    have HE := Lib.hid hE
    have HX := Lib.hid hX
    have HS := Lib.hid hS
    have HV := Lib.hid hV
    have HVL := Lib.hid hVlt
    have hV2 : V < 4294967296 := by omega
    have q1 : (S.toList == S.toList) = true := by simp
    have q3 : (S.toList != S.toList) = false := by simp
    clear hE hX hS hV hVlt
    go_enter Try.func5, Try.ntmps5
    go_wp2_with fail
    refine (live_ok w).mono ?_
    rintro e w1 ⟨rfl, b1⟩
    go_wp2_with fail
    refine (seal_is (L := l ++ be V 4) (h.below b1) b1.size (by omega) (by rw [HV.out])).mono ?_
    rintro e w2 ⟨A2, n2, c2, rfl, ho2, hb2⟩
    have b2 := bthen b1 hb2
    have l2 := ho2.len
    rw [List.length_append, be_length, hlen] at l2
    go_wp2_with fail
    refine (open_is ho2.rd (Nat.le_refl _) (by omega) HE.out HX.out).mono ?_
    rintro e w3 ⟨A3, n3, c3, rfl, ho3, hb3⟩
    have b3 := bthen b2 hb3
    have o2 := ho2.step hb3
    have r2 := o2.rd
    have cc := ho2.cap
    subst l2
    obtain ⟨A5, k5, r5⟩ := run_upto (P := Try.prog) (t := 22) Try.underlying22 byteInfo r2 n (by omega)
    rw [List.take_left' hlen] at r5
    have k6 := fun N => str_eq (r5.below (bdrewN (Below.refl _ w3) N)) HS.out
    have k7 := fun N => str_eq (ho3.rd.below (bdrewN (Below.refl _ w3) N)) HS.out
    have k8 := fun N => str_eq (h.below (bdrewN b3 N)) HS.out
    have t2 : (((n + 4 : Nat) : Int) != (n : Int) + 4) = false := by simp
    have t3 : IntKind.i64.wrap ((n : Int) + 4) = (n : Int) + 4 := IntWalk.i64_in _ (by omega)
    go_wp2_with fail
    go_quiet (fail)
    go_wp2_with fail
    refine (get_tail_at HVL.out hlen (r2.below (bdrewN (Below.refl _ w3) _))).mono ?_
    rintro e w4 ⟨rfl, rfl⟩
    go_wp2_with fail
    refine (sum_is (h.below (bdrewN b3 _)) (bdrewN b3 _).size (by rw [HV.out])).mono ?_
    rintro e w5 ⟨rfl, hb5⟩
    go_wp2
    go_ret
    exact ⟨rfl, bthen (bdrewN b3 _) hb5⟩
  · have t1 : decide ((2000 : Int) < (n : Int)) = true := by simp only [decide_eq_true_eq]; omega
    go_enter Try.func5, Try.ntmps5
    go_wp2_with fail
    refine (live_ok w).mono ?_
    rintro e w1 ⟨rfl, b1⟩
    go_wp2
    go_ret
    exact ⟨rfl, b1⟩
end Go.Proofs.Ytcnljifbifidbaa
