/-
  OctetOne answers true and leaves what was there as it was, for every input.
-/
import Derived.Deep.RegionHeld3
import Derived.Deep.DrawnRows
import Derived.Test.YtfgpgaenphmggaaOctL
import Derived.Test.YtfgpgaenphmggaaOctQ
namespace Go.Proofs.Ytfgpgaenphmggaa
open Go.RowKit
set_option linter.unusedVariables false
attribute [local go_sem ↓] Go.wp_at_zero Go.wp_at_succ

theorem putVar_nil {w : World} (m : Int) (h1 : -9223372036854775808 ≤ m) (h2 : m ≤ 9223372036854775807) :
    Calls Try.prog 16 #[.slice none 0 0, .int .i64 m] w (Gives w (enc (zig m))) := by
  have := putVar_ok (Rd.nil w 0) (Nat.zero_le _) (by omega) m h1 h2
  rw [List.nil_append] at this
  exact this
theorem putText_nil {w : World} (s : ByteArray) (hs : s.size ≤ 140737488340000) :
    Calls Try.prog 22 #[.slice none 0 0, .string s] w (Gives w (putT s.data.toList)) := by
  have := putText_ok (Rd.nil w 0) (Nat.zero_le _) s (by omega)
  rw [List.nil_append] at this
  exact this

theorem getText_str {w : World} {B : Nat} {A : Option Addr} {n c : Nat} {l : List UInt8} (h : Rd w B A n c l) {at_ most t e : Int} {s : List UInt8} (hr : getT l at_ most = (s, t, e)) {S : ByteArray} (hS : strOf s = S) :
    Calls Try.prog 20 #[.slice A n c, .int .i64 at_, .int .i64 most] w (Tells w (.tuple #[.string S, .int .i64 t, .int .i64 e])) := by
  have := getText_at h hr
  rw [hS] at this
  exact this

set_option maxRecDepth 100000 in
set_option maxHeartbeats 3200000 in
theorem octetOne_walk {w : World} {A : Option Addr} {n c : Nat} {l : List UInt8} (h : Rd w w.heap.size A n c l) (at_ : Int) (hat : -9223372036854775808 ≤ at_ ∧ at_ ≤ 9223372036854775807) (most : Int) (hmost : -9223372036854775808 ≤ most ∧ most ≤ 9223372036854775807) :
    Calls Try.prog 7 #[.slice A n c, .int .i64 at_, .int .i64 most] w (Yes w) := by
  clear hat hmost
  have hll := h.len
  obtain ⟨v, t, e, hV⟩ : ∃ v t e, getV l at_ = (v, t, e) := ⟨_, _, _, rfl⟩
  obtain ⟨ts, tn, te, hT⟩ : ∃ ts tn te, getT l at_ most = (ts, tn, te) := ⟨_, _, _, rfl⟩
  have HT := Lib.hid hT
  have HV := Lib.hid hV
  clear hT hV
  by_cases hn : n ≤ 5000
  · by_cases he : e = 0
    · subst he
      have hv := getV_range HV.out
      have HVB := Lib.hid hv
      clear hv
      obtain ⟨g1, g2, g3, g4, g5⟩ := getV_only HV.out
      rw [hll] at g3
      obtain ⟨a, rfl⟩ := Int.eq_ofNat_of_zero_le g1
      obtain ⟨x, rfl⟩ := Int.eq_ofNat_of_zero_le (show 0 ≤ t by omega)
      have q1 : decide ((a : Int) < 0) = false := by simp only [decide_eq_false_iff_not]; omega
      have q2 : decide (x ≤ a) = false := by simp only [decide_eq_false_iff_not]; omega
      have q3 : decide (n < x) = false := by simp only [decide_eq_false_iff_not]; omega
      have q4 : decide ((a : Int) + 10 < (x : Int)) = false := by simp only [decide_eq_false_iff_not]; omega
      obtain ⟨A5, k5, r5⟩ := run_mid (P := Try.prog) (t := 22) Try.underlying22 byteInfo h a x (by omega) (by omega)
      have q5 : IntKind.i64.wrap ((a : Int) + 10) = (a : Int) + 10 := IntWalk.i64_in _ (by omega)
      rw [Int.toNat_natCast, Int.toNat_natCast] at g5
      have HG5 := Lib.hid g5
      clear g5
      by_cases hte : te = 0
      · subst hte
        obtain ⟨p1, p2, p3, p4, p5⟩ := getT_only HT.out
        rw [hll] at p3
        obtain ⟨y, rfl⟩ := Int.eq_ofNat_of_zero_le (show 0 ≤ tn by omega)
        have u1 : decide ((0 : Int) ≤ (a : Int)) = true := by simp only [decide_eq_true_eq]; omega
        have u2 : decide (a < y) = true := by simp only [decide_eq_true_eq]; omega
        have u3 : decide (y ≤ n) = true := by simp only [decide_eq_true_eq]; omega
        have hsz : (strOf ts).size = ts.length := strOf_size ts
        have hda : (strOf ts).data.toList = ts := strOf_data ts
        generalize hSS : strOf ts = S at *
        have HSS := Lib.hid hSS
        clear hSS
        have hS : S.size ≤ 140737488340000 := by
          have := congrArg List.length p5
          unfold putT at this
          rw [List.length_append, List.length_take, List.length_drop] at this
          omega
        have u4 : decide ((S.size : Int) ≤ most) = true := by simp only [decide_eq_true_eq]; omega
        obtain ⟨A7, k7, r7⟩ := run_mid (P := Try.prog) (t := 22) Try.underlying22 byteInfo h a y (by omega) (by omega)
        rw [← hda, Int.toNat_natCast, Int.toNat_natCast] at p5
        clear hsz hda
        have HP5 := Lib.hid p5
        clear p5
        go_enter Try.func7, Try.ntmps7
        go_wp2_with fail
        refine (live_ok w).mono ?_
        rintro e w1 ⟨rfl, b1⟩
        go_wp2_with fail
        refine (few_yes hn).mono ?_
        rintro e w1' ⟨rfl, rfl⟩
        go_wp2_with fail
        refine (getVar_at (h.below b1) HV.out).mono ?_
        rintro e w1' ⟨rfl, rfl⟩
        go_wp2_with fail
        go_region_held3 (fun w' => Below w.heap.size w w') (first | exact b1.drew | exact b2) (first
          | (go_at_call 16; (refine (putVar_nil v HVB.out.1 HVB.out.2).mono ?_); rintro e w2 ⟨A2, n2, c2, rfl, ho2, hb2⟩; have b2 := bthen b1.drew hb2)
          | (go_at_call 17; (refine (same_yes ho2.rd (r5.below b2) HG5.out).mono ?_); rintro e w3 ⟨rfl, rfl⟩))
        go_wp2_with fail
        refine (getText_str (h.below b2) HT.out HSS.out).mono ?_
        rintro e w4 ⟨rfl, rfl⟩
        go_wp2_with fail
        go_region_held3 (fun w' => Below w.heap.size w w') (first | exact Below.drew b2 | exact b6) (first
          | (go_at_call 22; (refine (putText_nil S hS).mono ?_); rintro e w6 ⟨A6, n6, c6, rfl, ho6, hb6⟩; have b6 := bthen (Below.drew b2) hb6)
          | (go_at_call 17; (refine (same_yes ho6.rd (r7.below b6) HP5.out).mono ?_); rintro e w7 ⟨rfl, rfl⟩))
        go_wp2
        go_ret
        exact ⟨rfl, b6⟩
      · obtain ⟨rfl, rfl⟩ := getT_err HT.out hte
        have HSS : Hid (strOf [] = { data := #[] }) := rfl
        have u1 : (te != 0) = true := by simp; exact hte
        have u2 : (te == 0) = false := by simp; exact hte
        go_enter Try.func7, Try.ntmps7
        go_wp2_with fail
        refine (live_ok w).mono ?_
        rintro e w1 ⟨rfl, b1⟩
        go_wp2_with fail
        refine (few_yes hn).mono ?_
        rintro e w1' ⟨rfl, rfl⟩
        go_wp2_with fail
        refine (getVar_at (h.below b1) HV.out).mono ?_
        rintro e w1' ⟨rfl, rfl⟩
        go_wp2_with fail
        go_region_held3 (fun w' => Below w.heap.size w w') (first | exact b1.drew | exact b2) (first
          | (go_at_call 16; (refine (putVar_nil v HVB.out.1 HVB.out.2).mono ?_); rintro e w2 ⟨A2, n2, c2, rfl, ho2, hb2⟩; have b2 := bthen b1.drew hb2)
          | (go_at_call 17; (refine (same_yes ho2.rd (r5.below b2) HG5.out).mono ?_); rintro e w3 ⟨rfl, rfl⟩))
        go_wp2_with fail
        refine (getText_str (h.below b2) HT.out HSS.out).mono ?_
        rintro e w4 ⟨rfl, rfl⟩
        go_wp2
        go_ret
        exact ⟨rfl, b2⟩
    · have hve := getV_err (l := l) (at_ := at_) (by rw [HV.out]; exact he)
      rw [HV.out] at hve
      obtain ⟨hv0, ht0, _⟩ := hve
      simp only at hv0 ht0
      subst hv0
      subst ht0
      have z1 : (e == 0) = false := by simp; exact he
      by_cases hte : te = 0
      · subst hte
        obtain ⟨p1, p2, p3, p4, p5⟩ := getT_only HT.out
        rw [hll] at p3
        obtain ⟨a', rfl⟩ := Int.eq_ofNat_of_zero_le p1
        obtain ⟨y, rfl⟩ := Int.eq_ofNat_of_zero_le (show 0 ≤ tn by omega)
        have u1 : decide ((0 : Int) ≤ (a' : Int)) = true := by simp only [decide_eq_true_eq]; omega
        have u2 : decide (a' < y) = true := by simp only [decide_eq_true_eq]; omega
        have u3 : decide (y ≤ n) = true := by simp only [decide_eq_true_eq]; omega
        have hsz : (strOf ts).size = ts.length := strOf_size ts
        have hda : (strOf ts).data.toList = ts := strOf_data ts
        generalize hSS : strOf ts = S at *
        have HSS := Lib.hid hSS
        clear hSS
        have hS : S.size ≤ 140737488340000 := by
          have := congrArg List.length p5
          unfold putT at this
          rw [List.length_append, List.length_take, List.length_drop] at this
          omega
        have u4 : decide ((S.size : Int) ≤ most) = true := by simp only [decide_eq_true_eq]; omega
        obtain ⟨A7, k7, r7⟩ := run_mid (P := Try.prog) (t := 22) Try.underlying22 byteInfo h a' y (by omega) (by omega)
        rw [← hda, Int.toNat_natCast, Int.toNat_natCast] at p5
        clear hsz hda
        have HP5 := Lib.hid p5
        clear p5
        go_enter Try.func7, Try.ntmps7
        go_wp2_with fail
        refine (live_ok w).mono ?_
        rintro e w1 ⟨rfl, b1⟩
        go_wp2_with fail
        refine (few_yes hn).mono ?_
        rintro e w1' ⟨rfl, rfl⟩
        go_wp2_with fail
        refine (getVar_at (h.below b1) HV.out).mono ?_
        rintro e w1' ⟨rfl, rfl⟩
        go_wp2_with fail
        refine (getText_str (h.below b1) HT.out HSS.out).mono ?_
        rintro e w4 ⟨rfl, rfl⟩
        go_wp2_with fail
        go_region_held3 (fun w' => Below w.heap.size w w') (first | exact Below.drew b1 | exact b6) (first
          | (go_at_call 22; (refine (putText_nil S hS).mono ?_); rintro e w6 ⟨A6, n6, c6, rfl, ho6, hb6⟩; have b6 := bthen (Below.drew b1) hb6)
          | (go_at_call 17; (refine (same_yes ho6.rd (r7.below b6) HP5.out).mono ?_); rintro e w7 ⟨rfl, rfl⟩))
        go_wp2
        go_ret
        exact ⟨rfl, b6⟩
      · obtain ⟨rfl, rfl⟩ := getT_err HT.out hte
        have HSS : Hid (strOf [] = { data := #[] }) := rfl
        have u1 : (te != 0) = true := by simp; exact hte
        have u2 : (te == 0) = false := by simp; exact hte
        go_enter Try.func7, Try.ntmps7
        go_wp2_with fail
        refine (live_ok w).mono ?_
        rintro e w1 ⟨rfl, b1⟩
        go_wp2_with fail
        refine (few_yes hn).mono ?_
        rintro e w1' ⟨rfl, rfl⟩
        go_wp2_with fail
        refine (getVar_at (h.below b1) HV.out).mono ?_
        rintro e w1' ⟨rfl, rfl⟩
        go_wp2_with fail
        refine (getText_str (h.below b1) HT.out HSS.out).mono ?_
        rintro e w4 ⟨rfl, rfl⟩
        go_wp2
        go_ret
        exact ⟨rfl, b1⟩
  · go_enter Try.func7, Try.ntmps7
    go_wp2_with fail
    refine (live_ok w).mono ?_
    rintro e w1 ⟨rfl, b1⟩
    go_wp2_with fail
    refine (few_no hn).mono ?_
    rintro e w1' ⟨rfl, rfl⟩
    go_wp2
    go_ret
    exact ⟨rfl, b1⟩
end Go.Proofs.Ytfgpgaenphmggaa
