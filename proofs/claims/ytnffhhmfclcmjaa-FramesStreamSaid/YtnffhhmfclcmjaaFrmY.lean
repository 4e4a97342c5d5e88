/-
  The walks of FramesLater and FramesRest.
-/
import Derived.Test.YtnffhhmfclcmjaaFrmX
namespace Go.Proofs.Ytnffhhmfclcmjaa
open Go.RowKit
set_option linter.unusedVariables false

set_option maxRecDepth 100000 in
theorem framesLater_walk {w : World} {A : Option Addr} {n c : Nat} {l : List UInt8} (h : Rd w w.heap.size A n c l) {A' : Option Addr} {n' c' : Nat} {l' : List UInt8} (h' : Rd w w.heap.size A' n' c' l') :
    Calls Try.prog 10 #[.slice A n c, .slice A' n' c'] w (Yes w) := by
  have htop := h.top
  have hcap := h.cap
  have htop' := h'.top
  have hcap' := h'.cap
  by_cases h1 : 3000 < n
  · have t1 : decide ((3000 : Int) < (n : Int)) = true := by simp only [decide_eq_true_eq]; omega
    go_enter Try.func10, Try.ntmps10
    go_wp2_with fail
    refine (live_ok w).mono ?_
    rintro e w1 ⟨rfl, b1⟩
    go_wp2
    go_ret
    exact ⟨rfl, b1⟩
  have t1 : decide ((3000 : Int) < (n : Int)) = false := by simp only [decide_eq_false_iff_not]; omega
  by_cases h2 : 3000 < n'
  · have t2 : decide ((3000 : Int) < (n' : Int)) = true := by simp only [decide_eq_true_eq]; omega
    go_enter Try.func10, Try.ntmps10
    go_wp2_with fail
    refine (live_ok w).mono ?_
    rintro e w1 ⟨rfl, b1⟩
    go_wp2
    go_ret
    exact ⟨rfl, b1⟩
  have t2 : decide ((3000 : Int) < (n' : Int)) = false := by simp only [decide_eq_false_iff_not]; omega
  obtain ⟨ls, r, hc⟩ := cuts_any l
  have HN : Hid (n ≤ 100000000) := Lib.hid (by omega)
  have HN2 : Hid (n + n' ≤ 100000000) := Lib.hid (by omega)
  have HC := Lib.hid hc
  by_cases hb : bad r
  · have HB := Lib.hid hb
    have HC2 := Lib.hid (hc.bad_behind hb l')
    have HB2 := Lib.hid (bad_behind hb l')
    clear hb hc
    go_enter Try.func10, Try.ntmps10
    go_wp2_with fail
    refine (live_ok w).mono ?_
    rintro e w1 ⟨rfl, b1⟩
    go_wp2_with fail
    refine (split_bad ((h.below b1).more b1.size) HN.out HC.out HB.out).mono ?_
    rintro e w2 ⟨rfl, hb2⟩
    have b2 := bthen b1 hb2
    go_wp2_with fail
    refine (feed_bad ((h.below b2).more b2.size) ((h'.below b2).more b2.size) HN2.out HC2.out HB2.out).mono ?_
    rintro e w3 ⟨rfl, hb3⟩
    have b3 := bthen b2 hb3
    go_wp2
    go_ret
    exact ⟨rfl, b3⟩
  · have HB := Lib.hid hb
    obtain ⟨ms, s, hm⟩ := cuts_any (r ++ l')
    have HC2 := Lib.hid (hc.behind hm)
    clear hb hc hm
    by_cases hb2 : bad s
    · have HB2 := Lib.hid hb2
      clear hb2
      go_enter Try.func10, Try.ntmps10
      go_wp2_with fail
      refine (live_ok w).mono ?_
      rintro e w1 ⟨rfl, b1⟩
      go_wp2_with fail
      refine (split_ok ((h.below b1).more b1.size) HN.out HC.out HB.out).mono ?_
      rintro e w2 ⟨A2, n2, c2, A3, n3, c3, rfl, ho2, ho3, hb2⟩
      have b2 := bthen b1 hb2
      go_wp2_with fail
      refine (feed_bad ((h.below b2).more b2.size) ((h'.below b2).more b2.size) HN2.out HC2.out HB2.out).mono ?_
      rintro e w3 ⟨rfl, hb3⟩
      have b3 := bthen b2 hb3
      go_wp2
      go_ret
      exact ⟨rfl, b3⟩
    · have HB2 := Lib.hid hb2
      clear hb2
      go_enter Try.func10, Try.ntmps10
      go_wp2_with fail
      refine (live_ok w).mono ?_
      rintro e w1 ⟨rfl, b1⟩
      go_wp2_with fail
      refine (split_ok ((h.below b1).more b1.size) HN.out HC.out HB.out).mono ?_
      rintro e w2 ⟨A2, n2, c2, A3, n3, c3, rfl, ho2, ho3, hb2⟩
      have b2 := bthen b1 hb2
      go_wp2_with fail
      refine (feed_ok ((h.below b2).more b2.size) ((h'.below b2).more b2.size) HN2.out HC2.out HB2.out).mono ?_
      rintro e w3 ⟨A4, n4, c4, A5, n5, c5, rfl, ho4, ho5, hb3⟩
      have b3 := bthen b2 hb3
      have hl4 := ho4.1
      have hl2 := ho2.1
      rw [List.length_append] at hl4
      have t3 : decide ((n4 : Int) < (n2 : Int)) = false := by simp only [decide_eq_false_iff_not]; omega
      have u4 := run_uptoL ho4.rl n2 (by omega)
      have q4 := ho4.rl.first
      rw [hl2] at q4
      have q2 := (ho2.kept hb3).rl
      have hcp := ho4.rl.cap
      have htp := ho4.rl.top
      clear ho2 ho3 ho4 ho5 h1 h2
      go_wp2_with fail
      refine (same_is q2 q4).mono ?_
      rintro e w4 ⟨rfl, hb4⟩
      have b4 := bthen b3 hb4
      go_wp2
      go_ret
      exact ⟨rfl, b4⟩

theorem strOf_app (a b : List UInt8) : strOf (a ++ b) = strOf a ++ strOf b := by
  apply ByteArray.ext
  apply Array.ext'
  simp [strOf]

set_option maxRecDepth 100000 in
theorem framesRest_walk {w : World} {A : Option Addr} {n c : Nat} {l : List UInt8} (h : Rd w w.heap.size A n c l) : Calls Try.prog 8 #[.slice A n c] w (Yes w) := by
  have hlen := h.len
  have htop := h.top
  have hcap := h.cap
  by_cases h1 : 3000 < n
  · have t1 : decide ((3000 : Int) < (n : Int)) = true := by simp only [decide_eq_true_eq]; omega
    go_enter Try.func8, Try.ntmps8
    go_wp2_with fail
    refine (live_ok w).mono ?_
    rintro e w1 ⟨rfl, b1⟩
    go_wp2
    go_ret
    exact ⟨rfl, b1⟩
  · have t1 : decide ((3000 : Int) < (n : Int)) = false := by simp only [decide_eq_false_iff_not]; omega
    obtain ⟨ls, r, hc⟩ := cuts_any l
    have HN : Hid (n ≤ 100000000) := Lib.hid (by omega)
    have HC := Lib.hid hc
    by_cases hb : bad r
    · have HB := Lib.hid hb
      clear hb hc
      go_enter Try.func8, Try.ntmps8
      go_wp2_with fail
      refine (live_ok w).mono ?_
      rintro e w1 ⟨rfl, b1⟩
      go_wp2_with fail
      refine (split_bad ((h.below b1).more b1.size) HN.out HC.out HB.out).mono ?_
      rintro e w2 ⟨rfl, hb2⟩
      have b2 := bthen b1 hb2
      go_wp2
      go_ret
      exact ⟨rfl, b2⟩
    · have HB := Lib.hid hb
      obtain ⟨hw1, hw2, hw3⟩ := hc.whole
      have hga := good_all hw3
      have hst : (stream ls).length + r.length = n := by rw [← List.length_append, ← hw1, hlen]
      have HF := Lib.hid (fun (w : World) (A : Option Addr) (n c : Nat) (h : Rl w w.heap.size A n c ls) => framed_ok h (by rw [hga]; omega))
      have HGA := Lib.hid hga
      have HS1 := Lib.hid (show strOf l = strOf (stream ls) ++ strOf r by rw [← strOf_app, ← hw1])
      have HST : Hid (4 ≤ r.length → (1 ≤ headN r ∧ headN r ≤ 4096 ∧ r.length - 4 < headN r)) := Lib.hid fun h4 => by
        rcases hw2 with h | h | h
        · omega
        · exact absurd h hb
        · refine ⟨?_, ?_, h⟩ <;>
          · rcases Classical.em (1 ≤ headN r ∧ headN r ≤ 4096) with hk | hk
            · omega
            · exact absurd ⟨h4, hk⟩ hb
      have HW1 := Lib.hid hw1
      clear hb hc hw1 hw2 hw3 hga hst
      go_enter Try.func8, Try.ntmps8
      go_wp2_with fail
      refine (live_ok w).mono ?_
      rintro e w1 ⟨rfl, b1⟩
      go_wp2_with fail
      refine (split_ok ((h.below b1).more b1.size) HN.out HC.out HB.out).mono ?_
      rintro e w2 ⟨A2, n2, c2, A3, n3, c3, rfl, ho2, ho3, hb2⟩
      have b2 := bthen b1 hb2
      have hl2 := ho2.1
      have HL2 := Lib.hid hl2
      clear hl2
      go_wp2_with fail
      refine (HF.out _ _ _ _ ho2.rl).mono ?_
      rintro e w3 ⟨A4, n4, c4, A5, n5, c5, rfl, ho4, ho5, hb3⟩
      have b3 := bthen b2 hb3
      rw [HGA.out] at ho4 ho5
      obtain rfl : n4 = n2 := ho4.1.symm.trans HL2.out
      have o3 := ho3.step hb3
      have s1 := str_eq ho5.rd rfl
      have s2 := str_eq o3.rd rfl
      have s3 := str_eq (h.below b3) HS1.out
      have hl3 := o3.len
      have hr3 := o3.rd
      have ht3 := o3.top
      have hc3 := o3.cap
      have z0 : (strOf (stream ls)).size + (strOf r).size ≤ 9223372036854775807 := by
        rw [strOf_size, strOf_size, ← List.length_append]
        have := HW1.out
        rw [← this]
        omega
      generalize strOf (stream ls) = sx at *
      generalize strOf r = sr at *
      have z1 : ((sx.size : Int) + (sr.size : Int) ≤ 9223372036854775807) := by omega
      have z2 : decide ((9223372036854775807 : Int) < (sx.size : Int) + (sr.size : Int)) = false := by simp only [decide_eq_false_iff_not]; omega
      clear ho2 ho3 ho4 ho5 o3
      by_cases h4 : n3 < 4
      · have t4 : decide ((n3 : Int) < 4) = true := by simp only [decide_eq_true_eq]; omega
        go_wp2
        go_ret
        exact ⟨rfl, b3⟩
      · have t4 : decide ((n3 : Int) < 4) = false := by simp only [decide_eq_false_iff_not]; omega
        have HG := Lib.hid (get_head hr3 (by omega))
        obtain ⟨g1, g2, g3⟩ := HST.out (by omega)
        clear HST
        generalize headN r = N at *
        have t5 : decide ((1 : Int) ≤ (N : Int)) = true := by simp only [decide_eq_true_eq]; omega
        have t6 : decide ((N : Int) ≤ 4096) = true := by simp only [decide_eq_true_eq]; omega
        have t7 : decide ((n3 : Int) - 4 < (N : Int)) = true := by simp only [decide_eq_true_eq]; omega
        have e1 : (4 : Int) ≤ (n3 : Int) := by omega
        have e2 : ((n3 : Int) - 4) % 18446744073709551616 = (n3 : Int) - 4 := by omega
        go_wp2_with fail
        refine HG.out.mono ?_
        rintro e w4 ⟨rfl, rfl⟩
        go_wp2
        go_ret
        exact ⟨rfl, b3⟩
end Go.Proofs.Ytnffhhmfclcmjaa
