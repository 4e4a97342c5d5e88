/-
  The walks of FramesPuts, FramesSplits, FramesFeeds, FramesLater, FramesRest.
-/
import Derived.Test.YtnffhhmfclcmjaaFrmL
namespace Go.Proofs.Ytnffhhmfclcmjaa
open Go.RowKit
set_option linter.unusedVariables false

theorem rSplit_bad {w : World} {A : Option Addr} {n c : Nat} {l : List UInt8} (h : Rd w w.heap.size A n c l) (hn : n ≤ 100000000) {ls : List (List UInt8)} {r : List UInt8} (hc : Cuts l ls r) (hb : bad r) : Calls Try.prog 15 #[.slice A n c] w (PartsNo w) := by
  refine (rSplit_any h hn).mono ?_
  rintro e w' ⟨ls', r', hc', h⟩
  obtain ⟨rfl, rfl⟩ := cuts_one hc hc'
  rcases h with ⟨_, h⟩ | ⟨hn, _⟩
  · exact h
  · exact absurd hb hn
theorem rSplit_ok {w : World} {A : Option Addr} {n c : Nat} {l : List UInt8} (h : Rd w w.heap.size A n c l) (hn : n ≤ 100000000) {ls : List (List UInt8)} {r : List UInt8} (hc : Cuts l ls r) (hb : ¬ bad r) : Calls Try.prog 15 #[.slice A n c] w (Parts w ls r) := by
  refine (rSplit_any h hn).mono ?_
  rintro e w' ⟨ls', r', hc', h⟩
  obtain ⟨rfl, rfl⟩ := cuts_one hc hc'
  rcases h with ⟨hb', _⟩ | ⟨_, h⟩
  · exact absurd hb' hb
  · exact h
theorem rFeed_bad {w : World} {A : Option Addr} {n c : Nat} {l : List UInt8} (h : Rd w w.heap.size A n c l) {A' : Option Addr} {n' c' : Nat} {l' : List UInt8} (h' : Rd w w.heap.size A' n' c' l') (hn : n + n' ≤ 100000000)
    {ls : List (List UInt8)} {r : List UInt8} (hc : Cuts (l ++ l') ls r) (hb : bad r) : Calls Try.prog 18 #[.slice A n c, .slice A' n' c'] w (PartsNo w) := by
  refine (rFeed_any h h' hn).mono ?_
  rintro e w' ⟨ls', r', hc', h⟩
  obtain ⟨rfl, rfl⟩ := cuts_one hc hc'
  rcases h with ⟨_, h⟩ | ⟨hn, _⟩
  · exact h
  · exact absurd hb hn
theorem rFeed_ok {w : World} {A : Option Addr} {n c : Nat} {l : List UInt8} (h : Rd w w.heap.size A n c l) {A' : Option Addr} {n' c' : Nat} {l' : List UInt8} (h' : Rd w w.heap.size A' n' c' l') (hn : n + n' ≤ 100000000)
    {ls : List (List UInt8)} {r : List UInt8} (hc : Cuts (l ++ l') ls r) (hb : ¬ bad r) : Calls Try.prog 18 #[.slice A n c, .slice A' n' c'] w (Parts w ls r) := by
  refine (rFeed_any h h' hn).mono ?_
  rintro e w' ⟨ls', r', hc', h⟩
  obtain ⟨rfl, rfl⟩ := cuts_one hc hc'
  rcases h with ⟨hb', _⟩ | ⟨_, h⟩
  · exact absurd hb' hb
  · exact h

set_option maxRecDepth 100000 in
theorem framesPuts_walk {w : World} {A : Option Addr} {n c : Nat} {l : List UInt8} (h : Rd w w.heap.size A n c l) : Calls Try.prog 3 #[.slice A n c] w (Yes w) := by
  have hlen := h.len
  have htop := h.top
  have hcap := h.cap
  by_cases h1 : 3000 < n
  · have t1 : decide ((3000 : Int) < (n : Int)) = true := by simp only [decide_eq_true_eq]; omega
    by_cases h2 : n ≤ 4096
    · have t2 : decide ((n : Int) ≤ 4096) = true := by simp only [decide_eq_true_eq]; omega
      go_enter Try.func3, Try.ntmps3
      go_wp2_with fail
      refine (live_ok w).mono ?_
      rintro e w1 ⟨rfl, b1⟩
      go_wp2
      go_ret
      exact ⟨rfl, b1⟩
    · have t2 : decide ((n : Int) ≤ 4096) = false := by simp only [decide_eq_false_iff_not]; omega
      have hno : ¬ ok l := fun ho => by have := ho.2; omega
      go_enter Try.func3, Try.ntmps3
      go_wp2_with fail
      refine (live_ok w).mono ?_
      rintro e w1 ⟨rfl, b1⟩
      go_wp2_with fail
      refine (fPut_no (h.below b1) hno).mono ?_
      rintro e w2 ⟨A2, n2, c2, rfl, ho2, hb2⟩
      have b2 := bthen b1 hb2
      go_wp2_with fail
      refine (rPut_no (h.below b2) hno).mono ?_
      rintro e w3 ⟨A3, n3, c3, rfl, ho3, hb3⟩
      have b3 := bthen b2 hb3
      have s1 := str_eq (ho2.step hb3).rd rfl
      have s2 := str_eq ho3.rd rfl
      go_wp2
      go_ret
      exact ⟨rfl, b3⟩
  · have t1 : decide ((3000 : Int) < (n : Int)) = false := by simp only [decide_eq_false_iff_not]; omega
    by_cases hok : ok l
    · obtain ⟨s, hs⟩ : ∃ s, strOf (frame l) = s := ⟨_, rfl⟩
      go_enter Try.func3, Try.ntmps3
      go_wp2_with fail
      refine (live_ok w).mono ?_
      rintro e w1 ⟨rfl, b1⟩
      go_wp2_with fail
      refine (fPut_ok (h.below b1) b1.size hok).mono ?_
      rintro e w2 ⟨A2, n2, c2, rfl, ho2, hb2⟩
      have b2 := bthen b1 hb2
      go_wp2_with fail
      refine (rPut_ok (h.below b2) b2.size hok).mono ?_
      rintro e w3 ⟨A3, n3, c3, rfl, ho3, hb3⟩
      have b3 := bthen b2 hb3
      have s1 := str_eq (ho2.step hb3).rd hs
      have s2 := str_eq ho3.rd hs
      go_wp2
      go_ret
      exact ⟨rfl, b3⟩
    · go_enter Try.func3, Try.ntmps3
      go_wp2_with fail
      refine (live_ok w).mono ?_
      rintro e w1 ⟨rfl, b1⟩
      go_wp2_with fail
      refine (fPut_no (h.below b1) hok).mono ?_
      rintro e w2 ⟨A2, n2, c2, rfl, ho2, hb2⟩
      have b2 := bthen b1 hb2
      go_wp2_with fail
      refine (rPut_no (h.below b2) hok).mono ?_
      rintro e w3 ⟨A3, n3, c3, rfl, ho3, hb3⟩
      have b3 := bthen b2 hb3
      have s1 := str_eq (ho2.step hb3).rd rfl
      have s2 := str_eq ho3.rd rfl
      go_wp2
      go_ret
      exact ⟨rfl, b3⟩

set_option maxRecDepth 100000 in
theorem framesSplits_walk {w : World} {A : Option Addr} {n c : Nat} {l : List UInt8} (h : Rd w w.heap.size A n c l) : Calls Try.prog 4 #[.slice A n c] w (Yes w) := by
  have hlen := h.len
  have htop := h.top
  have hcap := h.cap
  by_cases h1 : 3000 < n
  · have t1 : decide ((3000 : Int) < (n : Int)) = true := by simp only [decide_eq_true_eq]; omega
    go_enter Try.func4, Try.ntmps4
    go_wp2_with fail
    refine (live_ok w).mono ?_
    rintro e w1 ⟨rfl, b1⟩
    go_wp2
    go_ret
    exact ⟨rfl, b1⟩
  · have t1 : decide ((3000 : Int) < (n : Int)) = false := by simp only [decide_eq_false_iff_not]; omega
    obtain ⟨ls, r, hc⟩ := cuts_any l
    have HN : Hid (n ≤ 100000000) := Lib.hid (by omega)
    have HC := Lib.hid hc
    by_cases hb : bad r
    · have HB := Lib.hid hb
      clear hb hc
      go_enter Try.func4, Try.ntmps4
      go_wp2_with fail
      refine (live_ok w).mono ?_
      rintro e w1 ⟨rfl, b1⟩
      go_wp2_with fail
      refine (split_bad ((h.below b1).more b1.size) HN.out HC.out HB.out).mono ?_
      rintro e w2 ⟨rfl, hb2⟩
      have b2 := bthen b1 hb2
      go_wp2_with fail
      refine (rSplit_bad ((h.below b2).more b2.size) HN.out HC.out HB.out).mono ?_
      rintro e w3 ⟨rfl, hb3⟩
      have b3 := bthen b2 hb3
      go_wp2_with fail
      refine (same_is (Rl.nil w3 0) (Rl.nil w3 0)).mono ?_
      rintro e w4 ⟨rfl, hb4⟩
      have b4 := bthen b3 hb4
      have s1 := str_eq (Rd.nil w4 0) rfl
      go_wp2
      go_ret
      exact ⟨rfl, b4⟩
    · have HB := Lib.hid hb
      clear hb hc
      obtain ⟨s, hs⟩ : ∃ s, strOf r = s := ⟨_, rfl⟩
      go_enter Try.func4, Try.ntmps4
      go_wp2_with fail
      refine (live_ok w).mono ?_
      rintro e w1 ⟨rfl, b1⟩
      go_wp2_with fail
      refine (split_ok ((h.below b1).more b1.size) HN.out HC.out HB.out).mono ?_
      rintro e w2 ⟨A2, n2, c2, A3, n3, c3, rfl, ho2, ho3, hb2⟩
      have b2 := bthen b1 hb2
      go_wp2_with fail
      refine (rSplit_ok ((h.below b2).more b2.size) HN.out HC.out HB.out).mono ?_
      rintro e w3 ⟨A4, n4, c4, A5, n5, c5, rfl, ho4, ho5, hb3⟩
      have b3 := bthen b2 hb3
      go_wp2_with fail
      refine (same_is (ho2.kept hb3).rl ho4.rl).mono ?_
      rintro e w4 ⟨rfl, hb4⟩
      have b4 := bthen b3 hb4
      have s1 := str_eq ((ho3.step hb3).step hb4).rd hs
      have s2 := str_eq (ho5.step hb4).rd hs
      go_wp2
      go_ret
      exact ⟨rfl, b4⟩

set_option maxRecDepth 100000 in
theorem framesFeeds_walk {w : World} {A : Option Addr} {n c : Nat} {l : List UInt8} (h : Rd w w.heap.size A n c l) {A' : Option Addr} {n' c' : Nat} {l' : List UInt8} (h' : Rd w w.heap.size A' n' c' l') :
    Calls Try.prog 5 #[.slice A n c, .slice A' n' c'] w (Yes w) := by
  have htop := h.top
  have hcap := h.cap
  have htop' := h'.top
  have hcap' := h'.cap
  by_cases h1 : 3000 < n
  · have t1 : decide ((3000 : Int) < (n : Int)) = true := by simp only [decide_eq_true_eq]; omega
    go_enter Try.func5, Try.ntmps5
    go_wp2_with fail
    refine (live_ok w).mono ?_
    rintro e w1 ⟨rfl, b1⟩
    go_wp2
    go_ret
    exact ⟨rfl, b1⟩
  have t1 : decide ((3000 : Int) < (n : Int)) = false := by simp only [decide_eq_false_iff_not]; omega
  by_cases h2 : 3000 < n'
  · have t2 : decide ((3000 : Int) < (n' : Int)) = true := by simp only [decide_eq_true_eq]; omega
    go_enter Try.func5, Try.ntmps5
    go_wp2_with fail
    refine (live_ok w).mono ?_
    rintro e w1 ⟨rfl, b1⟩
    go_wp2
    go_ret
    exact ⟨rfl, b1⟩
  have t2 : decide ((3000 : Int) < (n' : Int)) = false := by simp only [decide_eq_false_iff_not]; omega
  obtain ⟨ls, r, hc⟩ := cuts_any (l ++ l')
  have HN : Hid (n + n' ≤ 100000000) := Lib.hid (by omega)
  have HC := Lib.hid hc
  by_cases hb : bad r
  · have HB := Lib.hid hb
    clear hb hc
    go_enter Try.func5, Try.ntmps5
    go_wp2_with fail
    refine (live_ok w).mono ?_
    rintro e w1 ⟨rfl, b1⟩
    go_wp2_with fail
    refine (feed_bad ((h.below b1).more b1.size) ((h'.below b1).more b1.size) HN.out HC.out HB.out).mono ?_
    rintro e w2 ⟨rfl, hb2⟩
    have b2 := bthen b1 hb2
    go_wp2_with fail
    refine (rFeed_bad ((h.below b2).more b2.size) ((h'.below b2).more b2.size) HN.out HC.out HB.out).mono ?_
    rintro e w3 ⟨rfl, hb3⟩
    have b3 := bthen b2 hb3
    go_wp2_with fail
    refine (same_is (Rl.nil w3 0) (Rl.nil w3 0)).mono ?_
    rintro e w4 ⟨rfl, hb4⟩
    have b4 := bthen b3 hb4
    have s1 := str_eq (Rd.nil w4 0) rfl
    go_wp2
    go_ret
    exact ⟨rfl, b4⟩
  · have HB := Lib.hid hb
    clear hb hc
    obtain ⟨s, hs⟩ : ∃ s, strOf r = s := ⟨_, rfl⟩
    go_enter Try.func5, Try.ntmps5
    go_wp2_with fail
    refine (live_ok w).mono ?_
    rintro e w1 ⟨rfl, b1⟩
    go_wp2_with fail
    refine (feed_ok ((h.below b1).more b1.size) ((h'.below b1).more b1.size) HN.out HC.out HB.out).mono ?_
    rintro e w2 ⟨A2, n2, c2, A3, n3, c3, rfl, ho2, ho3, hb2⟩
    have b2 := bthen b1 hb2
    go_wp2_with fail
    refine (rFeed_ok ((h.below b2).more b2.size) ((h'.below b2).more b2.size) HN.out HC.out HB.out).mono ?_
    rintro e w3 ⟨A4, n4, c4, A5, n5, c5, rfl, ho4, ho5, hb3⟩
    have b3 := bthen b2 hb3
    go_wp2_with fail
    refine (same_is (ho2.kept hb3).rl ho4.rl).mono ?_
    rintro e w4 ⟨rfl, hb4⟩
    have b4 := bthen b3 hb4
    have s1 := str_eq ((ho3.step hb3).step hb4).rd hs
    have s2 := str_eq (ho5.step hb4).rd hs
    go_wp2
    go_ret
    exact ⟨rfl, b4⟩

/-- The first of a list that can be read. -/
theorem Rl.first {w : World} {B : Nat} {A : Option Addr} {n c : Nat} {ls ms : List (List UInt8)} (h : Rl w B A n c (ls ++ ms)) : Rl w B A ls.length c ls := by
  have hl := h.len
  rw [List.length_append] at hl
  refine ⟨rfl, by have := h.cap; omega, h.top, fun hn => ?_⟩
  obtain ⟨b, off, e, hlt, hc⟩ := h.cells (by omega)
  refine ⟨b, off, e, hlt, fun j hj => ?_⟩
  obtain ⟨A', n', c', h1, h2⟩ := hc j (by omega)
  rw [List.getD_eq_getElem?_getD, List.getElem?_append_left hj, ← List.getD_eq_getElem?_getD] at h2
  exact ⟨A', n', c', h1, h2⟩

theorem cellsOf_bytes (w : World) : (sizeOf 22).run Try.prog w = .ok 1 w := by
  obtain ⟨i, hi, hz, h1, h2⟩ := info_parts bytesInfo
  simp [sizeOf, typeInfo, hi, h1]
/-- l[:k]. -/
theorem run_uptoL {w : World} {B : Nat} {A : Option Addr} {n c : Nat} {ls : List (List UInt8)} (h : Rl w B A n c ls) (k : Nat) (hk : k ≤ n) :
    ∀ W, (Instr.sliceAt 28 (.slice A n c) none (some (.int .i64 (k : Int))) none).run Try.prog W = .ok (.slice A k c) W := by
  intro W
  have hte : Try.prog.underlying 28 = some (.slice (Try.prog.elem 28)) := by rw [Try.underlying28]; simp [Program.elem, Try.underlying28]
  have hee : Try.prog.elem 28 = 22 := by simp [Program.elem, Try.underlying28]
  have hc := h.cap
  rw [run_sliceAt_slice W 28 _ _ _ _ hte, run_slice_h W 28 A n c hte .i64 (k : Int) (by omega) (by omega), hee, cellsOf_bytes W]
  simp [sliced]
  intro _
  cases A <;> simp [Addr.add]
end Go.Proofs.Ytnffhhmfclcmjaa
