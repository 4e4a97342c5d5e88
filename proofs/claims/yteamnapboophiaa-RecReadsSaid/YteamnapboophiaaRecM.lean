/-
  The example that each statement of layer 3 begins with: the walk.
-/
import Derived.Test.YteamnapboophiaaRecL
namespace Go.Proofs.Yteamnapboophiaa
open Go.RowKit
set_option linter.unusedVariables false

theorem str_eq {w : World} {B : Nat} {A : Option Addr} {n c : Nat} {l : List UInt8} {s : ByteArray} (h : Rd w B A n c l) (hs : strOf l = s) : (convert 26 9 (.slice A n c)).run Try.prog w = .ok (.string s) w := by
  subst hs
  exact run_str Try.underlying26 Try.underlying5 Try.underlying9 h

set_option maxRecDepth 100000 in
set_option maxHeartbeats 2000000 in
theorem live_ok (w : World) : Calls Try.prog 12 #[] w (Yes w) := by
  go_enter Try.func12, Try.ntmps12
  go_wp2_with fail
  refine (put_is (E := 0) (by decide) (by decide) ex_put2 (by rw [ex_may2]; rfl)).mono ?_
  rintro e w1 ⟨A1, n1, c1, rfl, ho1, hb1⟩
  have b1 := bthen (bput (Below.refl _ w) _) hb1
  have hg1 : Calls Try.prog 20 #[.slice A1 n1 c1, .int .i64 0, .int .i64 10, .int .i64 100] w1 (Got w1 12 { data := #[107] } { data := #[118] } false 99 7 0) := get_is ho1.rd ex_get rfl rfl
  have hs1 : w.heap.size + 1 ≤ w1.heap.size := by have := hb1.size; simpa using this
  go_wp2_with fail
  refine hg1.mono ?_
  rintro e w2 ⟨rfl, hb2⟩
  have b2 := bput (bthen b1 hb2) (.cells #[.int .i64 12, .string { data := #[107] }, .string { data := #[118] }, .bool false, .int .i64 99] 23)
  have hg2 : ∀ w3 : World, Calls Try.prog 20 #[.slice none 0 0, .int .i64 0, .int .i64 10, .int .i64 100] w3 (Got w3 0 { data := #[] } { data := #[] } false 0 0 10) := fun w3 => get_is (Rd.nil _ _) ex_none rfl rfl
  go_wp2_with fail
  refine (hg2 _).mono ?_
  rintro e w3 ⟨rfl, hb3⟩
  have b3 := bthen b2 hb3
  have b4 := bput b3 (.cells #[.int .i64 0, .string { data := #[] }, .string { data := #[] }, .bool false, .int .i64 0] 23)
  have z3 := bput hb3 (.cells #[.int .i64 0, .string { data := #[] }, .string { data := #[] }, .bool false, .int .i64 0] 23)
  have z2 := bthen (bput hb2 (.cells #[.int .i64 12, .string { data := #[107] }, .string { data := #[118] }, .bool false, .int .i64 99] 23)) z3
  obtain ⟨q0, q1, q2, q3, q4⟩ := boxed5 w 12 { data := #[107] } { data := #[118] } false 99 ((hb1.mono (by simp)).trans (z2.mono hs1))
  obtain ⟨u0, u1, u2, u3, u4⟩ := boxed5 w2 12 { data := #[107] } { data := #[118] } false 99 (z3.mono (by simp))
  have s1 := str_eq (ho1.step z2).rd (show strOf [4, 1, 0, 2, 107, 2, 118] = { data := #[4, 1, 0, 2, 107, 2, 118] } from rfl)
  go_wp2_with fail
  refine (size_is (S := 7) (by decide) (by decide) (by rw [ex_put2]; rfl)).mono ?_
  rintro e w5 ⟨rfl, hb5⟩
  have b5 := bthen b4 hb5
  clear q0 q1 q2 q3 q4 u0 u1 u2 u3 u4 s1
  have z5 := bthen z2 hb5
  obtain ⟨q0, q1, q2, q3, q4⟩ := boxed5 w 12 { data := #[107] } { data := #[118] } false 99 ((hb1.mono (by simp)).trans (z5.mono hs1))
  have e1 : errI true = 0 := rfl
  have e2 : errI false = 1 := rfl
  go_wp2_with fail
  refine (check_is (b := true) (by decide) (by decide) (by decide)).mono ?_
  rintro e w6 ⟨rfl, hb6⟩
  have b6 := bthen b5 hb6
  go_wp2_with fail
  refine (check_is (b := false) (by decide) (by decide) (by decide)).mono ?_
  rintro e w7 ⟨rfl, hb7⟩
  have b7 := bthen b6 hb7
  go_wp2_with fail
  refine (check_is (b := false) (by decide) (by decide) (by decide)).mono ?_
  rintro e w8 ⟨rfl, hb8⟩
  have b8 := bthen b7 hb8
  go_wp2
  go_ret
  exact ⟨rfl, b8⟩
end Go.Proofs.Yteamnapboophiaa
