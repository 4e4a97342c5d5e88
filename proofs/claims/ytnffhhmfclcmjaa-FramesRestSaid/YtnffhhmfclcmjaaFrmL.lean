/-
  The example that each statement of layer 5 begins with.
-/
import Derived.Deep.RegionHeld3
import Derived.Deep.DrawnRows
import Derived.Lib.SlBytesConst
import Derived.Test.YtnffhhmfclcmjaaFrmF
namespace Go.Proofs.Ytnffhhmfclcmjaa
open Go.RowKit
set_option linter.unusedVariables false

/-- A call that answers true and leaves what was there as it was. -/
def Yes (w : World) (e : Ending) (w' : World) : Prop := e = .returned (.bool true) ∧ Below w.heap.size w w'

theorem Rd.marked {w : World} {t : TypeId} (cs : List Value) (l : List UInt8) (m : Nat × Nat) (h : cs = bcs l) (hl : l.length ≤ 9223372036854775807) : Rd (w.alloc (.cells cs.toArray t m)) (w.alloc (.cells cs.toArray t m)).heap.size (some ⟨w.heap.size, 0, none⟩) l.length l.length l := by
  subst h
  refine ⟨rfl, Nat.le_refl _, hl, fun _ => ⟨w.heap.size, 0, rfl, by rw [World.size_alloc]; omega, fun j hj => ?_⟩⟩
  have hrow : (w.alloc (.cells (bcs l).toArray t m)).heap[w.heap.size]? = some (.cells (bcs l).toArray t m) := by
    show (w.heap.push _)[w.heap.size]? = _
    simp
  rw [Nat.zero_add, cell_of_row _ _ _ _ _ _ hrow]
  simpa using bcs_get l j hj

theorem same_is {w : World} {B : Nat} {A A' : Option Addr} {n c n' c' : Nat} {ls : List (List UInt8)} (h : Rl w B A n c ls) (h' : Rl w B A' n' c' ls) :
    Calls Try.prog 16 #[.slice A n c, .slice A' n' c'] w (Yes w) := by
  refine (same_yes h h').mono ?_
  rintro e w' ⟨rfl, k, rfl⟩
  exact ⟨rfl, bdrewN (Below.refl _ w) k⟩

theorem live_put : frame [97, 98] = [0, 0, 0, 2, 97, 98] := by decide +kernel
theorem live_cuts : Cuts [0, 0, 0, 2, 97, 98, 0, 0, 0, 2, 97, 98, 0, 0] [[97, 98], [97, 98]] [0, 0] := by
  have := cuts_stream [[97, 98], [97, 98]] [0, 0] (.inl (by decide)) (by simp [ok])
  rw [show stream [[97, 98], [97, 98]] ++ [0, 0] = [0, 0, 0, 2, 97, 98, 0, 0, 0, 2, 97, 98, 0, 0] by decide +kernel] at this
  exact this
theorem live_not : ¬ bad [0, 0] := fun h => absurd h.1 (by decide)
theorem live_bad : bad [0, 0, 0, 0] := ⟨by decide, by decide +kernel⟩
theorem live_bad_cuts : Cuts ([0, 0] ++ [0, 0]) [] [0, 0, 0, 0] := Cuts.done _ (.inr (.inl live_bad))
theorem str_ab : strOf [0, 0, 0, 2, 97, 98] = { data := #[0, 0, 0, 2, 97, 98] } := rfl
theorem str_00 : strOf [0, 0] = { data := #[0, 0] } := rfl

set_option maxRecDepth 100000 in
theorem live_ok (w : World) : Calls Try.prog 11 #[] w (Yes w) := by
  have kc := fun (w : World) (C : Array Value) (n c : Nat) => Lib.run_convert_bytes_const (P := Try.prog) w 22 5 C n c Try.underlying22 Try.underlying5
  go_enter Try.func11, Try.ntmps11
  go_wp2_with fail
  refine (fPut_ok (Rd.marked (t := 5) (bcs [97, 98]) [97, 98] (2, 3) rfl (by decide)) (Nat.le_refl _) (by simp [ok])).mono ?_
  rintro e w1 ⟨A1, n1, c1, rfl, ho1, hb1⟩
  have b1 := bthen (bput (Below.refl _ w) _) hb1
  rw [live_put] at ho1
  go_wp2_with fail
  refine (split_ok (((Rd.lit w1 5 (bcs [0, 0, 0, 2, 97, 98, 0, 0, 0, 2, 97, 98, 0, 0]) _ rfl (by decide))).more (by simp)) (by simp) live_cuts live_not).mono ?_
  rintro e w2 ⟨A2, n2, c2, A3, n3, c3, rfl, ho2, ho3, hb2⟩
  have b2 := bthen (bput b1 _) hb2
  have hb2' := bthen (bput (Below.refl _ w1) _) hb2
  have q1 := (Rd.lit w2 5 (bcs [97, 98]) [97, 98] rfl (by decide))
  have q2 := (Rd.lit (w2.alloc (.cells #[.int .u8 97, .int .u8 98] 5)) 5 (bcs [97, 98]) [97, 98] rfl (by decide))
  have q3 := Rl.two ((q1.alloc (by simp) (.cells #[.int .u8 97, .int .u8 98] 5)).more (B' := w2.heap.size + 1 + 1) (by omega)) (q2.more (B' := w2.heap.size + 1 + 1) (by simp)) (by simp) 22
  have q4 := (ho2.rl.below (bput (bput (bput (Below.refl _ w2) (.cells #[.int .u8 97, .int .u8 98] 5)) (.cells #[.int .u8 97, .int .u8 98] 5)) (.cells #[.slice (some ⟨w2.heap.size, 0, none⟩) 2 2, .slice (some ⟨w2.heap.size + 1, 0, none⟩) 2 2] 22))).more (B' := w2.heap.size + 1 + 1 + 1) (by omega)
  simp only [World.size_alloc, List.length_cons, List.length_nil] at q3
  have b2' := bput (bput (bput b2 (.cells #[.int .u8 97, .int .u8 98] 5)) (.cells #[.int .u8 97, .int .u8 98] 5)) (.cells #[.slice (some ⟨w2.heap.size, 0, none⟩) 2 2, .slice (some ⟨w2.heap.size + 1, 0, none⟩) 2 2] 22)
  have b2k := bput (bput (bput (Below.refl _ w2) (.cells #[.int .u8 97, .int .u8 98] 5)) (.cells #[.int .u8 97, .int .u8 98] 5)) (.cells #[.slice (some ⟨w2.heap.size, 0, none⟩) 2 2, .slice (some ⟨w2.heap.size + 1, 0, none⟩) 2 2] 22)
  go_wp2_with fail
  refine (same_is q4 q3).mono ?_
  rintro e w3 ⟨rfl, hb3⟩
  have b3 := bthen b2' hb3
  have k3 := bthen b2k hb3
  clear q1 q2 q3 q4
  have r1 := (Rd.lit w3 5 (bcs [0, 0]) [0, 0] rfl (by decide))
  have r2 := (Rd.lit (w3.alloc (.cells #[.int .u8 0, .int .u8 0] 5)) 5 (bcs [0, 0]) [0, 0] rfl (by decide))
  have r1' := (r1.alloc (by simp) (.cells #[.int .u8 0, .int .u8 0] 5))
  simp only [World.size_alloc] at r2
  have b3' := bput (bput b3 (.cells #[.int .u8 0, .int .u8 0] 5)) (.cells #[.int .u8 0, .int .u8 0] 5)
  have k3' := bput (bput (Below.refl _ w3) (.cells #[.int .u8 0, .int .u8 0] 5)) (.cells #[.int .u8 0, .int .u8 0] 5)
  go_wp2_with fail
  refine (feed_bad (r1'.more (by simp)) (r2.more (by simp)) (by simp) live_bad_cuts live_bad).mono ?_
  rintro e w4 ⟨rfl, hb4⟩
  have b4 := bthen b3' hb4
  have o1 := ho1.step (bthen hb2' (bthen k3 (bthen k3' hb4)))
  have o3 := ho3.step (bthen k3 (bthen k3' hb4))
  have s1 := str_eq o1.rd str_ab
  have s3 := str_eq o3.rd str_00
  go_wp2
  go_ret
  exact ⟨rfl, b4⟩
end Go.Proofs.Ytnffhhmfclcmjaa
