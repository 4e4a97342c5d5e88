/-
  Contracts of frames' fits and Put, and of the reference's Put.
-/
import Derived.Test.YtnffhhmfclcmjaaPut
import Derived.Test.YtnffhhmfclcmjaaGet
import Derived.Test.YtnffhhmfclcmjaaFrmP
namespace Go.Proofs.Ytnffhhmfclcmjaa
open Go.RowKit
set_option linter.unusedVariables false

theorem fits_ok {w : World} (x : Nat) (hx : x < 18446744073709551616) :
    Calls Try.prog 23 #[.int .u64 (x : Int)] w (Tells w (.bool (decide (1 ≤ x) && decide (x ≤ 4096)))) := by
  by_cases h1 : 1 ≤ x
  · have t1 : decide ((1 : Int) ≤ (x : Int)) = true := by simp only [decide_eq_true_eq]; omega
    rw [decide_eq_true h1, Bool.true_and]
    go_enter Try.func23, Try.ntmps23
    by_cases h2 : x ≤ 4096
    · have t2 : decide ((x : Int) ≤ 4096) = true := by simp only [decide_eq_true_eq]; omega
      rw [decide_eq_true h2]
      go_wp2
      go_ret
      exact ⟨rfl, rfl⟩
    · have t2 : decide ((x : Int) ≤ 4096) = false := by simp only [decide_eq_false_iff_not]; omega
      rw [decide_eq_false h2]
      go_wp2
      go_ret
      exact ⟨rfl, rfl⟩
  · have t1 : decide ((1 : Int) ≤ (x : Int)) = false := by simp only [decide_eq_false_iff_not]; omega
    rw [decide_eq_false h1, Bool.false_and]
    go_enter Try.func23, Try.ntmps23
    go_wp2
    go_ret
    exact ⟨rfl, rfl⟩
theorem fits_yes {w : World} (x : Nat) (h1 : 1 ≤ x) (h2 : x ≤ 4096) : Calls Try.prog 23 #[.int .u64 (x : Int)] w (Tells w (.bool true)) := by
  have := fits_ok (w := w) x (by omega)
  rw [decide_eq_true h1, decide_eq_true h2] at this
  exact this
theorem fits_no {w : World} (x : Nat) (hx : x < 18446744073709551616) (h : ¬ (1 ≤ x ∧ x ≤ 4096)) : Calls Try.prog 23 #[.int .u64 (x : Int)] w (Tells w (.bool false)) := by
  have := fits_ok (w := w) x hx
  rw [show (decide (1 ≤ x) && decide (x ≤ 4096)) = false by rw [Bool.eq_false_iff, ne_eq, Bool.and_eq_true, decide_eq_true_eq, decide_eq_true_eq]; exact h] at this
  exact this

/-- An answer of bytes and an error. -/
def Both (w : World) (L : List UInt8) (E : Int) (e : Ending) (w' : World) : Prop :=
  ∃ A n c, e = .returned (.tuple #[.slice A n c, .int .i64 E]) ∧ Own w' w.heap.size A n c L ∧ Below w.heap.size w w'

theorem fPut_no {w : World} {B : Nat} {A : Option Addr} {n c : Nat} {l : List UInt8} (h : Rd w B A n c l) (hn : ¬ ok l) :
    Calls Try.prog 12 #[.slice A n c] w (Both w [] 11) := by
  have hlen := h.len
  have htop := h.top
  have hcap := h.cap
  have HF := Lib.hid (fun w : World => fits_no (w := w) n (by omega) (by unfold ok at hn; omega))
  have hc : (n : Int) % 18446744073709551616 = (n : Int) := by omega
  clear hn
  go_enter Try.func12, Try.ntmps12
  go_wp2_with fail
  refine (HF.out _).mono ?_
  rintro e w1 ⟨rfl, rfl⟩
  go_wp2
  go_ret2
  exact ⟨none, 0, 0, rfl, Ob.nil _ _ _, Below.refl _ _⟩

theorem fPut_ok {w : World} {B : Nat} {A : Option Addr} {n c : Nat} {l : List UInt8} (h : Rd w B A n c l) (hB : B ≤ w.heap.size) (hn : ok l) :
    Calls Try.prog 12 #[.slice A n c] w (Both w (frame l) 0) := by
  have hlen := h.len
  have HF := Lib.hid (fun w : World => fits_yes (w := w) n (by unfold ok at hn; omega) (by unfold ok at hn; omega))
  have hn2 : n ≤ 4096 := by unfold ok at hn; omega
  have HP := Lib.hid (fun w : World => put_ok (Rd.nil w 0) (Nat.zero_le _) (by omega) n (by omega) 4 (by omega) (by omega))
  have hc : (n : Int) % 18446744073709551616 = (n : Int) := by omega
  clear hn
  go_enter Try.func12, Try.ntmps12
  go_wp2_with fail
  refine (HF.out _).mono ?_
  rintro e w1 ⟨rfl, rfl⟩
  go_wp2_with fail
  refine (HP.out _).mono ?_
  rintro e w1 ⟨A1, n1, c1, rfl, ho1, hb1⟩
  have l1 := ho1.len
  rw [List.nil_append, be_length] at l1
  subst l1
  go_wp2_with (at_builtin; refine wpList_app rfl (.tmp 12) (.tmp 13) rfl Try.underlying22 byteInfo rfl ho1 rfl (h.below (hb1.mono hB)) ?_ ?_ ?_)
  · omega
  · exact hb1.size
  · intro A2 c2 w2 ho2 hb2
    go_wp2
    go_ret2
    refine ⟨_, _, _, rfl, ?_, hb1.trans hb2⟩
    subst hlen
    exact ho2

theorem rPut_no {w : World} {B : Nat} {A : Option Addr} {n c : Nat} {l : List UInt8} (h : Rd w B A n c l) (hn : ¬ ok l) :
    Calls Try.prog 13 #[.slice A n c] w (Both w [] 11) := by
  have hlen := h.len
  by_cases h1 : n < 1
  · have t1 : decide ((n : Int) < 1) = true := by simp only [decide_eq_true_eq]; omega
    go_enter Try.func13, Try.ntmps13
    go_wp2
    go_ret2
    exact ⟨none, 0, 0, rfl, Ob.nil _ _ _, Below.refl _ _⟩
  · have t1 : decide ((n : Int) < 1) = false := by simp only [decide_eq_false_iff_not]; omega
    have t2 : decide ((4096 : Int) < (n : Int)) = true := by unfold ok at hn; simp only [decide_eq_true_eq]; omega
    go_enter Try.func13, Try.ntmps13
    go_wp2
    go_ret2
    exact ⟨none, 0, 0, rfl, Ob.nil _ _ _, Below.refl _ _⟩

theorem rPut_ok {w : World} {B : Nat} {A : Option Addr} {n c : Nat} {l : List UInt8} (h : Rd w B A n c l) (hB : B ≤ w.heap.size) (hn : ok l) :
    Calls Try.prog 13 #[.slice A n c] w (Both w (frame l) 0) := by
  have hlen := h.len
  have hn1 : 1 ≤ n := by unfold ok at hn; omega
  have hn2 : n ≤ 4096 := by unfold ok at hn; omega
  have t1 : decide ((n : Int) < 1) = false := by simp only [decide_eq_false_iff_not]; omega
  have t2 : decide ((4096 : Int) < (n : Int)) = false := by simp only [decide_eq_false_iff_not]; omega
  have e : ∀ a : Nat, (((UInt8.ofNat a).toNat : Nat) : Int) = (a : Int) % 256 := by intro a; rw [UInt8.toNat_ofNat']; omega
  have hcs : [Value.int .u8 0, .int .u8 0, .int .u8 ((n : Int) / 256), .int .u8 ((n : Int) % 256)] = bcs (be n 4) := by
    simp only [be, bcs, List.map_cons, List.map_nil, e]
    rw [show n / 256 ^ 3 = 0 by omega, show n / 256 ^ 2 = 0 by omega, Nat.pow_one, Nat.pow_zero, Nat.div_one]
    rw [show ((n / 256 : Nat) : Int) % 256 = (n : Int) / 256 by omega]
    rfl
  have d1 : (n : Int).tdiv 256 = (n : Int) / 256 := by rw [Int.tdiv_eq_ediv_of_nonneg (by omega)]
  have d2 : (n : Int).tmod 256 = (n : Int) % 256 := by rw [Int.tmod_eq_emod_of_nonneg (by omega)]
  have HL := Lib.hid (fun w => Ob.lit (e := 5) w (Nat.le_refl _) _ (be n 4) hcs (by rw [be_length]; omega))
  clear hcs hn e
  go_enter Try.func13, Try.ntmps13
  have ho := HL.out w
  rw [be_length] at ho
  have b1 := bput (Below.refl _ w) (.cells #[Value.int .u8 0, .int .u8 0, .int .u8 ((n : Int) / 256), .int .u8 ((n : Int) % 256)] 5)
  go_wp2_with (at_builtin; refine wpList_app rfl (.tmp 19) (.tmp 20) rfl Try.underlying22 byteInfo rfl ho rfl (h.below (b1.mono hB)) ?_ ?_ ?_)
  · omega
  · exact b1.size
  · intro A2 c2 w2 ho2 hb2
    go_wp2
    go_ret2
    refine ⟨_, _, _, rfl, ?_, b1.trans hb2⟩
    subst hlen
    exact ho2
end Go.Proofs.Ytnffhhmfclcmjaa
