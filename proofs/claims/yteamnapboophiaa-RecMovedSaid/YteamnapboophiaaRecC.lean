/-
  Contracts of rec's and the reference's in, Check, beside.
-/
import Derived.WalkLawsBesides
import Derived.Deep.QuietTactic
import Derived.BigQuiet
import Derived.Test.YteamnapboophiaaRef
import Derived.Test.YteamnapboophiaaRecP
namespace Go.Proofs.Yteamnapboophiaa
open Go.RowKit
set_option linter.unusedVariables false

theorem in_is {w : World} (n : Int) (b : Bool) (h : inR n = b) : Calls Try.prog 22 #[.int .i64 n] w (Tells w (.bool b)) := by
  subst h
  unfold inR
  by_cases h1 : 0 ≤ n
  · have t1 : decide ((0 : Int) ≤ n) = true := by simpa using h1
    go_enter Try.func22, Try.ntmps22
    go_wp2
    go_ret
    exact ⟨by simp [h1], rfl⟩
  · have t1 : decide ((0 : Int) ≤ n) = false := by simpa using h1
    go_enter Try.func22, Try.ntmps22
    go_wp2
    go_ret
    exact ⟨by simp, rfl⟩
theorem rin_is {w : World} (n : Int) (b : Bool) (h : inR n = b) : Calls Try.prog 25 #[.int .i64 n] w (Tells w (.bool b)) := by
  subst h
  unfold inR
  by_cases h1 : 0 ≤ n
  · have t1 : decide ((0 : Int) ≤ n) = true := by simpa using h1
    go_enter Try.func25, Try.ntmps25
    go_wp2
    go_ret
    exact ⟨by simp [h1], rfl⟩
  · have t1 : decide ((0 : Int) ≤ n) = false := by simpa using h1
    go_enter Try.func25, Try.ntmps25
    go_wp2
    go_ret
    exact ⟨by simp, rfl⟩

/-- A record's value, of strings. -/
def rvS (off : Int) (k v : ByteArray) (dead : Bool) (stamp : Int) : Value := .agg #[.int .i64 off, .string k, .string v, .bool dead, .int .i64 stamp]
/-- Says an error's number, and leaves what was there. -/
def SaysI (w : World) (z : Int) (e : Ending) (w' : World) : Prop := e = .returned (.int .i64 z) ∧ Below w.heap.size w w'

theorem chk_off {off : Int} {kn vn : Nat} {dead : Bool} {stamp : Int} (h : inR off = false) : errI (chkN off kn vn dead stamp) = 1 := by simp [errI, chkN, h]
theorem chk_stamp {off : Int} {kn vn : Nat} {dead : Bool} {stamp : Int} (h : inR stamp = false) : errI (chkN off kn vn dead stamp) = 1 := by simp [errI, chkN, h]
theorem chk_len {off : Int} {kn vn : Nat} {dead : Bool} {stamp : Int} (h : 64 < max kn vn) : errI (chkN off kn vn dead stamp) = 1 := by
  have : chkN off kn vn dead stamp = false := by
    cases hc : chkN off kn vn dead stamp
    · rfl
    · simp only [chkN, Bool.and_eq_true, decide_eq_true_eq] at hc
      omega
  rw [this]; rfl
theorem chk_live {off : Int} {kn vn : Nat} {stamp : Int} (h1 : inR off = true) (h2 : inR stamp = true) (h3 : ¬ 64 < max kn vn) : errI (chkN off kn vn false stamp) = 0 := by
  have a : decide (kn ≤ 64) = true := by simp only [decide_eq_true_eq]; omega
  have b : decide (vn ≤ 64) = true := by simp only [decide_eq_true_eq]; omega
  simp [errI, chkN, h1, h2, a, b]
theorem chk_nokey {off : Int} {kn vn : Nat} {stamp : Int} (h : kn = 0) : errI (chkN off kn vn true stamp) = 1 := by simp [errI, chkN, h]
theorem chk_gone {off : Int} {kn vn : Nat} {stamp : Int} (h1 : inR off = true) (h2 : inR stamp = true) (h3 : ¬ 64 < max kn vn) (h4 : ¬ kn = 0) (h5 : vn = 0) : errI (chkN off kn vn true stamp) = 0 := by
  simp [errI, chkN, h1, h2, h4, h5]
  omega
theorem chk_val {off : Int} {kn vn : Nat} {stamp : Int} (h : ¬ vn = 0) : errI (chkN off kn vn true stamp) = 1 := by simp [errI, chkN, h]
theorem toList_nil {s : ByteArray} (h : s.size = 0) : s.toList = [] := by
  rw [ByteArray.toList_eq]
  exact List.eq_nil_of_length_eq_zero (by rw [Array.length_toList]; exact h)
theorem toList_not {s : ByteArray} (h : ¬ s.size = 0) : s.toList.isEmpty = false := by
  rw [ByteArray.toList_eq, List.isEmpty_eq_false_iff]
  intro e
  apply h
  show s.data.size = 0
  rw [← Array.length_toList, e]
  rfl
theorem toList_not' {s : ByteArray} (h : ¬ s.size = 0) : (!s.toList.isEmpty) = true := by rw [toList_not h]; rfl

theorem check_ok {w : World} (off : Int) (k v : ByteArray) (dead : Bool) (stamp : Int) (hk : k.size ≤ 9223372036854775807) (hv : v.size ≤ 9223372036854775807) :
    Calls Try.prog 16 #[.agg #[.int .i64 off, .string k, .string v, .bool dead, .int .i64 stamp]] w (SaysI w (errI (chkN off k.size v.size dead stamp))) := by
  cases h1 : inR off with
  | false =>
    have HE := Lib.hid (chk_off (kn := k.size) (vn := v.size) (dead := dead) (stamp := stamp) h1)
    go_enter Try.func16, Try.ntmps16
    go_wp2_with fail
    refine (in_is _ _ h1).mono ?_
    rintro e w1 ⟨rfl, rfl⟩
    go_wp2
    all_goals (go_ret; exact ⟨by rw [HE.out]; rfl, (Below.refl _ w).alloc (Nat.le_refl _) _⟩)
  | true =>
  cases h2 : inR stamp with
  | false =>
    have HE := Lib.hid (chk_stamp (off := off) (kn := k.size) (vn := v.size) (dead := dead) h2)
    go_enter Try.func16, Try.ntmps16
    go_wp2_with fail
    refine (in_is _ _ h1).mono ?_
    rintro e w1 ⟨rfl, rfl⟩
    go_wp2_with fail
    refine (in_is _ _ h2).mono ?_
    rintro e w1 ⟨rfl, rfl⟩
    go_wp2
    all_goals (go_ret; exact ⟨by rw [HE.out]; rfl, (Below.refl _ w).alloc (Nat.le_refl _) _⟩)
  | true =>
  by_cases h3 : 64 < max k.size v.size
  · have HE := Lib.hid (chk_len (off := off) (kn := k.size) (vn := v.size) (dead := dead) (stamp := stamp) h3)
    by_cases hkv : k.size < v.size
    · have t4 : decide ((64 : Int) < (v.size : Int)) = true := by simp only [decide_eq_true_eq]; omega
      have t5 : decide (k.size < v.size) = true := by simp only [decide_eq_true_eq]; omega
      have t6 : decide (v.size ≤ k.size) = false := by simp only [decide_eq_false_iff_not]; omega
      go_enter Try.func16, Try.ntmps16
      go_wp2_with fail
      refine (in_is _ _ h1).mono ?_
      rintro e w1 ⟨rfl, rfl⟩
      go_wp2_with fail
      refine (in_is _ _ h2).mono ?_
      rintro e w1 ⟨rfl, rfl⟩
      go_wp2
      all_goals first
        | (exfalso; omega)
        | (go_ret; exact ⟨by rw [HE.out]; rfl, (Below.refl _ w).alloc (Nat.le_refl _) _⟩)
    · have t4 : decide ((64 : Int) < (k.size : Int)) = true := by simp only [decide_eq_true_eq]; omega
      go_enter Try.func16, Try.ntmps16
      go_wp2_with fail
      refine (in_is _ _ h1).mono ?_
      rintro e w1 ⟨rfl, rfl⟩
      go_wp2_with fail
      refine (in_is _ _ h2).mono ?_
      rintro e w1 ⟨rfl, rfl⟩
      go_wp2
      all_goals first
        | (exfalso; omega)
        | (go_ret; exact ⟨by rw [HE.out]; rfl, (Below.refl _ w).alloc (Nat.le_refl _) _⟩)
  have t4 : decide ((64 : Int) < (k.size : Int)) = false := by simp only [decide_eq_false_iff_not]; omega
  have t5 : decide ((64 : Int) < (v.size : Int)) = false := by simp only [decide_eq_false_iff_not]; omega
  have t3 : decide ((64 : Int) < max (k.size : Int) (v.size : Int)) = false := by simp only [decide_eq_false_iff_not]; omega
  cases dead with
  | false =>
    have HE := Lib.hid (chk_live (kn := k.size) (vn := v.size) h1 h2 h3)
    go_enter Try.func16, Try.ntmps16
    go_wp2_with fail
    refine (in_is _ _ h1).mono ?_
    rintro e w1 ⟨rfl, rfl⟩
    go_wp2_with fail
    refine (in_is _ _ h2).mono ?_
    rintro e w1 ⟨rfl, rfl⟩
    go_wp2
    all_goals (go_ret; exact ⟨by rw [HE.out]; rfl, (Below.refl _ w).alloc (Nat.le_refl _) _⟩)
  | true =>
  by_cases h6 : k.size = 0
  · have e1 : k.toList = [] := toList_nil h6
    have HE := Lib.hid (chk_nokey (off := off) (kn := k.size) (vn := v.size) (stamp := stamp) h6)
    clear h6
    go_enter Try.func16, Try.ntmps16
    go_wp2_with fail
    refine (in_is _ _ h1).mono ?_
    rintro e w1 ⟨rfl, rfl⟩
    go_wp2_with fail
    refine (in_is _ _ h2).mono ?_
    rintro e w1 ⟨rfl, rfl⟩
    go_wp2
    all_goals (go_ret; exact ⟨by rw [HE.out]; rfl, (Below.refl _ w).alloc (Nat.le_refl _) _⟩)
  have e1 := toList_not h6
  have e1' := toList_not' h6
  by_cases h7 : v.size = 0
  · have e2 : v.toList = [] := toList_nil h7
    have HE := Lib.hid (chk_gone (kn := k.size) (vn := v.size) h1 h2 h3 h6 h7)
    clear h7
    go_enter Try.func16, Try.ntmps16
    go_wp2_with fail
    refine (in_is _ _ h1).mono ?_
    rintro e w1 ⟨rfl, rfl⟩
    go_wp2_with fail
    refine (in_is _ _ h2).mono ?_
    rintro e w1 ⟨rfl, rfl⟩
    go_wp2
    all_goals (go_ret; exact ⟨by rw [HE.out]; rfl, (Below.refl _ w).alloc (Nat.le_refl _) _⟩)
  · have e2 := toList_not h7
    have e2' := toList_not' h7
    have HE := Lib.hid (chk_val (off := off) (kn := k.size) (vn := v.size) (stamp := stamp) h7)
    go_enter Try.func16, Try.ntmps16
    go_wp2_with fail
    refine (in_is _ _ h1).mono ?_
    rintro e w1 ⟨rfl, rfl⟩
    go_wp2_with fail
    refine (in_is _ _ h2).mono ?_
    rintro e w1 ⟨rfl, rfl⟩
    go_wp2
    all_goals (go_ret; exact ⟨by rw [HE.out]; rfl, (Below.refl _ w).alloc (Nat.le_refl _) _⟩)

theorem rcheck_ok {w : World} (off : Int) (k v : ByteArray) (dead : Bool) (stamp : Int) (hk : k.size ≤ 9223372036854775807) (hv : v.size ≤ 9223372036854775807) :
    Calls Try.prog 17 #[.agg #[.int .i64 off, .string k, .string v, .bool dead, .int .i64 stamp]] w (SaysI w (errI (chkN off k.size v.size dead stamp))) := by
  cases h1 : inR off with
  | false =>
    have HE := Lib.hid (chk_off (kn := k.size) (vn := v.size) (dead := dead) (stamp := stamp) h1)
    go_enter Try.func17, Try.ntmps17
    go_wp2_with fail
    refine (rin_is _ _ h1).mono ?_
    rintro e w1 ⟨rfl, rfl⟩
    go_wp2
    all_goals (go_ret; exact ⟨by rw [HE.out]; rfl, (Below.refl _ w).alloc (Nat.le_refl _) _⟩)
  | true =>
  cases h2 : inR stamp with
  | false =>
    have HE := Lib.hid (chk_stamp (off := off) (kn := k.size) (vn := v.size) (dead := dead) h2)
    go_enter Try.func17, Try.ntmps17
    go_wp2_with fail
    refine (rin_is _ _ h1).mono ?_
    rintro e w1 ⟨rfl, rfl⟩
    go_wp2_with fail
    refine (rin_is _ _ h2).mono ?_
    rintro e w1 ⟨rfl, rfl⟩
    go_wp2
    all_goals (go_ret; exact ⟨by rw [HE.out]; rfl, (Below.refl _ w).alloc (Nat.le_refl _) _⟩)
  | true =>
  by_cases h4 : 64 < k.size
  · have t4 : decide ((64 : Int) < (k.size : Int)) = true := by simp only [decide_eq_true_eq]; omega
    have HE := Lib.hid (chk_len (off := off) (kn := k.size) (vn := v.size) (dead := dead) (stamp := stamp) (by omega))
    go_enter Try.func17, Try.ntmps17
    go_wp2_with fail
    refine (rin_is _ _ h1).mono ?_
    rintro e w1 ⟨rfl, rfl⟩
    go_wp2_with fail
    refine (rin_is _ _ h2).mono ?_
    rintro e w1 ⟨rfl, rfl⟩
    go_wp2
    all_goals (go_ret; exact ⟨by rw [HE.out]; rfl, (Below.refl _ w).alloc (Nat.le_refl _) _⟩)
  have t4 : decide ((64 : Int) < (k.size : Int)) = false := by simp only [decide_eq_false_iff_not]; omega
  by_cases h5 : 64 < v.size
  · have t5 : decide ((64 : Int) < (v.size : Int)) = true := by simp only [decide_eq_true_eq]; omega
    have HE := Lib.hid (chk_len (off := off) (kn := k.size) (vn := v.size) (dead := dead) (stamp := stamp) (by omega))
    go_enter Try.func17, Try.ntmps17
    go_wp2_with fail
    refine (rin_is _ _ h1).mono ?_
    rintro e w1 ⟨rfl, rfl⟩
    go_wp2_with fail
    refine (rin_is _ _ h2).mono ?_
    rintro e w1 ⟨rfl, rfl⟩
    go_wp2
    all_goals (go_ret; exact ⟨by rw [HE.out]; rfl, (Below.refl _ w).alloc (Nat.le_refl _) _⟩)
  have t5 : decide ((64 : Int) < (v.size : Int)) = false := by simp only [decide_eq_false_iff_not]; omega
  have h3 : ¬ 64 < max k.size v.size := by omega
  cases dead with
  | false =>
    have HE := Lib.hid (chk_live (kn := k.size) (vn := v.size) h1 h2 h3)
    go_enter Try.func17, Try.ntmps17
    go_wp2_with fail
    refine (rin_is _ _ h1).mono ?_
    rintro e w1 ⟨rfl, rfl⟩
    go_wp2_with fail
    refine (rin_is _ _ h2).mono ?_
    rintro e w1 ⟨rfl, rfl⟩
    go_wp2
    all_goals (go_ret; exact ⟨by rw [HE.out]; rfl, (Below.refl _ w).alloc (Nat.le_refl _) _⟩)
  | true =>
  by_cases h6 : k.size = 0
  · have e1 : k.toList = [] := toList_nil h6
    have HE := Lib.hid (chk_nokey (off := off) (kn := k.size) (vn := v.size) (stamp := stamp) h6)
    clear h6
    go_enter Try.func17, Try.ntmps17
    go_wp2_with fail
    refine (rin_is _ _ h1).mono ?_
    rintro e w1 ⟨rfl, rfl⟩
    go_wp2_with fail
    refine (rin_is _ _ h2).mono ?_
    rintro e w1 ⟨rfl, rfl⟩
    go_wp2
    all_goals (go_ret; exact ⟨by rw [HE.out]; rfl, (Below.refl _ w).alloc (Nat.le_refl _) _⟩)
  have e1 := toList_not h6
  have e1' := toList_not' h6
  by_cases h7 : v.size = 0
  · have e2 : v.toList = [] := toList_nil h7
    have HE := Lib.hid (chk_gone (kn := k.size) (vn := v.size) h1 h2 h3 h6 h7)
    clear h7
    go_enter Try.func17, Try.ntmps17
    go_wp2_with fail
    refine (rin_is _ _ h1).mono ?_
    rintro e w1 ⟨rfl, rfl⟩
    go_wp2_with fail
    refine (rin_is _ _ h2).mono ?_
    rintro e w1 ⟨rfl, rfl⟩
    go_wp2
    all_goals (go_ret; exact ⟨by rw [HE.out]; rfl, (Below.refl _ w).alloc (Nat.le_refl _) _⟩)
  · have e2 := toList_not h7
    have e2' := toList_not' h7
    have HE := Lib.hid (chk_val (off := off) (kn := k.size) (vn := v.size) (stamp := stamp) h7)
    go_enter Try.func17, Try.ntmps17
    go_wp2_with fail
    refine (rin_is _ _ h1).mono ?_
    rintro e w1 ⟨rfl, rfl⟩
    go_wp2_with fail
    refine (rin_is _ _ h2).mono ?_
    rintro e w1 ⟨rfl, rfl⟩
    go_wp2
    all_goals (go_ret; exact ⟨by rw [HE.out]; rfl, (Below.refl _ w).alloc (Nat.le_refl _) _⟩)

end Go.Proofs.Yteamnapboophiaa
