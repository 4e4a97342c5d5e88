/-
  Contracts of the leaves of layer 6: kinds and versions, how many numbers and texts a kind has, and the looks over lists of numbers and of texts.
-/
import Derived.WalkMore
import Derived.Test.YtlijagbklopipaaDoorProQ
import Derived.Test.YtlijagbklopipaaDoorProG
namespace Go.Proofs.YtlijagbklopipaaDoor
open Go.RowKit
set_option linter.unusedVariables false

theorem known_of1 {k : Int} (v : Int) (h : k < 1 ∨ 12 < k) : knownE k v = 60 := by unfold knownE; rw [if_pos h]
theorem known_of2 {k v : Int} (h : ¬ (k < 1 ∨ 12 < k)) (h2 : v < 0 ∨ 2 < v) : knownE k v = 61 := by unfold knownE; rw [if_neg h, if_pos h2]
theorem known_of3 {k v : Int} (h : ¬ (k < 1 ∨ 12 < k)) (h2 : ¬ (v < 0 ∨ 2 < v)) : knownE k v = 0 := by unfold knownE; rw [if_neg h, if_neg h2]

theorem known_is {w : World} (k v : Int) : Calls Tryd.prog 61 #[.int .i64 k, .int .i64 v] w (Tells w (.int .i64 (knownE k v))) := by
  by_cases h1 : k < 1
  · have t1 : decide (k < 1) = true := by simpa using h1
    rw [known_of1 v (.inl h1)]
    clear h1
    go_enter Tryd.func61, Tryd.ntmps61
    go_wp2
    go_ret
    exact ⟨rfl, rfl⟩
  have t1 : decide (k < 1) = false := by simpa using h1
  by_cases h2 : 12 < k
  · have t2 : decide (12 < k) = true := by simpa using h2
    rw [known_of1 v (.inr h2)]
    clear h1 h2
    go_enter Tryd.func61, Tryd.ntmps61
    go_wp2
    go_ret
    exact ⟨rfl, rfl⟩
  have t2 : decide (12 < k) = false := by simpa using h2
  by_cases h3 : v < 0
  · have t3 : decide (v < 0) = true := by simpa using h3
    rw [known_of2 (by omega) (.inl h3)]
    clear h1 h2 h3
    go_enter Tryd.func61, Tryd.ntmps61
    go_wp2
    go_ret
    exact ⟨rfl, rfl⟩
  have t3 : decide (v < 0) = false := by simpa using h3
  by_cases h4 : 2 < v
  · have t4 : decide (2 < v) = true := by simpa using h4
    rw [known_of2 (by omega) (.inr h4)]
    clear h1 h2 h3 h4
    go_enter Tryd.func61, Tryd.ntmps61
    go_wp2
    go_ret
    exact ⟨rfl, rfl⟩
  have t4 : decide (2 < v) = false := by simpa using h4
  rw [known_of3 (by omega) (by omega)]
  clear h1 h2 h3 h4
  go_enter Tryd.func61, Tryd.ntmps61
  go_wp2
  go_ret
  exact ⟨rfl, rfl⟩

theorem rknown_is {w : World} (k v : Int) : Calls Tryd.prog 66 #[.int .i64 k, .int .i64 v] w (Tells w (.int .i64 (knownE k v))) := by
  by_cases h1 : k < 1
  · have t1 : decide (k < 1) = true := by simpa using h1
    rw [known_of1 v (.inl h1)]
    clear h1
    go_enter Tryd.func66, Tryd.ntmps66
    go_wp2
    go_ret
    exact ⟨rfl, rfl⟩
  have t1 : decide (k < 1) = false := by simpa using h1
  by_cases h2 : 12 < k
  · have t2 : decide (12 < k) = true := by simpa using h2
    rw [known_of1 v (.inr h2)]
    clear h1 h2
    go_enter Tryd.func66, Tryd.ntmps66
    go_wp2
    go_ret
    exact ⟨rfl, rfl⟩
  have t2 : decide (12 < k) = false := by simpa using h2
  by_cases h3 : v < 0
  · have t3 : decide (v < 0) = true := by simpa using h3
    rw [known_of2 (by omega) (.inl h3)]
    clear h1 h2 h3
    go_enter Tryd.func66, Tryd.ntmps66
    go_wp2
    go_ret
    exact ⟨rfl, rfl⟩
  have t3 : decide (v < 0) = false := by simpa using h3
  by_cases h4 : 2 < v
  · have t4 : decide (2 < v) = true := by simpa using h4
    rw [known_of2 (by omega) (.inr h4)]
    clear h1 h2 h3 h4
    go_enter Tryd.func66, Tryd.ntmps66
    go_wp2
    go_ret
    exact ⟨rfl, rfl⟩
  have t4 : decide (2 < v) = false := by simpa using h4
  rw [known_of3 (by omega) (by omega)]
  clear h1 h2 h3 h4
  go_enter Tryd.func66, Tryd.ntmps66
  go_wp2
  go_ret
  exact ⟨rfl, rfl⟩

/-- Answers v, and leaves what is there. -/
def Says (w : World) (v : Value) (e : Ending) (w' : World) : Prop := e = .returned v ∧ Below w.heap.size w w'

theorem rints_is {w : World} (k : Nat) (hk : k < 13) : Calls Tryd.prog 56 #[.int .i64 (k : Int)] w (Says w (.int .i64 (shI (k : Int)))) := by
  have hcell : (w.alloc (.cells #[.int .i64 0, .int .i64 0, .int .i64 2, .int .i64 4, .int .i64 5, .int .i64 3, .int .i64 5, .int .i64 0, .int .i64 1, .int .i64 1, .int .i64 0, .int .i64 4, .int .i64 2] 3)).cell? ⟨w.heap.size, k, none⟩ = some (.int .i64 (shI (k : Int))) := by
    rw [cell_of_row _ w.heap.size k _ 3 (0, 0) (heap_alloc_new w _)]
    have : k = 0 ∨ k = 1 ∨ k = 2 ∨ k = 3 ∨ k = 4 ∨ k = 5 ∨ k = 6 ∨ k = 7 ∨ k = 8 ∨ k = 9 ∨ k = 10 ∨ k = 11 ∨ k = 12 := by omega
    rcases this with rfl | rfl | rfl | rfl | rfl | rfl | rfl | rfl | rfl | rfl | rfl | rfl | rfl <;> rfl
  have hb := bput (Below.refl _ w) (.cells #[.int .i64 0, .int .i64 0, .int .i64 2, .int .i64 4, .int .i64 5, .int .i64 3, .int .i64 5, .int .i64 0, .int .i64 1, .int .i64 1, .int .i64 0, .int .i64 4, .int .i64 2] 3)
  generalize ((shI (k : Int) : Nat) : Int) = S at *
  have HB := Lib.hid hb
  clear hb
  go_enter Tryd.func56, Tryd.ntmps56
  go_wp2
  go_ret
  exact ⟨rfl, HB.out⟩
theorem rtexts_is {w : World} (k : Nat) (hk : k < 13) : Calls Tryd.prog 57 #[.int .i64 (k : Int)] w (Says w (.int .i64 (shT (k : Int)))) := by
  have hcell : (w.alloc (.cells #[.int .i64 0, .int .i64 1, .int .i64 1, .int .i64 2, .int .i64 3, .int .i64 1, .int .i64 1, .int .i64 3, .int .i64 2, .int .i64 2, .int .i64 2, .int .i64 3, .int .i64 2] 3)).cell? ⟨w.heap.size, k, none⟩ = some (.int .i64 (shT (k : Int))) := by
    rw [cell_of_row _ w.heap.size k _ 3 (0, 0) (heap_alloc_new w _)]
    have : k = 0 ∨ k = 1 ∨ k = 2 ∨ k = 3 ∨ k = 4 ∨ k = 5 ∨ k = 6 ∨ k = 7 ∨ k = 8 ∨ k = 9 ∨ k = 10 ∨ k = 11 ∨ k = 12 := by omega
    rcases this with rfl | rfl | rfl | rfl | rfl | rfl | rfl | rfl | rfl | rfl | rfl | rfl | rfl <;> rfl
  have hb := bput (Below.refl _ w) (.cells #[.int .i64 0, .int .i64 1, .int .i64 1, .int .i64 2, .int .i64 3, .int .i64 1, .int .i64 1, .int .i64 3, .int .i64 2, .int .i64 2, .int .i64 2, .int .i64 3, .int .i64 2] 3)
  generalize ((shT (k : Int) : Nat) : Int) = S at *
  have HB := Lib.hid hb
  clear hb
  go_enter Tryd.func57, Tryd.ntmps57
  go_wp2
  go_ret
  exact ⟨rfl, HB.out⟩

/-- Does one lie beyond? Is one too long? -/
def anyOut (lo hi : Int) (zs : List Int) : Bool := zs.any fun z => decide (z < lo) || decide (hi < z)
def anyLong (m : Nat) (ts : List (List UInt8)) : Bool := ts.any fun t => decide (m < t.length)
theorem any_drop {α : Type} (f : α → Bool) (d : α) {l : List α} {j : Nat} (h : j < l.length) : (l.drop j).any f = (f (l.getD j d) || (l.drop (j + 1)).any f) := by
  rw [List.drop_eq_getElem_cons h, List.any_cons]
  congr 2
  simp [List.getD, h]
theorem strOf_len (l : List UInt8) : (strOf l).size = l.length := strOf_size l

theorem rin_all {w : World} {B : Nat} {A : Option Addr} {n c : Nat} {zs : List Int} (h : Rx w B A n c (iv zs)) (lo hi : Int) : Calls Tryd.prog 67 #[.slice A n c, .int .i64 lo, .int .i64 hi] w (Tells w (.bool (!anyOut lo hi zs))) := by
  have hlen := h.len
  rw [iv_len] at hlen
  have htop := h.top
  have hcap := h.cap
  have HA : Hid (anyOut lo hi zs = (zs.drop 0).any fun z => decide (z < lo) || decide (hi < z)) := by rw [List.drop_zero]; exact rfl
  generalize anyOut lo hi zs = V at *
  go_enter Tryd.func67, Tryd.ntmps67
  go_wp2_with fail
  go_loop [7] (fun i => ∃ j : Nat, j ≤ n ∧ i = .int .i64 j ∧ Hid (V = (zs.drop j).any fun z => decide (z < lo) || decide (hi < z))) (fun i => n - (intOf i).toNat)
  case atStart => exact ⟨0, by omega, rfl, HA⟩
  case round =>
    obtain ⟨j, hj, rfl, HV⟩ := hrel
    clear HA
    by_cases hlt : j < n
    · obtain ⟨b, off, rfl, hb, hc⟩ := h.cells (by omega)
      have hcell := hc j hlt
      rw [iv_at (by omega)] at hcell
      have HN := Lib.hid (any_drop (fun z => decide (z < lo) || decide (hi < z)) 0 (l := zs) (j := j) (by omega))
      generalize zs.getD j 0 = z at *
      clear hc h
      by_cases h1 : z < lo
      · have t1 : decide (z < lo) = true := by simpa using h1
        have hv := HV.out
        rw [HN.out, t1] at hv
        simp only [Bool.true_or] at hv
        subst hv
        clear HV HN h1
        go_wp2
        go_ret
        exact ⟨rfl, rfl⟩
      have t1 : decide (z < lo) = false := by simpa using h1
      by_cases h2 : hi < z
      · have t2 : decide (hi < z) = true := by simpa using h2
        have hv := HV.out
        rw [HN.out, t2] at hv
        simp only [Bool.true_or, Bool.or_true] at hv
        subst hv
        clear HV HN h1 h2
        go_wp2
        go_ret
        exact ⟨rfl, rfl⟩
      have t2 : decide (hi < z) = false := by simpa using h2
      have HW : Hid (V = (zs.drop (j + 1)).any fun z => decide (z < lo) || decide (hi < z)) := by
        have hv := HV.out
        rw [HN.out, t1, t2] at hv
        exact hv
      clear HV HN h1 h2
      go_wp2
      go_round
      case rel => exact ⟨j + 1, by omega, by go_num, HW⟩
      case measure => simp only [intOf]; omega
    · have hjn : j = n := by omega
      have hv := HV.out
      rw [List.drop_eq_nil_of_le (by omega)] at hv
      simp only [List.any_nil] at hv
      subst hv
      clear HV
      go_wp2
      go_ret
      exact ⟨rfl, rfl⟩

theorem rshort_all {w : World} {B : Nat} {A : Option Addr} {n c : Nat} {ts : List (List UInt8)} (h : Rx w B A n c (sv ts)) : Calls Tryd.prog 68 #[.slice A n c] w (Tells w (.bool (!anyLong 64 ts))) := by
  have hlen := h.len
  rw [sv_len] at hlen
  have htop := h.top
  have hcap := h.cap
  have HA : Hid (anyLong 64 ts = (ts.drop 0).any fun t => decide (64 < t.length)) := by rw [List.drop_zero]; exact rfl
  generalize anyLong 64 ts = V at *
  go_enter Tryd.func68, Tryd.ntmps68
  go_wp2_with fail
  go_loop [3] (fun i => ∃ j : Nat, j ≤ n ∧ i = .int .i64 j ∧ Hid (V = (ts.drop j).any fun t => decide (64 < t.length))) (fun i => n - (intOf i).toNat)
  case atStart => exact ⟨0, by omega, rfl, HA⟩
  case round =>
    obtain ⟨j, hj, rfl, HV⟩ := hrel
    clear HA
    by_cases hlt : j < n
    · obtain ⟨b, off, rfl, hb, hc⟩ := h.cells (by omega)
      have hcell := hc j hlt
      rw [sv_at (by omega)] at hcell
      have HN := Lib.hid (any_drop (fun t : List UInt8 => decide (64 < t.length)) [] (l := ts) (j := j) (by omega))
      have hz := strOf_size (ts.getD j [])
      generalize ts.getD j [] = z at *
      generalize strOf z = y at *
      clear hc h
      by_cases h1 : 64 < z.length
      · have t1 : decide ((64 : Int) < (y.size : Int)) = true := by simp only [decide_eq_true_eq]; omega
        have hv := HV.out
        rw [HN.out, decide_eq_true h1] at hv
        simp only [Bool.true_or] at hv
        subst hv
        clear HV HN h1 hz
        go_wp2
        go_ret
        exact ⟨rfl, rfl⟩
      have t1 : decide ((64 : Int) < (y.size : Int)) = false := by simp only [decide_eq_false_iff_not]; omega
      have HW : Hid (V = (ts.drop (j + 1)).any fun t => decide (64 < t.length)) := by
        have hv := HV.out
        rw [HN.out, decide_eq_false h1] at hv
        exact hv
      clear HV HN h1 hz
      go_wp2
      go_round
      case rel => exact ⟨j + 1, by omega, by go_num, HW⟩
      case measure => simp only [intOf]; omega
    · have hjn : j = n := by omega
      have hv := HV.out
      rw [List.drop_eq_nil_of_le (by omega)] at hv
      simp only [List.any_nil] at hv
      subst hv
      clear HV
      go_wp2
      go_ret
      exact ⟨rfl, rfl⟩

theorem rlittle_all {w : World} {B : Nat} {A : Option Addr} {n c : Nat} {ts : List (List UInt8)} (h : Rx w B A n c (sv ts)) : Calls Tryd.prog 34 #[.slice A n c] w (Tells w (.bool (!anyLong 300 ts && decide (n ≤ 40)))) := by
  have hlen := h.len
  rw [sv_len] at hlen
  have htop := h.top
  have hcap := h.cap
  have HA : Hid (anyLong 300 ts = (ts.drop 0).any fun t => decide (300 < t.length)) := by rw [List.drop_zero]; exact rfl
  generalize anyLong 300 ts = V at *
  go_enter Tryd.func34, Tryd.ntmps34
  go_wp2_with fail
  go_loop [3] (fun i => ∃ j : Nat, j ≤ n ∧ i = .int .i64 j ∧ Hid (V = (ts.drop j).any fun t => decide (300 < t.length))) (fun i => n - (intOf i).toNat)
  case atStart => exact ⟨0, by omega, rfl, HA⟩
  case round =>
    obtain ⟨j, hj, rfl, HV⟩ := hrel
    clear HA
    by_cases hlt : j < n
    · obtain ⟨b, off, rfl, hb, hc⟩ := h.cells (by omega)
      have hcell := hc j hlt
      rw [sv_at (by omega)] at hcell
      have HN := Lib.hid (any_drop (fun t : List UInt8 => decide (300 < t.length)) [] (l := ts) (j := j) (by omega))
      have hz := strOf_size (ts.getD j [])
      generalize ts.getD j [] = z at *
      generalize strOf z = y at *
      clear hc h
      by_cases h1 : 300 < z.length
      · have t1 : decide ((300 : Int) < (y.size : Int)) = true := by simp only [decide_eq_true_eq]; omega
        have hv := HV.out
        rw [HN.out, decide_eq_true h1] at hv
        simp only [Bool.true_or] at hv
        subst hv
        clear HV HN h1 hz
        go_wp2
        go_ret
        exact ⟨rfl, rfl⟩
      have t1 : decide ((300 : Int) < (y.size : Int)) = false := by simp only [decide_eq_false_iff_not]; omega
      have HW : Hid (V = (ts.drop (j + 1)).any fun t => decide (300 < t.length)) := by
        have hv := HV.out
        rw [HN.out, decide_eq_false h1] at hv
        exact hv
      clear HV HN h1 hz
      go_wp2
      go_round
      case rel => exact ⟨j + 1, by omega, by go_num, HW⟩
      case measure => simp only [intOf]; omega
    · have hjn : j = n := by omega
      have hv := HV.out
      rw [List.drop_eq_nil_of_le (by omega)] at hv
      simp only [List.any_nil] at hv
      subst hv
      clear HV
      by_cases h40 : n ≤ 40
      · have t1 : decide ((n : Int) ≤ 40) = true := by simp only [decide_eq_true_eq]; omega
        have t2 : decide (n ≤ 40) = true := decide_eq_true h40
        have HT := Lib.hid t2
        clear t2 h40
        go_wp2
        go_ret
        exact ⟨by rw [HT.out]; rfl, rfl⟩
      · have t1 : decide ((n : Int) ≤ 40) = false := by simp only [decide_eq_false_iff_not]; omega
        have t2 : decide (n ≤ 40) = false := decide_eq_false h40
        have HT := Lib.hid t2
        clear t2 h40
        go_wp2
        go_ret
        exact ⟨by rw [HT.out]; rfl, rfl⟩
end Go.Proofs.YtlijagbklopipaaDoor
