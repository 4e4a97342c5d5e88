/-
  Contracts of the document's putAll and putTexts. Conditions: those that each states.
-/
import Derived.Deep.DeepCutAuto
import Derived.Test.YtlijagbklopipaaDoorProO
import Derived.Test.YtlijagbklopipaaDoorRef
namespace Go.Proofs.YtlijagbklopipaaDoor
open Go.RowKit
set_option linter.unusedVariables false

/-- Answers bytes that can be read, new or not. -/
def Gav (w : World) (l : List UInt8) (e : Ending) (w' : World) : Prop := ∃ A n c, e = .returned (.slice A n c) ∧ Rd w' w'.heap.size A n c l ∧ Below w.heap.size w w'
def Mids (w : World) (l : List UInt8) (v : Value) (w' : World) : Prop := ∃ A n c, v = .slice A n c ∧ Rd w' w'.heap.size A n c l ∧ Below w.heap.size w w'

set_option maxHeartbeats 2000000 in
theorem rputAll_ok {w : World} {A : Option Addr} {n c : Nat} {l : List UInt8} (h : Rd w w.heap.size A n c l) {A' : Option Addr} {n' c' : Nat} {xs : List (Int)} (hr : Rx w w.heap.size A' n' c' (iv xs)) (hv : ∀ x ∈ xs, -9223372036854775808 ≤ x ∧ x ≤ 9223372036854775807) (hl : l.length + 10 * xs.length ≤ 900000) :
    Calls Tryd.prog 42 #[.slice A n c, .slice A' n' c'] w (Gav w (l ++ (xs.map encI).flatten)) := by
  have hlen := hr.len
  rw [iv_len] at hlen
  have htop := hr.top
  have hcap := hr.cap
  have HW : Hid (Mids w (l ++ ((xs.take 0).map encI).flatten) (.slice A n c) w) := ⟨A, n, c, rfl, by simpa using h, Below.refl _ w⟩
  have HV := Lib.hid hv
  have HR := Lib.hid hr
  clear h hv hr
  go_enter Tryd.func42, Tryd.ntmps42
  go_wp2_with fail
  go_loopw [0, 5] (fun b i wr => ∃ j : Nat, j ≤ n' ∧ i = .int .i64 j ∧ Hid (Mids w (l ++ ((xs.take j).map encI).flatten) b wr)) (fun _ i _ => n' - (intOf i).toNat)
  case atStart => exact ⟨0, by omega, rfl, HW⟩
  case round =>
    obtain ⟨j, hj, rfl, HX⟩ := hrel
    clear HW
    obtain ⟨A1, n1, c1, rfl, hrd, hbw⟩ := HX.out
    by_cases hlt : j < n'
    · obtain ⟨b, off, rfl, hb, hc⟩ := (HR.out.below hbw).cells (by omega)
      have hcell := hc j hlt
      rw [iv_at (by omega)] at hcell
      have hfs := flat_snoc encI 0 (l := xs) (j := j) (by omega)
      have hvx := HV.out _ (getD_mem 0 (l := xs) (j := j) (by omega))
      have hft := flat_len encI (m := 10) (l := xs.take j) (fun x hx => by
        have := HV.out x (List.mem_of_mem_take hx)
        exact encI_len this.1 this.2)
      rw [List.length_take, Nat.min_eq_left (by omega)] at hft
      have hmul : 10 * j ≤ 10 * xs.length := Nat.mul_le_mul_left _ (by omega)
      have hll : (l ++ ((xs.take j).map encI).flatten).length ≤ 1000000 := by rw [List.length_append]; omega
      have hn1 := hrd.len
      generalize xs.getD j 0 = x at *
      have HN := Lib.hid (rPutVar_ok hrd (by omega) x hvx.1 hvx.2)
      have HFS := Lib.hid hfs
      have HBW := Lib.hid hbw
      clear hc hfs hft hmul hll hvx hrd hbw HX hn1
      go_wp2_with fail
      refine HN.out.mono ?_
      rintro e w1 ⟨A2, n2, c2, rfl, ho, hb2⟩
      have ho2 := ho.rd
      have HX2 : Hid (Mids w (l ++ ((xs.take (j + 1)).map encI).flatten) (.slice A2 n2 c2) w1) := ⟨A2, n2, c2, rfl, by rw [← HFS.out, ← List.append_assoc]; exact ho2, bthen HBW.out hb2⟩
      clear ho ho2 hb2 HN
      go_wp2
      go_roundw
      case rel => exact ⟨j + 1, by omega, by go_num, HX2⟩
      case measure => simp only [intOf]; omega
    · have hjn : j = n' := by omega
      have HE : Hid (Gav w (l ++ (xs.map encI).flatten) (.returned (.slice A1 n1 c1)) wr) := by
        rw [List.take_of_length_le (by omega)] at hrd
        exact ⟨_, _, _, rfl, hrd, hbw⟩
      clear HX hrd hbw
      go_wp2
      go_ret
      exact HE.out

set_option maxHeartbeats 2000000 in
theorem rputTexts_ok {w : World} {A : Option Addr} {n c : Nat} {l : List UInt8} (h : Rd w w.heap.size A n c l) {A' : Option Addr} {n' c' : Nat} {xs : List (List UInt8)} (hr : Rx w w.heap.size A' n' c' (sv xs)) (hv : ∀ x ∈ xs, x.length ≤ 64) (hl : l.length + 74 * xs.length ≤ 900000) :
    Calls Tryd.prog 43 #[.slice A n c, .slice A' n' c'] w (Gav w (l ++ (xs.map putT).flatten)) := by
  have hlen := hr.len
  rw [sv_len] at hlen
  have htop := hr.top
  have hcap := hr.cap
  have HW : Hid (Mids w (l ++ ((xs.take 0).map putT).flatten) (.slice A n c) w) := ⟨A, n, c, rfl, by simpa using h, Below.refl _ w⟩
  have HV := Lib.hid hv
  have HR := Lib.hid hr
  clear h hv hr
  go_enter Tryd.func43, Tryd.ntmps43
  go_wp2_with fail
  go_loopw [0, 5] (fun b i wr => ∃ j : Nat, j ≤ n' ∧ i = .int .i64 j ∧ Hid (Mids w (l ++ ((xs.take j).map putT).flatten) b wr)) (fun _ i _ => n' - (intOf i).toNat)
  case atStart => exact ⟨0, by omega, rfl, HW⟩
  case round =>
    obtain ⟨j, hj, rfl, HX⟩ := hrel
    clear HW
    obtain ⟨A1, n1, c1, rfl, hrd, hbw⟩ := HX.out
    by_cases hlt : j < n'
    · obtain ⟨b, off, rfl, hb, hc⟩ := (HR.out.below hbw).cells (by omega)
      have hcell := hc j hlt
      rw [sv_at (by omega)] at hcell
      have hfs := flat_snoc putT [] (l := xs) (j := j) (by omega)
      have hvx := HV.out _ (getD_mem [] (l := xs) (j := j) (by omega))
      have hft := flat_len putT (m := 74) (l := xs.take j) (fun x hx => by
        have := HV.out x (List.mem_of_mem_take hx)
        exact putT_len' this)
      rw [List.length_take, Nat.min_eq_left (by omega)] at hft
      have hmul : 74 * j ≤ 74 * xs.length := Nat.mul_le_mul_left _ (by omega)
      have hll : (l ++ ((xs.take j).map putT).flatten).length ≤ 1000000 := by rw [List.length_append]; omega
      have hn1 := hrd.len
      generalize xs.getD j [] = x at *
      have HN := Lib.hid (rPutText_ok hrd (strOf x) (by rw [strOf_size]; omega))
      have HFS := Lib.hid hfs
      have HBW := Lib.hid hbw
      clear hc hfs hft hmul hll hvx hrd hbw HX hn1
      go_wp2_with fail
      refine HN.out.mono ?_
      rintro e w1 ⟨A2, n2, c2, rfl, ho, hb2⟩
      have ho2 := ho.rd
      have HX2 : Hid (Mids w (l ++ ((xs.take (j + 1)).map putT).flatten) (.slice A2 n2 c2) w1) := ⟨A2, n2, c2, rfl, by rw [← HFS.out, ← List.append_assoc]; exact (by simpa only [strOf_data] using ho2), bthen HBW.out hb2⟩
      clear ho ho2 hb2 HN
      go_wp2
      go_roundw
      case rel => exact ⟨j + 1, by omega, by go_num, HX2⟩
      case measure => simp only [intOf]; omega
    · have hjn : j = n' := by omega
      have HE : Hid (Gav w (l ++ (xs.map putT).flatten) (.returned (.slice A1 n1 c1)) wr) := by
        rw [List.take_of_length_le (by omega)] at hrd
        exact ⟨_, _, _, rfl, hrd, hbw⟩
      clear HX hrd hbw
      go_wp2
      go_ret
      exact HE.out
end Go.Proofs.YtlijagbklopipaaDoor
