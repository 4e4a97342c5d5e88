/-
  Contracts of the two readers of layer 6: how many there are, so many numbers or texts.
-/
import Derived.Test.YtlijagbklopipaaDoorProR
namespace Go.Proofs.YtlijagbklopipaaDoor
open Go.RowKit
set_option linter.unusedVariables false

def Cnt (T : TypeId) (w : World) (Bx : Nat) (A : Option Addr) (n c : Nat) (r : Int × St) (en : Ending) (w' : World) : Prop := ∃ v : Int, en = .returned (.int .i64 v) ∧ Reads T w w' Bx A n c r.2 ∧ (r.2.2 = 0 → v = r.1) ∧ v ≤ 9223372036854775807
theorem rnum_le {l : List UInt8} {s : St} {v a : Int} (h : rnum l s = (v, (a, 0))) : v ≤ 9223372036854775807 := by
  unfold rnum at h
  split at h
  · rename_i hs
    simp only [Prod.mk.injEq] at h
    rw [h.2] at hs
    simp at hs
  · exact (getV_range h).2
section
variable {most v a e : Int} {l : List UInt8} {s : St}
theorem rcnt1 (h : rnum l s = (v, (a, e))) (he : e ≠ 0) : rcnt most l s = (0, (a, e)) := by unfold rcnt; rw [h]; simp only; rw [if_pos he]
theorem rcnt2 (h : rnum l s = (v, (a, 0))) (h1 : v < 0) : rcnt most l s = (0, (a, 11)) := by unfold rcnt; rw [h]; simp only; rw [if_neg (by simp), if_pos h1]
theorem rcnt3 (h : rnum l s = (v, (a, 0))) (h1 : ¬ v < 0) (h2 : most < v) : rcnt most l s = (0, (a, 2)) := by unfold rcnt; rw [h]; simp only; rw [if_neg (by simp), if_neg h1, if_pos h2]
theorem rcnt4 (h : rnum l s = (v, (a, 0))) (h1 : ¬ v < 0) (h2 : ¬ most < v) : rcnt most l s = (v, (a, 0)) := by unfold rcnt; rw [h]; simp only; rw [if_neg (by simp), if_neg h1, if_neg h2]
end

set_option maxHeartbeats 1000000 in
theorem p_cnt_ok {w : World} {Bx : Nat} {A : Option Addr} {n c : Nat} {s : Int × Int} {l : List UInt8} (h : w.heap[Bx]? = some (.cells #[.slice A n c, .int .i64 s.1, .int .i64 s.2] 77 (0, 0))) {B : Nat} (hr : Rd w B A n c l) (most : Int) :
    Calls Tryd.prog 73 #[.pointer (some ⟨Bx, 0, none⟩), .int .i64 most] w (Cnt 77 w Bx A n c (rcnt most l s)) := by
  have HN := Lib.hid (p_num_ok h hr)
  obtain ⟨v, a, e, hq⟩ : ∃ v a e, rnum l s = (v, (a, e)) := ⟨_, _, _, rfl⟩
  rw [hq] at HN
  simp only at HN
  by_cases he : e ≠ 0
  · have t1 : (e == 0) = false := by simpa using he
    have t2 : (e != 0) = true := by simpa using he
    rw [rcnt1 hq he]
    have HE := Lib.hid he
    clear h hr hq he
    go_enter Tryd.func73, Tryd.ntmps73
    go_wp2_with fail
    refine HN.out.mono ?_
    rintro e1 w1 ⟨rfl, hrd⟩
    obtain ⟨k0, k1, k2, f1, f2⟩ := hrd.cells
    have HRD := Lib.hid hrd
    have HPE := Lib.hid (fun x => Reads.putE hrd.box x)
    clear hrd
    clear HPE
    go_wp2
    go_ret
    exact ⟨_, rfl, HRD.out, fun h => absurd h HE.out, by omega⟩
  obtain rfl : e = 0 := Decidable.not_not.1 he
  have HVL := Lib.hid (rnum_le hq)
  by_cases h1 : v < 0
  · have t1 : decide (v < 0) = true := by simpa using h1
    rw [rcnt2 hq h1]
    
    clear h hr hq h1 he
    go_enter Tryd.func73, Tryd.ntmps73
    go_wp2_with fail
    refine HN.out.mono ?_
    rintro e1 w1 ⟨rfl, hrd⟩
    obtain ⟨k0, k1, k2, f1, f2⟩ := hrd.cells
    have HRD := Lib.hid hrd
    have HPE := Lib.hid (fun x => Reads.putE hrd.box x)
    clear hrd
    go_wp2
    go_ret
    exact ⟨_, rfl, HRD.out.trans (HPE.out 11), fun h => absurd h (by simp), by have := HVL.out; omega⟩
  have t1 : decide (v < 0) = false := by simpa using h1
  by_cases h2 : most < v
  · have t2 : decide (most < v) = true := by simpa using h2
    rw [rcnt3 hq h1 h2]
    clear h hr hq h1 h2 he
    go_enter Tryd.func73, Tryd.ntmps73
    go_wp2_with fail
    refine HN.out.mono ?_
    rintro e1 w1 ⟨rfl, hrd⟩
    obtain ⟨k0, k1, k2, f1, f2⟩ := hrd.cells
    have HRD := Lib.hid hrd
    have HPE := Lib.hid (fun x => Reads.putE hrd.box x)
    clear hrd
    go_wp2
    go_ret
    exact ⟨_, rfl, HRD.out.trans (HPE.out 2), fun h => absurd h (by simp), by have := HVL.out; omega⟩
  · have t2 : decide (most < v) = false := by simpa using h2
    rw [rcnt4 hq h1 h2]
    clear h hr hq h1 h2 he
    go_enter Tryd.func73, Tryd.ntmps73
    go_wp2_with fail
    refine HN.out.mono ?_
    rintro e1 w1 ⟨rfl, hrd⟩
    obtain ⟨k0, k1, k2, f1, f2⟩ := hrd.cells
    have HRD := Lib.hid hrd
    have HPE := Lib.hid (fun x => Reads.putE hrd.box x)
    clear hrd
    clear HPE
    go_wp2
    go_ret
    exact ⟨_, rfl, HRD.out, fun _ => rfl, HVL.out⟩

set_option maxHeartbeats 1000000 in
theorem r_cnt_ok {w : World} {Bx : Nat} {A : Option Addr} {n c : Nat} {s : Int × Int} {l : List UInt8} (h : w.heap[Bx]? = some (.cells #[.slice A n c, .int .i64 s.1, .int .i64 s.2] 88 (0, 0))) {B : Nat} (hr : Rd w B A n c l) (most : Int) :
    Calls Tryd.prog 75 #[.pointer (some ⟨Bx, 0, none⟩), .int .i64 most] w (Cnt 88 w Bx A n c (rcnt most l s)) := by
  have HN := Lib.hid (r_num_ok h hr)
  obtain ⟨v, a, e, hq⟩ : ∃ v a e, rnum l s = (v, (a, e)) := ⟨_, _, _, rfl⟩
  rw [hq] at HN
  simp only at HN
  by_cases he : e ≠ 0
  · have t1 : (e == 0) = false := by simpa using he
    have t2 : (e != 0) = true := by simpa using he
    rw [rcnt1 hq he]
    have HE := Lib.hid he
    clear h hr hq he
    go_enter Tryd.func75, Tryd.ntmps75
    go_wp2_with fail
    refine HN.out.mono ?_
    rintro e1 w1 ⟨rfl, hrd⟩
    obtain ⟨k0, k1, k2, f1, f2⟩ := hrd.cells
    have HRD := Lib.hid hrd
    have HPE := Lib.hid (fun x => Reads.putE hrd.box x)
    clear hrd
    clear HPE
    go_wp2
    go_ret
    exact ⟨_, rfl, HRD.out, fun h => absurd h HE.out, by omega⟩
  obtain rfl : e = 0 := Decidable.not_not.1 he
  have HVL := Lib.hid (rnum_le hq)
  by_cases h1 : v < 0
  · have t1 : decide (v < 0) = true := by simpa using h1
    rw [rcnt2 hq h1]
    have t3 : decide (most < v) = decide (most < v) := rfl
    clear h hr hq h1 he
    go_enter Tryd.func75, Tryd.ntmps75
    go_wp2_with fail
    refine HN.out.mono ?_
    rintro e1 w1 ⟨rfl, hrd⟩
    obtain ⟨k0, k1, k2, f1, f2⟩ := hrd.cells
    have HRD := Lib.hid hrd
    have HPE := Lib.hid (fun x => Reads.putE hrd.box x)
    clear hrd
    go_wp2
    go_ret
    exact ⟨_, rfl, HRD.out.trans (HPE.out 11), fun h => absurd h (by simp), by have := HVL.out; omega⟩
  have t1 : decide (v < 0) = false := by simpa using h1
  by_cases h2 : most < v
  · have t2 : decide (most < v) = true := by simpa using h2
    rw [rcnt3 hq h1 h2]
    clear h hr hq h1 h2 he
    go_enter Tryd.func75, Tryd.ntmps75
    go_wp2_with fail
    refine HN.out.mono ?_
    rintro e1 w1 ⟨rfl, hrd⟩
    obtain ⟨k0, k1, k2, f1, f2⟩ := hrd.cells
    have HRD := Lib.hid hrd
    have HPE := Lib.hid (fun x => Reads.putE hrd.box x)
    clear hrd
    go_wp2
    go_ret
    exact ⟨_, rfl, HRD.out.trans (HPE.out 2), fun h => absurd h (by simp), by have := HVL.out; omega⟩
  · have t2 : decide (most < v) = false := by simpa using h2
    rw [rcnt4 hq h1 h2]
    clear h hr hq h1 h2 he
    go_enter Tryd.func75, Tryd.ntmps75
    go_wp2_with fail
    refine HN.out.mono ?_
    rintro e1 w1 ⟨rfl, hrd⟩
    obtain ⟨k0, k1, k2, f1, f2⟩ := hrd.cells
    have HRD := Lib.hid hrd
    have HPE := Lib.hid (fun x => Reads.putE hrd.box x)
    clear hrd
    clear HPE
    go_wp2
    go_ret
    exact ⟨_, rfl, HRD.out, fun _ => rfl, HVL.out⟩
end Go.Proofs.YtlijagbklopipaaDoor
