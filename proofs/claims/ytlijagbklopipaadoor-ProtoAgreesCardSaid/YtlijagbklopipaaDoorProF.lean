/-
  Contracts of the program's reader of layer 6: bytes of a length.
-/
import Derived.IntWalk
import Derived.Test.YtlijagbklopipaaDoorProE
namespace Go.Proofs.YtlijagbklopipaaDoor
open Go.RowKit
set_option linter.unusedVariables false

theorem rnum_in {l : List UInt8} {s : St} {v a : Int} (h : rnum l s = (v, (a, 0))) : 0 ≤ a ∧ a ≤ l.length := by
  unfold rnum at h
  split at h
  · rename_i hs
    simp only [Prod.mk.injEq] at h
    rw [h.2] at hs
    simp at hs
  · obtain ⟨g1, g2, g3, _⟩ := getV_only h
    omega
theorem rcnt_in {l : List UInt8} {s : St} {most v a : Int} (h : rcnt most l s = (v, (a, 0))) : 0 ≤ v ∧ v ≤ most ∧ 0 ≤ a ∧ a ≤ l.length := by
  obtain ⟨v', a', e', hq⟩ : ∃ v a e, rnum l s = (v, (a, e)) := ⟨_, _, _, rfl⟩
  by_cases he : e' = 0
  · subst he
    have hi := rnum_in hq
    by_cases h1 : v' < 0
    · rw [rcnt2 hq h1] at h
      simp at h
    · by_cases h2 : most < v'
      · rw [rcnt3 hq h1 h2] at h
        simp at h
      · rw [rcnt4 hq h1 h2] at h
        simp only [Prod.mk.injEq, and_true] at h
        obtain ⟨rfl, rfl⟩ := h
        exact ⟨by omega, by omega, hi⟩
  · rw [rcnt1 hq he] at h
    simp only [Prod.mk.injEq] at h
    exact absurd h.2.2 he
section
variable {most v a e : Int} {l : List UInt8} {s : St}
theorem rblb1 (h : rcnt most l s = (v, (a, e))) (he : e ≠ 0) : rblb most l s = ([], (a, e)) := by unfold rblb; rw [h]; simp only; rw [if_pos he]
theorem rblb2 (h : rcnt most l s = (v, (a, 0))) (h1 : (l.length : Int) - a < v) : rblb most l s = ([], (a, 10)) := by unfold rblb; rw [h]; simp only; rw [if_neg (by simp), if_pos h1]
theorem rblb3 (h : rcnt most l s = (v, (a, 0))) (h1 : ¬ (l.length : Int) - a < v) : rblb most l s = ((l.drop a.toNat).take v.toNat, (a + v, 0)) := by unfold rblb; rw [h]; simp only; rw [if_neg (by simp), if_neg h1]
end

theorem grown_drew {a b : World} {row : Option Nat} (h : a.grownBy b row) : a.grownBy b.drew row := ⟨h.os, h.tape, h.output, h.size, h.block⟩
theorem grown_then {a b c : World} {row : Option Nat} (h : a.grownBy b row) (k : Below b.heap.size b c) : a.grownBy c row := grown_below h (k.mono h.size)
def Blb (T : TypeId) (w : World) (Bx : Nat) (A : Option Addr) (n c : Nat) (r : List UInt8 × St) (en : Ending) (w' : World) : Prop :=
  ∃ A' n' c', en = .returned (.slice A' n' c') ∧ Own w' w.heap.size A' n' c' r.1 ∧ Reads T w w' Bx A n c r.2

set_option maxHeartbeats 2000000 in
theorem p_blb_ok {w : World} {Bx : Nat} {A : Option Addr} {n c : Nat} {s : Int × Int} {l : List UInt8} (h : w.heap[Bx]? = some (.cells #[.slice A n c, .int .i64 s.1, .int .i64 s.2] 77 (0, 0))) (hr : Rd w Bx A n c l) (most : Int) (hm : most ≤ 1000000) :
    Calls Tryd.prog 49 #[.pointer (some ⟨Bx, 0, none⟩), .int .i64 most] w (Blb 77 w Bx A n c (rblb most l s)) := by
  have hBx : Bx < w.heap.size := (Array.getElem?_eq_some_iff.1 h).1
  have hlen := hr.len
  have htop := hr.top
  have hcap := hr.cap
  have HC := Lib.hid (p_cnt_ok h hr most)
  obtain ⟨v, a, e, hq⟩ : ∃ v a e, rcnt most l s = (v, (a, e)) := ⟨_, _, _, rfl⟩
  rw [hq] at HC
  by_cases he : e ≠ 0
  · have t1 : (e == 0) = false := by simpa using he
    have t2 : (e != 0) = true := by simpa using he
    rw [rblb1 hq he]
    clear h hq he
    go_enter Tryd.func49, Tryd.ntmps49
    go_wp2_with fail
    refine HC.out.mono ?_
    rintro e1 w1 ⟨x, rfl, hrd, -⟩
    obtain ⟨k0, k1, k2, f1, f2⟩ := hrd.cells
    have HRD := Lib.hid hrd
    clear hrd hr
    go_wp2_with fail
    go_region
    all_goals
      go_wp2
      go_ret
      exact ⟨_, _, _, rfl, Ob.nil _ _ _, ⟨grown_trans HRD.out.grown ⟨rfl, rfl, rfl, Nat.le_refl _, fun _ _ _ => rfl⟩, HRD.out.box⟩⟩
  obtain rfl : e = 0 := Decidable.not_not.1 he
  obtain ⟨i1, i2, i3, i4⟩ := rcnt_in hq
  obtain ⟨v, rfl⟩ := Int.eq_ofNat_of_zero_le i1
  obtain ⟨a, rfl⟩ := Int.eq_ofNat_of_zero_le i3
  by_cases h1 : (l.length : Int) - a < v
  · have t1 : decide ((n : Int) - (a : Int) < (v : Int)) = true := by simp only [decide_eq_true_eq]; omega
    rw [rblb2 hq h1]
    clear h hq he h1
    go_enter Tryd.func49, Tryd.ntmps49
    go_wp2_with fail
    refine HC.out.mono ?_
    rintro e1 w1 ⟨x, rfl, hrd, hx⟩
    obtain rfl := hx.1 rfl
    obtain ⟨k0, k1, k2, f1, f2⟩ := hrd.cells
    have HRD := Lib.hid hrd
    have HFE : Hid (Reads 77 w (w1.drew.setCell ⟨Bx, 2, none⟩ (.int .i64 10)) Bx A n c ((a : Int), 10)) := (Reads.trans (w1 := w1.drew) ⟨grown_trans hrd.grown ⟨rfl, rfl, rfl, Nat.le_refl _, fun _ _ _ => rfl⟩, hrd.box⟩ (Reads.putE (w := w1.drew) (s := ((a : Int), 0)) hrd.box 10))
    clear hrd hr hx
    go_wp2_with fail
    go_region
    all_goals
      go_wp2
      go_ret
      exact ⟨_, _, _, rfl, Ob.nil _ _ _, HFE.out⟩
  · have t1 : decide ((n : Int) - (a : Int) < (v : Int)) = false := by simp only [decide_eq_false_iff_not]; omega
    rw [rblb3 hq h1, Int.toNat_natCast, Int.toNat_natCast]
    have hav : a + v ≤ n := by omega
    have hv6 : v ≤ 1000000 := by omega
    clear h hq he h1 i1 i2 i3 i4
    go_enter Tryd.func49, Tryd.ntmps49
    go_wp2_with fail
    refine HC.out.mono ?_
    rintro e1 w1 ⟨x, rfl, hrd, hx⟩
    obtain rfl := hx.1 rfl
    obtain ⟨k0, k1, k2, f1, f2⟩ := hrd.cells
    have hr1 := hr.below (below_grown hrd.grown (Nat.le_of_lt hBx) (fun k hk => by cases hk; exact Nat.le_refl _))
    have hpa := Reads.putA (w := w1) (s := ((a : Int), 0)) hrd.box ((a : Int) + (v : Int))
    have hr2 := hr1.below (below_grown hpa.grown (Nat.le_trans (Nat.le_of_lt hBx) hrd.grown.size) (fun k hk => by cases hk; exact Nat.le_refl _))
    obtain ⟨A2, hrun, hr3⟩ := run_part (P := Tryd.prog) (t := 24) Tryd.underlying24 byteInfo hr2 a v hav
    have hsz : Bx ≤ w1.heap.size := Nat.le_trans (Nat.le_of_lt hBx) hrd.grown.size
    have qw : IntKind.i64.wrap (a : Int) = (a : Int) := IntWalk.i64_in _ (by omega)
    have q1 : (0 : Int) ≤ (a : Int) := by omega
    have q2 : (a : Int) ≤ (a : Int) + (v : Int) := by omega
    have q3 : (a : Int) + (v : Int) ≤ (c : Int) := by omega
    have HC3 := Lib.hid (clone_ok hr3.drew.drew (by simpa using hsz) (by omega))
    have HRD := Lib.hid hrd
    have HPA := Lib.hid hpa
    clear hrd hr hx hr1 hr2 hr3 hpa HC
    go_wp2_with fail
    go_region
    all_goals
      go_wp2_with fail
      go_region_with (go_at_call 83; refine HC3.out.mono ?_; (rintro e1 w2 ⟨A4, n4, c4, rfl, ho, hb⟩))
      all_goals
        go_wp2
        go_ret
        have hg := HRD.out.grown
        have hp := HPA.out
        have hs1 := hg.size
        have hs2 := hp.grown.size
        refine ⟨_, _, _, rfl, ho.less ?_, ⟨grown_then (grown_drew (grown_drew (grown_trans hg hp.grown))) hb, (hb.block Bx ?_).trans hp.box⟩⟩
        · exact Nat.le_trans hs1 hs2
        · exact Nat.lt_of_lt_of_le hBx (Nat.le_trans hs1 hs2)
end Go.Proofs.YtlijagbklopipaaDoor
