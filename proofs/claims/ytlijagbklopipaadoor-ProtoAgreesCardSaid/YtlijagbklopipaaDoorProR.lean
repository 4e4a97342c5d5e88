/-
  Contracts of the two readers of layer 6 (the program's, and the document's): a number, a text.
-/
import Derived.BigQuiet
import Derived.Deep.DrawnRows
import Derived.Deep.QuietTactic
import Derived.Deep.RegionHeld3
import Derived.Test.YtlijagbklopipaaDoorRef
import Derived.Test.YtlijagbklopipaaDoorProQ
import Derived.Test.YtlijagbklopipaaDoorProG
namespace Go.Proofs.YtlijagbklopipaaDoor
open Go.RowKit
set_option linter.unusedVariables false

theorem rnum_stuck (l : List UInt8) {at_ e : Int} (he : e ≠ 0) : rnum l (at_, e) = (0, (at_, e)) := by unfold rnum; rw [if_pos he]
theorem rnum_go {l : List UInt8} {at_ v nx er : Int} (h : getV l at_ = (v, nx, er)) : rnum l (at_, 0) = (v, (nx, er)) := by unfold rnum; rw [if_neg (by simp)]; exact h
theorem rtxt_stuck (l : List UInt8) {at_ e : Int} (he : e ≠ 0) : rtxt l (at_, e) = ([], (at_, e)) := by unfold rtxt; rw [if_pos he]
theorem rtxt_go {l s : List UInt8} {at_ nx er : Int} (h : getT l at_ 64 = (s, nx, er)) : rtxt l (at_, 0) = (s, (nx, er)) := by unfold rtxt; rw [if_neg (by simp)]; exact h

set_option maxHeartbeats 1000000 in
theorem p_num_ok {w : World} {Bx : Nat} {A : Option Addr} {n c : Nat} {s : Int × Int} {l : List UInt8} (h : w.heap[Bx]? = some (.cells #[.slice A n c, .int .i64 s.1, .int .i64 s.2] 77 (0, 0))) {B : Nat} (hr : Rd w B A n c l) :
    Calls Tryd.prog 45 #[.pointer (some ⟨Bx, 0, none⟩)] w (Gets 77 w Bx A n c (.int .i64 (rnum l s).1) (rnum l s).2) := by
  obtain ⟨k0, k1, k2, f1, f2⟩ := Reads.cells (Reads.refl h)
  obtain ⟨at_, e⟩ := s
  by_cases he : e ≠ 0
  · have t1 : (e == 0) = false := by simpa using he
    rw [rnum_stuck l he]
    have HP := Lib.hid (Reads.refl (s := (at_, e)) h)
    clear he h
    go_enter Tryd.func45, Tryd.ntmps45
    go_wp2
    go_ret
    exact ⟨rfl, HP.out⟩
  obtain rfl : e = 0 := Decidable.not_not.1 he
  obtain ⟨v, nx, er, hg⟩ : ∃ (v : Int) (nx er : Int), getV l at_ = (v, nx, er) := ⟨_, _, _, rfl⟩
  rw [rnum_go hg]
  have HP := Lib.hid (Reads.put (s := (at_, 0)) (t := (nx, er)) h)
  have HC := Lib.hid (getVar_ok (hr.drew) at_)
  have HG := Lib.hid hg
  clear h hr hg he
  go_enter Tryd.func45, Tryd.ntmps45
  go_wp2_with fail
  go_region_with (go_at_call 81; refine HC.out.mono ?_; (rintro e w1 hv; obtain ⟨va, vb, vc, hV, rfl, rfl⟩ := hv.out; rw [HG.out] at hV; cases hV))
  all_goals
    go_wp2
    go_ret
    first
    | exact ⟨rfl, HP.out.1⟩
    | exact ⟨rfl, HP.out.2⟩

set_option maxHeartbeats 1000000 in
theorem p_txt_ok {w : World} {Bx : Nat} {A : Option Addr} {n c : Nat} {s : Int × Int} {l : List UInt8} (h : w.heap[Bx]? = some (.cells #[.slice A n c, .int .i64 s.1, .int .i64 s.2] 77 (0, 0))) {B : Nat} (hr : Rd w B A n c l) :
    Calls Tryd.prog 46 #[.pointer (some ⟨Bx, 0, none⟩)] w (Gets 77 w Bx A n c (.string (strOf (rtxt l s).1)) (rtxt l s).2) := by
  obtain ⟨k0, k1, k2, f1, f2⟩ := Reads.cells (Reads.refl h)
  obtain ⟨at_, e⟩ := s
  by_cases he : e ≠ 0
  · have t1 : (e == 0) = false := by simpa using he
    rw [rtxt_stuck l he]
    have HP := Lib.hid (Reads.refl (s := (at_, e)) h)
    clear he h
    go_enter Tryd.func46, Tryd.ntmps46
    go_wp2
    go_ret
    exact ⟨rfl, HP.out⟩
  obtain rfl : e = 0 := Decidable.not_not.1 he
  obtain ⟨v, nx, er, hg⟩ : ∃ (v : List UInt8) (nx er : Int), getT l at_ 64 = (v, nx, er) := ⟨_, _, _, rfl⟩
  rw [rtxt_go hg]
  have HP := Lib.hid (Reads.put (s := (at_, 0)) (t := (nx, er)) h)
  have HC := Lib.hid (getText_ok (hr.drew) at_ 64)
  have HG := Lib.hid hg
  clear h hr hg he
  go_enter Tryd.func46, Tryd.ntmps46
  go_wp2_with fail
  go_region_with (go_at_call 82; refine HC.out.mono ?_; (rintro e w1 ⟨va, vb, vc, hV, rfl, rfl⟩; rw [HG.out] at hV; cases hV))
  all_goals
    go_wp2
    go_ret
    first
    | exact ⟨rfl, HP.out.1⟩
    | exact ⟨rfl, HP.out.2⟩

set_option maxHeartbeats 1000000 in
theorem r_num_ok {w : World} {Bx : Nat} {A : Option Addr} {n c : Nat} {s : Int × Int} {l : List UInt8} (h : w.heap[Bx]? = some (.cells #[.slice A n c, .int .i64 s.1, .int .i64 s.2] 88 (0, 0))) {B : Nat} (hr : Rd w B A n c l) :
    Calls Tryd.prog 53 #[.pointer (some ⟨Bx, 0, none⟩)] w (Gets 88 w Bx A n c (.int .i64 (rnum l s).1) (rnum l s).2) := by
  obtain ⟨k0, k1, k2, f1, f2⟩ := Reads.cells (Reads.refl h)
  obtain ⟨at_, e⟩ := s
  by_cases he : e ≠ 0
  · have t1 : (e != 0) = true := by simpa using he
    rw [rnum_stuck l he]
    have HP := Lib.hid (Reads.refl (s := (at_, e)) h)
    clear he h
    go_enter Tryd.func53, Tryd.ntmps53
    go_wp2
    go_ret
    exact ⟨rfl, HP.out⟩
  obtain rfl : e = 0 := Decidable.not_not.1 he
  obtain ⟨v, nx, er, hg⟩ : ∃ (v : Int) (nx er : Int), getV l at_ = (v, nx, er) := ⟨_, _, _, rfl⟩
  rw [rnum_go hg]
  have HP := Lib.hid (Reads.put (s := (at_, 0)) (t := (nx, er)) h)
  have HC := Lib.hid (rGetVar_ok (hr.drew) at_)
  have HG := Lib.hid hg
  clear h hr hg he
  go_enter Tryd.func53, Tryd.ntmps53
  go_wp2_with fail
  go_region_with (go_at_call 84; refine HC.out.mono ?_; (rintro e w1 hv; obtain ⟨va, vb, vc, hV, rfl, rfl⟩ := hv.out; rw [HG.out] at hV; cases hV))
  all_goals
    go_wp2
    go_ret
    first
    | exact ⟨rfl, HP.out.1⟩
    | exact ⟨rfl, HP.out.2⟩

set_option maxHeartbeats 1000000 in
theorem r_txt_ok {w : World} {Bx : Nat} {A : Option Addr} {n c : Nat} {s : Int × Int} {l : List UInt8} (h : w.heap[Bx]? = some (.cells #[.slice A n c, .int .i64 s.1, .int .i64 s.2] 88 (0, 0))) {B : Nat} (hr : Rd w B A n c l) :
    Calls Tryd.prog 54 #[.pointer (some ⟨Bx, 0, none⟩)] w (Gets 88 w Bx A n c (.string (strOf (rtxt l s).1)) (rtxt l s).2) := by
  obtain ⟨k0, k1, k2, f1, f2⟩ := Reads.cells (Reads.refl h)
  obtain ⟨at_, e⟩ := s
  by_cases he : e ≠ 0
  · have t1 : (e != 0) = true := by simpa using he
    rw [rtxt_stuck l he]
    have HP := Lib.hid (Reads.refl (s := (at_, e)) h)
    clear he h
    go_enter Tryd.func54, Tryd.ntmps54
    go_wp2
    go_ret
    exact ⟨rfl, HP.out⟩
  obtain rfl : e = 0 := Decidable.not_not.1 he
  obtain ⟨v, nx, er, hg⟩ : ∃ (v : List UInt8) (nx er : Int), getT l at_ 64 = (v, nx, er) := ⟨_, _, _, rfl⟩
  rw [rtxt_go hg]
  have HP := Lib.hid (Reads.put (s := (at_, 0)) (t := (nx, er)) h)
  have HC := Lib.hid (rGetText_ok (hr.drew) at_ 64)
  have HG := Lib.hid hg
  clear h hr hg he
  go_enter Tryd.func54, Tryd.ntmps54
  go_wp2_with fail
  go_region_with (go_at_call 85; refine HC.out.mono ?_; (rintro e w1 ⟨va, vb, vc, hV, rfl, rfl⟩; rw [HG.out] at hV; cases hV))
  all_goals
    go_wp2
    go_ret
    first
    | exact ⟨rfl, HP.out.1⟩
    | exact ⟨rfl, HP.out.2⟩
end Go.Proofs.YtlijagbklopipaaDoor
