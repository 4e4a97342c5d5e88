/-
  Contracts of rec's field at numbers, flags and texts.
-/
import Derived.Test.YteamnapboophiaaRecF
namespace Go.Proofs.Yteamnapboophiaa
open Go.RowKit
set_option linter.unusedVariables false

theorem field_int_not {w : World} {Bx : Nat} {A : Option Addr} {n c : Nat} {at_ e : Int} (h : w.heap[Bx]? = some (.cells #[.slice A n c, .int .i64 at_, .int .i64 e] 45 (0, 0))) (he : e ≠ 0) :
    Calls Try.prog 31 #[.pointer (some ⟨Bx, 0, none⟩), .func (.func 32) #[] #[]] w (Tells w (.int .i64 0)) := by
  obtain ⟨k0, k1, k2, f1, f2⟩ := Reads.cells ⟨World.grownBy.refl w (some Bx), h⟩
  have t1 : (e == 0) = false := by simpa using he
  clear he h
  go_enter Try.func31, Try.ntmps31
  go_wp2
  go_ret
  exact ⟨rfl, rfl⟩
def Field_int (w : World) (Bx : Nat) (A : Option Addr) (n c : Nat) (V : Value) (at_ e : Int) (en : Ending) (w' : World) : Prop := en = .returned V ∧ Reads w w' Bx A n c at_ e
set_option maxHeartbeats 1000000 in
theorem field_int_ok {w : World} {Bx : Nat} {A : Option Addr} {n c : Nat} {at_ : Int} {l : List UInt8} (h : w.heap[Bx]? = some (.cells #[.slice A n c, .int .i64 at_, .int .i64 0] 45 (0, 0))) {B : Nat} (hr : Rd w B A n c l)
    {v : Int} {nx er : Int} (hg : getV l at_ = (v, nx, er)) :
    Calls Try.prog 31 #[.pointer (some ⟨Bx, 0, none⟩), .func (.func 32) #[] #[]] w (Field_int w Bx A n c (.int .i64 v) nx er) := by
  obtain ⟨k0, k1, k2, f1, f2⟩ := Reads.cells ⟨World.grownBy.refl w (some Bx), h⟩
  have HP := Lib.hid (Reads.put (at2 := nx) (e2 := er) h)
  have HC := Lib.hid (getVar_ok (hr.drew) at_)
  have HG := Lib.hid hg
  clear h hr hg
  go_enter Try.func31, Try.ntmps31
  go_wp2_with fail
  go_region_with (go_at_call 32; refine HC.out.mono ?_; (rintro e w1 hv; obtain ⟨va, vb, vc, hV, rfl, rfl⟩ := hv.out; rw [HG.out] at hV; cases hV))
  all_goals
    go_wp2
    go_ret
    first
    | exact ⟨rfl, HP.out.1⟩
    | exact ⟨rfl, HP.out.2⟩

theorem field_bool_not {w : World} {Bx : Nat} {A : Option Addr} {n c : Nat} {at_ e : Int} (h : w.heap[Bx]? = some (.cells #[.slice A n c, .int .i64 at_, .int .i64 e] 45 (0, 0))) (he : e ≠ 0) :
    Calls Try.prog 33 #[.pointer (some ⟨Bx, 0, none⟩), .func (.func 34) #[] #[]] w (Tells w (.bool false)) := by
  obtain ⟨k0, k1, k2, f1, f2⟩ := Reads.cells ⟨World.grownBy.refl w (some Bx), h⟩
  have t1 : (e == 0) = false := by simpa using he
  clear he h
  go_enter Try.func33, Try.ntmps33
  go_wp2
  go_ret
  exact ⟨rfl, rfl⟩
def Field_bool (w : World) (Bx : Nat) (A : Option Addr) (n c : Nat) (V : Value) (at_ e : Int) (en : Ending) (w' : World) : Prop := en = .returned V ∧ Reads w w' Bx A n c at_ e
set_option maxHeartbeats 1000000 in
theorem field_bool_ok {w : World} {Bx : Nat} {A : Option Addr} {n c : Nat} {at_ : Int} {l : List UInt8} (h : w.heap[Bx]? = some (.cells #[.slice A n c, .int .i64 at_, .int .i64 0] 45 (0, 0))) {B : Nat} (hr : Rd w B A n c l) (h0 : 0 ≤ at_)
    {v : Bool} {nx er : Int} (hg : flagR l at_ = (v, nx, er)) :
    Calls Try.prog 33 #[.pointer (some ⟨Bx, 0, none⟩), .func (.func 34) #[] #[]] w (Field_bool w Bx A n c (.bool v) nx er) := by
  obtain ⟨k0, k1, k2, f1, f2⟩ := Reads.cells ⟨World.grownBy.refl w (some Bx), h⟩
  have HP := Lib.hid (Reads.put (at2 := nx) (e2 := er) h)
  have HC := Lib.hid (flag_ok (hr.drew) at_ h0)
  have HG := Lib.hid hg
  clear h hr hg
  go_enter Try.func33, Try.ntmps33
  go_wp2_with fail
  go_region_with (go_at_call 34; refine HC.out.mono ?_; (rintro e w1 ⟨va, vb, vc, hV, rfl, rfl⟩; rw [HG.out] at hV; cases hV))
  all_goals
    go_wp2
    go_ret
    first
    | exact ⟨rfl, HP.out.1⟩
    | exact ⟨rfl, HP.out.2⟩

theorem field_string_not {w : World} {Bx : Nat} {A : Option Addr} {n c : Nat} {at_ e : Int} (h : w.heap[Bx]? = some (.cells #[.slice A n c, .int .i64 at_, .int .i64 e] 45 (0, 0))) (he : e ≠ 0) :
    Calls Try.prog 35 #[.pointer (some ⟨Bx, 0, none⟩), .func (.func 28) #[] #[]] w (Tells w (.string { data := #[] })) := by
  obtain ⟨k0, k1, k2, f1, f2⟩ := Reads.cells ⟨World.grownBy.refl w (some Bx), h⟩
  have t1 : (e == 0) = false := by simpa using he
  clear he h
  go_enter Try.func35, Try.ntmps35
  go_wp2
  go_ret
  exact ⟨rfl, rfl⟩
def Field_string (w : World) (Bx : Nat) (A : Option Addr) (n c : Nat) (V : Value) (at_ e : Int) (en : Ending) (w' : World) : Prop := en = .returned V ∧ Reads w w' Bx A n c at_ e
set_option maxHeartbeats 1000000 in
theorem field_string_ok {w : World} {Bx : Nat} {A : Option Addr} {n c : Nat} {at_ : Int} {l : List UInt8} (h : w.heap[Bx]? = some (.cells #[.slice A n c, .int .i64 at_, .int .i64 0] 45 (0, 0))) {B : Nat} (hr : Rd w B A n c l)
    {v : List UInt8} {nx er : Int} (hg : getT l at_ 64 = (v, nx, er)) :
    Calls Try.prog 35 #[.pointer (some ⟨Bx, 0, none⟩), .func (.func 28) #[] #[]] w (Field_string w Bx A n c (.string (strOf v)) nx er) := by
  obtain ⟨k0, k1, k2, f1, f2⟩ := Reads.cells ⟨World.grownBy.refl w (some Bx), h⟩
  have HP := Lib.hid (Reads.put (at2 := nx) (e2 := er) h)
  have HC := Lib.hid (text_ok (hr.drew) at_)
  have HG := Lib.hid hg
  clear h hr hg
  go_enter Try.func35, Try.ntmps35
  go_wp2_with fail
  go_region_with (go_at_call 28; refine HC.out.mono ?_; (rintro e w1 ⟨va, vb, vc, hV, rfl, rfl⟩; rw [HG.out] at hV; cases hV))
  all_goals
    go_wp2
    go_ret
    first
    | exact ⟨rfl, HP.out.1⟩
    | exact ⟨rfl, HP.out.2⟩
end Go.Proofs.Yteamnapboophiaa
