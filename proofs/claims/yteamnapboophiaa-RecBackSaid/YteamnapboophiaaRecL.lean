/-
  Few, and the example that each statement of layer 3 begins with.
-/
import Derived.Test.YteamnapboophiaaRecK
import Derived.Test.YteamnapboophiaaRecT
namespace Go.Proofs.Yteamnapboophiaa
open Go.RowKit
set_option linter.unusedVariables false

/-- A call that answers true and leaves what was there as it was. -/
def Yes (w : World) (e : Ending) (w' : World) : Prop := e = .returned (.bool true) ∧ Below w.heap.size w w'
def SaysB (w : World) (b : Bool) (e : Ending) (w' : World) : Prop := e = .returned (.bool b) ∧ Below w.heap.size w w'

theorem few_is {w : World} (off : Int) (k v : ByteArray) (dead : Bool) (stamp : Int) (hk : k.size ≤ 9223372036854775807) (hv : v.size ≤ 9223372036854775807) (b : Bool) (hb : (decide (k.size ≤ 300) && decide (v.size ≤ 300)) = b) :
    Calls Try.prog 13 #[.agg #[.int .i64 off, .string k, .string v, .bool dead, .int .i64 stamp]] w (SaysB w b) := by
  subst hb
  by_cases h1 : k.size ≤ 300
  · have t1 : decide ((k.size : Int) ≤ 300) = true := by simp only [decide_eq_true_eq]; omega
    by_cases h2 : v.size ≤ 300
    · have t2 : decide ((v.size : Int) ≤ 300) = true := by simp only [decide_eq_true_eq]; omega
      have HE := Lib.hid (show (decide (k.size ≤ 300) && decide (v.size ≤ 300)) = true by simp [h1, h2])
      clear h1 h2
      go_enter Try.func13, Try.ntmps13
      go_wp2
      go_ret
      exact ⟨by rw [HE.out]; rfl, bput (Below.refl _ w) _⟩
    · have t2 : decide ((v.size : Int) ≤ 300) = false := by simp only [decide_eq_false_iff_not]; omega
      have HE := Lib.hid (show (decide (k.size ≤ 300) && decide (v.size ≤ 300)) = false by simp [h2])
      clear h1 h2
      go_enter Try.func13, Try.ntmps13
      go_wp2
      go_ret
      exact ⟨by rw [HE.out]; rfl, bput (Below.refl _ w) _⟩
  · have t1 : decide ((k.size : Int) ≤ 300) = false := by simp only [decide_eq_false_iff_not]; omega
    have HE := Lib.hid (show (decide (k.size ≤ 300) && decide (v.size ≤ 300)) = false by simp [h1])
    clear h1
    go_enter Try.func13, Try.ntmps13
    go_wp2
    go_ret
    exact ⟨by rw [HE.out]; rfl, bput (Below.refl _ w) _⟩

/-- Put, as its callers take it. -/
def mayN (off : Int) (k v : ByteArray) (dead : Bool) (stamp base st : Int) : Bool := chkN off k.size v.size dead stamp && inR base && inR st
theorem put_is {w : World} {off : Int} {k v : ByteArray} {dead : Bool} {stamp base st : Int} (hk : k.size ≤ 9223372036854775807) (hv : v.size ≤ 9223372036854775807) {L : List UInt8} {E : Int}
    (hL : (if mayN off k v dead stamp base st then putB off k v dead stamp base st else []) = L) (hE : errI (mayN off k v dead stamp base st) = E) :
    Calls Try.prog 14 #[.agg #[.int .i64 off, .string k, .string v, .bool dead, .int .i64 stamp], .int .i64 base, .int .i64 st] w (Both w L E) := by
  subst hL
  subst hE
  cases hm : mayN off k v dead stamp base st with
  | false => exact put_bad off k v dead stamp base st hk hv hm
  | true =>
    simp only [mayN, Bool.and_eq_true] at hm
    exact put_good off k v dead stamp base st hm.1.1 hm.1.2 hm.2
theorem rput_is {w : World} {off : Int} {k v : ByteArray} {dead : Bool} {stamp base st : Int} (hk : k.size ≤ 9223372036854775807) (hv : v.size ≤ 9223372036854775807) {L : List UInt8} {E : Int}
    (hL : (if mayN off k v dead stamp base st then putB off k v dead stamp base st else []) = L) (hE : errI (mayN off k v dead stamp base st) = E) :
    Calls Try.prog 15 #[.agg #[.int .i64 off, .string k, .string v, .bool dead, .int .i64 stamp], .int .i64 base, .int .i64 st] w (Both w L E) := by
  subst hL
  subst hE
  cases hm : mayN off k v dead stamp base st with
  | false => exact rput_bad off k v dead stamp base st hk hv hm
  | true =>
    simp only [mayN, Bool.and_eq_true] at hm
    exact rput_good off k v dead stamp base st hm.1.1 hm.1.2 hm.2
theorem size_is {w : World} {off : Int} {k v : ByteArray} {dead : Bool} {stamp base st : Int} (hk : k.size ≤ 9223372036854775807) (hv : v.size ≤ 9223372036854775807) {S : Int}
    (hS : (((if mayN off k v dead stamp base st then putB off k v dead stamp base st else []).length : Nat) : Int) = S) :
    Calls Try.prog 18 #[.agg #[.int .i64 off, .string k, .string v, .bool dead, .int .i64 stamp], .int .i64 base, .int .i64 st] w (SaysI w S) := by
  subst hS
  cases hm : mayN off k v dead stamp base st with
  | false => exact size_bad off k v dead stamp base st hk hv hm
  | true =>
    simp only [mayN, Bool.and_eq_true] at hm
    exact size_good off k v dead stamp base st hm.1.1 hm.1.2 hm.2
theorem rsize_is {w : World} {off : Int} {k v : ByteArray} {dead : Bool} {stamp base st : Int} (hk : k.size ≤ 9223372036854775807) (hv : v.size ≤ 9223372036854775807) {S : Int}
    (hS : (((if mayN off k v dead stamp base st then putB off k v dead stamp base st else []).length : Nat) : Int) = S) :
    Calls Try.prog 19 #[.agg #[.int .i64 off, .string k, .string v, .bool dead, .int .i64 stamp], .int .i64 base, .int .i64 st] w (SaysI w S) := by
  subst hS
  cases hm : mayN off k v dead stamp base st with
  | false => exact rsize_bad off k v dead stamp base st hk hv hm
  | true =>
    simp only [mayN, Bool.and_eq_true] at hm
    exact rsize_good off k v dead stamp base st hm.1.1 hm.1.2 hm.2
/-- Get, as its callers take it. -/
def Got (w : World) (off : Int) (k v : ByteArray) (dead : Bool) (stamp n z : Int) (e : Ending) (w' : World) : Prop := e = .returned (.tuple #[.agg #[.int .i64 off, .string k, .string v, .bool dead, .int .i64 stamp], .int .i64 n, .int .i64 z]) ∧ Below w.heap.size w w'
theorem get_is {w : World} {A : Option Addr} {n c : Nat} {l : List UInt8} (h : Rd w w.heap.size A n c l) {at_ base st : Int} {r : Rc} {m z : Int} (hg : getR l at_ base st = (r, m, z)) {k v : ByteArray} (hk : strOf r.key = k) (hv : strOf r.val = v) :
    Calls Try.prog 20 #[.slice A n c, .int .i64 at_, .int .i64 base, .int .i64 st] w (Got w r.off k v r.dead r.stamp m z) := by
  refine (get_ok h at_ base st).mono ?_
  rintro e w' ⟨r', n', z', hr, rfl, hb⟩
  rw [hg] at hr
  cases hr
  subst hk
  subst hv
  exact ⟨rfl, hb⟩
theorem rget_is {w : World} {A : Option Addr} {n c : Nat} {l : List UInt8} (h : Rd w w.heap.size A n c l) {at_ base st : Int} {r : Rc} {m z : Int} (hg : getR l at_ base st = (r, m, z)) {k v : ByteArray} (hk : strOf r.key = k) (hv : strOf r.val = v) :
    Calls Try.prog 21 #[.slice A n c, .int .i64 at_, .int .i64 base, .int .i64 st] w (Got w r.off k v r.dead r.stamp m z) := by
  refine (rget_ok h at_ base st).mono ?_
  rintro e w' ⟨r', n', z', hr, rfl, hb⟩
  rw [hg] at hr
  cases hr
  subst hk
  subst hv
  exact ⟨rfl, hb⟩

def exR : Rc := ⟨12, [107], [118], false, 99⟩
theorem ex_may : mayP exR 10 100 = true := by decide
theorem ex_put : putR exR 10 100 = [4, 1, 0, 2, 107, 2, 118] := by
  have h1 : enc (zig (12 - 10)) = [4] := by rw [show zig (12 - 10) = 4 from rfl, enc_lt (by omega)]; rfl
  have h2 : enc (zig (99 - 100)) = [1] := by rw [show zig (99 - 100) = 1 from rfl, enc_lt (by omega)]; rfl
  have h3 : enc (zig (1 : Int)) = [2] := by rw [show zig 1 = 2 from rfl, enc_lt (by omega)]; rfl
  have h4 : ∀ x : UInt8, putT [x] = [2, x] := fun x => by
    unfold putT
    rw [show (([x] : List UInt8).length : Int) = 1 from rfl, h3]; rfl
  simp only [putR, exR, h1, h2, h4]
  rfl
theorem ex_get : getR [4, 1, 0, 2, 107, 2, 118] 0 10 100 = (exR, 7, 0) := by
  have := getR_put [] [] exR 10 100 ex_may
  rw [ex_put] at this
  exact this
theorem ex_none : getR [] 0 10 100 = (zeroR, 0, 10) := getR1 (d := 0) (i := 0) (by decide) (by decide) (by omega)
theorem ex_may2 : mayN 12 { data := #[107] } { data := #[118] } false 99 10 100 = true := by decide
theorem ex_put2 : (if mayN 12 { data := #[107] } { data := #[118] } false 99 10 100 then putB 12 { data := #[107] } { data := #[118] } false 99 10 100 else []) = [4, 1, 0, 2, 107, 2, 118] := by
  rw [if_pos ex_may2]
  exact ex_put
end Go.Proofs.Yteamnapboophiaa
