/-
  Records as plain data: which may be, their bytes, and what bytes tell. Plain facts, no program in sight.
-/
import Derived.Test.YteamnapboophiaaOctQ
namespace Go.Proofs.Yteamnapboophiaa
set_option linter.unusedVariables false

/-- Is a number in range? -/
def inR (n : Int) : Bool := decide (0 ≤ n) && decide (n ≤ 1099511627776)
theorem inR_true {n : Int} (h : inR n = true) : 0 ≤ n ∧ n ≤ 1099511627776 := by simpa [inR] using h
theorem inR_false {n : Int} (h : inR n = false) : n < 0 ∨ 1099511627776 < n := by
  simp only [inR, Bool.and_eq_false_iff, decide_eq_false_iff_not] at h
  omega
theorem inR_iff (n : Int) : inR n = true ↔ 0 ≤ n ∧ n ≤ 1099511627776 := by simp [inR]

structure Rc where
  off : Int
  key : List UInt8
  val : List UInt8
  dead : Bool
  stamp : Int

/-- May a record be, by its numbers and its texts' lengths? -/
def chkN (off : Int) (kn vn : Nat) (dead : Bool) (stamp : Int) : Bool := inR off && inR stamp && decide (kn ≤ 64) && decide (vn ≤ 64) && !(dead && (decide (kn = 0) || !decide (vn = 0)))
def chk (r : Rc) : Bool := chkN r.off r.key.length r.val.length r.dead r.stamp
def errI (b : Bool) : Int := if b then 0 else 1

def flagB (d : Bool) : UInt8 := if d then 1 else 0
def putR (r : Rc) (base stamp : Int) : List UInt8 := enc (zig (r.off - base)) ++ enc (zig (r.stamp - stamp)) ++ [flagB r.dead] ++ putT r.key ++ putT r.val
/-- May it be put? -/
def mayP (r : Rc) (base stamp : Int) : Bool := chk r && inR base && inR stamp

def zeroR : Rc := ⟨0, [], [], false, 0⟩
def besideI (n d : Int) : Int := if d < -1099511627776 ∨ 1099511627776 < d then -1 else n + d
/-- A byte that is 0 or 1. -/
def flagR (l : List UInt8) (at_ : Int) : Bool × Int × Int :=
  if (l.length : Int) ≤ at_ then (false, 0, 10) else if 1 < (l.getD at_.toNat 0).toNat then (false, 0, 11) else (decide ((l.getD at_.toNat 0).toNat = 1), at_ + 1, 0)
/-- May there be a record at a place? -/
def mayG (l : List UInt8) (at_ base stamp : Int) : Bool := inR base && inR stamp && decide (0 ≤ at_) && decide (at_ ≤ (l.length : Int))
/-- What bytes tell, from a place on: a record, where it ends, an error. -/
def getR (l : List UInt8) (at_ base stamp : Int) : Rc × Int × Int :=
  if mayG l at_ base stamp = false then (zeroR, 0, 1) else
  match getV l at_ with
  | (d, i, e1) => if e1 ≠ 0 then (zeroR, 0, e1) else
  match getV l i with
  | (s, j, e2) => if e2 ≠ 0 then (zeroR, 0, e2) else
  match flagR l j with
  | (f, m, e3) => if e3 ≠ 0 then (zeroR, 0, e3) else
  match getT l m 64 with
  | (k, p, e4) => if e4 ≠ 0 then (zeroR, 0, e4) else
  match getT l p 64 with
  | (v, q, e5) => if e5 ≠ 0 then (zeroR, 0, e5) else
  if chk ⟨besideI base d, k, v, f, besideI stamp s⟩ = true then (⟨besideI base d, k, v, f, besideI stamp s⟩, q, 0) else (zeroR, 0, 1)
section
variable {l : List UInt8} {at_ base stamp d i e1 s j e2 m e3 p e4 q e5 : Int} {f : Bool} {k v : List UInt8}
theorem getR0 (h : mayG l at_ base stamp = false) : getR l at_ base stamp = (zeroR, 0, 1) := by rw [getR, if_pos h]
theorem getR1 (h : mayG l at_ base stamp = true) (h1 : getV l at_ = (d, i, e1)) (n1 : e1 ≠ 0) : getR l at_ base stamp = (zeroR, 0, e1) := by
  rw [getR, if_neg (by rw [h]; simp), h1]
  simp only [if_pos n1]
theorem getR2 (h : mayG l at_ base stamp = true) (h1 : getV l at_ = (d, i, 0)) (h2 : getV l i = (s, j, e2)) (n2 : e2 ≠ 0) : getR l at_ base stamp = (zeroR, 0, e2) := by
  rw [getR, if_neg (by rw [h]; simp), h1]
  simp only [ne_eq, not_true_eq_false, if_false, h2, if_pos n2]
theorem getR3 (h : mayG l at_ base stamp = true) (h1 : getV l at_ = (d, i, 0)) (h2 : getV l i = (s, j, 0)) (h3 : flagR l j = (f, m, e3)) (n3 : e3 ≠ 0) : getR l at_ base stamp = (zeroR, 0, e3) := by
  rw [getR, if_neg (by rw [h]; simp), h1]
  simp only [ne_eq, not_true_eq_false, if_false, h2, h3, if_pos n3]
theorem getR4 (h : mayG l at_ base stamp = true) (h1 : getV l at_ = (d, i, 0)) (h2 : getV l i = (s, j, 0)) (h3 : flagR l j = (f, m, 0)) (h4 : getT l m 64 = (k, p, e4)) (n4 : e4 ≠ 0) : getR l at_ base stamp = (zeroR, 0, e4) := by
  rw [getR, if_neg (by rw [h]; simp), h1]
  simp only [ne_eq, not_true_eq_false, if_false, h2, h3, h4, if_pos n4]
theorem getR5 (h : mayG l at_ base stamp = true) (h1 : getV l at_ = (d, i, 0)) (h2 : getV l i = (s, j, 0)) (h3 : flagR l j = (f, m, 0)) (h4 : getT l m 64 = (k, p, 0)) (h5 : getT l p 64 = (v, q, e5)) (n5 : e5 ≠ 0) : getR l at_ base stamp = (zeroR, 0, e5) := by
  rw [getR, if_neg (by rw [h]; simp), h1]
  simp only [ne_eq, not_true_eq_false, if_false, h2, h3, h4, h5, if_pos n5]
theorem getR6 (h : mayG l at_ base stamp = true) (h1 : getV l at_ = (d, i, 0)) (h2 : getV l i = (s, j, 0)) (h3 : flagR l j = (f, m, 0)) (h4 : getT l m 64 = (k, p, 0)) (h5 : getT l p 64 = (v, q, 0))
    (h6 : chk ⟨besideI base d, k, v, f, besideI stamp s⟩ = false) : getR l at_ base stamp = (zeroR, 0, 1) := by
  rw [getR, if_neg (by rw [h]; simp), h1]
  simp only [ne_eq, not_true_eq_false, if_false, h2, h3, h4, h5, h6]
  rfl
theorem getR7 (h : mayG l at_ base stamp = true) (h1 : getV l at_ = (d, i, 0)) (h2 : getV l i = (s, j, 0)) (h3 : flagR l j = (f, m, 0)) (h4 : getT l m 64 = (k, p, 0)) (h5 : getT l p 64 = (v, q, 0))
    (h6 : chk ⟨besideI base d, k, v, f, besideI stamp s⟩ = true) : getR l at_ base stamp = (⟨besideI base d, k, v, f, besideI stamp s⟩, q, 0) := by
  rw [getR, if_neg (by rw [h]; simp), h1]
  simp only [ne_eq, not_true_eq_false, if_false, h2, h3, h4, h5, h6, if_true]
end
end Go.Proofs.Yteamnapboophiaa
