/-
  Plain functions on lists of bytes, numbers and texts of layer 1, with no program in sight. Conditions: none.
-/
namespace Go.Proofs.YtlijagbklopipaaDoor

/-- The lowest k bytes of n, the highest of them first. -/
def be (n : Nat) : Nat → List UInt8
  | 0 => []
  | k + 1 => UInt8.ofNat (n / 256 ^ k) :: be n k

theorem be_length (n k : Nat) : (be n k).length = k := by
  induction k with
  | zero => rfl
  | succ k ih => simp [be, ih]

/-- Bytes as a number, the highest first, behind the number a. -/
def num (a : Nat) (l : List UInt8) : Nat := l.foldl (fun a x => a * 256 + x.toNat) a

theorem num_nil (a : Nat) : num a [] = a := rfl
theorem num_cons (a : Nat) (x : UInt8) (l : List UInt8) : num a (x :: l) = num (a * 256 + x.toNat) l := rfl
theorem num_snoc (a : Nat) (x : UInt8) (l : List UInt8) : num a (l ++ [x]) = num a l * 256 + x.toNat := by simp [num]
theorem num_lt (l : List UInt8) : ∀ a k, a < 256 ^ k → num a l < 256 ^ (k + l.length) := by
  induction l with
  | nil => intro a k h; simpa [num] using h
  | cons x l ih =>
    intro a k h
    rw [num_cons, List.length_cons, show k + (l.length + 1) = (k + 1) + l.length by omega]
    refine ih _ _ ?_
    have hx := x.toNat_lt
    rw [Nat.pow_succ]
    omega

/-- What a number of k bytes, got at a place, is, and the error. -/
def getN (l : List UInt8) (at_ k : Int) : Int :=
  if k < 1 ∨ 8 < k ∨ at_ < 0 ∨ (l.length : Int) < at_ ∨ (l.length : Int) - at_ < k then 0 else (num 0 ((l.drop at_.toNat).take k.toNat) : Int)
def getE (l : List UInt8) (at_ k : Int) : Int :=
  if k < 1 ∨ 8 < k ∨ at_ < 0 then 1 else if (l.length : Int) < at_ ∨ (l.length : Int) - at_ < k then 10 else 0

/-- A number as one that is not below 0, and back. -/
def zig (n : Int) : Nat := if n < 0 then (-2 * n - 1).toNat else (2 * n).toNat
def unz (z : Nat) : Int := if z % 2 = 1 then -((z / 2 : Nat) : Int) - 1 else ((z / 2 : Nat) : Int)

theorem unz_zig (n : Int) : unz (zig n) = n := by
  unfold unz zig; split <;> split <;> omega
theorem zig_unz (z : Nat) : zig (unz z) = z := by
  unfold unz zig; split <;> split <;> omega
theorem zig_lt (n : Int) (h1 : -9223372036854775808 ≤ n) (h2 : n ≤ 9223372036854775807) : zig n < 18446744073709551616 := by
  unfold zig; split <;> omega

/-- Seven bits a byte, the lowest first. -/
def enc (z : Nat) : List UInt8 := if z < 128 then [UInt8.ofNat z] else UInt8.ofNat (z % 128 + 128) :: enc (z / 128)
termination_by z
decreasing_by omega

theorem enc_lt {z : Nat} (h : z < 128) : enc z = [UInt8.ofNat z] := by rw [enc, if_pos h]
theorem enc_ge {z : Nat} (h : 128 ≤ z) : enc z = UInt8.ofNat (z % 128 + 128) :: enc (z / 128) := by rw [enc, if_neg (by omega)]

/-- What is told of bytes of which i were read, as the number z: the number, where it ends, the error. -/
def gv : Nat → Nat → Int → List UInt8 → Int × Int × Int
  | _, _, _, [] => (0, 0, 10)
  | i, z, at_, x :: r =>
    if (i = 9 ∧ 1 < x.toNat) ∨ (0 < i ∧ x.toNat = 0) then (0, 0, 11)
    else if x.toNat < 128 then (unz (z + x.toNat % 128 * 128 ^ i), at_ + i + 1, 0)
    else gv (i + 1) (z + x.toNat % 128 * 128 ^ i) at_ r

/-- What is told of a number of a place on. -/
def getV (l : List UInt8) (at_ : Int) : Int × Int × Int := if at_ < 0 then (0, 0, 1) else gv 0 0 at_ (l.drop at_.toNat)

/-- A text, and how long it is ahead. -/
def putT (s : List UInt8) : List UInt8 := enc (zig s.length) ++ s
def getT (l : List UInt8) (at_ most : Int) : List UInt8 × Int × Int :=
  let v := getV l at_
  if v.2.2 ≠ 0 then ([], 0, v.2.2)
  else if v.1 < 0 then ([], 0, 11)
  else if most < v.1 then ([], 0, 2)
  else if (l.length : Int) - v.2.1 < v.1 then ([], 0, 10)
  else ((l.drop v.2.1.toNat).take v.1.toNat, v.2.1 + v.1, 0)

/-- Where the number ends that is told without an error. -/
theorem gv_next {i z : Nat} {at_ : Int} {r : List UInt8} (h : (gv i z at_ r).2.2 = 0) : at_ + i + 1 ≤ (gv i z at_ r).2.1 ∧ (gv i z at_ r).2.1 ≤ at_ + i + r.length := by
  induction r generalizing i z with
  | nil => simp [gv] at h
  | cons x r ih =>
    rw [gv] at h ⊢
    split at h
    · simp at h
    · rename_i h1
      rw [if_neg h1]
      split at h
      · rename_i h2
        rw [if_pos h2]
        simp
        omega
      · rename_i h2
        rw [if_neg h2]
        have := ih h
        simp only [List.length_cons]
        omega
theorem gv_err {i z : Nat} {at_ : Int} {r : List UInt8} (h : (gv i z at_ r).2.2 ≠ 0) : (gv i z at_ r).1 = 0 ∧ (gv i z at_ r).2.1 = 0 ∧ ((gv i z at_ r).2.2 = 10 ∨ (gv i z at_ r).2.2 = 11) := by
  induction r generalizing i z with
  | nil => simp [gv]
  | cons x r ih =>
    rw [gv] at h ⊢
    split at h
    · rename_i h1; rw [if_pos h1]; simp
    · rename_i h1
      rw [if_neg h1]
      split at h
      · simp at h
      · rename_i h2
        rw [if_neg h2]
        exact ih h
theorem getV_next {l : List UInt8} {at_ : Int} (h : (getV l at_).2.2 = 0) : 0 ≤ at_ ∧ at_ + 1 ≤ (getV l at_).2.1 ∧ (getV l at_).2.1 ≤ l.length := by
  unfold getV at h ⊢
  split at h
  · simp at h
  · rename_i h1
    rw [if_neg h1]
    have := gv_next h
    have h2 : (l.drop at_.toNat).length ≤ l.length := by simp
    have h3 : (l.drop at_.toNat).length = l.length - at_.toNat := by simp
    omega
theorem getV_err {l : List UInt8} {at_ : Int} (h : (getV l at_).2.2 ≠ 0) : (getV l at_).1 = 0 ∧ (getV l at_).2.1 = 0 ∧ ((getV l at_).2.2 = 10 ∨ (getV l at_).2.2 = 11 ∨ (getV l at_).2.2 = 1) := by
  unfold getV at h ⊢
  split at h
  · rename_i h1; rw [if_pos h1]; simp
  · rename_i h1
    rw [if_neg h1]
    have := gv_err h
    exact ⟨this.1, this.2.1, by rcases this.2.2 with h | h <;> simp [h]⟩
end Go.Proofs.YtlijagbklopipaaDoor
