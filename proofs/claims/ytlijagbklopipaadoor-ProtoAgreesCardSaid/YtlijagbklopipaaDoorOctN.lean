/-
  Facts on integers in the walk's own spelling, for layer 1: shifts, masks and joins of bits as sums and remainders. Conditions: those that each states.
-/
import Derived.WalkKit
import Derived.Lib.Zigzag
import Derived.Lib.VarintBits
import Derived.Test.YtlijagbklopipaaDoorOctP
namespace Go.Proofs.YtlijagbklopipaaDoor
open Go.RowKit
set_option linter.unusedVariables false

theorem zig_bits (m : Int) (h1 : -9223372036854775808 ≤ m) (h2 : m ≤ 9223372036854775807) :
    bits BinOp.xor IntKind.u64 (IntKind.u64.wrap (IntKind.u64.wrap m * 2)) (IntKind.u64.wrap (m / 9223372036854775808)) = (zig m : Int) := by
  simp only [IntKind.wrap_u64]
  by_cases h : m < 0
  · have e1 : m / 9223372036854775808 = -1 := by omega
    have e2 : (m % 18446744073709551616 * 2) % 18446744073709551616 = (((2 * m + 18446744073709551616).toNat : Nat) : Int) := by omega
    have e3 : (-1 : Int) % 18446744073709551616 = ((18446744073709551615 : Nat) : Int) := by omega
    rw [e1, e2, e3, u64_xor_nat _ _ (by omega) (by omega), Nat.xor_comm]
    have := Lib.xor_ones64 (2 * m + 18446744073709551616).toNat (by omega)
    rw [show (2 : Nat) ^ 64 - 1 = 18446744073709551615 by omega] at this
    rw [this]
    unfold zig
    rw [if_pos h]
    omega
  · have e1 : m / 9223372036854775808 = 0 := by omega
    have e2 : (m % 18446744073709551616 * 2) % 18446744073709551616 = (((2 * m).toNat : Nat) : Int) := by omega
    have e3 : (0 : Int) % 18446744073709551616 = ((0 : Nat) : Int) := by omega
    rw [e1, e2, e3, u64_xor_nat _ _ (by omega) (by omega), Nat.xor_zero]
    unfold zig
    rw [if_neg h]

theorem unz_bits (z : Nat) (h : z < 18446744073709551616) (a b : Int) (ha : a = ((z / 2 : Nat) : Int)) (hb : b = -((z % 2 : Nat) : Int)) : bits BinOp.xor IntKind.i64 a b = unz z := by
  subst ha; subst hb
  unfold unz
  by_cases h1 : z % 2 = 1
  · rw [if_pos h1, h1]
    have : bits .xor .i64 ((z / 2 : Nat) : Int) (-1) = bits .xor .i64 (-1) ((z / 2 : Nat) : Int) := by
      simp only [bits]
      rw [BitVec.xor_comm]
    rw [show (-((1 : Nat) : Int)) = -1 by omega, this, Lib.i64_not _ (by omega)]
  · have h0 : z % 2 = 0 := by omega
    rw [if_neg h1, h0]
    simp only [bits]
    simp
    have e : (2 : Int) ^ IntKind.i64.bits = 18446744073709551616 := by decide
    rw [e, IntKind.wrap_i64]
    omega

theorem or_128 : ∀ x : Nat, x < 256 → x ||| 128 = x % 128 + 128 := by decide +kernel
theorem or_more (q : Nat) : bits BinOp.or IntKind.u8 ((q : Int) % 256) 128 = ((UInt8.ofNat (q % 128 + 128)).toNat : Int) := by
  have e : (q : Int) % 256 = ((q % 256 : Nat) : Int) := by omega
  have e2 : (128 : Int) = ((128 : Nat) : Int) := rfl
  rw [e, e2, u8_or_nat _ _ (by omega) (by omega), or_128 _ (by omega), UInt8.toNat_ofNat']
  omega

/-- The i-th seven bits joined to those below. -/
theorem or_seven (i : Nat) (hi : i ≤ 9) (z y : Nat) (hz : z < 128 ^ i) (hy : y < 128) (h9 : i = 9 → y ≤ 1) : bits .or .u64 (z : Int) ((y * 128 ^ i : Nat) : Int) = ((z + y * 128 ^ i : Nat) : Int) := by
  have hb : z < 18446744073709551616 ∧ y * 128 ^ i < 18446744073709551616 := by
    have hc : i = 0 ∨ i = 1 ∨ i = 2 ∨ i = 3 ∨ i = 4 ∨ i = 5 ∨ i = 6 ∨ i = 7 ∨ i = 8 ∨ i = 9 := by omega
    rcases hc with rfl | rfl | rfl | rfl | rfl | rfl | rfl | rfl | rfl | rfl <;> simp at hz ⊢ <;> omega
  have e : (128 : Nat) ^ i = 2 ^ (7 * i) := by rw [Nat.pow_mul]
  rw [u64_or_nat _ _ hb.1 hb.2, Nat.or_comm, nat_join (7 * i) (y * 128 ^ i) z (by rw [e]; simp) (by rw [← e]; exact hz)]
  congr 1
  omega

theorem and_127 (x : UInt8) : bits BinOp.and IntKind.u8 (x.toNat : Int) 127 = ((x.toNat % 128 : Nat) : Int) := by
  have h := x.toNat_lt
  have e2 : (127 : Int) = ((127 : Nat) : Int) := rfl
  rw [e2, u8_and_nat _ _ (by omega) (by omega), nat_mask7]

/-- A step of octet.GetVar: seven bits more. -/
theorem join_walk (k z : Nat) (x : UInt8) (hk : k ≤ 9) (hz : z < 128 ^ k) (h9 : k = 9 → x.toNat ≤ 1) :
    bits BinOp.or IntKind.u64 (z : Int) (IntKind.u64.wrap (IntKind.u64.wrap (bits BinOp.and IntKind.u8 (x.toNat : Int) 127) * 2 ^ (7 * k))) = ((z + x.toNat % 128 * 128 ^ k : Nat) : Int) := by
  have hx : x.toNat % 128 < 128 := by omega
  have hb : x.toNat % 128 * 128 ^ k < 18446744073709551616 := by
    have hc : k = 0 ∨ k = 1 ∨ k = 2 ∨ k = 3 ∨ k = 4 ∨ k = 5 ∨ k = 6 ∨ k = 7 ∨ k = 8 ∨ k = 9 := by omega
    rcases hc with rfl | rfl | rfl | rfl | rfl | rfl | rfl | rfl | rfl | rfl <;> simp at h9 ⊢ <;> omega
  have e : (2 : Int) ^ (7 * k) = ((128 ^ k : Nat) : Int) := by rw [Int.pow_mul]; simp
  have e1 : IntKind.u64.wrap ((x.toNat % 128 : Nat) : Int) = ((x.toNat % 128 : Nat) : Int) := by rw [IntKind.wrap_u64]; omega
  have e2 : IntKind.u64.wrap ((x.toNat % 128 * 128 ^ k : Nat) : Int) = ((x.toNat % 128 * 128 ^ k : Nat) : Int) := by rw [IntKind.wrap_u64]; omega
  rw [and_127, e1, e, ← Int.natCast_mul, e2, or_seven k hk z _ hz hx (by omega)]

theorem unz_walk (z : Nat) (h : z < 18446744073709551616) :
    bits BinOp.xor IntKind.i64 (wrap64 ((z : Int) / 2)) (wrap64 (-wrap64 (bits BinOp.and IntKind.u64 (z : Int) 1))) = unz z := by
  have e : bits BinOp.and IntKind.u64 (z : Int) 1 = ((z % 2 : Nat) : Int) := by
    have := Lib.u64_and1 (z : Int) (by omega) (by omega)
    rw [this]; omega
  rw [e, IntWalk.wrap64_in _ ⟨by omega, by omega⟩, IntWalk.wrap64_in ((z % 2 : Nat) : Int) ⟨by omega, by omega⟩, IntWalk.wrap64_in _ ⟨by omega, by omega⟩]
  exact unz_bits z h _ _ (by omega) rfl

theorem join_lt (k z : Nat) (x : UInt8) (hk : k ≤ 9) (hz : z < 128 ^ k) : z + x.toNat % 128 * 128 ^ k < 128 ^ (k + 1) := by
  rw [Nat.pow_succ]
  have : x.toNat % 128 < 128 := by omega
  have h2 : (x.toNat % 128 + 1) * 128 ^ k ≤ 128 * 128 ^ k := Nat.mul_le_mul_right _ (by omega)
  rw [Nat.add_mul] at h2
  omega
theorem join_lt64 (k z : Nat) (x : UInt8) (hk : k ≤ 9) (hz : z < 128 ^ k) (h9 : k = 9 → x.toNat ≤ 1) : z + x.toNat % 128 * 128 ^ k < 18446744073709551616 := by
  have hc : k = 0 ∨ k = 1 ∨ k = 2 ∨ k = 3 ∨ k = 4 ∨ k = 5 ∨ k = 6 ∨ k = 7 ∨ k = 8 ∨ k = 9 := by omega
  rcases hc with rfl | rfl | rfl | rfl | rfl | rfl | rfl | rfl | rfl | rfl <;> simp at h9 hz ⊢ <;> omega

/-- The three ways of a step, as equations on what is told. -/
theorem gv_bad {k z : Nat} {at_ : Int} {x : UInt8} {r : List UInt8} (h : (k = 9 ∧ 1 < x.toNat) ∨ (0 < k ∧ x.toNat = 0)) : gv k z at_ (x :: r) = (0, 0, 11) := by rw [gv, if_pos h]
theorem gv_ret {k z : Nat} {at_ : Int} {x : UInt8} {r : List UInt8} (h : ¬ ((k = 9 ∧ 1 < x.toNat) ∨ (0 < k ∧ x.toNat = 0))) (hx : x.toNat < 128) : gv k z at_ (x :: r) = (unz (z + x.toNat % 128 * 128 ^ k), at_ + k + 1, 0) := by rw [gv, if_neg h, if_pos hx]
theorem gv_on {k z : Nat} {at_ : Int} {x : UInt8} {r : List UInt8} (h : ¬ ((k = 9 ∧ 1 < x.toNat) ∨ (0 < k ∧ x.toNat = 0))) (hx : 128 ≤ x.toNat) : gv k z at_ (x :: r) = gv (k + 1) (z + x.toNat % 128 * 128 ^ k) at_ r := by rw [gv, if_neg h, if_neg (by omega)]

theorem enc_length {k : Nat} : ∀ {z : Nat}, z < 128 ^ (k + 1) → (enc z).length ≤ k + 1 := by
  induction k with
  | zero => intro z h; rw [enc_lt (by simpa using h)]; simp
  | succ k ih =>
    intro z h
    by_cases hz : z < 128
    · rw [enc_lt hz]; simp
    · rw [enc_ge (by omega), List.length_cons]
      have : z / 128 < 128 ^ (k + 1) := by
        rw [Nat.div_lt_iff_lt_mul (by omega), ← Nat.pow_succ]; exact h
      have := ih this
      omega
theorem enc_ten (z : Nat) (h : z < 18446744073709551616) : (enc z).length ≤ 10 := enc_length (k := 9) (by omega)
theorem enc_pos (z : Nat) : 1 ≤ (enc z).length := by
  by_cases h : z < 128
  · rw [enc_lt h]; simp
  · rw [enc_ge (by omega)]; simp
end Go.Proofs.YtlijagbklopipaaDoor
