/-
  Contracts of crc's times, Join, Seal and Open.
-/
import Derived.Test.YtcnljifbifidbaaCrcW
import Derived.Test.YtcnljifbifidbaaPut
import Derived.Test.YtcnljifbifidbaaGet
namespace Go.Proofs.Ytcnljifbifidbaa
open Go.RowKit
set_option linter.unusedVariables false

/-- The mask of a round: bit i - 1, or none. -/
def pw (i : Nat) : Nat := if i = 0 then 0 else 2 ^ (i - 1)
theorem pw_half (i : Nat) (h : i ≠ 0) : pw i / 2 = pw (i - 1) := by
  unfold pw
  rw [if_neg h]
  by_cases h1 : i = 1
  · subst h1; rfl
  · rw [if_neg (by omega), show i - 1 = (i - 1 - 1) + 1 by omega, Nat.pow_succ]
    simp

theorem and_bit (a i : Nat) (ha : a < 2 ^ 32) (hi : i < 32) : bits BinOp.and IntKind.u32 (a : Int) ((2 ^ i : Nat) : Int) = (((if a.testBit i then 2 ^ i else 0) : Nat) : Int) := by
  have h2 : 2 ^ i < 2 ^ 32 := Nat.pow_lt_pow_right (by omega) hi
  rw [u32_and_nat a (2 ^ i) (by omega) (by omega), nat_bit]
  congr 1
  rw [Nat.testBit_eq_decide_div_mod_eq]
  by_cases h : a / 2 ^ i % 2 = 1
  · simp [h]
  · have h0 : a / 2 ^ i % 2 = 0 := by omega
    simp [h0]

theorem clear_bit (a i : Nat) (h : a < 2 ^ (i + 1)) (hb : a.testBit i = true) : a ^^^ 2 ^ i < 2 ^ i := by
  have hge := Nat.ge_two_pow_of_testBit hb
  rw [Nat.pow_succ] at h
  have e := xor_low i 1 (a - 2 ^ i) (by omega)
  rw [Nat.mul_one, show 2 ^ i + (a - 2 ^ i) = a by omega] at e
  rw [← e, Nat.xor_comm, ← Nat.xor_assoc, Nat.xor_self, Nat.zero_xor]
  omega
theorem no_bit (a i : Nat) (h : a < 2 ^ (i + 1)) (hb : a.testBit i = false) : a < 2 ^ i := by
  rcases Nat.lt_or_ge a (2 ^ i) with h1 | h1
  · exact h1
  · rw [Nat.pow_succ] at h
    have e := xor_low i 1 (a - 2 ^ i) (by omega)
    rw [Nat.mul_one, show 2 ^ i + (a - 2 ^ i) = a by omega] at e
    rw [← e, Nat.testBit_xor, Nat.testBit_two_pow_self, Nat.testBit_lt_two_pow (by omega)] at hb
    cases hb

set_option maxRecDepth 100000 in
theorem times_ok {w : World} (a b : Nat) (ha : a < 2 ^ 32) (hb : b < 2 ^ 32) :
    Calls Try.prog 27 #[.int .u32 (a : Int), .int .u32 (b : Int)] w (Tells w (.int .u32 ((mul a b : Nat) : Int))) := by
  go_enter Try.func27, Try.ntmps27
  go_wp2_with fail
  go_step3
  go_wp2_with fail
  go_step3
  go_wp2_with fail
  go_loop [0, 1, 5, 6] (fun x y p m => ∃ (i a1 b1 p1 : Nat), i ≤ 32 ∧ a1 < 2 ^ i ∧ b1 < 2 ^ 32 ∧ p1 < 2 ^ 32 ∧ x = .int .u32 (a1 : Int) ∧ y = .int .u32 (b1 : Int) ∧ p = .int .u32 (p1 : Int) ∧ m = .int .u32 ((pw i : Nat) : Int) ∧ p1 ^^^ mulG i a1 b1 = mul a b) (fun _ _ _ m => (intOf m).toNat)
  case atStart => exact ⟨32, a, b, 0, by omega, ha, hb, by omega, rfl, rfl, rfl, rfl, by rw [Nat.zero_xor]; rfl⟩
  case round =>
    obtain ⟨i, a1, b1, p1, hi, ha1, hb1, hp1, rfl, rfl, rfl, rfl, heq⟩ := hrel
    by_cases hi0 : i = 0
    · subst hi0
      have hfin : p1 = mul a b := by rw [← heq]; simp [mulG]
      have HF := Lib.hid hfin
      rw [show pw 0 = 0 from rfl]
      clear heq hfin
      go_wp2
      go_ret
      rw [← HF.out]
      exact ⟨rfl, rfl⟩
    obtain ⟨j, rfl⟩ : ∃ j, i = j + 1 := ⟨i - 1, by omega⟩
    have hpw : pw (j + 1) = 2 ^ j := rfl
    have hm : ((2 ^ j : Nat) : Int) / 2 = ((pw j : Nat) : Int) := by
      have := pw_half (j + 1) (by omega)
      rw [hpw, Nat.add_sub_cancel] at this
      omega
    have hpos : 0 < 2 ^ j := Nat.pow_pos (by omega)
    have hlt32 : 2 ^ j < 2 ^ 32 := Nat.pow_lt_pow_right (by omega) (by omega)
    have hal : a1 < 2 ^ 32 := Nat.lt_of_lt_of_le ha1 (Nat.pow_le_pow_right (by omega) hi)
    rw [hpw]
    by_cases ha0 : a1 = 0
    · subst ha0
      have hfin : p1 = mul a b := by rw [← heq, mulG_none]; simp
      have HF := Lib.hid hfin
      have t1 : (((2 ^ j : Nat) : Int) == 0) = false := by simp only [beq_eq_false_iff_ne, ne_eq]; omega
      clear heq hfin hm hlt32 hpw ha1
      generalize 2 ^ j = M at *
      go_wp2
      go_ret
      rw [← HF.out]
      exact ⟨rfl, rfl⟩
    · have t1 : (((2 ^ j : Nat) : Int) == 0) = false := by simp only [beq_eq_false_iff_ne, ne_eq]; omega
      have t2 : ((a1 : Int) == 0) = false := by simp; omega
      have hand := and_bit a1 j hal (by omega)
      have hst := st_walk b1 hb1
      have hnext : mulG (j + 1) a1 b1 = (if a1.testBit j then b1 else 0) ^^^ mulG j a1 (st b1) := rfl
      cases hbit : a1.testBit j
      · have hlow := no_bit a1 j ha1 hbit
        rw [hbit] at hand hnext
        simp only [Bool.false_eq_true, if_false] at hand hnext
        rw [Nat.zero_xor] at hnext
        rw [hnext] at heq
        have HE := Lib.hid heq
        have HS := Lib.hid (st_lt hb1)
        have HLOW := Lib.hid hlow
        have HP := Lib.hid hp1
        rw [show (((0 : Nat)) : Int) = 0 from rfl] at hand
        clear heq hnext hlow ha1 hpw hbit hb1 hp1 ha hb
        generalize hM : 2 ^ j = M at *
        generalize st b1 = b2 at *
        have HM := Lib.hid hM
        clear hM
        go_wp2
        go_round
        case rel => exact ⟨j, a1, b2, p1, by omega, by rw [HM.out]; exact HLOW.out, HS.out, HP.out, rfl, rfl, rfl, rfl, HE.out⟩
        case measure => simp [intOf]; omega
      · have hlow := clear_bit a1 j ha1 hbit
        rw [hbit] at hand hnext
        simp only [if_true] at hand hnext
        have hsame : mulG j a1 (st b1) = mulG j (a1 ^^^ 2 ^ j) (st b1) := mulG_same j fun m hm => by
          have e : decide (j = m) = false := by simp only [decide_eq_false_iff_not]; omega
          rw [Nat.testBit_xor, Nat.testBit_two_pow, e, Bool.xor_false]
        rw [hnext, hsame, ← Nat.xor_assoc] at heq
        have hx1 := xor_walk p1 b1 hp1 hb1
        have hx2 := xor_walk a1 (2 ^ j) hal hlt32
        have HE := Lib.hid heq
        have HS := Lib.hid (st_lt hb1)
        have HLOW := Lib.hid hlow
        have HP := Lib.hid (Nat.xor_lt_two_pow hp1 hb1)
        have t3 : (((2 ^ j : Nat) : Int) != 0) = true := by simp only [bne_iff_ne, ne_eq]; omega
        clear heq hnext hlow ha1 hpw hbit hsame hb1 hp1 ha hb
        generalize a1 ^^^ 2 ^ j = a2 at *
        generalize p1 ^^^ b1 = p2 at *
        generalize hM : 2 ^ j = M at *
        generalize st b1 = b2 at *
        have HM := Lib.hid hM
        clear hM
        go_wp2
        go_round
        case rel => exact ⟨j, a2, b2, p2, by omega, by rw [HM.out]; exact HLOW.out, HS.out, HP.out, rfl, rfl, rfl, rfl, HE.out⟩
        case measure => simp [intOf]; omega

theorem its_id_lt (k : Nat) : its k 2147483648 < 2 ^ 32 := its_lt k (by omega)
theorem times_its {w : World} (k j : Nat) :
    Calls Try.prog 27 #[.int .u32 ((its k 2147483648 : Nat) : Int), .int .u32 ((its j 2147483648 : Nat) : Int)] w (Tells w (.int .u32 ((its (j + k) 2147483648 : Nat) : Int))) := by
  have := times_ok (w := w) (its k 2147483648) (its j 2147483648) (its_id_lt k) (its_id_lt j)
  rw [mul_its k _ (its_id_lt j), ← its_add] at this
  exact this
theorem times_last {w : World} (k a : Nat) (ha : a < 2 ^ 32) :
    Calls Try.prog 27 #[.int .u32 ((its k 2147483648 : Nat) : Int), .int .u32 (a : Int)] w (Tells w (.int .u32 ((its k a : Nat) : Int))) := by
  have := times_ok (w := w) (its k 2147483648) a (its_id_lt k) ha
  rw [mul_its k a ha] at this
  exact this

theorem i64_and1 (q : Nat) (h : q < 9223372036854775808) : bits BinOp.and IntKind.i64 (q : Int) 1 = ((q % 2 : Nat) : Int) := by
  have e : ∀ a : Nat, a < 9223372036854775808 → (BitVec.ofInt 64 (a : Int)).toNat = a := by
    intro a ha
    rw [BitVec.ofInt_natCast, BitVec.toNat_ofNat]; exact Nat.mod_eq_of_lt (by omega)
  show IntKind.i64.wrap ((BitVec.ofInt 64 (q : Int) &&& BitVec.ofInt 64 ((1 : Nat) : Int)).toNat : Int) = _
  rw [BitVec.toNat_and, e q h, e 1 (by omega), nat_mask1, IntKind.wrap_i64]
  omega

set_option maxRecDepth 100000 in
theorem join_ok {w : World} (a b : Nat) (ha : a < 2 ^ 32) (hb : b < 2 ^ 32) (n : Int) :
    Calls Try.prog 20 #[.int .u32 (a : Int), .int .u32 (b : Int), .int .i64 n] w (Tells w (.int .u32 ((join a b n : Nat) : Int))) := by
  by_cases h0 : n < 0
  · have hj : join a b n = 0 := by rw [join, if_pos (.inl h0)]
    rw [hj]
    have t1 : decide (n < 0) = true := by simp; exact h0
    go_enter Try.func20, Try.ntmps20
    go_wp2
    go_ret
    exact ⟨rfl, rfl⟩
  have t1 : decide (n < 0) = false := by simp; omega
  by_cases h1 : 4096 < n
  · have hj : join a b n = 0 := by rw [join, if_pos (.inr h1)]
    rw [hj]
    have t2 : decide (4096 < n) = true := by simp; exact h1
    go_enter Try.func20, Try.ntmps20
    go_wp2
    go_ret
    exact ⟨rfl, rfl⟩
  have t2 : decide (4096 < n) = false := by simp; omega
  obtain ⟨m, rfl⟩ := Int.eq_ofNat_of_zero_le (show 0 ≤ n by omega)
  have hj : join a b m = its (8 * m) a ^^^ b := by rw [join, if_neg (by omega), Int.toNat_natCast]
  have HJ := Lib.hid hj
  clear hj
  generalize join a b m = J at *
  have HA := Lib.hid ha
  have HB := Lib.hid hb
  clear ha hb
  go_enter Try.func20, Try.ntmps20
  go_wp2_with fail
  go_loop [2, 7, 8] (fun x p s => ∃ (q i j : Nat), q ≤ 4096 ∧ x = .int .i64 (q : Int) ∧ p = .int .u32 ((its i 2147483648 : Nat) : Int) ∧ s = .int .u32 ((its j 2147483648 : Nat) : Int) ∧ i + q * j = 8 * m) (fun x _ _ => (intOf x).toNat)
  case atStart => exact ⟨m, 0, 8, by omega, rfl, rfl, by rw [show its 8 2147483648 = 8388608 from by decide +kernel]; rfl, by omega⟩
  case round =>
    obtain ⟨q, i, j, hq, rfl, rfl, rfl, heq⟩ := hrel
    have HE := Lib.hid heq
    clear heq
    by_cases hq0 : q = 0
    · subst hq0
      have hi : i = 8 * m := by have := HE.out; omega
      have hl := times_last (w := w) i a HA.out
      have hx := xor_walk (its i a) b (its_lt i HA.out) HB.out
      rw [hi] at hl hx
      have HL := Lib.hid hl
      rw [← HJ.out] at hx
      clear hl
      subst hi
      generalize its (8 * m) a = R at *
      go_wp2_with (go_at_call 27; refine HL.out.mono ?_; rintro e w2 ⟨rfl, rfl⟩)
      go_ret
      exact ⟨rfl, rfl⟩
    · have hand := i64_and1 q (by omega)
      have g0 : (1 : Int) ≤ (q : Int) := by omega
      have hsq := times_its (w := w) j j
      have HSQ := Lib.hid hsq
      clear hsq
      have h2 : q = 2 * (q / 2) + q % 2 := by omega
      have h3 : q * j = q / 2 * (j + j) + q % 2 * j := by
        conv => lhs; rw [h2]
        rw [Nat.add_mul, Nat.mul_comm 2, Nat.mul_assoc, Nat.two_mul]
      rcases Nat.mod_two_eq_zero_or_one q with hb2 | hb2
      · rw [hb2, show ((0 : Nat) : Int) = 0 from rfl] at hand
        have hnext : i + q / 2 * (j + j) = 8 * m := by
          have h1 := HE.out
          rw [hb2] at h3
          omega
        have HN := Lib.hid hnext
        clear hnext hb2 h2 h3
        go_wp2_with fail
        refine HSQ.out.mono ?_
        rintro e w2 ⟨rfl, rfl⟩
        go_wp2
        go_round
        case rel => exact ⟨q / 2, i, j + j, by omega, by go_num, rfl, rfl, HN.out⟩
        case measure => simp [intOf]; omega
      · rw [hb2, show ((1 : Nat) : Int) = 1 from rfl] at hand
        have hnext : j + i + q / 2 * (j + j) = 8 * m := by
          have h1 := HE.out
          rw [hb2] at h3
          omega
        have HN := Lib.hid hnext
        have HPS := Lib.hid (times_its (w := w) i j)
        clear hnext hb2 h2 h3
        go_wp2_with fail
        refine HPS.out.mono ?_
        rintro e w2 ⟨rfl, rfl⟩
        go_wp2_with fail
        refine HSQ.out.mono ?_
        rintro e w2 ⟨rfl, rfl⟩
        go_wp2
        go_round
        case rel => exact ⟨q / 2, j + i, j + j, by omega, by go_num, rfl, rfl, HN.out⟩
        case measure => simp [intOf]; omega

end Go.Proofs.Ytcnljifbifidbaa
