/-
  Plain facts of layer 1: what is put is got back, what is got was put, what is cut short is too short, and the order and the lengths of what is put. Conditions: those that each states.
-/
import Derived.Test.YtlijagbklopipaaDoorOctN
import GoSem.Op.String
namespace Go.Proofs.YtlijagbklopipaaDoor
set_option linter.unusedVariables false

theorem pow_split (i : Nat) : 128 ^ (i + 1) = 128 * 128 ^ i := by rw [Nat.pow_succ, Nat.mul_comm]

theorem small_nine {i y z0 : Nat} (hi : i ≤ 9) (h : z0 + y * 128 ^ i < 18446744073709551616) : i = 9 → y ≤ 1 := by
  rintro rfl
  omega

/-- What was put as short as it goes is read, whatever lies behind. -/
theorem gv_enc (y : Nat) : ∀ (i z0 : Nat) (at_ : Int) (r : List UInt8), i ≤ 9 → z0 + y * 128 ^ i < 18446744073709551616 → (0 < i → 0 < y) →
    gv i z0 at_ (enc y ++ r) = (unz (z0 + y * 128 ^ i), at_ + i + (enc y).length, 0) := by
  induction y using Nat.strongRecOn with
  | _ y ih =>
    intro i z0 at_ r hi hlt hpos
    by_cases hy : y < 128
    · have e : (UInt8.ofNat y).toNat = y := by rw [UInt8.toNat_ofNat']; omega
      have h9 := small_nine hi hlt
      rw [enc_lt hy, List.singleton_append, gv_ret (by rw [e]; omega) (by omega), e, Nat.mod_eq_of_lt hy]
      rfl
    · have e : (UInt8.ofNat (y % 128 + 128)).toNat = y % 128 + 128 := by rw [UInt8.toNat_ofNat']; omega
      have h9 := small_nine hi hlt
      rw [enc_ge (by omega), List.cons_append, gv_on (by rw [e]; omega) (by omega), e]
      have e2 : (y % 128 + 128) % 128 = y % 128 := by omega
      have e3 : z0 + y % 128 * 128 ^ i + y / 128 * 128 ^ (i + 1) = z0 + y * 128 ^ i := by
        rw [pow_split, ← Nat.mul_assoc, Nat.add_assoc, ← Nat.add_mul]
        congr 2
        omega
      rw [e2, ih (y / 128) (by omega) (i + 1) _ at_ r (by omega) (by rw [e3]; exact hlt) (by omega), e3, List.length_cons]
      simp only [Prod.mk.injEq, and_true, true_and]
      omega

theorem getV_put (p r : List UInt8) (m : Int) (h1 : -9223372036854775808 ≤ m) (h2 : m ≤ 9223372036854775807) : getV (p ++ (enc (zig m) ++ r)) (p.length : Int) = (m, (p.length : Int) + (enc (zig m)).length, 0) := by
  unfold getV
  rw [if_neg (by omega), Int.toNat_natCast, List.drop_left, gv_enc _ 0 0 _ _ (by omega) (by have := zig_lt m h1 h2; omega) (by omega)]
  simp [unz_zig]

theorem getT_put (p r s : List UInt8) (most : Int) (hs : (s.length : Int) ≤ most) (hl : s.length ≤ 9223372036854775807) : getT (p ++ (putT s ++ r)) (p.length : Int) most = (s, (p.length : Int) + (putT s).length, 0) := by
  unfold getT putT
  rw [List.append_assoc, getV_put p (s ++ r) s.length (by omega) (by omega)]
  simp only [ne_eq, not_true_eq_false, if_false]
  rw [if_neg (by omega), if_neg (by omega), if_neg (by simp only [List.length_append]; omega)]
  have e : ((p.length : Int) + (enc (zig s.length)).length).toNat = p.length + (enc (zig s.length)).length := by omega
  rw [e, Int.toNat_natCast, ← List.drop_drop, List.drop_left, List.drop_left, List.take_left]
  simp only [List.length_append, Prod.mk.injEq, true_and, and_true]
  omega

theorem num_be (n k : Nat) : ∀ a, num a (be n k) = a * 256 ^ k + n % 256 ^ k := by
  induction k with
  | zero => intro a; simp [be, num, Nat.mod_one]
  | succ k ih =>
    intro a
    have e : n % 256 ^ (k + 1) = n % 256 ^ k + 256 ^ k * (n / 256 ^ k % 256) := by rw [Nat.pow_succ]; exact Nat.mod_mul
    have e1 : (UInt8.ofNat (n / 256 ^ k)).toNat = n / 256 ^ k % 256 := UInt8.toNat_ofNat'
    have e2 : a * 256 * 256 ^ k = a * 256 ^ (k + 1) := by rw [Nat.pow_succ, Nat.mul_assoc, Nat.mul_comm 256]
    rw [be, num_cons, ih, e1, Nat.add_mul, e2, e, Nat.mul_comm (256 ^ k)]
    omega

theorem get_put (p r : List UInt8) (n k : Nat) (h1 : 1 ≤ k) (h8 : k ≤ 8) : getN (p ++ (be n k ++ r)) (p.length : Int) (k : Int) = ((n % 256 ^ k : Nat) : Int) ∧ getE (p ++ (be n k ++ r)) (p.length : Int) (k : Int) = 0 := by
  have hl : (p ++ (be n k ++ r)).length = p.length + (k + r.length) := by simp [be_length]
  constructor
  · rw [getN, if_neg (by rw [hl]; omega), Int.toNat_natCast, Int.toNat_natCast, List.drop_left, List.take_left' (be_length n k), num_be]
    simp
  · rw [getE, if_neg (by omega), if_neg (by rw [hl]; omega)]

/-- What is read as a number was put so. -/
theorem gv_only (r : List UInt8) : ∀ (i z0 : Nat) (at_ n next : Int), gv i z0 at_ r = (n, next, 0) →
    ∃ y : Nat, (0 < i → 0 < y) ∧ n = unz (z0 + y * 128 ^ i) ∧ next = at_ + i + (enc y).length ∧ (enc y).length ≤ r.length ∧ r.take (enc y).length = enc y := by
  induction r with
  | nil => intro i z0 at_ n next h; simp [gv] at h
  | cons x r ih =>
    intro i z0 at_ n next h
    by_cases hbad : (i = 9 ∧ 1 < x.toNat) ∨ (0 < i ∧ x.toNat = 0)
    · rw [gv_bad hbad] at h
      simp at h
    · by_cases hx : x.toNat < 128
      · rw [gv_ret hbad hx] at h
        simp only [Prod.mk.injEq, and_true] at h
        refine ⟨x.toNat, by omega, ?_, ?_, ?_, ?_⟩
        · rw [← h.1, Nat.mod_eq_of_lt hx]
        · rw [enc_lt hx]; simp only [List.length_singleton]; omega
        · rw [enc_lt hx]; simp
        · rw [enc_lt hx]; simp
      · rw [gv_on hbad (by omega)] at h
        obtain ⟨y, hy, hn, hnext, hle, htake⟩ := ih _ _ _ _ _ h
        have hy0 := hy (by omega)
        have hlt := x.toNat_lt
        have hge : 128 ≤ x.toNat % 128 + 128 * y := by omega
        have e1 : (x.toNat % 128 + 128 * y) % 128 + 128 = x.toNat := by omega
        have e2 : (x.toNat % 128 + 128 * y) / 128 = y := by omega
        have e3 : enc (x.toNat % 128 + 128 * y) = x :: enc y := by
          rw [enc_ge hge, e1, e2]
          simp
        refine ⟨x.toNat % 128 + 128 * y, by omega, ?_, ?_, ?_, ?_⟩
        · rw [hn]
          congr 1
          rw [pow_split, Nat.add_mul, ← Nat.mul_assoc, Nat.mul_comm 128 y, Nat.add_assoc]
        · rw [e3, hnext, List.length_cons]; omega
        · rw [e3, List.length_cons, List.length_cons]; omega
        · rw [e3, List.length_cons, List.take_succ_cons, htake]

theorem gv_ten (r : List UInt8) : ∀ (i z0 : Nat) (at_ n next : Int), i ≤ 9 → gv i z0 at_ r = (n, next, 0) → next ≤ at_ + 10 := by
  induction r with
  | nil => intro i z0 at_ n next hi h; simp [gv] at h
  | cons x r ih =>
    intro i z0 at_ n next hi h
    by_cases hbad : (i = 9 ∧ 1 < x.toNat) ∨ (0 < i ∧ x.toNat = 0)
    · rw [gv_bad hbad] at h
      simp at h
    · by_cases hx : x.toNat < 128
      · rw [gv_ret hbad hx] at h
        simp only [Prod.mk.injEq, and_true] at h
        omega
      · rw [gv_on hbad (by omega)] at h
        exact ih _ _ _ _ _ (by omega) h

theorem gv_range (r : List UInt8) : ∀ (i z0 : Nat) (at_ n next : Int), i ≤ 9 → z0 < 128 ^ i → gv i z0 at_ r = (n, next, 0) → -9223372036854775808 ≤ n ∧ n ≤ 9223372036854775807 := by
  induction r with
  | nil => intro i z0 at_ n next hi hz h; simp [gv] at h
  | cons x r ih =>
    intro i z0 at_ n next hi hz h
    by_cases hbad : (i = 9 ∧ 1 < x.toNat) ∨ (0 < i ∧ x.toNat = 0)
    · rw [gv_bad hbad] at h
      simp at h
    · by_cases hx : x.toNat < 128
      · rw [gv_ret hbad hx] at h
        simp only [Prod.mk.injEq, and_true] at h
        have hl := join_lt64 i z0 x hi hz (by omega)
        rw [← h.1]
        generalize z0 + x.toNat % 128 * 128 ^ i = z at *
        unfold unz
        split <;> omega
      · rw [gv_on hbad (by omega)] at h
        exact ih _ _ _ _ _ (by omega) (join_lt i z0 x hi hz) h
theorem getV_range {l : List UInt8} {at_ n next : Int} (h : getV l at_ = (n, next, 0)) : -9223372036854775808 ≤ n ∧ n ≤ 9223372036854775807 := by
  unfold getV at h
  split at h
  · simp at h
  · exact gv_range _ 0 0 _ _ _ (by omega) (by simp) h
theorem getT_err {l s : List UInt8} {at_ most next e : Int} (h : getT l at_ most = (s, next, e)) (he : e ≠ 0) : s = [] ∧ next = 0 := by
  unfold getT at h
  simp only at h
  split at h
  · simp only [Prod.mk.injEq] at h
    exact ⟨h.1.symm, h.2.1.symm⟩
  · split at h
    · simp only [Prod.mk.injEq] at h
      exact ⟨h.1.symm, h.2.1.symm⟩
    · split at h
      · simp only [Prod.mk.injEq] at h
        exact ⟨h.1.symm, h.2.1.symm⟩
      · split at h
        · simp only [Prod.mk.injEq] at h
          exact ⟨h.1.symm, h.2.1.symm⟩
        · simp only [Prod.mk.injEq] at h
          exact absurd h.2.2.symm he

theorem getV_only {l : List UInt8} {at_ n next : Int} (h : getV l at_ = (n, next, 0)) :
    0 ≤ at_ ∧ at_ < next ∧ next ≤ l.length ∧ next ≤ at_ + 10 ∧ enc (zig n) = (l.drop at_.toNat).take (next.toNat - at_.toNat) := by
  unfold getV at h
  split at h
  · simp at h
  · rename_i h0
    have h10 := gv_ten _ _ _ _ _ _ (by omega) h
    obtain ⟨y, _, hn, hnext, hle, htake⟩ := gv_only _ _ _ _ _ _ h
    have hp := enc_pos y
    rw [List.length_drop] at hle
    have e : n = unz y := by rw [hn]; simp
    refine ⟨by omega, by omega, by omega, h10, ?_⟩
    rw [e, zig_unz, show next.toNat - at_.toNat = (enc y).length by omega, htake]

theorem getT_only {l s : List UInt8} {at_ most next : Int} (h : getT l at_ most = (s, next, 0)) :
    0 ≤ at_ ∧ at_ < next ∧ next ≤ l.length ∧ (s.length : Int) ≤ most ∧ putT s = (l.drop at_.toNat).take (next.toNat - at_.toNat) := by
  obtain ⟨v, vt, ve, hv⟩ : ∃ v vt ve, getV l at_ = (v, vt, ve) := ⟨_, _, _, rfl⟩
  unfold getT at h
  rw [hv] at h
  simp only at h
  split at h
  · rename_i h0
    simp only [Prod.mk.injEq] at h
    exact absurd h.2.2 h0
  · split at h
    · simp at h
    · split at h
      · simp at h
      · split at h
        · simp at h
        · rename_i h0 h1 h2 h3
          have h0' : ve = 0 := by omega
          subst h0'
          obtain ⟨g1, g2, g3, _, g4⟩ := getV_only hv
          simp only [Prod.mk.injEq, and_true] at h
          have hs : s.length = v.toNat := by
            rw [← h.1, List.length_take, List.length_drop]
            omega
          refine ⟨g1, by omega, by omega, by omega, ?_⟩
          unfold putT
          rw [show ((s.length : Nat) : Int) = v by omega, g4, ← h.1, show next.toNat - at_.toNat = (vt.toNat - at_.toNat) + v.toNat by omega, List.take_add, List.drop_drop,
            show at_.toNat + (vt.toNat - at_.toNat) = vt.toNat by omega]

/-- What is cut off within is too short. -/
theorem gv_short (y : Nat) : ∀ (i z0 c : Nat) (at_ : Int), i ≤ 9 → z0 + y * 128 ^ i < 18446744073709551616 → (0 < i → 0 < y) → c < (enc y).length →
    gv i z0 at_ ((enc y).take c) = (0, 0, 10) := by
  induction y using Nat.strongRecOn with
  | _ y ih =>
    intro i z0 c at_ hi hlt hpos hc
    by_cases hy : y < 128
    · rw [enc_lt hy] at hc ⊢
      obtain rfl : c = 0 := by simpa using hc
      rfl
    · have e : (UInt8.ofNat (y % 128 + 128)).toNat = y % 128 + 128 := by rw [UInt8.toNat_ofNat']; omega
      have h9 := small_nine hi hlt
      rw [enc_ge (by omega)] at hc ⊢
      cases c with
      | zero => rfl
      | succ c =>
        rw [List.length_cons] at hc
        have e2 : (y % 128 + 128) % 128 = y % 128 := by omega
        have e3 : z0 + y % 128 * 128 ^ i + y / 128 * 128 ^ (i + 1) = z0 + y * 128 ^ i := by
          rw [pow_split, ← Nat.mul_assoc, Nat.add_assoc, ← Nat.add_mul]
          congr 2
          omega
        rw [List.take_succ_cons, gv_on (by rw [e]; omega) (by omega), e, e2]
        exact ih (y / 128) (by omega) (i + 1) _ c at_ (by omega) (by rw [e3]; exact hlt) (by omega) (by omega)

theorem getV_short (m : Int) (h1 : -9223372036854775808 ≤ m) (h2 : m ≤ 9223372036854775807) (c : Nat) (hc : c < (enc (zig m)).length) : getV ((enc (zig m)).take c) 0 = (0, 0, 10) := by
  unfold getV
  rw [if_neg (by omega)]
  exact gv_short _ 0 0 c 0 (by omega) (by have := zig_lt m h1 h2; omega) (by omega) hc

theorem getT_short (s : List UInt8) (hl : s.length ≤ 9223372036854775807) (c : Nat) (hc : c < (putT s).length) : getT ((putT s).take c) 0 s.length = ([], 0, 10) := by
  unfold putT at hc ⊢
  by_cases h : c < (enc (zig s.length)).length
  · have := getV_short s.length (by omega) (by omega) c h
    unfold getT
    rw [List.take_append_of_le_length (by omega), this]
    simp
  · rw [List.length_append] at hc
    rw [List.take_append, List.take_of_length_le (by omega)]
    have := getV_put [] (s.take (c - (enc (zig s.length)).length)) s.length (by omega) (by omega)
    simp only [List.nil_append, List.length_nil] at this
    unfold getT
    rw [show ((0 : Nat) : Int) = 0 from rfl] at this
    rw [this]
    simp only [ne_eq, not_true_eq_false, if_false]
    rw [if_neg (by omega), if_neg (by omega), if_pos (by simp only [List.length_append, List.length_take]; omega)]

theorem get_short (n k c : Nat) (h1 : 1 ≤ k) (h8 : k ≤ 8) (hc : c < k) : getE ((be n k).take c) 0 (k : Int) = 10 := by
  rw [getE, if_neg (by omega), if_pos (by rw [List.length_take, be_length]; omega)]

theorem get_short_n (n k c : Nat) (h1 : 1 ≤ k) (h8 : k ≤ 8) (hc : c < k) : getN ((be n k).take c) 0 (k : Int) = 0 := by
  rw [getN, if_pos (by rw [List.length_take, be_length]; omega)]

/-- Numbers of as many bytes stand in the order of their bytes. -/
theorem be_mod (n k : Nat) : ∀ m, k ≤ m → be (n % 256 ^ m) k = be n k := by
  induction k with
  | zero => intro m _; rfl
  | succ k ih =>
    intro m hm
    rw [be, be, ih m (by omega)]
    congr 1
    apply UInt8.toNat_inj.1
    rw [UInt8.toNat_ofNat', UInt8.toNat_ofNat']
    obtain ⟨d, rfl⟩ : ∃ d, m = k + 1 + d := ⟨m - (k + 1), by omega⟩
    have : n % 256 ^ (k + 1 + d) / 256 ^ k = n / 256 ^ k % 256 ^ (1 + d) := by
      rw [show k + 1 + d = k + (1 + d) by omega, Nat.pow_add]
      exact Nat.mod_mul_right_div_self n (256 ^ k) (256 ^ (1 + d))
    rw [this, Nat.pow_add]
    exact Nat.mod_mul_right_mod _ 256 _
theorem be_less (k : Nat) : ∀ m n : Nat, m < 256 ^ k → n < 256 ^ k → Op.bytesLess (be m k) (be n k) = decide (m < n) := by
  induction k with
  | zero => intro m n hm hn; simp [be, Op.bytesLess]; omega
  | succ k ih =>
    intro m n hm hn
    rw [Nat.pow_succ] at hm hn
    have hP : 0 < 256 ^ k := Nat.pow_pos (by omega)
    have d1 : m / 256 ^ k < 256 := (Nat.div_lt_iff_lt_mul hP).2 (by rw [Nat.mul_comm]; exact hm)
    have d2 : n / 256 ^ k < 256 := (Nat.div_lt_iff_lt_mul hP).2 (by rw [Nat.mul_comm]; exact hn)
    have e1 : (UInt8.ofNat (m / 256 ^ k)).toNat = m / 256 ^ k := by rw [UInt8.toNat_ofNat']; exact Nat.mod_eq_of_lt d1
    have e2 : (UInt8.ofNat (n / 256 ^ k)).toNat = n / 256 ^ k := by rw [UInt8.toNat_ofNat']; exact Nat.mod_eq_of_lt d2
    have hr := ih (m % 256 ^ k) (n % 256 ^ k) (Nat.mod_lt _ hP) (Nat.mod_lt _ hP)
    rw [be_mod m k k (Nat.le_refl _), be_mod n k k (Nat.le_refl _)] at hr
    rw [be, be, Op.bytesLess, hr]
    have hlt : (UInt8.ofNat (m / 256 ^ k) < UInt8.ofNat (n / 256 ^ k)) ↔ m / 256 ^ k < n / 256 ^ k := by rw [UInt8.lt_iff_toNat_lt, e1, e2]
    have heq : (UInt8.ofNat (m / 256 ^ k) = UInt8.ofNat (n / 256 ^ k)) ↔ m / 256 ^ k = n / 256 ^ k := by rw [← UInt8.toNat_inj, e1, e2]
    have hm' := Nat.div_add_mod m (256 ^ k)
    have hn' := Nat.div_add_mod n (256 ^ k)
    have l1 := Nat.mod_lt m hP
    have l2 := Nat.mod_lt n hP
    generalize m / 256 ^ k = a at *
    generalize n / 256 ^ k = b at *
    generalize m % 256 ^ k = x at *
    generalize n % 256 ^ k = y at *
    generalize 256 ^ k = P at *
    rw [Bool.eq_iff_iff]
    simp only [Bool.or_eq_true, decide_eq_true_eq, Bool.and_eq_true, beq_iff_eq]
    rw [hlt, heq, ← hm', ← hn']
    rcases Nat.lt_trichotomy a b with h | h | h
    · have : P * (a + 1) ≤ P * b := Nat.mul_le_mul_left _ h
      rw [Nat.mul_add] at this
      constructor
      · intro _; omega
      · intro _; exact .inl h
    · subst h
      constructor
      · rintro (h | ⟨_, h⟩) <;> omega
      · intro h; exact .inr ⟨rfl, by omega⟩
    · have : P * (b + 1) ≤ P * a := Nat.mul_le_mul_left _ h
      rw [Nat.mul_add] at this
      constructor
      · rintro (h | ⟨h, _⟩) <;> omega
      · intro _; omega
theorem be_inj (k m n : Nat) (hm : m < 256 ^ k) (hn : n < 256 ^ k) : be m k = be n k ↔ m = n := by
  refine ⟨fun h => ?_, fun h => by rw [h]⟩
  have h1 := num_be m k 0
  have h2 := num_be n k 0
  rw [h, h2, Nat.mod_eq_of_lt hm, Nat.mod_eq_of_lt hn] at h1
  omega

/-- How many bytes a number takes. -/
theorem enc_mono (z : Nat) : ∀ y, y ≤ z → (enc y).length ≤ (enc z).length := by
  induction z using Nat.strongRecOn with
  | _ z ih =>
    intro y hy
    by_cases h1 : y < 128
    · rw [enc_lt h1]; exact enc_pos z
    · rw [enc_ge (z := y) (by omega), enc_ge (z := z) (by omega), List.length_cons, List.length_cons]
      have := ih (z / 128) (by omega) (y / 128) (by omega)
      omega
theorem enc_one (z : Nat) : (enc z).length = 1 ↔ z < 128 := by
  by_cases h : z < 128
  · rw [enc_lt h]; simp [h]
  · rw [enc_ge (by omega), List.length_cons]
    have := enc_pos (z / 128)
    omega
end Go.Proofs.YtlijagbklopipaaDoor
