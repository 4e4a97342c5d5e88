/-
  Plain functions and facts of layer 2: a step of the sum, its linearity, sums of bytes, and how two sums are joined. Conditions: those that each states.
-/
namespace Go.Proofs.Ytcnljifbifidbaa
set_option linter.unusedVariables false

/-- One step on. -/
def st (v : Nat) : Nat := (v / 2) ^^^ (if v % 2 = 1 then 3988292384 else 0)
/-- So many steps on. -/
def its : Nat → Nat → Nat
  | 0, v => v
  | k + 1, v => its k (st v)

theorem st_lt {v : Nat} (h : v < 2 ^ 32) : st v < 2 ^ 32 := by
  unfold st
  refine Nat.xor_lt_two_pow ?_ ?_
  · omega
  · split <;> omega
theorem its_lt (k : Nat) : ∀ {v : Nat}, v < 2 ^ 32 → its k v < 2 ^ 32 := by
  induction k with
  | zero => intro v h; exact h
  | succ k ih => intro v h; exact ih (st_lt h)
theorem st_zero : st 0 = 0 := by decide
theorem st_xor (a b : Nat) : st (a ^^^ b) = st a ^^^ st b := by
  unfold st
  rw [Nat.xor_div_two]
  have h := @Nat.xor_mod_two_eq_one a b
  have e : ∀ p q x y : Nat, p ^^^ q ^^^ (x ^^^ y) = p ^^^ x ^^^ (q ^^^ y) := by
    intro p q x y
    rw [Nat.xor_assoc, Nat.xor_assoc, ← Nat.xor_assoc q x y, Nat.xor_comm q x, Nat.xor_assoc]
  rw [← e]
  congr 1
  by_cases ha : a % 2 = 1 <;> by_cases hb : b % 2 = 1 <;> simp [h, ha, hb]
theorem its_zero (k : Nat) : its k 0 = 0 := by
  induction k with
  | zero => rfl
  | succ k ih => rw [its, st_zero, ih]
theorem its_xor (k : Nat) : ∀ a b : Nat, its k (a ^^^ b) = its k a ^^^ its k b := by
  induction k with
  | zero => intro a b; rfl
  | succ k ih => intro a b; rw [its, st_xor, ih]; rfl
theorem its_add (k j : Nat) : ∀ v, its (k + j) v = its j (its k v) := by
  induction k with
  | zero => intro v; rw [Nat.zero_add]; rfl
  | succ k ih => intro v; rw [show k + 1 + j = (k + j) + 1 by omega, its, ih]; rfl
theorem its_succ (k v : Nat) : its (k + 1) v = st (its k v) := its_add k 1 v

theorem st_double (u : Nat) : st (2 * u) = u := by
  unfold st
  rw [if_neg (by omega), Nat.xor_zero]
  omega
theorem its_shift (k : Nat) : ∀ u, its k (2 ^ k * u) = u := by
  induction k with
  | zero => intro u; simp [its]
  | succ k ih => intro u; rw [its, Nat.pow_succ, Nat.mul_comm (2 ^ k) 2, Nat.mul_assoc, st_double, ih]

/-- What lies apart is put together by 'or' as by a sum. -/
theorem xor_low (k u r : Nat) (h : r < 2 ^ k) : (2 ^ k * u) ^^^ r = 2 ^ k * u + r := by
  apply Nat.eq_of_testBit_eq
  intro j
  rw [Nat.testBit_xor, Nat.testBit_two_pow_mul_add u h]
  by_cases hj : j < k
  · rw [if_pos hj, Nat.testBit_two_pow_mul]
    simp [show ¬ k ≤ j by omega]
  · rw [if_neg hj, Nat.testBit_two_pow_mul, Nat.testBit_lt_two_pow (Nat.lt_of_lt_of_le h (Nat.pow_le_pow_right (by omega) (by omega)))]
    simp [show k ≤ j by omega]

/-- Four steps at once, by the lowest four bits. -/
theorem its_four (v : Nat) : its 4 v = its 4 (v % 16) ^^^ v / 16 := by
  have h := xor_low 4 (v / 16) (v % 16) (by omega)
  have e : 2 ^ 4 * (v / 16) + v % 16 = v := by omega
  rw [e] at h
  rw [← h, its_xor, its_shift, h, Nat.xor_comm]

theorem st_inj {a b : Nat} (ha : a < 2 ^ 32) (hb : b < 2 ^ 32) (h : st a = st b) : a = b := by
  have ht : ∀ v : Nat, v < 2 ^ 32 → ((st v).testBit 31 = true ↔ v % 2 = 1) := by
    intro v hv
    unfold st
    rw [Nat.testBit_xor, Nat.testBit_lt_two_pow (by omega : v / 2 < 2 ^ 31), Bool.false_xor]
    split
    · rename_i h1; simp [h1]; decide
    · rename_i h1; simp [h1]
  have h1 := ht a ha
  have h2 := ht b hb
  rw [h] at h1
  have hp : a % 2 = 1 ↔ b % 2 = 1 := by rw [← h1, ← h2]
  have hx : (a / 2) = (b / 2) := by
    unfold st at h
    by_cases c : a % 2 = 1
    · rw [if_pos c, if_pos (hp.1 c)] at h
      have := congrArg (· ^^^ 3988292384) h
      simpa [Nat.xor_assoc] using this
    · rw [if_neg c, if_neg (fun d => c (hp.2 d))] at h
      simpa using h
  omega
theorem its_inj (k : Nat) : ∀ {a b : Nat}, a < 2 ^ 32 → b < 2 ^ 32 → its k a = its k b → a = b := by
  induction k with
  | zero => intro a b _ _ h; exact h
  | succ k ih => intro a b ha hb h; exact st_inj ha hb (ih (st_lt ha) (st_lt hb) h)

/-- The sum goes on by a byte; by bytes. -/
def upd (v : Nat) (c : UInt8) : Nat := its 8 (v ^^^ c.toNat)
def reg (v : Nat) (l : List UInt8) : Nat := l.foldl upd v
def crc (l : List UInt8) : Nat := reg 4294967295 l ^^^ 4294967295

theorem byte_lt (c : UInt8) : c.toNat < 2 ^ 32 := by have := c.toNat_lt; omega
theorem upd_lt {v : Nat} (c : UInt8) (h : v < 2 ^ 32) : upd v c < 2 ^ 32 := its_lt 8 (Nat.xor_lt_two_pow h (byte_lt c))
theorem reg_lt (l : List UInt8) : ∀ {v : Nat}, v < 2 ^ 32 → reg v l < 2 ^ 32 := by
  induction l with
  | nil => intro v h; exact h
  | cons c l ih => intro v h; exact ih (upd_lt c h)
theorem crc_lt (l : List UInt8) : crc l < 2 ^ 32 := Nat.xor_lt_two_pow (reg_lt l (by omega)) (by omega)
theorem reg_nil (v : Nat) : reg v [] = v := rfl
theorem reg_snoc (v : Nat) (l : List UInt8) (c : UInt8) : reg v (l ++ [c]) = upd (reg v l) c := by simp [reg]
theorem reg_append (v : Nat) (l m : List UInt8) : reg v (l ++ m) = reg (reg v l) m := by simp [reg]

/-- Of the sum's beginning it hangs on linearly. -/
theorem reg_xor (l : List UInt8) : ∀ a b : Nat, reg (a ^^^ b) l = reg a l ^^^ its (8 * l.length) b := by
  induction l with
  | nil => intro a b; rfl
  | cons c l ih =>
    intro a b
    have e : upd (a ^^^ b) c = upd a c ^^^ its 8 b := by
      unfold upd
      rw [Nat.xor_assoc, Nat.xor_comm b, ← Nat.xor_assoc, its_xor]
    show reg (upd (a ^^^ b) c) l = reg (upd a c) l ^^^ _
    rw [e, ih, List.length_cons, show 8 * (l.length + 1) = 8 + 8 * l.length by omega, its_add]

theorem xor_self_right (a b : Nat) : a ^^^ b ^^^ b = a := by rw [Nat.xor_assoc, Nat.xor_self, Nat.xor_zero]

/-- The sum of two texts, one behind the other. -/
theorem crc_append (l m : List UInt8) : crc (l ++ m) = its (8 * m.length) (crc l) ^^^ crc m := by
  have h : reg 4294967295 l = 4294967295 ^^^ crc l := by
    unfold crc
    rw [Nat.xor_comm (reg 4294967295 l), ← Nat.xor_assoc, Nat.xor_self, Nat.zero_xor]
  show reg 4294967295 (l ++ m) ^^^ 4294967295 = _
  rw [reg_append, h, reg_xor, Nat.xor_comm (reg 4294967295 m), Nat.xor_assoc]
  rfl

/-- Polynomials, whose highest bits are the lowest ones, multiplied. -/
def mulG : Nat → Nat → Nat → Nat
  | 0, _, _ => 0
  | i + 1, a, b => (if a.testBit i then b else 0) ^^^ mulG i a (st b)
def mul (a b : Nat) : Nat := mulG 32 a b

theorem mulG_lt (i : Nat) : ∀ {a b : Nat}, b < 2 ^ 32 → mulG i a b < 2 ^ 32 := by
  induction i with
  | zero => intro a b _; exact Nat.two_pow_pos 32
  | succ i ih =>
    intro a b h
    refine Nat.xor_lt_two_pow ?_ (ih (st_lt h))
    split
    · exact h
    · exact Nat.two_pow_pos 32
theorem mulG_same (i : Nat) : ∀ {a a' b : Nat}, (∀ j, j < i → a.testBit j = a'.testBit j) → mulG i a b = mulG i a' b := by
  induction i with
  | zero => intro a a' b _; rfl
  | succ i ih =>
    intro a a' b h
    rw [mulG, mulG, h i (by omega), ih (fun j hj => h j (by omega))]
theorem mulG_none (i : Nat) : ∀ b : Nat, mulG i 0 b = 0 := by
  induction i with
  | zero => intro b; rfl
  | succ i ih => intro b; rw [mulG, ih]; simp
theorem mulG_step (i : Nat) : ∀ a b : Nat, mulG i a (st b) = st (mulG i a b) := by
  induction i with
  | zero => intro a b; rw [mulG, mulG, st_zero]
  | succ i ih =>
    intro a b
    rw [mulG, mulG, st_xor, ih]
    congr 1
    split
    · rfl
    · rw [st_zero]
theorem mulG_xor (i : Nat) : ∀ a a' b : Nat, mulG i (a ^^^ a') b = mulG i a b ^^^ mulG i a' b := by
  induction i with
  | zero => intro a a' b; simp [mulG]
  | succ i ih =>
    intro a a' b
    have e : ∀ p q x y : Nat, p ^^^ x ^^^ (q ^^^ y) = p ^^^ q ^^^ (x ^^^ y) := by
      intro p q x y
      rw [Nat.xor_assoc, Nat.xor_assoc, ← Nat.xor_assoc x q y, Nat.xor_comm x q, Nat.xor_assoc]
    rw [mulG, mulG, mulG, ih, Nat.testBit_xor, e]
    congr 1
    cases a.testBit i <;> cases a'.testBit i <;> simp
theorem mulG_xor_right (i : Nat) : ∀ a b b' : Nat, mulG i a (b ^^^ b') = mulG i a b ^^^ mulG i a b' := by
  induction i with
  | zero => intro a b b'; simp [mulG]
  | succ i ih =>
    intro a b b'
    have e : ∀ p q x y : Nat, p ^^^ x ^^^ (q ^^^ y) = p ^^^ q ^^^ (x ^^^ y) := by
      intro p q x y
      rw [Nat.xor_assoc, Nat.xor_assoc, ← Nat.xor_assoc x q y, Nat.xor_comm x q, Nat.xor_assoc]
    rw [mulG, mulG, mulG, st_xor, ih, e]
    congr 1
    split <;> simp
/-- An even number, halved. -/
theorem mulG_half (i : Nat) : ∀ a b : Nat, mulG (i + 1) (a / 2) b = (if (a / 2).testBit i then b else 0) ^^^ mulG i (a / 2) (st b) := by
  intro a b; rfl
theorem mulG_even (i : Nat) : ∀ a b : Nat, a % 2 = 0 → mulG (i + 1) a b = mulG i (a / 2) b ^^^ 0 := by
  induction i with
  | zero =>
    intro a b h
    rw [mulG, mulG, mulG]
    have : a.testBit 0 = false := by simp [Nat.testBit_zero, h]
    simp [this]
  | succ i ih =>
    intro a b h
    rw [mulG, ih a (st b) h, Nat.xor_zero, Nat.xor_zero, mulG, Nat.testBit_succ]

/-- Every number below 2^32 is made of its bits. -/
theorem by_bits (P : Nat → Prop) (h0 : P 0) (hx : ∀ a b, P a → P b → P (a ^^^ b)) (k : Nat) (hb : ∀ j, j < k → P (2 ^ j)) : ∀ v, v < 2 ^ k → P v := by
  induction k with
  | zero => intro v hv; have : v = 0 := by omega
            rw [this]; exact h0
  | succ k ih =>
    intro v hv
    have ih' := ih (fun j hj => hb j (by omega))
    by_cases h : v < 2 ^ k
    · exact ih' v h
    · rw [Nat.pow_succ] at hv
      have e := xor_low k 1 (v - 2 ^ k) (by omega)
      rw [Nat.mul_one, show 2 ^ k + (v - 2 ^ k) = v by omega] at e
      rw [← e]
      exact hx _ _ (hb k (by omega)) (ih' _ (by omega))

theorem mul_poly_bits : ∀ j, j < 32 → mul 3988292384 (2 ^ j) = its 32 (2 ^ j) := by decide +kernel
theorem mul_poly (b : Nat) (h : b < 2 ^ 32) : mul 3988292384 b = its 32 b := by
  refine by_bits (fun b => mul 3988292384 b = its 32 b) ?_ ?_ 32 mul_poly_bits b h
  · decide +kernel
  · intro a b ha hb
    show mulG 32 _ (a ^^^ b) = _
    rw [mulG_xor_right, its_xor]
    exact congr (congrArg _ ha) hb
theorem mul_one_bits : ∀ j, j < 32 → mul 1 (2 ^ j) = its 31 (2 ^ j) := by decide +kernel
theorem mul_one' (b : Nat) (h : b < 2 ^ 32) : mul 1 b = its 31 b := by
  refine by_bits (fun b => mul 1 b = its 31 b) ?_ ?_ 32 mul_one_bits b h
  · decide +kernel
  · intro a b ha hb
    show mulG 32 _ (a ^^^ b) = _
    rw [mulG_xor_right, its_xor]
    exact congr (congrArg _ ha) hb

theorem mul_even (a b : Nat) (ha : a < 2 ^ 32) (h : a % 2 = 0) : mul (a / 2) b = st (mul a b) := by
  have e1 : mul (a / 2) b = mulG 31 (a / 2) (st b) := by
    show mulG 32 (a / 2) b = _
    rw [mulG, Nat.testBit_lt_two_pow (by omega : a / 2 < 2 ^ 31)]
    simp
  have e2 : mul a b = mulG 31 (a / 2) b := by
    show mulG 32 a b = _
    rw [mulG_even 31 a b h, Nat.xor_zero]
  rw [e1, e2, mulG_step]

/-- A number a step on, multiplied: the product, a step on. -/
theorem mul_st (a b : Nat) (ha : a < 2 ^ 32) (hb : b < 2 ^ 32) : mul (st a) b = st (mul a b) := by
  by_cases h : a % 2 = 1
  · have hd : a = (a - 1) ^^^ 1 := by
      have := xor_low 1 (a / 2) 1 (by omega)
      rw [show 2 ^ 1 * (a / 2) = a - 1 by omega] at this
      omega
    have hs : st a = ((a - 1) / 2) ^^^ 3988292384 := by
      unfold st
      rw [if_pos h]
      congr 1
      omega
    have h1 : mul a b = mul (a - 1) b ^^^ mul 1 b := by
      conv => lhs; rw [hd]
      exact mulG_xor 32 _ _ _
    rw [hs, h1, st_xor, ← mul_even (a - 1) b (by omega) (by omega), mul_one' b hb, ← its_succ, ← mul_poly b hb]
    exact mulG_xor 32 _ _ _
  · have hs : st a = a / 2 := by
      unfold st
      rw [if_neg h, Nat.xor_zero]
    rw [hs, mul_even a b ha (by omega)]

theorem mul_id (b : Nat) : mul 2147483648 b = b := by
  show mulG 32 _ b = b
  rw [mulG, mulG_same 31 (a' := 0) (fun j hj => ?_), mulG_none]
  · rw [show Nat.testBit 2147483648 31 = true by decide]
    simp
  · rw [show (2147483648 : Nat) = 2 ^ 31 by decide, Nat.testBit_two_pow]
    simp
    omega
theorem mul_its (k b : Nat) (hb : b < 2 ^ 32) : mul (its k 2147483648) b = its k b := by
  induction k with
  | zero => exact mul_id b
  | succ k ih => rw [its_succ, mul_st _ b (its_lt k (by omega)) hb, ih, its_succ]

def join (a b : Nat) (n : Int) : Nat := if n < 0 ∨ 4096 < n then 0 else its (8 * n.toNat) a ^^^ b

theorem crc_behind (l m : List UInt8) (h : m.length ≤ 4096) : crc (l ++ m) = join (crc l) (crc m) m.length := by
  rw [join, if_neg (by omega), Int.toNat_natCast, crc_append]
theorem join_groups (a b c : Nat) (n m : Int) (h1 : 0 ≤ n) (h2 : 0 ≤ m) (h3 : n + m ≤ 4096) : join (join a b n) c m = join a (join b c m) (n + m) := by
  rw [join, join, join, join, if_neg (by omega), if_neg (by omega), if_neg (by omega), if_neg (by omega), its_xor, ← its_add, show 8 * n.toNat + 8 * m.toNat = 8 * (n + m).toNat by omega, Nat.xor_assoc]
theorem join_none (b : Nat) (n : Int) (h1 : 0 ≤ n) (h2 : n ≤ 4096) : join 0 b n = b := by
  rw [join, if_neg (by omega), its_zero, Nat.zero_xor]

/-- Two sums of texts of the same length, and of what they are put on each other. -/
theorem reg_even (a b c : List UInt8) : ∀ (n : Nat) (x y z : Nat), a.length = n → b.length = n → c.length = n →
    reg (x ^^^ y ^^^ z) (List.zipWith (· ^^^ ·) (List.zipWith (· ^^^ ·) a b) c) = reg x a ^^^ reg y b ^^^ reg z c := by
  intro n
  induction n generalizing a b c with
  | zero =>
    intro x y z ha hb hc
    obtain rfl := List.eq_nil_of_length_eq_zero ha
    obtain rfl := List.eq_nil_of_length_eq_zero hb
    obtain rfl := List.eq_nil_of_length_eq_zero hc
    rfl
  | succ n ih =>
    intro x y z ha hb hc
    match a, b, c, ha, hb, hc with
    | p :: a, q :: b, r :: c, ha, hb, hc =>
      have e : upd (x ^^^ y ^^^ z) (p ^^^ q ^^^ r) = upd x p ^^^ upd y q ^^^ upd z r := by
        unfold upd
        rw [UInt8.toNat_xor, UInt8.toNat_xor, ← its_xor, ← its_xor]
        congr 1
        ac_rfl
      show reg (upd (x ^^^ y ^^^ z) (p ^^^ q ^^^ r)) _ = reg (upd x p) a ^^^ reg (upd y q) b ^^^ reg (upd z r) c
      rw [e]
      exact ih a b c _ _ _ (by simpa using ha) (by simpa using hb) (by simpa using hc)
theorem crc_even (a b c : List UInt8) (n : Nat) (ha : a.length = n) (hb : b.length = n) (hc : c.length = n) :
    crc (List.zipWith (· ^^^ ·) (List.zipWith (· ^^^ ·) a b) c) = crc a ^^^ crc b ^^^ crc c := by
  have := reg_even a b c n 4294967295 4294967295 4294967295 ha hb hc
  rw [Nat.xor_self, Nat.zero_xor] at this
  unfold crc
  rw [this]
  have e : ∀ p q r F : Nat, p ^^^ q ^^^ r ^^^ F = p ^^^ F ^^^ (q ^^^ F) ^^^ (r ^^^ F) := by
    intro p q r F
    have h1 : p ^^^ F ^^^ (q ^^^ F) = p ^^^ q := by
      rw [Nat.xor_comm q F, Nat.xor_assoc, ← Nat.xor_assoc F F q, Nat.xor_self, Nat.zero_xor]
    rw [h1, Nat.xor_assoc (p ^^^ q) r F]
  exact e _ _ _ _
end Go.Proofs.Ytcnljifbifidbaa
