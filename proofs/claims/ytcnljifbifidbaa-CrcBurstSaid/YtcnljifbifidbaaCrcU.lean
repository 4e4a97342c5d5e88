/-
  What up to four changed bytes that follow each other do to a sum: plain facts. Conditions: none.
-/
import Derived.Test.YtcnljifbifidbaaCrcR
namespace Go.Proofs.Ytcnljifbifidbaa
set_option linter.unusedVariables false

/-- l, of which j bytes from p on are put on the bytes of V. -/
def bur (l : List UInt8) (p V : Nat) : Nat → List UInt8
  | 0 => l
  | j + 1 => (bur l p V j).set (p + j) (l.getD (p + j) 0 ^^^ UInt8.ofNat (V / 256 ^ j))
theorem bur_len (l : List UInt8) (p V j : Nat) : (bur l p V j).length = l.length := by
  induction j with
  | zero => rfl
  | succ j ih => rw [bur, List.length_set, ih]
theorem bur_drop (l : List UInt8) (p V j : Nat) : (bur l p V j).drop (p + j) = l.drop (p + j) := by
  induction j with
  | zero => rfl
  | succ j ih =>
    rw [bur, List.drop_set_of_lt (by omega), show p + (j + 1) = p + j + 1 by omega, ← List.drop_drop, ih, List.drop_drop]
theorem bur_get (l : List UInt8) (p V j : Nat) (h : p + j < l.length) : (bur l p V j).getD (p + j) 0 = l.getD (p + j) 0 := by
  have := congrArg (fun x : List UInt8 => x.getD 0 0) (bur_drop l p V j)
  simpa [List.getD_eq_getElem?_getD, List.getElem?_drop] using this
theorem bur_take (l : List UInt8) (p V j : Nat) (h : p + j < l.length) : (bur l p V (j + 1)).take (p + j + 1) = (bur l p V j).take (p + j) ++ [l.getD (p + j) 0 ^^^ UInt8.ofNat (V / 256 ^ j)] := by
  have hb := bur_len l p V j
  rw [List.take_succ_eq_append_getElem (by rw [bur_len]; omega)]
  have e1 : (bur l p V (j + 1)).take (p + j) = (bur l p V j).take (p + j) := by
    rw [bur, List.take_set_of_le (by omega)]
  rw [e1]
  congr 1
  simp [bur]
theorem take_next (l : List UInt8) (k : Nat) (h : k < l.length) : l.take (k + 1) = l.take k ++ [l.getD k 0] := by
  rw [List.take_succ_eq_append_getElem h, List.getD_eq_getElem?_getD, List.getElem?_eq_getElem h, Option.getD_some]
theorem xor_four (a b c d : Nat) : a ^^^ b ^^^ (c ^^^ d) = a ^^^ c ^^^ (b ^^^ d) := by ac_rfl

theorem reg_bur (l : List UInt8) (p V v : Nat) : ∀ j, p + j ≤ l.length → reg v ((bur l p V j).take (p + j)) = reg v (l.take (p + j)) ^^^ its (8 * j) (V % 256 ^ j) := by
  intro j
  induction j with
  | zero => intro _; simp [bur, Nat.mod_one, its]
  | succ j ih =>
    intro h
    have hp : V % 256 ^ j < 2 ^ (8 * j) := by rw [Nat.pow_mul]; exact Nat.mod_lt _ (Nat.pow_pos (by omega))
    rw [show p + (j + 1) = p + j + 1 by omega, bur_take l p V j (by omega), take_next l (p + j) (by omega), reg_snoc, reg_snoc, ih (by omega)]
    unfold upd
    rw [UInt8.toNat_xor, xor_four, its_xor]
    congr 1
    have e : (UInt8.ofNat (V / 256 ^ j)).toNat = its (8 * j) (2 ^ (8 * j) * (V / 256 ^ j % 256)) := by rw [its_shift, UInt8.toNat_ofNat']
    rw [e, ← its_xor, ← its_add, Nat.xor_comm, xor_low _ _ _ hp]
    have e2 : 2 ^ (8 * j) * (V / 256 ^ j % 256) + V % 256 ^ j = V % 256 ^ (j + 1) := by
      have hq : (2 : Nat) ^ (8 * j) = 256 ^ j := by rw [Nat.pow_mul]
      rw [hq, Nat.pow_succ, Nat.mod_mul, Nat.add_comm]
    rw [e2, show 8 * j + 8 = 8 * (j + 1) by omega]

theorem crc_bur (l : List UInt8) (p V j : Nat) (h4 : j ≤ 4) (h : p + j ≤ l.length) : crc (bur l p V j) = crc l ↔ V % 256 ^ j = 0 := by
  have e1 : ∀ x : List UInt8, crc x = reg 4294967295 x ^^^ 4294967295 := fun _ => rfl
  have hr : reg 4294967295 (bur l p V j) = reg 4294967295 l ^^^ its (8 * (l.drop (p + j)).length) (its (8 * j) (V % 256 ^ j)) := by
    conv => lhs; rw [← List.take_append_drop (p + j) (bur l p V j), reg_append, bur_drop, reg_bur l p V _ j h, reg_xor]
    conv => rhs; rw [← List.take_append_drop (p + j) l, reg_append]
    rw [List.take_append_drop]
  have hlt : V % 256 ^ j < 2 ^ 32 := by
    refine Nat.lt_of_lt_of_le (Nat.mod_lt _ (Nat.pow_pos (by omega))) ?_
    calc 256 ^ j ≤ 256 ^ 4 := Nat.pow_le_pow_right (by omega) h4
      _ ≤ 2 ^ 32 := by omega
  rw [e1, e1, hr, ← its_add]
  generalize 8 * j + 8 * (l.drop (p + j)).length = K
  generalize V % 256 ^ j = E at *
  constructor
  · intro he
    have h1 : reg 4294967295 l ^^^ its K E = reg 4294967295 l := by
      have := congrArg (· ^^^ 4294967295) he
      simpa [xor_self_right] using this
    have h2 : its K E = 0 := by
      have := congrArg (reg 4294967295 l ^^^ ·) h1
      simpa [← Nat.xor_assoc] using this
    exact its_inj K hlt (by omega) (h2.trans (its_zero K).symm)
  · rintro rfl
    rw [its_zero, Nat.xor_zero]

theorem chg_next (V j : Nat) : ((V % 256 ^ j != 0) || (V / 256 ^ j % 256 != 0)) = (V % 256 ^ (j + 1) != 0) := by
  have e : V % 256 ^ (j + 1) = V % 256 ^ j + 256 ^ j * (V / 256 ^ j % 256) := by rw [Nat.pow_succ, Nat.mod_mul]
  rw [e]
  have hp : 0 < 256 ^ j := Nat.pow_pos (by omega)
  generalize V / 256 ^ j % 256 = a
  generalize V % 256 ^ j = b
  rcases Nat.eq_zero_or_pos a with rfl | ha
  · simp
  · have : 0 < 256 ^ j * a := Nat.mul_pos hp ha
    rw [Bool.eq_iff_iff]
    simp
    omega

theorem be4_inj (a b : Nat) (ha : a < 2 ^ 32) (hb : b < 2 ^ 32) (h : be a 4 = be b 4) : a = b := by
  have h1 := num_be a 4 0
  have h2 := num_be b 4 0
  rw [h] at h1
  omega

theorem open_bur (l : List UInt8) (p V j : Nat) (h4 : j ≤ 4) (h : p + j ≤ l.length) : openE (bur l p V j ++ be (crc l) 4) = if V % 256 ^ j = 0 then 0 else 20 := by
  have hl : (bur l p V j ++ be (crc l) 4).length = (bur l p V j).length + 4 := by rw [List.length_append, be_length]
  rw [open_iff _ (by omega), hl, Nat.add_sub_cancel, List.drop_left, List.take_left]
  have hc := crc_bur l p V j h4 h
  by_cases hz : V % 256 ^ j = 0
  · rw [if_pos hz, if_pos (by rw [hc.2 hz])]
  · rw [if_neg hz, if_neg (fun he => hz (hc.1 (be4_inj _ _ (crc_lt _) (crc_lt _) he).symm))]
end Go.Proofs.Ytcnljifbifidbaa
