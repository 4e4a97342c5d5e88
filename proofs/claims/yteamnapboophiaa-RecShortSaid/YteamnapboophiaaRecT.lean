/-
  Plain facts of records, on: what is cut short is none; how long a record is; what moves alike; what says that a key is gone. Conditions: those that each states.
-/
import Derived.Test.YteamnapboophiaaRecQ
namespace Go.Proofs.Yteamnapboophiaa
set_option linter.unusedVariables false

theorem getV_short_at (p : List UInt8) (m : Int) (h1 : -9223372036854775808 ≤ m) (h2 : m ≤ 9223372036854775807) (c : Nat) (hc : c < (enc (zig m)).length) : getV (p ++ (enc (zig m)).take c) (p.length : Int) = (0, 0, 10) := by
  unfold getV
  rw [if_neg (by omega), Int.toNat_natCast, List.drop_left]
  exact gv_short _ 0 0 c _ (by omega) (by have := zig_lt m h1 h2; omega) (by omega) hc
theorem getT_short_at (p s : List UInt8) (hl : s.length ≤ 64) (c : Nat) (hc : c < (putT s).length) : getT (p ++ (putT s).take c) (p.length : Int) 64 = ([], 0, 10) := by
  unfold putT at hc ⊢
  rw [List.length_append] at hc
  by_cases h : c < (enc (zig s.length)).length
  · have := getV_short_at p s.length (by omega) (by omega) c h
    unfold getT
    rw [List.take_append_of_le_length (by omega), this]
    simp
  · rw [List.take_append, List.take_of_length_le (by omega)]
    have := getV_put p (s.take (c - (enc (zig s.length)).length)) s.length (by omega) (by omega)
    unfold getT
    rw [this]
    simp only [ne_eq, not_true_eq_false, if_false]
    rw [if_neg (by omega), if_neg (by omega), if_pos (by simp only [List.length_append, List.length_take]; omega)]

theorem getR_short (r : Rc) (base st : Int) (h : mayP r base st = true) (c : Nat) (hc : c < (putR r base st).length) : getR ((putR r base st).take c) 0 base st = (zeroR, 0, 10) := by
  obtain ⟨c1, c2, c3, c4, c5, c6, c7, c8, c9⟩ := mayP_parts h
  have hm : ∀ l : List UInt8, mayG l 0 base st = true := fun l => by
    simp only [mayG, c2, c3, Bool.true_and, Bool.and_eq_true, decide_eq_true_eq]
    omega
  have he := putR_eq r base st []
  rw [List.append_nil] at he
  rw [putR_len] at hc
  rw [he, List.append_nil]
  have hd1 : -9223372036854775808 ≤ r.off - base := by omega
  have hd2 : r.off - base ≤ 9223372036854775807 := by omega
  have hs1 : -9223372036854775808 ≤ r.stamp - st := by omega
  have hs2 : r.stamp - st ≤ 9223372036854775807 := by omega
  by_cases h1 : c < (enc (zig (r.off - base))).length
  · rw [List.take_append_of_le_length (by omega)]
    have e1 := getV_short_at [] _ hd1 hd2 c h1
    rw [List.nil_append] at e1
    exact getR1 (hm _) e1 (by omega)
  rw [List.take_append, List.take_of_length_le (by omega)]
  by_cases h2 : c - (enc (zig (r.off - base))).length < (enc (zig (r.stamp - st))).length
  · rw [List.take_append_of_le_length (by omega)]
    have e1 := getV_put [] ((enc (zig (r.stamp - st))).take (c - (enc (zig (r.off - base))).length)) _ hd1 hd2
    have e2 := getV_short_at (enc (zig (r.off - base))) _ hs1 hs2 _ h2
    simp only [List.nil_append, List.length_nil, Int.natCast_zero, Int.zero_add] at e1
    exact getR2 (hm _) e1 e2 (by omega)
  rw [List.take_append, List.take_of_length_le (by omega)]
  have e1 := fun t => getV_put [] (enc (zig (r.stamp - st)) ++ t) _ hd1 hd2
  have e2 := fun t => getV_put (enc (zig (r.off - base))) t _ hs1 hs2
  simp only [List.nil_append, List.length_nil, Int.natCast_zero, Int.zero_add] at e1
  by_cases h3 : c - (enc (zig (r.off - base))).length - (enc (zig (r.stamp - st))).length = 0
  · rw [h3, List.take_zero]
    refine getR3 (f := false) (m := 0) (hm _) (e1 _) (e2 _) ?_ (by omega)
    rw [flagR, if_pos (by simp only [List.length_append, List.length_nil]; omega)]
  have e3 := fun t => flag_at (enc (zig (r.off - base)) ++ enc (zig (r.stamp - st))) t r.dead
  rw [List.take_append, List.take_of_length_le (by simp; omega)]
  generalize hq : c - (enc (zig (r.off - base))).length - (enc (zig (r.stamp - st))).length - [flagB r.dead].length = q at *
  simp only [List.length_singleton] at hq
  by_cases h4 : q < (putT r.key).length
  · rw [List.take_append_of_le_length (by omega)]
    have e4 := getT_short_at (enc (zig (r.off - base)) ++ enc (zig (r.stamp - st)) ++ [flagB r.dead]) r.key c8 q h4
    have e3' := e3 ((putT r.key).take q)
    have e1' := e1 ([flagB r.dead] ++ (putT r.key).take q)
    have e2' := e2 ([flagB r.dead] ++ (putT r.key).take q)
    simp only [List.append_assoc, List.length_append, List.length_singleton, Int.natCast_add, Int.add_assoc] at e1' e2' e3' e4 ⊢
    exact getR4 (hm _) e1' e2' e3' e4 (by omega)
  rw [List.take_append, List.take_of_length_le (by omega)]
  have e4 := getT_put (enc (zig (r.off - base)) ++ enc (zig (r.stamp - st)) ++ [flagB r.dead]) ((putT r.val).take (q - (putT r.key).length)) r.key 64 (by omega) (by omega)
  have e5 := getT_short_at (enc (zig (r.off - base)) ++ enc (zig (r.stamp - st)) ++ [flagB r.dead] ++ putT r.key) r.val c9 (q - (putT r.key).length) (by omega)
  have e3' := e3 (putT r.key ++ (putT r.val).take (q - (putT r.key).length))
  have e1' := e1 ([flagB r.dead] ++ (putT r.key ++ (putT r.val).take (q - (putT r.key).length)))
  have e2' := e2 ([flagB r.dead] ++ (putT r.key ++ (putT r.val).take (q - (putT r.key).length)))
  simp only [List.append_assoc, List.length_append, List.length_singleton, Int.natCast_add, Int.add_assoc] at e1' e2' e3' e4 e5 ⊢
  exact getR5 (hm _) e1' e2' e3' e4 e5 (by omega)

theorem zig_small {m : Int} (h1 : -1099511627776 ≤ m) (h2 : m ≤ 1099511627776) : (enc (zig m)).length ≤ 6 := by
  refine enc_length (k := 5) ?_
  unfold zig
  split <;> omega
theorem putT_size (s : List UInt8) (h : s.length ≤ 64) : s.length + 1 ≤ (putT s).length ∧ (putT s).length ≤ s.length + 2 := by
  have h1 := enc_pos (zig s.length)
  have h2 : (enc (zig (s.length : Int))).length ≤ 2 := by
    refine enc_length (k := 1) ?_
    unfold zig
    split <;> omega
  unfold putT
  rw [List.length_append]
  omega
theorem putR_size (r : Rc) (base st : Int) (h : mayP r base st = true) : r.key.length + r.val.length + 5 ≤ (putR r base st).length ∧ (putR r base st).length ≤ r.key.length + r.val.length + 17 := by
  obtain ⟨c1, c2, c3, c4, c5, c6, c7, c8, c9⟩ := mayP_parts h
  have k1 := putT_size r.key c8
  have k2 := putT_size r.val c9
  have z1 := zig_small (m := r.off - base) (by omega) (by omega)
  have z2 := zig_small (m := r.stamp - st) (by omega) (by omega)
  have p1 := enc_pos (zig (r.off - base))
  have p2 := enc_pos (zig (r.stamp - st))
  rw [putR_len]
  omega
theorem putT_none : (putT []).length = 1 := by decide +kernel
theorem bare_size (r : Rc) (base st : Int) (h : mayP r base st = true) : mayP ⟨r.off, [], [], false, r.stamp⟩ base st = true ∧ r.key.length + r.val.length + (putR ⟨r.off, [], [], false, r.stamp⟩ base st).length ≤ (putR r base st).length ∧ (putR r base st).length ≤ r.key.length + r.val.length + 2 + (putR ⟨r.off, [], [], false, r.stamp⟩ base st).length := by
  obtain ⟨c1, c2, c3, c4, c5, c6, c7, c8, c9⟩ := mayP_parts h
  have k1 := putT_size r.key c8
  have k2 := putT_size r.val c9
  refine ⟨?_, ?_, ?_⟩
  · simp only [mayP, chk, chkN, c2, c3, (inR_iff _).2 c4, (inR_iff _).2 c5]
    rfl
  · rw [putR_len, putR_len]
    simp only [putT_none]
    omega
  · rw [putR_len, putR_len]
    simp only [putT_none]
    omega

theorem putR_moved (o s by_ later base st : Int) (k v : List UInt8) (d : Bool) : putR ⟨o + by_, k, v, d, s + later⟩ (base + by_) (st + later) = putR ⟨o, k, v, d, s⟩ base st := by
  simp only [putR]
  rw [show o + by_ - (base + by_) = o - base by omega, show s + later - (st + later) = s - st by omega]
theorem putR_apart {r r' : Rc} {base st : Int} (h : mayP r base st = true) (h' : mayP r' base st = true) (he : putR r base st = putR r' base st) : r = r' := by
  have e1 := getR_put [] [] r base st h
  have e2 := getR_put [] [] r' base st h'
  rw [he, e2] at e1
  simp only [Prod.mk.injEq] at e1
  exact e1.1.symm
end Go.Proofs.Yteamnapboophiaa
