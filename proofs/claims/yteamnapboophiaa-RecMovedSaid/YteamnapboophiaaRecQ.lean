/-
  Plain facts of records: what is put is got, what is got was put, what is cut short is none; lengths, and what moves alike. Conditions: those that each states.
-/
import Derived.Test.YteamnapboophiaaRecP
namespace Go.Proofs.Yteamnapboophiaa
set_option linter.unusedVariables false

theorem mayP_parts {r : Rc} {base st : Int} (h : mayP r base st = true) : chk r = true ∧ inR base = true ∧ inR st = true ∧ (0 ≤ r.off ∧ r.off ≤ 1099511627776) ∧ (0 ≤ r.stamp ∧ r.stamp ≤ 1099511627776) ∧ (0 ≤ base ∧ base ≤ 1099511627776) ∧ (0 ≤ st ∧ st ≤ 1099511627776) ∧ r.key.length ≤ 64 ∧ r.val.length ≤ 64 := by
  simp only [mayP, Bool.and_eq_true] at h
  have hc := h.1.1
  simp only [chk, chkN, Bool.and_eq_true, decide_eq_true_eq] at hc
  exact ⟨h.1.1, h.1.2, h.2, inR_true hc.1.1.1.1, inR_true hc.1.1.1.2, inR_true h.1.2, inR_true h.2, hc.1.1.2, hc.1.2⟩

theorem putR_eq (r : Rc) (base st : Int) (t : List UInt8) : putR r base st ++ t = enc (zig (r.off - base)) ++ (enc (zig (r.stamp - st)) ++ ([flagB r.dead] ++ (putT r.key ++ (putT r.val ++ t)))) := by
  simp only [putR, List.append_assoc]
theorem putR_len (r : Rc) (base st : Int) : (putR r base st).length = (enc (zig (r.off - base))).length + (enc (zig (r.stamp - st))).length + 1 + (putT r.key).length + (putT r.val).length := by
  simp only [putR, List.length_append, List.length_singleton]

theorem flag_at (p t : List UInt8) (d : Bool) : flagR (p ++ ([flagB d] ++ t)) (p.length : Int) = (d, (p.length : Int) + 1, 0) := by
  have hl : (p ++ ([flagB d] ++ t)).length = p.length + (1 + t.length) := by simp; omega
  have hg : (p ++ ([flagB d] ++ t)).getD ((p.length : Int)).toNat 0 = flagB d := by
    rw [Int.toNat_natCast, List.getD_eq_getElem?_getD, List.getElem?_append_right (Nat.le_refl _)]
    simp
  rw [flagR, if_neg (by rw [hl]; omega), hg]
  cases d
  · rw [if_neg (by decide)]; rfl
  · rw [if_neg (by decide)]; rfl

theorem beside_back {n b : Int} (h1 : 0 ≤ n ∧ n ≤ 1099511627776) (h2 : 0 ≤ b ∧ b ≤ 1099511627776) : besideI b (n - b) = n := by
  rw [besideI, if_neg (by omega)]
  omega

theorem getR_put (p t : List UInt8) (r : Rc) (base st : Int) (h : mayP r base st = true) : getR (p ++ (putR r base st ++ t)) (p.length : Int) base st = (r, (p.length : Int) + (putR r base st).length, 0) := by
  obtain ⟨c1, c2, c3, c4, c5, c6, c7, c8, c9⟩ := mayP_parts h
  have hm : mayG (p ++ (putR r base st ++ t)) (p.length : Int) base st = true := by
    simp only [mayG, c2, c3, Bool.true_and, Bool.and_eq_true, decide_eq_true_eq]
    refine ⟨by omega, by simp only [List.length_append]; omega⟩
  have hk : (r.key.length : Int) ≤ 64 := by omega
  have hv : (r.val.length : Int) ≤ 64 := by omega
  have e1 := getV_put p (enc (zig (r.stamp - st)) ++ ([flagB r.dead] ++ (putT r.key ++ (putT r.val ++ t)))) (r.off - base) (by omega) (by omega)
  have e2 := getV_put (p ++ enc (zig (r.off - base))) ([flagB r.dead] ++ (putT r.key ++ (putT r.val ++ t))) (r.stamp - st) (by omega) (by omega)
  have e3 := flag_at (p ++ enc (zig (r.off - base)) ++ enc (zig (r.stamp - st))) (putT r.key ++ (putT r.val ++ t)) r.dead
  have e4 := getT_put (p ++ enc (zig (r.off - base)) ++ enc (zig (r.stamp - st)) ++ [flagB r.dead]) (putT r.val ++ t) r.key 64 hk (by omega)
  have e5 := getT_put (p ++ enc (zig (r.off - base)) ++ enc (zig (r.stamp - st)) ++ [flagB r.dead] ++ putT r.key) t r.val 64 hv (by omega)
  have b1 := beside_back c4 c6
  have b2 := beside_back c5 c7
  rw [putR_eq]
  rw [putR_eq] at hm
  simp only [List.append_assoc, List.length_append, List.length_singleton, Int.natCast_add, Int.add_assoc] at e1 e2 e3 e4 e5 hm ⊢
  have hr : (⟨besideI base (r.off - base), r.key, r.val, r.dead, besideI st (r.stamp - st)⟩ : Rc) = r := by rw [b1, b2]
  have := getR7 (base := base) (stamp := st) hm e1 e2 e3 e4 e5 (by rw [hr]; exact c1)
  rw [hr] at this
  rw [this, putR_len]
  simp only [Prod.mk.injEq, true_and, and_true]
  omega

theorem getR_err {l : List UInt8} {at_ base st : Int} {r : Rc} {n e : Int} (h : getR l at_ base st = (r, n, e)) (he : e ≠ 0) : r = zeroR ∧ n = 0 := by
  unfold getR at h
  repeat' split at h
  all_goals
    simp only [Prod.mk.injEq] at h
    first
    | exact ⟨h.1.symm, h.2.1.symm⟩
    | exact absurd h.2.2.symm he

theorem join (l : List UInt8) (a b c : Nat) (h1 : a ≤ b) (h2 : b ≤ c) : (l.drop a).take (b - a) ++ (l.drop b).take (c - b) = (l.drop a).take (c - a) := by
  rw [show c - a = (b - a) + (c - b) by omega, List.take_add, List.drop_drop, show a + (b - a) = b by omega]

theorem flag_only {l : List UInt8} {at_ n : Int} {f : Bool} (h0 : 0 ≤ at_) (h : flagR l at_ = (f, n, 0)) : n = at_ + 1 ∧ n ≤ l.length ∧ [flagB f] = (l.drop at_.toNat).take 1 := by
  unfold flagR at h
  split at h
  · simp at h
  · split at h
    · simp at h
    · rename_i h1 h2
      simp only [Prod.mk.injEq, and_true] at h
      obtain ⟨hf, hn⟩ := h
      have hlt : at_.toNat < l.length := by omega
      refine ⟨hn.symm, by omega, ?_⟩
      have hx : (l.drop at_.toNat).take 1 = [l.getD at_.toNat 0] := by
        rw [List.drop_eq_getElem_cons hlt, List.take_succ_cons, List.take_zero]
        simp [List.getD, hlt]
      rw [hx]
      generalize l.getD at_.toNat 0 = x at *
      congr 1
      apply UInt8.toNat_inj.1
      have hx2 : x.toNat = 0 ∨ x.toNat = 1 := by omega
      rcases hx2 with h0 | h0
      · rw [h0] at hf ⊢
        subst hf
        rfl
      · rw [h0] at hf ⊢
        subst hf
        rfl

theorem getR_only {l : List UInt8} {at_ base st : Int} {r : Rc} {n : Int} (h : getR l at_ base st = (r, n, 0)) :
    mayP r base st = true ∧ 0 ≤ at_ ∧ at_ < n ∧ n ≤ l.length ∧ putR r base st = (l.drop at_.toNat).take (n.toNat - at_.toNat) := by
  cases hm : mayG l at_ base st with
  | false => rw [getR0 hm] at h; simp at h
  | true =>
  obtain ⟨d, i, e1, h1⟩ : ∃ d i e1, getV l at_ = (d, i, e1) := ⟨_, _, _, rfl⟩
  by_cases n1 : e1 = 0
  case neg => rw [getR1 hm h1 n1] at h; simp only [Prod.mk.injEq] at h; exact absurd h.2.2 n1
  subst n1
  obtain ⟨s, j, e2, h2⟩ : ∃ s j e2, getV l i = (s, j, e2) := ⟨_, _, _, rfl⟩
  by_cases n2 : e2 = 0
  case neg => rw [getR2 hm h1 h2 n2] at h; simp only [Prod.mk.injEq] at h; exact absurd h.2.2 n2
  subst n2
  obtain ⟨f, m, e3, h3⟩ : ∃ f m e3, flagR l j = (f, m, e3) := ⟨_, _, _, rfl⟩
  by_cases n3 : e3 = 0
  case neg => rw [getR3 hm h1 h2 h3 n3] at h; simp only [Prod.mk.injEq] at h; exact absurd h.2.2 n3
  subst n3
  obtain ⟨k, q, e4, h4⟩ : ∃ k q e4, getT l m 64 = (k, q, e4) := ⟨_, _, _, rfl⟩
  by_cases n4 : e4 = 0
  case neg => rw [getR4 hm h1 h2 h3 h4 n4] at h; simp only [Prod.mk.injEq] at h; exact absurd h.2.2 n4
  subst n4
  obtain ⟨v, z, e5, h5⟩ : ∃ v r e5, getT l q 64 = (v, r, e5) := ⟨_, _, _, rfl⟩
  by_cases n5 : e5 = 0
  case neg => rw [getR5 hm h1 h2 h3 h4 h5 n5] at h; simp only [Prod.mk.injEq] at h; exact absurd h.2.2 n5
  subst n5
  cases h6 : chk ⟨besideI base d, k, v, f, besideI st s⟩ with
  | false => rw [getR6 hm h1 h2 h3 h4 h5 h6] at h; simp at h
  | true =>
  rw [getR7 hm h1 h2 h3 h4 h5 h6] at h
  simp only [Prod.mk.injEq, and_true] at h
  obtain ⟨rfl, rfl⟩ := h
  obtain ⟨a1, a2, a3, a4, a5⟩ := getV_only h1
  obtain ⟨b1, b2, b3, b4, b5⟩ := getV_only h2
  obtain ⟨f1, f2, f3⟩ := flag_only (by omega) h3
  obtain ⟨k1, k2, k3, k4, k5⟩ := getT_only h4
  obtain ⟨v1, v2, v3, v4, v5⟩ := getT_only h5
  simp only [mayG, Bool.and_eq_true, decide_eq_true_eq] at hm
  have hc := h6
  simp only [chk, chkN, Bool.and_eq_true, decide_eq_true_eq] at hc
  have r1 := inR_true hc.1.1.1.1
  have r2 := inR_true hc.1.1.1.2
  have r3 := inR_true hm.1.1.1
  have r4 := inR_true hm.1.1.2
  have o1 : besideI base d - base = d := by unfold besideI at r1 ⊢; split <;> split at r1 <;> omega
  have o2 : besideI st s - st = s := by unfold besideI at r2 ⊢; split <;> split at r2 <;> omega
  refine ⟨by simp only [mayP, h6, hm.1.1.1, hm.1.1.2, Bool.and_self], by omega, by omega, by omega, ?_⟩
  have f3' : [flagB f] = (l.drop j.toNat).take (m.toNat - j.toNat) := by rw [f3, show m.toNat - j.toNat = 1 by omega]
  simp only [putR, o1, o2]
  rw [a5, b5, f3', k5, v5, join l at_.toNat i.toNat j.toNat (by omega) (by omega), join l at_.toNat j.toNat m.toNat (by omega) (by omega), join l at_.toNat m.toNat q.toNat (by omega) (by omega), join l at_.toNat q.toNat z.toNat (by omega) (by omega)]
end Go.Proofs.Yteamnapboophiaa
