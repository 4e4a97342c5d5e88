/-
  The document's Agree, in plain Lean: two loops, and that they tell what the merge tells. Conditions: those that each states.
-/
import Derived.Test.YtlijagbklopipaaDoorSpnM
namespace Go.Proofs.YtlijagbklopipaaDoor
set_option linter.unusedVariables false

def inn (out : List Sp) (a : Sp) : List Sp → List Sp × Int
  | [] => (out, 0)
  | b :: t => if a.k ≠ b.k then inn out a t else if min a.hi b.hi < max a.lo b.lo then ([], 61) else inn (out ++ [⟨a.k, max a.lo b.lo, min a.hi b.hi⟩]) a t
def nest (out : List Sp) : List Sp → List Sp → List Sp × Int
  | [], _ => (out, 0)
  | a :: m, t => if (inn out a t).2 ≠ 0 then inn out a t else nest (inn out a t).1 m t
def nin (out : List Sp) (a : Sp) (tk m t : List Sp) : List Sp × Int := if (inn out a tk).2 ≠ 0 then inn out a tk else nest (inn out a tk).1 m t
theorem nest_nil (out t : List Sp) : nest out [] t = (out, 0) := rfl
theorem nest_cons (out : List Sp) (a : Sp) (m t : List Sp) : nest out (a :: m) t = nin out a t m t := rfl
theorem nin_nil (out : List Sp) (a : Sp) (m t : List Sp) : nin out a [] m t = nest out m t := by unfold nin; rw [if_neg (by simp [inn])]; rfl
theorem inn_ne {out t : List Sp} {a b : Sp} (h : a.k ≠ b.k) : inn out a (b :: t) = inn out a t := by rw [inn, if_pos h]
theorem inn_bad {out t : List Sp} {a b : Sp} (h : a.k = b.k) (h2 : min a.hi b.hi < max a.lo b.lo) : inn out a (b :: t) = ([], 61) := by rw [inn, if_neg (by omega), if_pos h2]
theorem inn_eq {out t : List Sp} {a b : Sp} (h : a.k = b.k) (h2 : ¬ min a.hi b.hi < max a.lo b.lo) : inn out a (b :: t) = inn (out ++ [⟨a.k, max a.lo b.lo, min a.hi b.hi⟩]) a t := by rw [inn, if_neg (by omega), if_neg h2]
theorem nin_ne {out tk m t : List Sp} {a b : Sp} (h : a.k ≠ b.k) : nin out a (b :: tk) m t = nin out a tk m t := by unfold nin; rw [inn_ne h]
theorem nin_bad {out tk m t : List Sp} {a b : Sp} (h : a.k = b.k) (h2 : min a.hi b.hi < max a.lo b.lo) : nin out a (b :: tk) m t = ([], 61) := by unfold nin; rw [inn_bad h h2, if_pos (by simp)]
theorem nin_eq {out tk m t : List Sp} {a b : Sp} (h : a.k = b.k) (h2 : ¬ min a.hi b.hi < max a.lo b.lo) : nin out a (b :: tk) m t = nin (out ++ [⟨a.k, max a.lo b.lo, min a.hi b.hi⟩]) a tk m t := by unfold nin; rw [inn_eq h h2]

theorem right_gt : ∀ {l : List Sp} {q : Int}, rightFrom q l = true → ∀ s ∈ l, q < s.k
  | [], _, _, s, h => absurd h (by simp)
  | x :: l, q, hr, s, h => by
    obtain ⟨⟨a1, _⟩, hm⟩ := right_cons.1 hr
    rcases List.mem_cons.1 h with rfl | h
    · exact a1
    · have := right_gt hm s h; omega
theorem inn_none {a : Sp} : ∀ {t : List Sp} (out : List Sp), (∀ b ∈ t, a.k ≠ b.k) → inn out a t = (out, 0)
  | [], out, _ => rfl
  | b :: t, out, h => by rw [inn_ne (h b List.mem_cons_self)]; exact inn_none out (fun x hx => h x (List.mem_cons_of_mem _ hx))
theorem nest_skip {b : Sp} {t : List Sp} : ∀ {m : List Sp} (out : List Sp), (∀ a ∈ m, a.k ≠ b.k) → nest out m (b :: t) = nest out m t
  | [], out, _ => rfl
  | a :: m, out, h => by
    rw [nest_cons, nest_cons]
    unfold nin
    rw [inn_ne (h a List.mem_cons_self), nest_skip _ (fun x hx => h x (List.mem_cons_of_mem _ hx))]
theorem nest_mg : ∀ (n : Nat) (q : Int) (out m t : List Sp), m.length + t.length ≤ n → rightFrom q m = true → rightFrom q t = true → nest out m t = mg out m t := by
  intro n
  induction n with
  | zero =>
    intro q out m t h _ _
    obtain rfl : m = [] := List.eq_nil_of_length_eq_zero (by omega)
    rw [mg_nil, nest_nil]
  | succ n ih =>
    intro q out m t h hm ht
    rcases m with _ | ⟨a, m⟩
    · rw [mg_nil, nest_nil]
    rcases t with _ | ⟨b, t⟩
    · rw [mg_nil2, nest_cons, nin_nil]
      clear h ht ih
      have key : ∀ (m : List Sp), nest out m [] = (out, 0) := by
        intro m
        induction m with
        | nil => rfl
        | cons x m ih => rw [nest_cons, nin_nil, ih]
      exact key m
    simp only [List.length_cons] at h
    obtain ⟨⟨a1, a2, a3, a4, a5⟩, hm'⟩ := right_cons.1 hm
    obtain ⟨⟨b1, b2, b3, b4, b5⟩, ht'⟩ := right_cons.1 ht
    have hg := right_gt hm'
    have hgt := right_gt ht'
    rcases Int.lt_trichotomy a.k b.k with hk | hk | hk
    · rw [mg_lt hk, nest_cons]
      unfold nin
      rw [inn_none out (fun x hx => by
        rcases List.mem_cons.1 hx with rfl | hx
        · omega
        · have := hgt x hx; omega), if_neg (by simp)]
      exact ih a.k out m (b :: t) (by simp only [List.length_cons]; omega) hm' (right_cons.2 ⟨⟨hk, b2, b3, b4, b5⟩, ht'⟩)
    · by_cases hb : min a.hi b.hi < max a.lo b.lo
      · rw [mg_bad hk hb, nest_cons, nin_bad hk hb]
      · rw [mg_eq hk hb, nest_cons, nin_eq hk hb]
        unfold nin
        rw [inn_none _ (fun x hx => by have := hgt x hx; omega), if_neg (by simp)]
        rw [nest_skip _ (fun x hx => by have := hg x hx; omega)]
        exact ih a.k _ m t (by omega) hm' (right_less ht' (by omega))
    · rw [mg_gt hk, nest_skip out (fun x hx => by
        rcases List.mem_cons.1 hx with rfl | hx
        · omega
        · have := hg x hx; omega)]
      exact ih q out (a :: m) t (by simp only [List.length_cons]; omega) hm (right_less ht' (by omega))
end Go.Proofs.YtlijagbklopipaaDoor
