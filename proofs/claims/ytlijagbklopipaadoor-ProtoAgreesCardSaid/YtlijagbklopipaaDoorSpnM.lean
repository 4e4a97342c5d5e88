/-
  Plain laws of what two lists of spans agree on: in either order the same, with oneself all, again the same, within both. Conditions: those that each states.
-/
import Derived.Test.YtlijagbklopipaaDoorSpnC
namespace Go.Proofs.YtlijagbklopipaaDoor
set_option linter.unusedVariables false

theorem right_cons {q : Int} {s : Sp} {l : List Sp} : rightFrom q (s :: l) = true ↔ (q < s.k ∧ s.k ≤ 255 ∧ 0 ≤ s.lo ∧ s.lo ≤ s.hi ∧ s.hi ≤ 255) ∧ rightFrom s.k l = true := by
  simp only [rightFrom, Bool.and_eq_true, Bool.not_eq_true', Bool.or_eq_false_iff, decide_eq_false_iff_not]
  constructor
  · rintro ⟨⟨⟨⟨⟨h1, h2⟩, h3⟩, h4⟩, h5⟩, h6⟩
    exact ⟨⟨by omega, by omega, by omega, by omega, by omega⟩, h6⟩
  · rintro ⟨⟨h1, h2, h3, h4, h5⟩, h6⟩
    exact ⟨⟨⟨⟨⟨by omega, by omega⟩, by omega⟩, by omega⟩, by omega⟩, h6⟩
theorem right_less {q q' : Int} {l : List Sp} (h : rightFrom q l = true) (hq : q' ≤ q) : rightFrom q' l = true := by
  cases l with
  | nil => rfl
  | cons s l => obtain ⟨⟨h1, h2⟩, h3⟩ := right_cons.1 h; exact right_cons.2 ⟨⟨by omega, h2⟩, h3⟩

theorem mg_comm : ∀ (n : Nat) (out m t : List Sp), m.length + t.length ≤ n → mg out m t = mg out t m := by
  intro n
  induction n with
  | zero =>
    intro out m t h
    obtain rfl : m = [] := List.eq_nil_of_length_eq_zero (by omega)
    obtain rfl : t = [] := List.eq_nil_of_length_eq_zero (by omega)
    rfl
  | succ n ih =>
    intro out m t h
    rcases m with _ | ⟨a, m⟩
    · rw [mg_nil, mg_nil2]
    rcases t with _ | ⟨b, t⟩
    · rw [mg_nil, mg_nil2]
    simp only [List.length_cons] at h
    rcases Int.lt_trichotomy a.k b.k with hk | hk | hk
    · rw [mg_lt hk, mg_gt hk]
      exact ih _ _ _ (by simp only [List.length_cons]; omega)
    · by_cases hb : min a.hi b.hi < max a.lo b.lo
      · rw [mg_bad hk hb, mg_bad hk.symm (by omega)]
      · rw [mg_eq hk hb, mg_eq hk.symm (by omega), hk, Int.max_comm a.lo, Int.min_comm a.hi]
        exact ih _ _ _ (by omega)
    · rw [mg_gt hk, mg_lt hk]
      exact ih _ _ _ (by simp only [List.length_cons]; omega)
theorem agree_comm (m t : List Sp) : agreeL m t = agreeL t m := by
  unfold agreeL
  rw [mg_comm _ [] m t (Nat.le_refl _), Bool.or_comm]

theorem mg_ends : ∀ (n : Nat) (out m t : List Sp), m.length + t.length ≤ n → (mg out m t).2 = 0 ∨ mg out m t = ([], 61) := by
  intro n
  induction n with
  | zero =>
    intro out m t h
    obtain rfl : m = [] := List.eq_nil_of_length_eq_zero (by omega)
    rw [mg_nil]; exact .inl rfl
  | succ n ih =>
    intro out m t h
    rcases m with _ | ⟨a, m⟩
    · rw [mg_nil]; exact .inl rfl
    rcases t with _ | ⟨b, t⟩
    · rw [mg_nil2]; exact .inl rfl
    simp only [List.length_cons] at h
    rcases Int.lt_trichotomy a.k b.k with hk | hk | hk
    · rw [mg_lt hk]
      exact ih _ _ _ (by simp only [List.length_cons]; omega)
    · by_cases hb : min a.hi b.hi < max a.lo b.lo
      · rw [mg_bad hk hb]; exact .inr rfl
      · rw [mg_eq hk hb]
        exact ih _ _ _ (by omega)
    · rw [mg_gt hk]
      exact ih _ _ _ (by simp only [List.length_cons]; omega)

/-- One span lies within one of its kind. -/
def WiS (l : List Sp) (s : Sp) : Prop := ∃ x ∈ l, x.k = s.k ∧ x.lo ≤ s.lo ∧ s.hi ≤ x.hi
theorem mg_spec : ∀ (n : Nat) (q : Int) (out m t r : List Sp), m.length + t.length ≤ n → rightFrom q m = true → rightFrom q t = true → mg out m t = (r, 0) →
    ∃ s, r = out ++ s ∧ rightFrom q s = true ∧ (∀ x ∈ s, WiS m x) ∧ (∀ x ∈ s, WiS t x) ∧ ∀ out', mg out' s m = (out' ++ s, 0) := by
  intro n
  induction n with
  | zero =>
    intro q out m t r h _ _ hr
    obtain rfl : m = [] := List.eq_nil_of_length_eq_zero (by omega)
    rw [mg_nil] at hr
    cases hr
    exact ⟨[], by simp, rfl, by simp, by simp, fun out' => by rw [mg_nil]; simp⟩
  | succ n ih =>
    intro q out m t r h hm ht hr
    have nil : r = out → ∃ s, r = out ++ s ∧ rightFrom q s = true ∧ (∀ x ∈ s, WiS m x) ∧ (∀ x ∈ s, WiS t x) ∧ ∀ out', mg out' s m = (out' ++ s, 0) := fun e =>
      ⟨[], by simp [e], rfl, by simp, by simp, fun out' => by rw [mg_nil]; simp⟩
    rcases m with _ | ⟨a, m⟩
    · rw [mg_nil] at hr; cases hr; exact nil rfl
    rcases t with _ | ⟨b, t⟩
    · rw [mg_nil2] at hr; cases hr; exact nil rfl
    clear nil
    simp only [List.length_cons] at h
    obtain ⟨⟨a1, a2, a3, a4, a5⟩, hm'⟩ := right_cons.1 hm
    obtain ⟨⟨b1, b2, b3, b4, b5⟩, ht'⟩ := right_cons.1 ht
    rcases Int.lt_trichotomy a.k b.k with hk | hk | hk
    · rw [mg_lt hk] at hr
      obtain ⟨s, h1, h2, h3, h4, h5⟩ := ih a.k out m (b :: t) r (by simp only [List.length_cons]; omega) hm' (right_cons.2 ⟨⟨hk, b2, b3, b4, b5⟩, ht'⟩) hr
      refine ⟨s, h1, right_less h2 (by omega), fun x hx => ?_, h4, fun out' => ?_⟩
      · obtain ⟨y, hy, e⟩ := h3 x hx
        exact ⟨y, List.mem_cons_of_mem _ hy, e⟩
      · rcases s with _ | ⟨c, s⟩
        · rw [mg_nil]; simp
        · have hc := (right_cons.1 h2).1.1
          rw [mg_gt (by exact hc)]
          exact h5 out'
    · by_cases hb : min a.hi b.hi < max a.lo b.lo
      · rw [mg_bad hk hb] at hr; simp at hr
      · rw [mg_eq hk hb] at hr
        obtain ⟨s, h1, h2, h3, h4, h5⟩ := ih a.k (out ++ [⟨a.k, max a.lo b.lo, min a.hi b.hi⟩]) m t r (by omega) hm' (right_less ht' (by omega)) hr
        refine ⟨⟨a.k, max a.lo b.lo, min a.hi b.hi⟩ :: s, by rw [h1, List.append_assoc]; rfl, right_cons.2 ⟨⟨by simp only; omega, by simp only; omega, by simp only; omega, by simp only; omega, by simp only; omega⟩, h2⟩, ?_, ?_, fun out' => ?_⟩
        · intro x hx
          rcases List.mem_cons.1 hx with rfl | hx
          · exact ⟨a, List.mem_cons_self, rfl, by simp only; omega, by simp only; omega⟩
          · obtain ⟨y, hy, e⟩ := h3 x hx
            exact ⟨y, List.mem_cons_of_mem _ hy, e⟩
        · intro x hx
          rcases List.mem_cons.1 hx with rfl | hx
          · exact ⟨b, List.mem_cons_self, hk.symm, by simp only; omega, by simp only; omega⟩
          · obtain ⟨y, hy, e⟩ := h4 x hx
            exact ⟨y, List.mem_cons_of_mem _ hy, e⟩
        · rw [mg_eq (by rfl) (by simp only; omega)]
          have e : (⟨a.k, max (max a.lo b.lo) a.lo, min (min a.hi b.hi) a.hi⟩ : Sp) = ⟨a.k, max a.lo b.lo, min a.hi b.hi⟩ := by
            congr 1 <;> omega
          simp only [e]
          rw [h5, List.append_assoc]
          rfl
    · rw [mg_gt hk] at hr
      obtain ⟨s, h1, h2, h3, h4, h5⟩ := ih q out (a :: m) t r (by simp only [List.length_cons]; omega) hm (right_less ht' (by omega)) hr
      refine ⟨s, h1, h2, h3, fun x hx => ?_, h5⟩
      obtain ⟨y, hy, e⟩ := h4 x hx
      exact ⟨y, List.mem_cons_of_mem _ hy, e⟩
theorem mg_self : ∀ (m out : List Sp) (q : Int), rightFrom q m = true → mg out m m = (out ++ m, 0) := by
  intro m
  induction m with
  | nil => intro out q _; rw [mg_nil]; simp
  | cons a m ih =>
    intro out q h
    obtain ⟨⟨a1, a2, a3, a4, a5⟩, hm'⟩ := right_cons.1 h
    rw [mg_eq rfl (by omega)]
    have e : (⟨a.k, max a.lo a.lo, min a.hi a.hi⟩ : Sp) = a := by
      cases a; congr 1 <;> simp only <;> omega
    rw [e, ih _ _ hm', List.append_assoc]
    rfl

/-- What the law within looks at. -/
def WiL (a l : List Sp) : Prop := ∀ i, i < a.length → (∃ k, k < l.length ∧ (l.getD k ⟨0, 0, 0⟩).k = (a.getD i ⟨0, 0, 0⟩).k ∧ (l.getD k ⟨0, 0, 0⟩).lo ≤ (a.getD i ⟨0, 0, 0⟩).lo ∧ (a.getD i ⟨0, 0, 0⟩).hi ≤ (l.getD k ⟨0, 0, 0⟩).hi) ∧
  (a.getD i ⟨0, 0, 0⟩).lo ≤ (a.getD i ⟨0, 0, 0⟩).hi ∧ (0 < i → (a.getD (i - 1) ⟨0, 0, 0⟩).k < (a.getD i ⟨0, 0, 0⟩).k)
theorem right_at : ∀ {a : List Sp} {q : Int}, rightFrom q a = true → ∀ i, i < a.length → (a.getD i ⟨0, 0, 0⟩).lo ≤ (a.getD i ⟨0, 0, 0⟩).hi ∧ q < (a.getD i ⟨0, 0, 0⟩).k ∧ (0 < i → (a.getD (i - 1) ⟨0, 0, 0⟩).k < (a.getD i ⟨0, 0, 0⟩).k)
  | [], _, _, i, h => absurd h (by simp)
  | s :: a, q, hr, i, h => by
    obtain ⟨⟨a1, a2, a3, a4, a5⟩, hm'⟩ := right_cons.1 hr
    rcases i with _ | i
    · exact ⟨a4, a1, fun h0 => absurd h0 (by omega)⟩
    · obtain ⟨h1, h2, h3⟩ := right_at hm' i (by simpa using h)
      refine ⟨by simpa using h1, by have : q < (a.getD i ⟨0, 0, 0⟩).k := by omega
                                    simpa using this, fun _ => ?_⟩
      rcases i with _ | i
      · simpa using h2
      · have := h3 (by omega)
        simpa using this
theorem wiL_of {a l : List Sp} {q : Int} (h : rightFrom q a = true) (hw : ∀ x ∈ a, WiS l x) : WiL a l := by
  intro i hi
  obtain ⟨h1, h2, h3⟩ := right_at h i hi
  refine ⟨?_, h1, h3⟩
  have e : a.getD i ⟨0, 0, 0⟩ = a[i] := by rw [List.getD_eq_getElem?_getD, List.getElem?_eq_getElem hi]; rfl
  rw [e]
  obtain ⟨x, hx, g⟩ := hw _ (List.getElem_mem hi)
  obtain ⟨k, hk, rfl⟩ := List.getElem_of_mem hx
  refine ⟨k, hk, ?_⟩
  have e : l.getD k ⟨0, 0, 0⟩ = l[k] := by rw [List.getD_eq_getElem?_getD, List.getElem?_eq_getElem hk]; rfl
  rw [e]
  exact g

theorem mg_len : ∀ (n : Nat) (out m t : List Sp), m.length + t.length ≤ n → (mg out m t).1.length ≤ out.length + m.length := by
  intro n
  induction n with
  | zero =>
    intro out m t h
    obtain rfl : m = [] := List.eq_nil_of_length_eq_zero (by omega)
    rw [mg_nil]; simp
  | succ n ih =>
    intro out m t h
    rcases m with _ | ⟨a, m⟩
    · rw [mg_nil]; simp
    rcases t with _ | ⟨b, t⟩
    · rw [mg_nil2]; simp
    simp only [List.length_cons] at h ⊢
    rcases Int.lt_trichotomy a.k b.k with hk | hk | hk
    · rw [mg_lt hk]
      have := ih out m (b :: t) (by simp only [List.length_cons]; omega)
      omega
    · by_cases hb : min a.hi b.hi < max a.lo b.lo
      · rw [mg_bad hk hb]; simp
      · rw [mg_eq hk hb]
        have := ih (out ++ [⟨a.k, max a.lo b.lo, min a.hi b.hi⟩]) m t (by omega)
        simp only [List.length_append, List.length_cons, List.length_nil] at this
        omega
    · rw [mg_gt hk]
      have := ih out (a :: m) t (by simp only [List.length_cons]; omega)
      simp only [List.length_cons] at this
      omega
theorem agree_len {m t a : List Sp} {e : Int} (h : agreeL m t = (a, e)) : a.length ≤ m.length := by
  unfold agreeL at h
  split at h
  · cases h; simp
  · have := mg_len _ [] m t (Nat.le_refl _)
    rw [h] at this
    simpa using this

/-- The law's plain side. -/
theorem meet_plain (m t : List Sp) : agreeL t m = agreeL m t ∧
    ((∃ e, agreeL m t = ([], e) ∧ (e = 1 ∨ e = 61)) ∨ (∃ a, agreeL m t = (a, 0) ∧ agreeL m m = (m, 0) ∧ agreeL a m = (a, 0) ∧ WiL a m ∧ WiL a t)) := by
  refine ⟨agree_comm t m, ?_⟩
  by_cases hr : (!rightL m || !rightL t) = true
  · left
    exact ⟨1, by unfold agreeL; rw [if_pos hr], .inl rfl⟩
  · have hr' := hr
    simp only [Bool.not_eq_true, Bool.or_eq_false_iff, Bool.not_eq_false'] at hr'
    obtain ⟨h1, h2⟩ := hr'
    have e : agreeL m t = mg [] m t := by unfold agreeL; rw [if_neg hr]
    rw [e]
    rcases mg_ends _ [] m t (Nat.le_refl _) with h0 | h0
    · right
      obtain ⟨a, hz⟩ : ∃ a, mg [] m t = (a, 0) := ⟨_, Prod.ext rfl h0⟩
      obtain ⟨s, g1, g2, g3, g4, g5⟩ := mg_spec _ (-1) [] m t a (Nat.le_refl _) h1 h2 hz
      rw [List.nil_append] at g1
      subst g1
      refine ⟨a, hz, ?_, ?_, wiL_of g2 g3, wiL_of g2 g4⟩
      · unfold agreeL
        rw [if_neg (by simp [h1]), mg_self m [] (-1) h1]; rfl
      · unfold agreeL
        have h3 : rightL a = true := g2
        rw [if_neg (by simp [h1, h3]), g5]; rfl
    · left
      exact ⟨61, h0, .inr rfl⟩
end Go.Proofs.YtlijagbklopipaaDoor
