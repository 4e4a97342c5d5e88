/-
  Bytes as frames: plain facts, no program in sight. Conditions: none.
-/
import Derived.Test.YtnffhhmfclcmjaaOctQ
namespace Go.Proofs.Ytnffhhmfclcmjaa
set_option linter.unusedVariables false

theorem be_num (m : List UInt8) : be (num 0 m) m.length = m := by
  have key : ∀ (m : List UInt8) (a : Nat), num a m = a * 256 ^ m.length + num 0 m ∧ num 0 m < 256 ^ m.length := by
    intro m
    induction m with
    | nil => intro a; simp [num]
    | cons x m ih =>
      intro a
      have h1 := ih (a * 256 + x.toNat)
      have h2 := ih (0 * 256 + x.toNat)
      have hx := x.toNat_lt
      rw [num_cons, num_cons, h1.1, h2.1, List.length_cons, Nat.pow_succ]
      have hp : x.toNat * 256 ^ m.length + 256 ^ m.length ≤ 256 * 256 ^ m.length := by
        rw [← Nat.succ_mul]
        exact Nat.mul_le_mul_right _ (by omega)
      constructor
      · rw [Nat.zero_mul, Nat.zero_add, Nat.add_mul, Nat.mul_assoc, Nat.mul_comm 256, Nat.add_assoc]
      · rw [Nat.zero_mul, Nat.zero_add]
        have := h1.2
        omega
  induction m with
  | nil => rfl
  | cons x m ih =>
    have h1 := key m (0 * 256 + x.toNat)
    have hP : 0 < 256 ^ m.length := Nat.pow_pos (by omega)
    rw [List.length_cons, be, num_cons, h1.1, Nat.zero_mul, Nat.zero_add]
    have e1 : (x.toNat * 256 ^ m.length + num 0 m) / 256 ^ m.length = x.toNat := by
      rw [Nat.mul_comm, Nat.mul_add_div hP, Nat.div_eq_of_lt h1.2, Nat.add_zero]
    have e2 : be (x.toNat * 256 ^ m.length + num 0 m) m.length = m := by
      rw [← be_mod _ m.length m.length (Nat.le_refl _), Nat.mul_comm, Nat.mul_add_mod, Nat.mod_eq_of_lt h1.2, ih]
    rw [e1, e2]
    simp

/-- The frame of a body, and which bodies have one. -/
def frame (l : List UInt8) : List UInt8 := be l.length 4 ++ l
def ok (l : List UInt8) : Prop := 1 ≤ l.length ∧ l.length ≤ 4096
/-- The number in the head. -/
def headN (r : List UInt8) : Nat := num 0 (r.take 4)
/-- The head is there and tells no length. -/
def bad (r : List UInt8) : Prop := 4 ≤ r.length ∧ ¬ (1 ≤ headN r ∧ headN r ≤ 4096)
/-- No whole frame is ahead. -/
def stops (r : List UInt8) : Prop := r.length < 4 ∨ bad r ∨ r.length - 4 < headN r

/-- b is the frames of ls and then r, of which no whole frame is ahead. -/
inductive Cuts : List UInt8 → List (List UInt8) → List UInt8 → Prop
  | done (r : List UInt8) (h : stops r) : Cuts r [] r
  | more (x b : List UInt8) (ls : List (List UInt8)) (r : List UInt8) (hx : ok x) (h : Cuts b ls r) : Cuts (frame x ++ b) (x :: ls) r

theorem frame_len (x : List UInt8) : (frame x).length = 4 + x.length := by rw [frame, List.length_append, be_length]
theorem head_frame (x b : List UInt8) (hx : ok x) : headN (frame x ++ b) = x.length := by
  unfold ok at hx
  rw [headN, frame, List.append_assoc, List.take_left' (be_length x.length 4), num_be]
  omega
theorem not_stops (x b : List UInt8) (hx : ok x) : ¬ stops (frame x ++ b) := by
  have hl : (frame x ++ b).length = 4 + x.length + b.length := by rw [List.length_append, frame_len]
  have hh := head_frame x b hx
  unfold ok at hx
  rintro (h | ⟨_, h⟩ | h)
  · omega
  · rw [hh] at h; omega
  · rw [hh] at h; omega
theorem body_of (x b : List UInt8) : ((frame x ++ b).drop 4).take x.length = x := by
  rw [frame, List.append_assoc, List.drop_left' (be_length x.length 4), List.take_left]
theorem rest_of (x b : List UInt8) : (frame x ++ b).drop (4 + x.length) = b := by
  rw [List.drop_left' (frame_len x)]

/-- Where it does not stop, a frame is ahead. -/
theorem split_one (b : List UInt8) (h : ¬ stops b) : ok ((b.drop 4).take (headN b)) ∧ frame ((b.drop 4).take (headN b)) ++ b.drop (4 + headN b) = b ∧ ((b.drop 4).take (headN b)).length = headN b := by
  have h1 : 4 ≤ b.length := by
    rcases Nat.lt_or_ge b.length 4 with h1 | h1
    · exact absurd (.inl h1) h
    · exact h1
  have h2 : 1 ≤ headN b ∧ headN b ≤ 4096 := by
    rcases Classical.em (1 ≤ headN b ∧ headN b ≤ 4096) with h2 | h2
    · exact h2
    · exact absurd (.inr (.inl ⟨h1, h2⟩)) h
  have h3 : headN b ≤ b.length - 4 := by
    rcases Nat.lt_or_ge (b.length - 4) (headN b) with h3 | h3
    · exact absurd (.inr (.inr h3)) h
    · exact h3
  have hl : ((b.drop 4).take (headN b)).length = headN b := by rw [List.length_take, List.length_drop]; omega
  refine ⟨by unfold ok; omega, ?_, hl⟩
  have hb : be (headN b) 4 = b.take 4 := by
    have := be_num (b.take 4)
    rw [show (b.take 4).length = 4 by rw [List.length_take]; omega] at this
    exact this
  rw [frame, hl, hb, ← List.drop_drop, List.append_assoc, List.take_append_drop, List.take_append_drop]

theorem cuts_total : ∀ (n : Nat) (b : List UInt8), b.length ≤ n → ∃ ls r, Cuts b ls r := by
  intro n
  induction n with
  | zero => intro b hb; exact ⟨[], b, .done b (.inl (by omega))⟩
  | succ n ih =>
    intro b hb
    by_cases hs : stops b
    · exact ⟨[], b, .done b hs⟩
    · obtain ⟨h1, h2, h3⟩ := split_one b hs
      obtain ⟨ls, r, hc⟩ := ih (b.drop (4 + headN b)) (by rw [List.length_drop]; omega)
      refine ⟨(b.drop 4).take (headN b) :: ls, r, ?_⟩
      have := Cuts.more _ _ _ _ h1 hc
      rw [h2] at this
      exact this
theorem cuts_any (b : List UInt8) : ∃ ls r, Cuts b ls r := cuts_total b.length b (Nat.le_refl _)
theorem frame_inj {x y b c : List UInt8} (hx : ok x) (hy : ok y) (h : frame x ++ b = frame y ++ c) : x = y ∧ b = c := by
  have h1 := head_frame x b hx
  rw [h, head_frame y c hy] at h1
  have h2 := body_of x b
  rw [h, ← h1, body_of] at h2
  have h3 := rest_of x b
  rw [h, ← h1, rest_of] at h3
  exact ⟨h2.symm, h3.symm⟩
theorem cuts_one {b : List UInt8} {ls : List (List UInt8)} {r : List UInt8} (h : Cuts b ls r) : ∀ {ls' : List (List UInt8)} {r' : List UInt8}, Cuts b ls' r' → ls = ls' ∧ r = r' := by
  induction h with
  | done r hs =>
    intro ls' r' h'
    generalize hb : r = b at h'
    cases h' with
    | done _ hs' => first | exact ⟨rfl, rfl⟩ | exact ⟨rfl, hb⟩ | exact ⟨rfl, hb.symm⟩ | (subst hb; exact ⟨rfl, rfl⟩)
    | more y c ls' r' hy h' => subst hb; exact absurd hs (not_stops _ _ hy)
  | more x b ls r hx h ih =>
    intro ls' r' h'
    generalize hb : frame x ++ b = d at h'
    cases h' with
    | done r' hs' => subst hb; exact absurd hs' (not_stops _ _ hx)
    | more y c ls' r' hy h' =>
      obtain ⟨rfl, rfl⟩ := frame_inj hx hy hb
      obtain ⟨rfl, rfl⟩ := ih h'
      exact ⟨rfl, rfl⟩

/-- Bodies as a stream. -/
def stream (ls : List (List UInt8)) : List UInt8 := (ls.map frame).flatten
theorem stream_nil : stream [] = [] := rfl
theorem stream_cons (x : List UInt8) (ls : List (List UInt8)) : stream (x :: ls) = frame x ++ stream ls := by simp [stream]
theorem stream_snoc (x : List UInt8) (ls : List (List UInt8)) : stream (ls ++ [x]) = stream ls ++ frame x := by simp [stream]

theorem Cuts.whole {b : List UInt8} {ls : List (List UInt8)} {r : List UInt8} (h : Cuts b ls r) : b = stream ls ++ r ∧ stops r ∧ ∀ x ∈ ls, ok x := by
  induction h with
  | done r hs => exact ⟨rfl, hs, by simp⟩
  | more x b ls r hx h ih =>
    obtain ⟨h1, h2, h3⟩ := ih
    refine ⟨by rw [stream_cons, List.append_assoc, ← h1], h2, ?_⟩
    intro y hy
    rcases List.mem_cons.1 hy with rfl | hy
    · exact hx
    · exact h3 y hy
theorem cuts_stream (ls : List (List UInt8)) (r : List UInt8) (hr : stops r) (h : ∀ x ∈ ls, ok x) : Cuts (stream ls ++ r) ls r := by
  induction ls with
  | nil => exact .done r hr
  | cons x ls ih =>
    rw [stream_cons, List.append_assoc]
    exact .more _ _ _ _ (h x (by simp)) (ih fun y hy => h y (by simp [hy]))
/-- More bytes behind. -/
theorem Cuts.behind {b : List UInt8} {ls : List (List UInt8)} {r : List UInt8} (h : Cuts b ls r) {m : List UInt8} {ms : List (List UInt8)} {s : List UInt8} (hm : Cuts (r ++ m) ms s) : Cuts (b ++ m) (ls ++ ms) s := by
  induction h with
  | done r hs => exact hm
  | more x b ls r hx h ih =>
    rw [List.append_assoc]
    exact .more _ _ _ _ hx (ih hm)
theorem Cuts.count {b : List UInt8} {ls : List (List UInt8)} {r : List UInt8} (h : Cuts b ls r) : ls.length ≤ b.length := by
  induction h with
  | done r hs => simp
  | more x b ls r hx h ih => rw [List.length_cons, List.length_append, frame_len]; omega
theorem bad_behind {r : List UInt8} (h : bad r) (m : List UInt8) : bad (r ++ m) := by
  obtain ⟨h1, h2⟩ := h
  have : headN (r ++ m) = headN r := by unfold headN; rw [List.take_append_of_le_length h1]
  exact ⟨by rw [List.length_append]; omega, by rw [this]; exact h2⟩
theorem Cuts.bad_behind {b : List UInt8} {ls : List (List UInt8)} {r : List UInt8} (h : Cuts b ls r) (hb : bad r) (m : List UInt8) : Cuts (b ++ m) ls (r ++ m) := by
  have := h.behind (Cuts.done (r ++ m) (.inr (.inl (Go.Proofs.Ytnffhhmfclcmjaa.bad_behind hb m))))
  rw [List.append_nil] at this
  exact this
end Go.Proofs.Ytnffhhmfclcmjaa
