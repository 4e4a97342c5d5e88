/-
  Plain functions of layer 6: readers that go through bytes and keep their first error, and the laws that what is put is read back, what is read was put, and what is cut short is too short. Conditions: those that each states.
-/
import Derived.Test.YtlijagbklopipaaDoorOctQ
namespace Go.Proofs.YtlijagbklopipaaDoor
set_option linter.unusedVariables false

/-- The piece p stands in l from place a on. -/
def At (l : List UInt8) (a : Nat) (p : List UInt8) : Prop := ∃ v, l.drop a = p ++ v ∧ a ≤ l.length

theorem At.fits {l p : List UInt8} {a : Nat} (h : At l a p) : a + p.length ≤ l.length := by
  obtain ⟨v, h1, h2⟩ := h
  have := congrArg List.length h1
  simp only [List.length_drop, List.length_append] at this
  omega
theorem At.both {l p q : List UInt8} {a : Nat} : At l a (p ++ q) ↔ At l a p ∧ At l (a + p.length) q := by
  constructor
  · rintro ⟨v, h1, h2⟩
    have hf := At.fits ⟨v, h1, h2⟩
    rw [List.length_append] at hf
    refine ⟨⟨q ++ v, by rw [h1, List.append_assoc], h2⟩, ⟨v, ?_, by omega⟩⟩
    rw [← List.drop_drop, h1, List.append_assoc, List.drop_left]
  · rintro ⟨⟨v, h1, h2⟩, ⟨u, h3, h4⟩⟩
    rw [← List.drop_drop, h1, List.drop_left] at h3
    exact ⟨u, by rw [h1, h3, List.append_assoc], h2⟩
theorem At.none (l : List UInt8) {a : Nat} (h : a ≤ l.length) : At l a [] := ⟨l.drop a, rfl, h⟩
theorem At.cut {l p : List UInt8} {a c : Nat} (h : At l a p) (hc : a + p.length ≤ c) : At (l.take c) a p := by
  have hf := h.fits
  obtain ⟨v, h1, h2⟩ := h
  refine ⟨v.take (c - a - p.length), ?_, by rw [List.length_take]; omega⟩
  rw [List.drop_take, h1, List.take_append, List.take_of_length_le (by omega)]
theorem At.short {l p : List UInt8} {a c : Nat} (h : At l a p) (hc : c < a + p.length) : (l.take c).drop a = p.take (c - a) := by
  obtain ⟨v, h1, h2⟩ := h
  rw [List.drop_take, h1, List.take_append_of_le_length (by omega)]
theorem At.take {l p : List UInt8} {a : Nat} (h : At l a p) : (l.drop a).take p.length = p := by
  obtain ⟨v, h1, h2⟩ := h
  rw [h1, List.take_left]
theorem At.of_take {l p : List UInt8} {a n : Nat} (h : p = (l.drop a).take n) (hn : a + n ≤ l.length) : At l a p ∧ p.length = n := by
  subst h
  refine ⟨⟨(l.drop a).drop n, by rw [List.take_append_drop], by omega⟩, ?_⟩
  rw [List.length_take, List.length_drop]; omega

/-- Where a reader is, and its error. -/
abbrev St := Int × Int
abbrev Rdr (α : Type) := List UInt8 → St → α × St

/-- R reads just what P puts, of the values of V. -/
structure Cod {α : Type} (R : Rdr α) (V : α → Prop) (P : α → List UInt8) : Prop where
  put : ∀ {l a x}, V x → At l a (P x) → R l ((a : Int), 0) = (x, (((a + (P x).length : Nat) : Int), 0))
  stick : ∀ {l a e}, e ≠ 0 → (R l (a, e)).2 = (a, e)
  only : ∀ {l} {a : Nat} {x b}, a ≤ l.length → R l ((a : Int), 0) = (x, (b, 0)) → V x ∧ At l a (P x) ∧ b = ((a + (P x).length : Nat) : Int)
  short : ∀ {l} {a c : Nat} {x}, V x → At l a (P x) → a ≤ c → c < a + (P x).length → (R (l.take c) ((a : Int), 0)).2.2 = 10
  err : ∀ {l} {a : Nat}, a ≤ l.length → 0 ≤ (R l ((a : Int), 0)).2.2 ∧ (R l ((a : Int), 0)).2.2 ≤ 11

def bnd {α β : Type} (R : Rdr α) (K : α → Rdr β) : Rdr (α × β) := fun l s => (((R l s).1, (K (R l s).1 l (R l s).2).1), (K (R l s).1 l (R l s).2).2)

theorem Cod.bnd {α β : Type} {R : Rdr α} {V : α → Prop} {P : α → List UInt8} {K : α → Rdr β} {W : α → β → Prop} {Q : α → β → List UInt8} (h : Cod R V P) (k : ∀ x, Cod (K x) (W x) (Q x)) :
    Cod (Go.Proofs.YtlijagbklopipaaDoor.bnd R K) (fun z => V z.1 ∧ W z.1 z.2) (fun z => P z.1 ++ Q z.1 z.2) where
  put := by
    rintro l a ⟨x, y⟩ ⟨h1, h2⟩ h3
    obtain ⟨h4, h5⟩ := At.both.1 h3
    simp only [Go.Proofs.YtlijagbklopipaaDoor.bnd, h.put h1 h4, (k x).put h2 h5, List.length_append, Nat.add_assoc]
  stick := by
    intro l a e he
    simp only [Go.Proofs.YtlijagbklopipaaDoor.bnd, h.stick he, (k _).stick he]
  only := by
    rintro l a ⟨x, y⟩ b hl h1
    obtain ⟨x', a', e', hz⟩ : ∃ x' a' e', R l ((a : Int), 0) = (x', (a', e')) := ⟨_, _, _, rfl⟩
    simp only [Go.Proofs.YtlijagbklopipaaDoor.bnd, hz, Prod.mk.injEq] at h1
    obtain ⟨⟨rfl, h2⟩, h3⟩ := h1
    by_cases he : e' = 0
    · subst he
      obtain ⟨g1, g2, rfl⟩ := h.only hl hz
      have hf := g2.fits
      have h4 : K x' l (((a + (P x').length : Nat) : Int), 0) = (y, (b, 0)) := by rw [← h2, ← h3]
      obtain ⟨g3, g4, rfl⟩ := (k x').only hf h4
      exact ⟨⟨g1, g3⟩, At.both.2 ⟨g2, g4⟩, by simp only [List.length_append, Nat.add_assoc]⟩
    · rw [(k x').stick he] at h3
      exact absurd (congrArg Prod.snd h3) he
  short := by
    rintro l a c ⟨x, y⟩ ⟨h1, h2⟩ h3 hac hc
    replace h3 : At l a (P x ++ Q x y) := h3
    replace hc : c < a + (P x ++ Q x y).length := hc
    replace h1 : V x := h1
    replace h2 : W x y := h2
    obtain ⟨h4, h5⟩ := At.both.1 h3
    simp only [List.length_append] at hc
    by_cases h6 : a + (P x).length ≤ c
    · have := h.put h1 (h4.cut h6)
      simp only [Go.Proofs.YtlijagbklopipaaDoor.bnd, this]
      exact (k x).short h2 h5 h6 (by omega)
    · have h7 := h.short h1 h4 hac (by omega)
      obtain ⟨x', a', e', hz⟩ : ∃ x' a' e', R (l.take c) ((a : Int), 0) = (x', (a', e')) := ⟨_, _, _, rfl⟩
      rw [hz] at h7
      simp only at h7
      subst h7
      simp only [Go.Proofs.YtlijagbklopipaaDoor.bnd, hz, (k x').stick (a := a') (l := l.take c) (e := 10) (by omega)]
  err := by
    intro l a hl
    obtain ⟨x', a', e', hz⟩ : ∃ x' a' e', R l ((a : Int), 0) = (x', (a', e')) := ⟨_, _, _, rfl⟩
    have h1 := h.err hl
    rw [hz] at h1
    simp only at h1
    by_cases he : e' = 0
    · subst he
      obtain ⟨g1, g2, rfl⟩ := h.only hl hz
      simp only [Go.Proofs.YtlijagbklopipaaDoor.bnd, hz]
      exact (k x').err g2.fits
    · simp only [Go.Proofs.YtlijagbklopipaaDoor.bnd, hz, (k x').stick (a := a') (l := l) he]
      exact h1

/-- A reader of a value that is there already. -/
def ret {α : Type} (x : α) : Rdr α := fun _ s => (x, s)
theorem Cod.ret {α : Type} (x : α) : Cod (Go.Proofs.YtlijagbklopipaaDoor.ret x) (fun y => y = x) (fun _ => []) where
  put := by rintro l a y rfl h; rfl
  stick := by intro l a e he; rfl
  only := by
    intro l a y b hl h
    simp only [Go.Proofs.YtlijagbklopipaaDoor.ret, Prod.mk.injEq, and_true] at h
    exact ⟨h.1.symm, At.none l hl, h.2.symm⟩
  short := by intro l a c y h1 h2 h3 h4; simp at h4; omega
  err := by intro l a hl; simp [Go.Proofs.YtlijagbklopipaaDoor.ret]

/-- A reader that is used if c. -/
def opt {α : Type} (c : Bool) (R : Rdr α) (d : α) : Rdr α := if c then R else ret d
theorem Cod.opt {α : Type} {R : Rdr α} {V : α → Prop} {P : α → List UInt8} (c : Bool) (d : α) (h : Cod R V P) : Cod (Go.Proofs.YtlijagbklopipaaDoor.opt c R d) (fun x => if c then V x else x = d) (fun x => if c then P x else []) := by
  cases c
  · simpa [Go.Proofs.YtlijagbklopipaaDoor.opt] using Cod.ret d
  · simpa [Go.Proofs.YtlijagbklopipaaDoor.opt] using h

/-- A number. -/
def rnum : Rdr Int := fun l s => if s.2 ≠ 0 then (0, s) else getV l s.1
def I64 (n : Int) : Prop := -9223372036854775808 ≤ n ∧ n ≤ 9223372036854775807
theorem cod_num : Cod rnum I64 (fun n => enc (zig n)) where
  put := by
    rintro l a x ⟨h1, h2⟩ ⟨v, h3, h4⟩
    have := gv_enc (zig x) 0 0 (a : Int) v (by omega) (by have := zig_lt x h1 h2; omega) (by omega)
    simp only [rnum, getV]
    rw [if_neg (by simp), if_neg (by omega), Int.toNat_natCast, h3, this]
    simp [unz_zig]
  stick := by intro l a e he; simp [rnum, he]
  only := by
    intro l a x b hl h
    simp only [rnum] at h
    rw [if_neg (by simp)] at h
    have hr := getV_range h
    obtain ⟨g1, g2, g3, _, g4⟩ := getV_only h
    rw [Int.toNat_natCast] at g4
    obtain ⟨g5, g6⟩ := At.of_take g4 (by omega)
    exact ⟨hr, g5, by omega⟩
  short := by
    rintro l a c x ⟨h1, h2⟩ h3 hac hc
    have := gv_short (zig x) 0 0 (c - a) (a : Int) (by omega) (by have := zig_lt x h1 h2; omega) (by omega) (by omega)
    simp only [rnum, getV]
    rw [if_neg (by simp), if_neg (by omega), Int.toNat_natCast, h3.short hc, this]
  err := by
    intro l a hl
    simp only [rnum]
    rw [if_neg (by simp)]
    by_cases h : (getV l a).2.2 = 0
    · omega
    · have := getV_err h
      omega

theorem getT_only2 {l s : List UInt8} {a : Nat} {most next : Int} (h : getT l a most = (s, next, 0)) : (s.length : Int) ≤ most ∧ At l a (putT s) ∧ next = ((a + (putT s).length : Nat) : Int) := by
  obtain ⟨g1, g2, g3, g4, g5⟩ := getT_only h
  rw [Int.toNat_natCast] at g5
  obtain ⟨g6, g7⟩ := At.of_take g5 (by omega)
  exact ⟨g4, g6, by omega⟩
theorem getT_error {l s : List UInt8} {a most next e : Int} (ha : 0 ≤ a) (h : getT l a most = (s, next, e)) : e = 0 ∨ e = 10 ∨ e = 11 ∨ e = 2 := by
  unfold getT at h
  simp only at h
  split at h
  · rename_i h0
    have := getV_err h0
    simp only [Prod.mk.injEq] at h
    have h1 : (getV l a).2.2 ≠ 1 := by
      unfold getV
      rw [if_neg (by omega)]
      by_cases h2 : (gv 0 0 a (l.drop a.toNat)).2.2 = 0
      · omega
      · have := gv_err h2
        omega
    omega
  · split at h
    · simp only [Prod.mk.injEq] at h; omega
    · split at h
      · simp only [Prod.mk.injEq] at h; omega
      · split at h
        · simp only [Prod.mk.injEq] at h; omega
        · simp only [Prod.mk.injEq] at h; omega

/-- A text of at most 64 bytes. -/
def rtxt : Rdr (List UInt8) := fun l s => if s.2 ≠ 0 then ([], s) else getT l s.1 64
theorem cod_txt : Cod rtxt (fun s => s.length ≤ 64) putT where
  put := by
    intro l a x h1 h2
    have hf := h2.fits
    unfold putT at h2 hf
    obtain ⟨h3, h4⟩ := At.both.1 h2
    have h5 := cod_num.put (l := l) (a := a) (x := (x.length : Int)) ⟨by omega, by omega⟩ h3
    simp only [rnum] at h5
    rw [if_neg (by simp)] at h5
    simp only [rtxt, getT]
    rw [if_neg (by simp), h5]
    simp only [ne_eq, not_true_eq_false, if_false]
    rw [List.length_append] at hf
    rw [if_neg (by omega), if_neg (by omega), if_neg (by omega), Int.toNat_natCast, Int.toNat_natCast, h4.take]
    simp only [putT, List.length_append, Prod.mk.injEq, true_and, and_true]
    omega
  stick := by intro l a e he; simp [rtxt, he]
  only := by
    intro l a x b hl h
    simp only [rtxt] at h
    rw [if_neg (by simp)] at h
    obtain ⟨g1, g2, g3⟩ := getT_only2 h
    exact ⟨by omega, g2, g3⟩
  short := by
    intro l a c x h1 h2 hac hc
    have hf := h2.fits
    unfold putT at h2 hf hc
    obtain ⟨h3, h4⟩ := At.both.1 h2
    simp only [List.length_append] at hc hf
    simp only [rtxt, getT]
    rw [if_neg (by simp)]
    by_cases h6 : a + (enc (zig x.length)).length ≤ c
    · have h5 := cod_num.put (l := l.take c) (a := a) (x := (x.length : Int)) ⟨by omega, by omega⟩ (h3.cut h6)
      simp only [rnum] at h5
      rw [if_neg (by simp)] at h5
      rw [h5]
      simp only [ne_eq, not_true_eq_false, if_false]
      rw [if_neg (by omega), if_neg (by omega), if_pos (by rw [List.length_take]; omega)]
    · have h5 := cod_num.short (l := l) (a := a) (c := c) (x := (x.length : Int)) ⟨by omega, by omega⟩ h3 hac (by omega)
      simp only [rnum] at h5
      rw [if_neg (by simp)] at h5
      rw [if_pos (by rw [h5]; omega)]
      exact h5
  err := by
    intro l a hl
    simp only [rtxt]
    rw [if_neg (by simp)]
    have := getT_error (l := l) (a := a) (most := 64) (s := (getT l a 64).1) (next := (getT l a 64).2.1) (e := (getT l a 64).2.2) (by omega) rfl
    omega

/-- So many of a kind. -/
def rmany {α : Type} (R : Rdr α) : Nat → Rdr (List α)
  | 0 => ret []
  | k + 1 => fun l s => if s.2 ≠ 0 then ([], s) else ((R l s).1 :: (rmany R k l (R l s).2).1, (rmany R k l (R l s).2).2)
theorem rmany_stuck {α : Type} (R : Rdr α) (k : Nat) (l : List UInt8) {s : St} (h : s.2 ≠ 0) : rmany R k l s = ([], s) := by
  cases k with
  | zero => rfl
  | succ k => simp only [rmany]; rw [if_pos h]
theorem rmany_on {α : Type} (R : Rdr α) (k : Nat) (l : List UInt8) {s : St} (h : s.2 = 0) : rmany R (k + 1) l s = ((R l s).1 :: (rmany R k l (R l s).2).1, (rmany R k l (R l s).2).2) := by
  simp only [rmany]; rw [if_neg (by omega)]
theorem cod_many {α : Type} {R : Rdr α} {V : α → Prop} {P : α → List UInt8} (h : Cod R V P) (k : Nat) : Cod (rmany R k) (fun xs => xs.length = k ∧ ∀ x ∈ xs, V x) (fun xs => (xs.map P).flatten) := by
  induction k with
  | zero =>
    have := Cod.ret (α := List α) []
    refine ⟨?_, ?_, ?_, ?_, ?_⟩
    · rintro l a x ⟨h1, _⟩ h2
      obtain rfl := List.eq_nil_of_length_eq_zero h1
      rfl
    · intro l a e he; rfl
    · intro l a x b hl h1
      simp only [rmany, Go.Proofs.YtlijagbklopipaaDoor.ret, Prod.mk.injEq, and_true] at h1
      obtain ⟨rfl, rfl⟩ := h1
      exact ⟨⟨rfl, by simp⟩, At.none l hl, by simp⟩
    · rintro l a c x ⟨h1, _⟩ h2 h3 h4
      obtain rfl := List.eq_nil_of_length_eq_zero h1
      simp at h4
      omega
    · intro l a hl; simp [rmany, Go.Proofs.YtlijagbklopipaaDoor.ret]
  | succ k ih =>
    have hb := Cod.bnd h (fun _ => ih)
    have he : ∀ l (s : St), s.2 = 0 → rmany R (k + 1) l s = ((bnd R (fun _ => rmany R k) l s).1.1 :: (bnd R (fun _ => rmany R k) l s).1.2, (bnd R (fun _ => rmany R k) l s).2) := fun l s hs => rmany_on R k l hs
    refine ⟨?_, ?_, ?_, ?_, ?_⟩
    · rintro l a x ⟨h1, h2⟩ h3
      cases x with
      | nil => simp at h1
      | cons x xs =>
        rw [he _ _ rfl, hb.put (x := (x, xs)) ⟨h2 x (by simp), by simpa using h1, fun y hy => h2 y (by simp [hy])⟩ (by simpa using h3)]
        simp
    · intro l a e hne
      rw [rmany_stuck R _ l hne]
    · intro l a x b hl h1
      rw [he _ _ rfl] at h1
      simp only [Prod.mk.injEq] at h1
      obtain ⟨rfl, h2⟩ := h1
      obtain ⟨⟨g1, g2, g3⟩, g4, g5⟩ := hb.only hl (x := (bnd R (fun _ => rmany R k) l ((a : Int), 0)).1) (b := b) (Prod.ext rfl h2)
      refine ⟨⟨by simpa using g2, ?_⟩, by simpa using g4, by simpa using g5⟩
      intro y hy
      rcases List.mem_cons.1 hy with rfl | hy
      · exact g1
      · exact g3 y hy
    · rintro l a c x ⟨h1, h2⟩ h3 h4 h5
      cases x with
      | nil => simp at h1
      | cons x xs =>
        rw [he _ _ rfl]
        exact hb.short (x := (x, xs)) ⟨h2 x (by simp), by simpa using h1, fun y hy => h2 y (by simp [hy])⟩ (by simpa using h3) h4 (by simpa using h5)
    · intro l a hl
      rw [he _ _ rfl]
      exact hb.err hl

/-- How many there are, at most so many. -/
def rcnt (most : Int) : Rdr Int := fun l s =>
  if (rnum l s).2.2 ≠ 0 then (0, (rnum l s).2) else if (rnum l s).1 < 0 then (0, ((rnum l s).2.1, 11)) else if most < (rnum l s).1 then (0, ((rnum l s).2.1, 2)) else rnum l s
theorem cod_cnt {most : Int} (hm : most ≤ 9223372036854775807) : Cod (rcnt most) (fun n => 0 ≤ n ∧ n ≤ most) (fun n => enc (zig n)) where
  put := by
    rintro l a x ⟨h1, h2⟩ h3
    have := cod_num.put (l := l) (a := a) (x := x) ⟨by omega, by omega⟩ h3
    simp only [rcnt, this]
    rw [if_neg (by simp), if_neg (by omega), if_neg (by omega)]
  stick := by
    intro l a e he
    have := cod_num.stick (l := l) (a := a) he
    simp only [rcnt, this]
    rw [if_pos he]
  only := by
    intro l a x b hl h
    simp only [rcnt] at h
    split at h
    · rename_i h0
      simp only [Prod.mk.injEq] at h
      rw [h.2] at h0
      simp at h0
    · rename_i h0
      split at h
      · simp at h
      · rename_i h1
        split at h
        · simp at h
        · rename_i h2
          obtain ⟨g1, g2, g3⟩ := cod_num.only hl h
          rw [h] at h1 h2
          replace h1 : ¬ x < 0 := h1
          replace h2 : ¬ most < x := h2
          exact ⟨by omega, g2, g3⟩
  short := by
    rintro l a c x ⟨h1, h2⟩ h3 h4 h5
    have := cod_num.short (l := l) (a := a) (c := c) (x := x) ⟨by omega, by omega⟩ h3 h4 h5
    simp only [rcnt]
    rw [if_pos (by rw [this]; omega)]
    exact this
  err := by
    intro l a hl
    have := cod_num.err hl
    simp only [rcnt]
    split
    · exact this
    · split
      · simp
      · split
        · simp
        · exact this

/-- Bytes, and how many they are ahead, at most so many. -/
def rblb (most : Int) : Rdr (List UInt8) := fun l s =>
  if (rcnt most l s).2.2 ≠ 0 then ([], (rcnt most l s).2) else if (l.length : Int) - (rcnt most l s).2.1 < (rcnt most l s).1 then ([], ((rcnt most l s).2.1, 10))
  else ((l.drop (rcnt most l s).2.1.toNat).take (rcnt most l s).1.toNat, ((rcnt most l s).2.1 + (rcnt most l s).1, 0))
theorem cod_blb {most : Int} (hm : most ≤ 9223372036854775807) : Cod (rblb most) (fun b => (b.length : Int) ≤ most) putT where
  put := by
    intro l a x h1 h2
    have hf := h2.fits
    unfold putT at h2 hf
    obtain ⟨h3, h4⟩ := At.both.1 h2
    have h5 := (cod_cnt hm).put (l := l) (a := a) (x := (x.length : Int)) ⟨by omega, by omega⟩ h3
    simp only [rblb, h5]
    rw [List.length_append] at hf
    rw [if_neg (by simp), if_neg (by omega), Int.toNat_natCast, Int.toNat_natCast, h4.take]
    simp only [putT, List.length_append, Prod.mk.injEq, true_and, and_true]
    omega
  stick := by
    intro l a e he
    have := (cod_cnt hm).stick (l := l) (a := a) he
    simp only [rblb, this]
    rw [if_pos he]
  only := by
    intro l a x b hl h
    obtain ⟨n, t, e, hz⟩ : ∃ n t e, rcnt most l ((a : Int), 0) = (n, (t, e)) := ⟨_, _, _, rfl⟩
    simp only [rblb, hz] at h
    split at h
    · rename_i h0
      simp only [Prod.mk.injEq] at h
      exact absurd h.2.2 h0
    · rename_i h0
      split at h
      · simp at h
      · rename_i h1
        have h0' : e = 0 := by omega
        subst h0'
        obtain ⟨⟨g1, g2⟩, g3, rfl⟩ := (cod_cnt hm).only hl hz
        have hf := g3.fits
        simp only [Prod.mk.injEq, and_true] at h
        rw [Int.toNat_natCast] at h
        obtain ⟨g4, g5⟩ := At.of_take h.1.symm (by omega)
        have e1 : ((x.length : Nat) : Int) = n := by omega
        refine ⟨by omega, ?_, ?_⟩
        · unfold putT
          rw [e1]
          exact At.both.2 ⟨g3, g4⟩
        · unfold putT
          rw [e1, List.length_append]
          omega
  short := by
    intro l a c x h1 h2 hac hc
    have hf := h2.fits
    unfold putT at h2 hf hc
    obtain ⟨h3, h4⟩ := At.both.1 h2
    simp only [List.length_append] at hc hf
    by_cases h6 : a + (enc (zig x.length)).length ≤ c
    · have h5 := (cod_cnt hm).put (l := l.take c) (a := a) (x := (x.length : Int)) ⟨by omega, by omega⟩ (h3.cut h6)
      simp only [rblb, h5]
      rw [if_neg (by simp), if_pos (by rw [List.length_take]; omega)]
    · have h5 := (cod_cnt hm).short (l := l) (a := a) (c := c) (x := (x.length : Int)) ⟨by omega, by omega⟩ h3 hac (by omega)
      simp only [rblb]
      rw [if_pos (by rw [h5]; omega)]
      exact h5
  err := by
    intro l a hl
    have := (cod_cnt hm).err hl
    simp only [rblb]
    split
    · exact this
    · split
      · simp
      · simp
end Go.Proofs.YtlijagbklopipaaDoor
