/-
  Plain laws of layer 6: requests and answers as bytes: put is got, got was put, cut short is too short, a byte more is one too many. Conditions: those that each states.
-/
import Derived.Test.YtlijagbklopipaaDoorProP
namespace Go.Proofs.YtlijagbklopipaaDoor
set_option linter.unusedVariables false

/-- A request; an answer has its error and its wait besides. -/
structure RQ where
  kind : Int
  ver : Int
  id : Int
  who : List UInt8
  ints : List Int
  texts : List (List UInt8)
  blob : List UInt8
structure RS where
  kind : Int
  ver : Int
  id : Int
  er : Int
  wait : Int
  ints : List Int
  texts : List (List UInt8)
  blob : List UInt8
def zeroQ : RQ := ⟨0, 0, 0, [], [], [], []⟩
def zeroS : RS := ⟨0, 0, 0, 0, 0, [], [], []⟩

def shI (k : Int) : Nat := [0, 0, 2, 4, 5, 3, 5, 0, 1, 1, 0, 4, 2].getD k.toNat 0
def shT (k : Int) : Nat := [0, 1, 1, 2, 3, 1, 1, 3, 2, 2, 2, 3, 2].getD k.toNat 0
def shM (k : Int) : Nat := if k = 7 then 12 else 0
def shB (k : Int) : Nat := if k = 2 then 2048 else 0
theorem sh_small : ∀ k : Fin 13, shI k ≤ 5 ∧ shT k ≤ 3 := by decide +kernel

/-- The error of a kind and a version. -/
def knownE (k v : Int) : Int := if k < 1 ∨ 12 < k then 60 else if v < 0 ∨ 2 < v then 61 else 0
theorem known_ok {k v : Int} (h : knownE k v = 0) : 1 ≤ k ∧ k ≤ 12 ∧ 0 ≤ v ∧ v ≤ 2 := by
  unfold knownE at h
  split at h
  · omega
  · split at h <;> omega

def mayQ (r : RQ) : Prop :=
  (0 ≤ r.id ∧ r.id ≤ 1099511627776) ∧ (r.who.length ≤ 64 ∧ (r.ver < 2 → r.who = [])) ∧ (r.ints.length = shI r.kind ∧ ∀ n ∈ r.ints, -1 ≤ n ∧ n ≤ 1099511627776) ∧
    (shT r.kind ≤ r.texts.length ∧ r.texts.length ≤ shT r.kind + shM r.kind ∧ ∀ t ∈ r.texts, t.length ≤ 64) ∧ r.blob.length ≤ shB r.kind
instance (r : RQ) : Decidable (mayQ r) := by unfold mayQ; infer_instance
def mayS (r : RS) : Prop :=
  (0 ≤ r.id ∧ r.id ≤ 1099511627776) ∧ ((0 ≤ r.wait ∧ r.wait ≤ 1099511627776) ∧ (r.ver < 1 → r.wait = 0)) ∧ (0 ≤ r.er ∧ r.er ≤ 999) ∧
    (r.ints.length ≤ 64 ∧ ∀ n ∈ r.ints, -1099511627776 ≤ n ∧ n ≤ 1099511627776) ∧ (r.texts.length ≤ 16 ∧ ∀ t ∈ r.texts, t.length ≤ 64) ∧ r.blob.length ≤ 4096
instance (r : RS) : Decidable (mayS r) := by unfold mayS; infer_instance

def chkQ (r : RQ) : Int := if knownE r.kind r.ver ≠ 0 then knownE r.kind r.ver else if mayQ r then 0 else 1
def chkS (r : RS) : Int := if knownE r.kind r.ver ≠ 0 then knownE r.kind r.ver else if mayS r then 0 else 1
theorem chkQ_ok {r : RQ} : chkQ r = 0 ↔ knownE r.kind r.ver = 0 ∧ mayQ r := by
  unfold chkQ
  split
  · rename_i h; exact ⟨fun h' => absurd h' h, fun h' => absurd h'.1 h⟩
  · rename_i h
    split
    · rename_i h2; exact ⟨fun _ => ⟨by omega, h2⟩, fun _ => rfl⟩
    · rename_i h2; exact ⟨fun h' => by omega, fun h' => absurd h'.2 h2⟩
theorem chkS_ok {r : RS} : chkS r = 0 ↔ knownE r.kind r.ver = 0 ∧ mayS r := by
  unfold chkS
  split
  · rename_i h; exact ⟨fun h' => absurd h' h, fun h' => absurd h'.1 h⟩
  · rename_i h
    split
    · rename_i h2; exact ⟨fun _ => ⟨by omega, h2⟩, fun _ => rfl⟩
    · rename_i h2; exact ⟨fun h' => by omega, fun h' => absurd h'.2 h2⟩

def encI (n : Int) : List UInt8 := enc (zig n)
def bodyQ (r : RQ) : List UInt8 :=
  encI r.id ++ ((if 2 ≤ r.ver then putT r.who else []) ++ ((r.ints.map encI).flatten ++ ((if r.kind = 7 then encI (r.texts.length : Int) else []) ++ ((r.texts.map putT).flatten ++ (if r.kind = 2 then putT r.blob else [])))))
def bodyS (r : RS) : List UInt8 :=
  encI r.id ++ (encI r.er ++ ((if 1 ≤ r.ver then encI r.wait else []) ++ (encI (r.ints.length : Int) ++ ((r.ints.map encI).flatten ++ (encI (r.texts.length : Int) ++ ((r.texts.map putT).flatten ++ putT r.blob))))))
def byteOf (n : Int) : UInt8 := UInt8.ofNat n.toNat
def encQ (r : RQ) : List UInt8 := byteOf r.kind :: byteOf r.ver :: bodyQ r
def encS (r : RS) : List UInt8 := byteOf r.kind :: byteOf r.ver :: bodyS r

/-- How many texts a request has. -/
def rtn (kind : Int) : Rdr Int := fun l s =>
  if kind = 7 then (if (rnum l s).2.2 = 0 ∧ ((rnum l s).1 < 3 ∨ 15 < (rnum l s).1) then ((rnum l s).1, ((rnum l s).2.1, 11)) else rnum l s) else ((shT kind : Int), s)
theorem cod_tn (kind : Int) : Cod (rtn kind) (fun n => if kind = 7 then 3 ≤ n ∧ n ≤ 15 else n = (shT kind : Int)) (fun n => if kind = 7 then encI n else []) := by
  by_cases hk : kind = 7
  · subst hk
    simp only [if_true]
    have hc := cod_num
    refine ⟨?_, ?_, ?_, ?_, ?_⟩
    · rintro l a x ⟨h1, h2⟩ h3
      have := hc.put (l := l) (a := a) (x := x) ⟨by omega, by omega⟩ h3
      simp only [rtn, if_true, this]
      rw [if_neg (by omega)]
      rfl
    · intro l a e he
      have := hc.stick (l := l) (a := a) he
      simp only [rtn, if_true, this]
      rw [if_neg (by rintro ⟨h, _⟩; exact he h)]
      exact this
    · intro l a x b hl h
      simp only [rtn, if_true] at h
      split at h
      · simp at h
      · rename_i h1
        obtain ⟨g1, g2, g3⟩ := hc.only hl h
        rw [h] at h1
        replace h1 : ¬ ((0 : Int) = 0 ∧ (x < 3 ∨ 15 < x)) := h1
        exact ⟨by omega, g2, g3⟩
    · rintro l a c x ⟨h1, h2⟩ h3 h4 h5
      have := hc.short (l := l) (a := a) (c := c) (x := x) ⟨by omega, by omega⟩ h3 h4 h5
      simp only [rtn, if_true]
      rw [if_neg (by rw [this]; omega)]
      exact this
    · intro l a hl
      have := hc.err hl
      simp only [rtn, if_true]
      split
      · simp
      · exact this
  · have := Cod.ret (shT kind : Int)
    have e : rtn kind = ret (shT kind : Int) := by funext l s; simp only [rtn, hk, if_false, ret]
    simp only [hk, if_false, e]
    exact this

abbrev TQ := Int × List UInt8 × List Int × Int × List (List UInt8) × List UInt8
def rbodyQ (k v : Int) : Rdr TQ := bnd rnum fun _ => bnd (opt (decide (2 ≤ v)) rtxt []) fun _ => bnd (rmany rnum (shI k)) fun _ => bnd (rtn k) fun n => bnd (rmany rtxt n.toNat) fun _ => opt (decide (k = 2)) (rblb 2048) []
def rqOf (k v : Int) (z : TQ) : RQ := ⟨k, v, z.1, z.2.1, z.2.2.1, z.2.2.2.2.1, z.2.2.2.2.2⟩
abbrev TS := Int × Int × Int × Int × List Int × Int × List (List UInt8) × List UInt8
def rbodyS (v : Int) : Rdr TS := bnd rnum fun _ => bnd rnum fun _ => bnd (opt (decide (1 ≤ v)) rnum 0) fun _ => bnd (rcnt 64) fun n => bnd (rmany rnum n.toNat) fun _ => bnd (rcnt 16) fun m => bnd (rmany rtxt m.toNat) fun _ => rblb 4096
def rsOf (k v : Int) (z : TS) : RS := ⟨k, v, z.1, z.2.1, z.2.2.1, z.2.2.2.2.1, z.2.2.2.2.2.2.1, z.2.2.2.2.2.2.2⟩

theorem cod_bodyQ (k v : Int) : Cod (rbodyQ k v)
    (fun z => I64 z.1 ∧ (if decide (2 ≤ v) = true then z.2.1.length ≤ 64 else z.2.1 = []) ∧ (z.2.2.1.length = shI k ∧ ∀ x ∈ z.2.2.1, I64 x) ∧ (if k = 7 then 3 ≤ z.2.2.2.1 ∧ z.2.2.2.1 ≤ 15 else z.2.2.2.1 = (shT k : Int)) ∧
      (z.2.2.2.2.1.length = z.2.2.2.1.toNat ∧ ∀ x ∈ z.2.2.2.2.1, x.length ≤ 64) ∧ (if decide (k = 2) = true then (z.2.2.2.2.2.length : Int) ≤ 2048 else z.2.2.2.2.2 = []))
    (fun z => enc (zig z.1) ++ ((if decide (2 ≤ v) = true then putT z.2.1 else []) ++ ((z.2.2.1.map fun n => enc (zig n)).flatten ++ ((if k = 7 then encI z.2.2.2.1 else []) ++ ((z.2.2.2.2.1.map putT).flatten ++ (if decide (k = 2) = true then putT z.2.2.2.2.2 else [])))))) := by
  have := Cod.bnd cod_num fun _ => Cod.bnd (Cod.opt (decide (2 ≤ v)) [] cod_txt) fun _ => Cod.bnd (cod_many cod_num (shI k)) fun _ => Cod.bnd (cod_tn k) fun n => Cod.bnd (cod_many cod_txt n.toNat) fun _ => Cod.opt (decide (k = 2)) [] (cod_blb (most := 2048) (by omega))
  exact this
theorem cod_bodyS (v : Int) : Cod (rbodyS v)
    (fun z => I64 z.1 ∧ I64 z.2.1 ∧ (if decide (1 ≤ v) = true then I64 z.2.2.1 else z.2.2.1 = 0) ∧ (0 ≤ z.2.2.2.1 ∧ z.2.2.2.1 ≤ 64) ∧ (z.2.2.2.2.1.length = z.2.2.2.1.toNat ∧ ∀ x ∈ z.2.2.2.2.1, I64 x) ∧ (0 ≤ z.2.2.2.2.2.1 ∧ z.2.2.2.2.2.1 ≤ 16) ∧
      (z.2.2.2.2.2.2.1.length = z.2.2.2.2.2.1.toNat ∧ ∀ x ∈ z.2.2.2.2.2.2.1, x.length ≤ 64) ∧ (z.2.2.2.2.2.2.2.length : Int) ≤ 4096)
    (fun z => enc (zig z.1) ++ (enc (zig z.2.1) ++ ((if decide (1 ≤ v) = true then enc (zig z.2.2.1) else []) ++ (enc (zig z.2.2.2.1) ++ ((z.2.2.2.2.1.map fun n => enc (zig n)).flatten ++ (enc (zig z.2.2.2.2.2.1) ++ ((z.2.2.2.2.2.2.1.map putT).flatten ++ putT z.2.2.2.2.2.2.2))))))) := by
  have := Cod.bnd cod_num fun _ => Cod.bnd cod_num fun _ => Cod.bnd (Cod.opt (decide (1 ≤ v)) 0 cod_num) fun _ => Cod.bnd (cod_cnt (most := 64) (by omega)) fun n => Cod.bnd (cod_many cod_num n.toNat) fun _ => Cod.bnd (cod_cnt (most := 16) (by omega)) fun m => Cod.bnd (cod_many cod_txt m.toNat) fun _ => cod_blb (most := 4096) (by omega)
  exact this

/-- What a reader answers in the end: its error, or one of too much, or of what may not be. -/
def endE (l : List UInt8) (s : St) (c : Int) : Int := if s.2 ≠ 0 then s.2 else if s.1 < (l.length : Int) then 11 else if c ≠ 0 then 1 else 0
def kindOf (l : List UInt8) : Int := ((l.getD 0 0).toNat : Int)
def verOf (l : List UInt8) : Int := ((l.getD 1 0).toNat : Int)
def decG {α β : Type} (R : Int → Int → Rdr α) (mk : Int → Int → α → β) (chk : β → Int) (zero : β) (l : List UInt8) : β × Int :=
  if l.length < 2 then (zero, 10) else if knownE (kindOf l) (verOf l) ≠ 0 then (zero, knownE (kindOf l) (verOf l))
  else if endE l (R (kindOf l) (verOf l) l (2, 0)).2 (chk (mk (kindOf l) (verOf l) (R (kindOf l) (verOf l) l (2, 0)).1)) ≠ 0 then
    (zero, endE l (R (kindOf l) (verOf l) l (2, 0)).2 (chk (mk (kindOf l) (verOf l) (R (kindOf l) (verOf l) l (2, 0)).1)))
  else (mk (kindOf l) (verOf l) (R (kindOf l) (verOf l) l (2, 0)).1, 0)
def decQ (l : List UInt8) : RQ × Int := decG rbodyQ rqOf chkQ zeroQ l
def decS (l : List UInt8) : RS × Int := decG (fun _ v => rbodyS v) rsOf chkS zeroS l

theorem byteOf_back {n : Int} (h1 : 0 ≤ n) (h2 : n ≤ 255) : ((byteOf n).toNat : Int) = n := by
  unfold byteOf; rw [UInt8.toNat_ofNat']; omega
theorem kindOf_enc {n m : Int} {b : List UInt8} (h1 : 0 ≤ n) (h2 : n ≤ 255) : kindOf (byteOf n :: byteOf m :: b) = n := byteOf_back h1 h2
theorem verOf_enc {n m : Int} {b : List UInt8} (h1 : 0 ≤ m) (h2 : m ≤ 255) : verOf (byteOf n :: byteOf m :: b) = m := byteOf_back h1 h2

def zOf (r : RQ) : TQ := (r.id, r.who, r.ints, (r.texts.length : Int), r.texts, r.blob)
theorem zOf_back (r : RQ) : rqOf r.kind r.ver (zOf r) = r := rfl
def yOf (r : RS) : TS := (r.id, r.er, r.wait, (r.ints.length : Int), r.ints, (r.texts.length : Int), r.texts, r.blob)
theorem yOf_back (r : RS) : rsOf r.kind r.ver (yOf r) = r := rfl


section
variable {α β : Type} {R : Int → Int → Rdr α} {mk : Int → Int → α → β} {chk : β → Int} {zero : β} {V : Int → Int → α → Prop} {P : Int → Int → α → List UInt8}

theorem decG_put (hc : ∀ k v, Cod (R k v) (V k v) (P k v)) {k v : Int} {z : α} (hk : knownE k v = 0) (hv : V k v z) (h0 : chk (mk k v z) = 0) :
    decG R mk chk zero (byteOf k :: byteOf v :: P k v z) = (mk k v z, 0) := by
  obtain ⟨g1, g2, g3, g4⟩ := known_ok hk
  have hat : At (byteOf k :: byteOf v :: P k v z) 2 (P k v z) := ⟨[], by simp, by simp⟩
  have hp := (hc k v).put hv hat
  rw [show ((2 : Nat) : Int) = 2 from rfl] at hp
  unfold decG
  rw [if_neg (by simp), kindOf_enc (by omega) (by omega), verOf_enc (by omega) (by omega), if_neg (by omega), hp]
  have he : endE (byteOf k :: byteOf v :: P k v z) (((2 + (P k v z).length : Nat) : Int), 0) (chk (mk k v z)) = 0 := by
    unfold endE
    rw [if_neg (by simp), if_neg (by simp only [List.length_cons]; omega), if_neg (by omega)]
  simp only [he]
  simp

theorem decG_long (hc : ∀ k v, Cod (R k v) (V k v) (P k v)) {k v : Int} {z : α} (hk : knownE k v = 0) (hv : V k v z) (y : UInt8) :
    decG R mk chk zero (byteOf k :: byteOf v :: P k v z ++ [y]) = (zero, 11) := by
  obtain ⟨g1, g2, g3, g4⟩ := known_ok hk
  have hat : At (byteOf k :: byteOf v :: (P k v z ++ [y])) 2 (P k v z) := ⟨[y], by simp, by simp⟩
  have hp := (hc k v).put hv hat
  rw [show ((2 : Nat) : Int) = 2 from rfl] at hp
  unfold decG
  simp only [List.cons_append]
  rw [if_neg (by simp), kindOf_enc (by omega) (by omega), verOf_enc (by omega) (by omega), if_neg (by omega), hp]
  have he : endE (byteOf k :: byteOf v :: (P k v z ++ [y])) (((2 + (P k v z).length : Nat) : Int), 0) (chk (mk k v z)) = 11 := by
    unfold endE
    rw [if_neg (by simp), if_pos (by simp only [List.length_cons, List.length_append, List.length_nil]; omega)]
  simp only [he]
  simp

theorem decG_short (hc : ∀ k v, Cod (R k v) (V k v) (P k v)) {k v : Int} {z : α} (hk : knownE k v = 0) (hv : V k v z) {c : Nat} (hl : c < (P k v z).length + 2) :
    decG R mk chk zero ((byteOf k :: byteOf v :: P k v z).take c) = (zero, 10) := by
  obtain ⟨g1, g2, g3, g4⟩ := known_ok hk
  by_cases h2 : c < 2
  · unfold decG
    rw [if_pos (by rw [List.length_take]; omega)]
  obtain ⟨d, rfl⟩ : ∃ d, c = d + 2 := ⟨c - 2, by omega⟩
  have hat : At (byteOf k :: byteOf v :: P k v z) 2 (P k v z) := ⟨[], by simp, by simp⟩
  have hp := (hc k v).short (c := d + 2) hv hat (by omega) (by omega)
  rw [show ((2 : Nat) : Int) = 2 from rfl] at hp
  have ht : (byteOf k :: byteOf v :: P k v z).take (d + 2) = byteOf k :: byteOf v :: (P k v z).take d := rfl
  rw [ht] at hp ⊢
  unfold decG
  rw [if_neg (by simp), kindOf_enc (by omega) (by omega), verOf_enc (by omega) (by omega), if_neg (by omega)]
  have he : ∀ x, endE (byteOf k :: byteOf v :: (P k v z).take d) (R k v (byteOf k :: byteOf v :: (P k v z).take d) (2, 0)).2 x = 10 := by
    intro x
    unfold endE
    rw [if_pos (by rw [hp]; omega), hp]
  simp only [he]
  simp

theorem list_two {l : List UInt8} (h : ¬ l.length < 2) : l = byteOf (kindOf l) :: byteOf (verOf l) :: l.drop 2 := by
  match l, h with
  | [], h => simp at h
  | [x], h => simp at h
  | x :: y :: r, _ => simp [kindOf, verOf, byteOf]

/-- What is told of bytes: nothing but an error; or what was put so. -/
theorem decG_only (hc : ∀ k v, Cod (R k v) (V k v) (P k v)) {l : List UInt8} {x : β} {e : Int} (h : decG R mk chk zero l = (x, e)) :
    (e ≠ 0 ∧ x = zero) ∨ (e = 0 ∧ ¬ l.length < 2 ∧ knownE (kindOf l) (verOf l) = 0 ∧ ∃ z, x = mk (kindOf l) (verOf l) z ∧ V (kindOf l) (verOf l) z ∧ chk (mk (kindOf l) (verOf l) z) = 0 ∧ l = byteOf (kindOf l) :: byteOf (verOf l) :: P (kindOf l) (verOf l) z) := by
  unfold decG at h
  split at h
  · simp only [Prod.mk.injEq] at h
    exact .inl ⟨by omega, h.1.symm⟩
  · rename_i h2
    split at h
    · rename_i hk
      simp only [Prod.mk.injEq] at h
      exact .inl ⟨by rw [← h.2]; exact hk, h.1.symm⟩
    · rename_i hk
      split at h
      · rename_i he
        simp only [Prod.mk.injEq] at h
        exact .inl ⟨by rw [← h.2]; exact he, h.1.symm⟩
      · rename_i he
        simp only [Prod.mk.injEq] at h
        obtain ⟨rfl, rfl⟩ := h
        right
        obtain ⟨z, b, e, hz⟩ : ∃ z b e, R (kindOf l) (verOf l) l (2, 0) = (z, (b, e)) := ⟨_, _, _, rfl⟩
        rw [hz] at he ⊢
        have he' : endE l (b, e) (chk (mk (kindOf l) (verOf l) z)) = 0 := Decidable.not_not.1 he
        unfold endE at he'
        simp only at he'
        split at he'
        · omega
        · rename_i h3
          split at he'
          · omega
          · rename_i h4
            split at he'
            · omega
            · rename_i h5
              have h3' : e = 0 := by omega
              subst h3'
              obtain ⟨g1, g2, g3⟩ := (hc _ _).only (a := 2) (by omega) hz
              have hf := g2.fits
              refine ⟨rfl, h2, by omega, z, rfl, g1, by omega, ?_⟩
              obtain ⟨v, g4, g5⟩ := g2
              have hv : v = [] := by
                have := congrArg List.length g4
                simp only [List.length_drop, List.length_append] at this
                exact List.eq_nil_of_length_eq_zero (by omega)
              rw [hv, List.append_nil] at g4
              have := list_two h2
              rw [g4] at this
              exact this

theorem decG_err (hc : ∀ k v, Cod (R k v) (V k v) (P k v)) {l : List UInt8} (h2 : ¬ l.length < 2) (hk : knownE (kindOf l) (verOf l) = 0) : 0 ≤ (decG R mk chk zero l).2 ∧ (decG R mk chk zero l).2 ≤ 11 := by
  unfold decG
  rw [if_neg h2, if_neg (by omega)]
  have h3 := (hc (kindOf l) (verOf l)).err (l := l) (a := 2) (by omega)
  rw [show ((2 : Nat) : Int) = 2 from rfl] at h3
  have h4 : ∀ x, 0 ≤ endE l (R (kindOf l) (verOf l) l (2, 0)).2 x ∧ endE l (R (kindOf l) (verOf l) l (2, 0)).2 x ≤ 11 := by
    intro x
    unfold endE
    split
    · exact h3
    · split
      · omega
      · split <;> omega
  split
  · exact h4 _
  · simp
end

section
variable {r : RQ}
theorem validQ (h : chkQ r = 0) : knownE r.kind r.ver = 0 ∧ (I64 (zOf r).1 ∧ (if decide (2 ≤ r.ver) = true then (zOf r).2.1.length ≤ 64 else (zOf r).2.1 = []) ∧ ((zOf r).2.2.1.length = shI r.kind ∧ ∀ x ∈ (zOf r).2.2.1, I64 x) ∧ (if r.kind = 7 then 3 ≤ (zOf r).2.2.2.1 ∧ (zOf r).2.2.2.1 ≤ 15 else (zOf r).2.2.2.1 = (shT r.kind : Int)) ∧
      ((zOf r).2.2.2.2.1.length = (zOf r).2.2.2.1.toNat ∧ ∀ x ∈ (zOf r).2.2.2.2.1, x.length ≤ 64) ∧ (if decide (r.kind = 2) = true then ((zOf r).2.2.2.2.2.length : Int) ≤ 2048 else (zOf r).2.2.2.2.2 = [])) := by
  obtain ⟨hk, ⟨h1, h2⟩, ⟨h3, h4⟩, ⟨h5, h6⟩, ⟨h7, h8, h9⟩, h10⟩ := chkQ_ok.1 h
  refine ⟨hk, ⟨by simp only [zOf]; omega, by simp only [zOf]; omega⟩, ?_, ⟨h5, fun x hx => ?_⟩, ?_, ⟨by simp [zOf], h9⟩, ?_⟩
  · by_cases hv : 2 ≤ r.ver
    · simp only [hv, decide_true, if_true]; exact h3
    · simp only [hv, decide_false]; exact h4 (by omega)
  · have := h6 x hx
    exact ⟨by omega, by omega⟩
  · by_cases hk : r.kind = 7
    · simp only [hk, if_true]
      rw [hk] at h7 h8
      have e1 : shT 7 = 3 := by decide
      have e2 : shM 7 = 12 := by decide
      simp only [zOf]
      omega
    · simp only [hk, if_false, zOf]
      have e2 : shM r.kind = 0 := if_neg hk
      omega
  · by_cases hk : r.kind = 2
    · have : shB r.kind = 2048 := if_pos hk
      simp only [hk, decide_true, if_true, zOf]
      omega
    · have : shB r.kind = 0 := if_neg hk
      simp only [hk, decide_false, zOf]
      exact List.eq_nil_of_length_eq_zero (by omega)
theorem bodyQ_is (r : RQ) : (enc (zig (zOf r).1) ++ ((if decide (2 ≤ r.ver) = true then putT (zOf r).2.1 else []) ++ (((zOf r).2.2.1.map fun n => enc (zig n)).flatten ++ ((if r.kind = 7 then encI (zOf r).2.2.2.1 else []) ++ (((zOf r).2.2.2.2.1.map putT).flatten ++ (if decide (r.kind = 2) = true then putT (zOf r).2.2.2.2.2 else [])))))) = bodyQ r := by
  simp only [zOf, bodyQ, encI, decide_eq_true_eq]
  rfl

theorem decQ_back (h : chkQ r = 0) : decQ (encQ r) = (r, 0) := by
  obtain ⟨hk, hv⟩ := validQ h
  have := decG_put (mk := rqOf) (chk := chkQ) (zero := zeroQ) cod_bodyQ (z := zOf r) hk hv h
  rw [bodyQ_is] at this
  exact this
theorem decQ_long (h : chkQ r = 0) (y : UInt8) : decQ (encQ r ++ [y]) = (zeroQ, 11) := by
  obtain ⟨hk, hv⟩ := validQ h
  have := decG_long (mk := rqOf) (chk := chkQ) (zero := zeroQ) cod_bodyQ (z := zOf r) hk hv y
  rw [bodyQ_is] at this
  exact this
theorem decQ_short (h : chkQ r = 0) {c : Nat} (hc : c < (encQ r).length) : decQ ((encQ r).take c) = (zeroQ, 10) := by
  obtain ⟨hk, hv⟩ := validQ h
  have := decG_short (mk := rqOf) (chk := chkQ) (zero := zeroQ) cod_bodyQ (z := zOf r) hk hv (c := c)
  rw [bodyQ_is] at this
  exact this hc
theorem decQ_only {l : List UInt8} {x : RQ} {e : Int} (h : decQ l = (x, e)) : (e ≠ 0 ∧ x = zeroQ) ∨ (e = 0 ∧ chkQ x = 0 ∧ encQ x = l) := by
  rcases decG_only cod_bodyQ h with h | ⟨rfl, _, hk, z, rfl, hv, h0, h1⟩
  · exact .inl h
  · refine .inr ⟨rfl, h0, ?_⟩
    obtain ⟨_, _, _, g1, ⟨g2, _⟩, _⟩ := hv
    have e1 : zOf (rqOf (kindOf l) (verOf l) z) = z := by
      simp only [zOf, rqOf]
      obtain ⟨z1, z2, z3, z4, z5, z6⟩ := z
      simp only at g1 g2 ⊢
      have : (z5.length : Int) = z4 := by
        split at g1 <;> omega
      rw [this]
    have h2 := bodyQ_is (rqOf (kindOf l) (verOf l) z)
    rw [e1] at h2
    show byteOf (kindOf l) :: byteOf (verOf l) :: bodyQ (rqOf (kindOf l) (verOf l) z) = l
    rw [← h2]
    exact h1.symm
end

section
variable {r : RS}
theorem validS (h : chkS r = 0) : knownE r.kind r.ver = 0 ∧ (I64 (yOf r).1 ∧ I64 (yOf r).2.1 ∧ (if decide (1 ≤ r.ver) = true then I64 (yOf r).2.2.1 else (yOf r).2.2.1 = 0) ∧ (0 ≤ (yOf r).2.2.2.1 ∧ (yOf r).2.2.2.1 ≤ 64) ∧ ((yOf r).2.2.2.2.1.length = (yOf r).2.2.2.1.toNat ∧ ∀ x ∈ (yOf r).2.2.2.2.1, I64 x) ∧ (0 ≤ (yOf r).2.2.2.2.2.1 ∧ (yOf r).2.2.2.2.2.1 ≤ 16) ∧
      ((yOf r).2.2.2.2.2.2.1.length = (yOf r).2.2.2.2.2.1.toNat ∧ ∀ x ∈ (yOf r).2.2.2.2.2.2.1, x.length ≤ 64) ∧ ((yOf r).2.2.2.2.2.2.2.length : Int) ≤ 4096) := by
  obtain ⟨hk, ⟨h1, h2⟩, ⟨⟨h3, h4⟩, h5⟩, ⟨h6, h7⟩, ⟨h8, h9⟩, ⟨h10, h11⟩, h12⟩ := chkS_ok.1 h
  refine ⟨hk, ⟨by simp only [yOf]; omega, by simp only [yOf]; omega⟩, ⟨by simp only [yOf]; omega, by simp only [yOf]; omega⟩, ?_, ⟨by simp only [yOf]; omega, by simp only [yOf]; omega⟩, ⟨by simp [yOf], fun x hx => ?_⟩, ⟨by simp only [yOf]; omega, by simp only [yOf]; omega⟩, ⟨by simp [yOf], h11⟩, by simp only [yOf]; omega⟩
  · by_cases hv : 1 ≤ r.ver
    · simp only [hv, decide_true, if_true]; exact ⟨by simp only [yOf]; omega, by simp only [yOf]; omega⟩
    · simp only [hv, decide_false]; exact h5 (by omega)
  · have := h9 x hx
    exact ⟨by omega, by omega⟩
theorem bodyS_is (r : RS) : (enc (zig (yOf r).1) ++ (enc (zig (yOf r).2.1) ++ ((if decide (1 ≤ r.ver) = true then enc (zig (yOf r).2.2.1) else []) ++ (enc (zig (yOf r).2.2.2.1) ++ (((yOf r).2.2.2.2.1.map fun n => enc (zig n)).flatten ++ (enc (zig (yOf r).2.2.2.2.2.1) ++ (((yOf r).2.2.2.2.2.2.1.map putT).flatten ++ putT (yOf r).2.2.2.2.2.2.2))))))) = bodyS r := by
  simp only [yOf, bodyS, encI, decide_eq_true_eq]
  rfl
theorem decS_back (h : chkS r = 0) : decS (encS r) = (r, 0) := by
  obtain ⟨hk, hv⟩ := validS h
  have := decG_put (R := fun _ v => rbodyS v) (mk := rsOf) (chk := chkS) (zero := zeroS) (fun _ v => cod_bodyS v) (z := yOf r) hk hv h
  rw [bodyS_is] at this
  exact this
theorem decS_long (h : chkS r = 0) (y : UInt8) : decS (encS r ++ [y]) = (zeroS, 11) := by
  obtain ⟨hk, hv⟩ := validS h
  have := decG_long (R := fun _ v => rbodyS v) (mk := rsOf) (chk := chkS) (zero := zeroS) (fun _ v => cod_bodyS v) (z := yOf r) hk hv y
  rw [bodyS_is] at this
  exact this
theorem decS_short (h : chkS r = 0) {c : Nat} (hc : c < (encS r).length) : decS ((encS r).take c) = (zeroS, 10) := by
  obtain ⟨hk, hv⟩ := validS h
  have := decG_short (R := fun _ v => rbodyS v) (mk := rsOf) (chk := chkS) (zero := zeroS) (fun _ v => cod_bodyS v) (z := yOf r) hk hv (c := c)
  rw [bodyS_is] at this
  exact this hc
theorem decS_only {l : List UInt8} {x : RS} {e : Int} (h : decS l = (x, e)) : (e ≠ 0 ∧ x = zeroS) ∨ (e = 0 ∧ chkS x = 0 ∧ encS x = l) := by
  rcases decG_only (R := fun _ v => rbodyS v) (fun _ v => cod_bodyS v) h with h | ⟨rfl, _, hk, z, rfl, hv, h0, h1⟩
  · exact .inl h
  · refine .inr ⟨rfl, h0, ?_⟩
    obtain ⟨_, _, _, ⟨g1, _⟩, ⟨g2, _⟩, ⟨g3, _⟩, ⟨g4, _⟩, _⟩ := hv
    have e1 : yOf (rsOf (kindOf l) (verOf l) z) = z := by
      simp only [yOf, rsOf]
      obtain ⟨z1, z2, z3, z4, z5, z6, z7, z8⟩ := z
      simp only at g1 g2 g3 g4 ⊢
      have : (z5.length : Int) = z4 := by omega
      have h2 : (z7.length : Int) = z6 := by omega
      rw [this, h2]
    have h2 := bodyS_is (rsOf (kindOf l) (verOf l) z)
    rw [e1] at h2
    show byteOf (kindOf l) :: byteOf (verOf l) :: bodyS (rsOf (kindOf l) (verOf l) z) = l
    rw [← h2]
    exact h1.symm
end
end Go.Proofs.YtlijagbklopipaaDoor
