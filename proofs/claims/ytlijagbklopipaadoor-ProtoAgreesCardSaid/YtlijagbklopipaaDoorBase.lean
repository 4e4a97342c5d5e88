/-
  Bytes in memory, as the walks of this seat speak of them: a slice that can be read as a list of bytes, a slice of the call's own that holds a list of bytes, and the laws of append on these. Conditions: none beyond those that each theorem states.
-/
import Derived.WalkKit
import Derived.WalkLawsBesides
import Derived.WalkSpells
import Derived.Lib.Hide
import Derived.Lib.AppendStr
import Derived.Lib.ConvBytes
import Derived.Lib.SlBytesConst
import Derived.Laws.AppendOwnNone
import Derived.Deep.DeepMust
import Derived.Deep.DeepFit
import Derived.Deep.LoopGhost
import Derived.Deep.Draws
namespace Go.Proofs.YtlijagbklopipaaDoor
open Go.RowKit

/-- A list of bytes as cells. -/
def bcs (l : List UInt8) : List Value := l.map fun x => Value.int .u8 (x.toNat : Int)

theorem bcs_length (l : List UInt8) : (bcs l).length = l.length := by simp [bcs]
theorem bcs_append (l m : List UInt8) : bcs (l ++ m) = bcs l ++ bcs m := by simp [bcs]
theorem bcs_one (l : List UInt8) : ∀ u ∈ bcs l, u.oneCell' = true := by
  intro u hu
  simp only [bcs, List.mem_map] at hu
  obtain ⟨b, _, rfl⟩ := hu
  rfl
theorem bcs_get (l : List UInt8) (j : Nat) (h : j < l.length) : (bcs l)[j]? = some (.int .u8 ((l.getD j 0).toNat : Int)) := by
  simp [bcs, h]

theorem add_plain (b off j : Nat) : (⟨b, off, none⟩ : Addr).add j = ⟨b, off + j, none⟩ := by
  unfold Addr.add; split <;> simp_all

/-- The slice (A, n, c) reads as the bytes l, and lies below block number B. -/
structure Rd (w : World) (B : Nat) (A : Option Addr) (n c : Nat) (l : List UInt8) : Prop where
  len : l.length = n
  cap : n ≤ c
  top : c ≤ 9223372036854775807
  cells : 0 < n → ∃ b off, A = some ⟨b, off, none⟩ ∧ b < B ∧ ∀ j, j < n → w.cell? ⟨b, off + j, none⟩ = some (.int .u8 ((l.getD j 0).toNat : Int))

namespace Rd
variable {w w' : World} {B B' : Nat} {A : Option Addr} {n c : Nat} {l : List UInt8}

theorem part (h : Rd w B A n c l) : (n = 0 ∧ l = []) ∨
    (0 < n ∧ ∃ b off, A = some ⟨b, off, none⟩ ∧ b < B ∧ ∀ j, j < n → w.cell? ⟨b, off + j, none⟩ = some (.int .u8 ((l.getD j 0).toNat : Int))) := by
  rcases Nat.eq_zero_or_pos n with h0 | h0
  · exact .inl ⟨h0, List.eq_nil_of_length_eq_zero (h.len.trans h0)⟩
  · exact .inr ⟨h0, h.cells h0⟩

theorem nil (w : World) (B : Nat) : Rd w B none 0 0 [] := ⟨rfl, Nat.le_refl _, by omega, fun h => absurd h (by omega)⟩

theorem keep (h : Rd w B A n c l) (hk : ∀ p : Addr, p.block < B → w'.cell? p = w.cell? p) : Rd w' B A n c l :=
  ⟨h.len, h.cap, h.top, fun hn => by
    obtain ⟨b, off, e, hb, hc⟩ := h.cells hn
    exact ⟨b, off, e, hb, fun j hj => (hk _ hb).trans (hc j hj)⟩⟩
theorem more (h : Rd w B A n c l) (hB : B ≤ B') : Rd w B' A n c l :=
  ⟨h.len, h.cap, h.top, fun hn => by
    obtain ⟨b, off, e, hb, hc⟩ := h.cells hn
    exact ⟨b, off, e, by omega, hc⟩⟩
theorem below (h : Rd w B A n c l) (hb : Below B w w') : Rd w' B A n c l := h.keep fun _ hp => hb.cell hp
theorem step (h : Rd w B A n c l) (hb : Below w.heap.size w w') (hB : B ≤ w.heap.size) : Rd w' B A n c l := h.below (hb.mono hB)
theorem size (h : Rd w B A n c l) (hb : Below w.heap.size w w') (hB : B ≤ w.heap.size) : Rd w' w'.heap.size A n c l :=
  (h.step hb hB).more (Nat.le_trans hB hb.size)
theorem drew (h : Rd w B A n c l) : Rd w.drew B A n c l := h.below (Below.refl B w).drew
theorem alloc (h : Rd w B A n c l) (hB : B ≤ w.heap.size) (o : Obj) : Rd (w.alloc o) B A n c l :=
  h.below ((Below.refl B w).alloc hB o)

/-- What is left of it behind the first k. -/
theorem cut (h : Rd w B A n c l) {k : Nat} (hk : k ≤ n) : Rd w B (if c = k then A else A.map (·.add k)) (n - k) (c - k) (l.drop k) := by
  refine ⟨by simp [h.len], by have := h.cap; omega, by have := h.top; omega, fun hn => ?_⟩
  obtain ⟨b, off, rfl, hb, hc⟩ := h.cells (by omega)
  have := h.cap
  rw [if_neg (by omega)]
  refine ⟨b, off + k, by simp [add_plain], hb, fun j hj => ?_⟩
  have := hc (k + j) (by omega)
  rw [show off + k + j = off + (k + j) from by omega, this]
  simp [List.getD, List.getElem?_drop]
/-- The first k of it. -/
theorem take (h : Rd w B A n c l) {k : Nat} (hk : k ≤ n) : Rd w B A k c (l.take k) := by
  refine ⟨by simp [h.len]; omega, by have := h.cap; omega, h.top, fun hn => ?_⟩
  obtain ⟨b, off, rfl, hb, hc⟩ := h.cells (by omega)
  refine ⟨b, off, rfl, hb, fun j hj => ?_⟩
  rw [hc j (by omega)]
  simp [List.getD, hj]

/-- The cells behind its address, as the laws of append want them. -/
theorem news (h : Rd w B A n c l) {a : Addr} (ha : A = some a) : ∀ j u, (bcs l)[j]? = some u → w.cell? (a.add j) = some u := by
  intro j u hu
  have hj : j < l.length := by
    rcases Nat.lt_or_ge j l.length with h | h
    · exact h
    · rw [List.getElem?_eq_none (by rw [bcs_length]; exact h)] at hu; cases hu
  obtain ⟨b, off, e, _, hc⟩ := h.cells (by have := h.len; omega)
  have : a = ⟨b, off, none⟩ := by rw [ha] at e; exact Option.some.inj e
  subst this
  rw [add_plain, hc j (by have := h.len; omega), ← bcs_get l j hj, hu]
end Rd

/-- Bytes that have just been laid, as a literal. -/
theorem Rd.lit (w : World) (t : TypeId) (cs : List Value) (l : List UInt8) (h : cs = bcs l) (hl : l.length ≤ 9223372036854775807) : Rd (w.alloc (.cells cs.toArray t)) (w.heap.size + 1) (some ⟨w.heap.size, 0, none⟩) l.length l.length l := by
  subst h
  refine ⟨rfl, Nat.le_refl _, hl, fun _ => ⟨w.heap.size, 0, rfl, by omega, fun j hj => ?_⟩⟩
  rw [cell_of_row _ w.heap.size (0 + j) (bcs l).toArray t (0, 0) (heap_alloc_new w _), ← bcs_get l j hj]
  simp

/-- The slice (A, n, c) lies in memory of the call's own (blocks from B on; e: the number of the type byte), and holds the bytes l. -/
def Ob (e : TypeId) (w : World) (B : Nat) (A : Option Addr) (n c : Nat) (l : List UInt8) : Prop :=
  l.length = n ∧ w.ownsRow B e 1 (.slice A n c) n (bcs l)

namespace Ob
variable {e : TypeId} {w w' : World} {B B' : Nat} {A : Option Addr} {n c : Nat} {l : List UInt8}

theorem nil (e : TypeId) (w : World) (B : Nat) : Ob e w B none 0 0 [] := ⟨rfl, World.ownsRow_nil w B e 1⟩
theorem len (h : Ob e w B A n c l) : l.length = n := h.1
theorem alloc (h : Ob e w B A n c l) (o : Obj) : Ob e (w.alloc o) B A n c l := ⟨h.1, h.2.alloc o⟩
theorem drew (h : Ob e w B A n c l) : Ob e w.drew B A n c l := h
theorem rd (h : Ob e w B A n c l) : Rd w w.heap.size A n c l := by
  rcases h.2.2 with ⟨hv, h0⟩ | ⟨g, cap, cur, hv, hg, hh, hn, hc, hcs, htake⟩
  · injection hv with h1 h2 h3
    subst h1; subst h2; subst h3
    refine ⟨h.1, Nat.le_refl _, by omega, fun hh => absurd hh (by omega)⟩
  · injection hv with h1 h2 h3
    subst h1; subst h3
    refine ⟨h.1, hn, by simpa [maxLen] using hc, fun h0 => ⟨g, 0, rfl, (Array.getElem?_eq_some_iff.1 hh).1, fun j hj => ?_⟩⟩
    have hj' : j < l.length := by have := h.1; omega
    rw [cell_of_row w g (0 + j) cur e (0, 0) hh, ← bcs_get l j hj', ← htake, List.getElem?_take, if_pos (by omega)]
    simp
theorem cap (h : Ob e w B A n c l) : n ≤ c := h.rd.cap
theorem top (h : Ob e w B A n c l) : c ≤ 9223372036854775807 := h.rd.top
theorem kept {row : Option Nat} (h : Ob e w B A n c l) (hg : w.grownBy w' row) (hne : Value.ownBlock (.slice A n c) = none ∨ Value.ownBlock (.slice A n c) ≠ row) : Ob e w' B A n c l := ⟨h.1, h.2.kept hg hne⟩
/-- What is owned stays so over a call that leaves what was there as it was. -/
theorem step (h : Ob e w B A n c l) (hb : Below w.heap.size w w') : Ob e w' B A n c l := by
  refine ⟨h.1, h.2.1, ?_⟩
  rcases h.2.2 with hn | ⟨g, cap, cur, hv, hg, hh, r⟩
  · exact .inl hn
  · exact .inr ⟨g, cap, cur, hv, hg, (hb.block g (Array.getElem?_eq_some_iff.1 hh).1).trans hh, r⟩
theorem less (h : Ob e w B A n c l) (hB : B' ≤ B) : Ob e w B' A n c l := by
  refine ⟨h.1, h.2.1, ?_⟩
  rcases h.2.2 with hn | ⟨g, cap, cur, hv, hg, hh, r⟩
  · exact .inl hn
  · exact .inr ⟨g, cap, cur, hv, by omega, hh, r⟩
end Ob

theorem Rd.setCell {w : World} {B : Nat} {A : Option Addr} {n c : Nat} {l : List UInt8} (h : Rd w B A n c l) {p : Addr} (hp : B ≤ p.block) (u : Value) : Rd (w.setCell p u) B A n c l :=
  h.below ((Below.refl B w).setCell hp u)

/-- A world behind a new block, and behind a call that leaves what is there as it was. -/
theorem bput {w a : World} (h : Below w.heap.size w a) (o : Obj) : Below w.heap.size w (a.alloc o) := h.alloc h.size o
theorem bthen {w a b : World} (h : Below w.heap.size w a) (k : Below a.heap.size a b) : Below w.heap.size w b := h.trans (k.mono h.size)
theorem bset {w a : World} (h : Below w.heap.size w a) {p : Addr} (hp : w.heap.size ≤ p.block) (u : Value) : Below w.heap.size w (a.setCell p u) := h.setCell hp u

namespace Ob
variable {e : TypeId} {w w' : World} {B B' : Nat} {A : Option Addr} {n c : Nat} {l : List UInt8}
/-- Where it lies, if there is anything. -/
theorem spot (h : Ob e w B A n c l) (hn : 0 < n) : ∃ g, A = some ⟨g, 0, none⟩ ∧ B ≤ g ∧ g < w.heap.size := by
  rcases h.2.2 with ⟨hv, h0⟩ | ⟨g, cap, cur, hv, hg, hh, _⟩
  · omega
  · injection hv with h1 h2 h3
    exact ⟨g, h1, hg, (Array.getElem?_eq_some_iff.1 hh).1⟩
theorem cell {g : Nat} (h : Ob e w B (some ⟨g, 0, none⟩) n c l) (j : Nat) (hj : j < n) : w.cell? ⟨g, j, none⟩ = some (.int .u8 ((l.getD j 0).toNat : Int)) := by
  rw [h.2.cellAt j (by omega), bcs_get l j (by have := h.1; omega)]
theorem free {g : Nat} (h : Ob e w B (some ⟨g, 0, none⟩) n c l) (j : Nat) : w.frozen? ⟨g, j, none⟩ = false := h.2.frozenAt j
theorem put {g : Nat} (h : Ob e w B (some ⟨g, 0, none⟩) n c l) (j : Nat) (y : UInt8) : Ob e (w.setCell ⟨g, j, none⟩ (.int .u8 (y.toNat : Int))) B (some ⟨g, 0, none⟩) n c (l.set j y) := by
  refine ⟨by simpa using h.1, ?_⟩
  have := (h.2.stored j (.int .u8 (y.toNat : Int))).1
  have e : (bcs l).set j (.int .u8 (y.toNat : Int)) = bcs (l.set j y) := by simp [bcs, List.map_set]
  rw [e] at this
  exact this
end Ob

theorem Ob.lit {e : TypeId} (w : World) {B : Nat} (hB : B ≤ w.heap.size) (cs : List Value) (l : List UInt8) (h : cs = bcs l) (hl : l.length ≤ 9223372036854775807) : Ob e (w.alloc (.cells cs.toArray e)) B (some ⟨w.heap.size, 0, none⟩) l.length l.length l := by
  subst h
  refine ⟨rfl, by rw [bcs_length]; omega, .inr ⟨w.heap.size, l.length, (bcs l).toArray, rfl, hB, heap_alloc_new w _, Nat.le_refl _, by simpa [maxLen] using hl, by simp [bcs_length], ?_⟩⟩
  have := bcs_length l
  simp [List.take_of_length_le, bcs_length]

theorem Ob.made {e : TypeId} (w : World) {B : Nat} (hB : B ≤ w.heap.size) : Ob e (w.alloc (.cells #[] e)) B (some ⟨w.heap.size, 0, none⟩) 0 0 [] :=
  ⟨rfl, World.ownsRow_made w #[] 0 hB (by simp [maxLen]) (by simp)⟩
theorem bdrewN {B : Nat} {w a : World} (h : Below B w a) (n : Nat) : Below B w (a.drewN n) := ⟨h.os, h.tape, h.output, h.size, h.block⟩

/-- The type byte's row of the table. -/
def ByteInfo (P : Program) (e : TypeId) : Prop := (P.info? e).map (fun i => (i.zero, i.size, i.bytes)) = some (some (.int .u8 0), 1, 1)

section
variable {P : Program} {w : World}

/-- append of bytes that can be read, onto bytes of the call's own. -/
theorem run_app {t ty e : TypeId} (ht : P.underlying t = some (.slice e)) (he : ByteInfo P e) {B : Nat} {A : Option Addr} {n c : Nat} {l : List UInt8} (hown : Ob e w B A n c l)
    {B2 : Nat} {A2 : Option Addr} {m c2 : Nat} {l2 : List UInt8} (hr : Rd w B2 A2 m c2 l2) (hbytes : n + m ≤ 140737488355328) (hB : B ≤ w.heap.size) :
    ∃ A' c' w', (Builtin.append_ #[t, t] ty #[.slice A n c, .slice A2 m c2]).run P w = .ok (.slice A' (n + m) c') w' ∧ Ob e w' B A' (n + m) c' (l ++ l2) ∧ w.grownBy w' (Value.ownBlock (.slice A n c)) := by
  obtain ⟨i, hi, hz, hs, hb⟩ := info_parts he
  have fin : ∀ v' w', w'.ownsRow B e 1 v' (n + m) (bcs l ++ bcs l2) → ∃ A' c', v' = .slice A' (n + m) c' ∧ Ob e w' B A' (n + m) c' (l ++ l2) := by
    intro v' w' h
    have hl : (l ++ l2).length = n + m := by simp [hown.1, hr.len]
    rcases h.2 with ⟨hv, h0⟩ | ⟨g, cap, cur, hv, r⟩
    · refine ⟨none, 0, by rw [hv, h0], hl, ?_⟩
      rw [bcs_append]
      have hv' : v' = .slice none (n + m) 0 := by rw [hv, h0]
      rw [← hv']; exact h
    · refine ⟨_, cap, hv, hl, ?_⟩
      rw [bcs_append, ← hv]; exact h
  rcases A2 with _ | ad
  · have hm : m = 0 := by
      rcases Nat.eq_zero_or_pos m with h0 | h0
      · exact h0
      · obtain ⟨_, _, h, _⟩ := hr.cells h0
        cases h
    subst hm
    have hn : l2 = [] := List.eq_nil_of_length_eq_zero hr.len
    subst hn
    refine ⟨A, c, w, ?_, by simpa using hown, World.grownBy.refl w _⟩
    rcases hown.2.2 with ⟨hv, h0⟩ | ⟨g, cap, cur, hv, _, _, hnc, _⟩
    · injection hv with h1 h2 h3
      subst h1; subst h2; subst h3
      simp [Builtin.append_, run_underlying ht, sizeOf, typeInfo, hi, Builtin.lenOf, Builtin.firstCells]
    · injection hv with h1 h2 h3
      subst h1; subst h3
      simp [Builtin.append_, run_underlying ht, sizeOf, typeInfo, hi, Builtin.lenOf, Builtin.firstCells, hnc, storeCells]
  · obtain ⟨v', w', hrun, h2, h3, _⟩ := run_append_own (P := P) w B t ty e i (.int .u8 0) 1 1 ht hi hz hs hb rfl (by omega) (.slice A n c) n (bcs l) hown.2 ad m c2 (bcs l2)
      (by rw [bcs_length, hr.len]; omega) (hr.news rfl) (bcs_one l2) (by simp only [maxLen]; omega) (by omega) hB
    obtain ⟨A', c', rfl, ho⟩ := fin v' w' h2
    exact ⟨A', c', w', hrun, ho, h3⟩

theorem below_of_own {e : TypeId} {B : Nat} {A : Option Addr} {n c : Nat} {l : List UInt8} {w' : World} (hown : Ob e w B A n c l) (hB : B ≤ w.heap.size) (hg : w.grownBy w' (Value.ownBlock (.slice A n c))) : Below B w w' :=
  (Below.refl B w).grown hg hB fun k hk => (hown.2.lt k hk).1

theorem wpList_app {ops : Array Oper} {rest : List Oper} {o : Oper} {a : Act} {Q : Exit → Act → World → Prop} (hgd : o.guard = none) (s x : Operand) {t e : TypeId}
    (ho : o.op = .call { callee := .builtin .append, args := #[s, x], argTypes := #[t, t] }) (ht : P.underlying t = some (.slice e)) (he : ByteInfo P e)
    {B : Nat} {A : Option Addr} {n c : Nat} {l : List UInt8} (hs : a.eval s = .slice A n c) (hown : Ob e w B A n c l)
    {B2 : Nat} {A2 : Option Addr} {m c2 : Nat} {l2 : List UInt8} (hx : a.eval x = .slice A2 m c2) (hr : Rd w B2 A2 m c2 l2) (hbytes : n + m ≤ 140737488355328) (hB : B ≤ w.heap.size)
    (h : ∀ A' c' w', Ob e w' B A' (n + m) c' (l ++ l2) → Below B w w' → wpList P ops Q rest (a.put o.dst (.slice A' (n + m) c')) w') : wpList P ops Q (o :: rest) a w := by
  refine wpList_plain hgd fun K hK => ?_
  obtain ⟨A', c', w', hr', h2, h3⟩ := run_app (P := P) (ty := o.type) ht he hown hr hbytes hB
  unfold Oper.wp execOp
  simp only [ho, resolve, invoke, builtin, Sem.run_bind, Sem.run_pure, Result.andThen_ok, List.map_toArray, List.map_cons, List.map_nil, hs, hx, hr']
  exact hK _ _ (h A' c' w' h2 (below_of_own hown hB h3))

/-- append of one byte that has just been laid in a block of its own. -/
theorem wpList_app1 {ops : Array Oper} {rest : List Oper} {o : Oper} {a : Act} {Q : Exit → Act → World → Prop} (hgd : o.guard = none) (s x : Operand) {t e : TypeId}
    (ho : o.op = .call { callee := .builtin .append, args := #[s, x], argTypes := #[t, t] }) (ht : P.underlying t = some (.slice e)) (he : ByteInfo P e)
    {B : Nat} {A : Option Addr} {n c : Nat} {l : List UInt8} (hs : a.eval s = .slice A n c) (hown : Ob e w B A n c l) {T : TypeId} {z : Int}
    (hx : a.eval x = .slice (some ⟨w.heap.size, 0, none⟩) 1 1) (y : UInt8) (hy : z = (y.toNat : Int)) (hbytes : n + 1 ≤ 140737488355328) (hB : B ≤ w.heap.size)
    (h : ∀ A' c' w', Ob e w' B A' (n + 1) c' (l ++ [y]) → Below B w w' → wpList P ops Q rest (a.put o.dst (.slice A' (n + 1) c')) w') : wpList P ops Q (o :: rest) a (w.alloc (.cells #[.int .u8 z] T)) := by
  subst hy
  refine wpList_app hgd s x ho ht he hs (hown.alloc _) hx (B2 := w.heap.size + 1) (l2 := [y]) ⟨rfl, Nat.le_refl _, by omega, fun _ => ⟨w.heap.size, 0, rfl, by omega, fun j hj => ?_⟩⟩ hbytes (by simp; omega) fun A' c' w' h1 h2 => h A' c' w' h1 (((Below.refl B w).alloc hB _).trans h2)
  obtain rfl : j = 0 := by omega
  rw [cell_of_row _ w.heap.size 0 #[.int .u8 (y.toNat : Int)] T (0, 0) (heap_alloc_new w _)]
  simp

/-- append of a string's bytes. -/
theorem wpList_appS {ops : Array Oper} {rest : List Oper} {o : Oper} {a : Act} {Q : Exit → Act → World → Prop} (hgd : o.guard = none) (s x : Operand) {t u e : TypeId}
    (ho : o.op = .call { callee := .builtin .append, args := #[s, x], argTypes := #[t, u] }) (ht : P.underlying t = some (.slice e)) (hu : P.underlying u = some .string) (he : ByteInfo P e)
    {B : Nat} {A : Option Addr} {n c : Nat} {l : List UInt8} (hs : a.eval s = .slice A n c) (hown : Ob e w B A n c l)
    (st : ByteArray) (hx : a.eval x = .string st) (hbytes : n + st.size ≤ 140737488355328) (hB : B ≤ w.heap.size)
    (h : ∀ A' c' w', Ob e w' B A' (n + st.size) c' (l ++ st.data.toList) → Below B w w' → wpList P ops Q rest (a.put o.dst (.slice A' (n + st.size) c')) w') : wpList P ops Q (o :: rest) a w := by
  obtain ⟨i, hi, hz, h1, h2⟩ := info_parts he
  refine Lib.wpList_append_own_string (P := P) w hgd s x t u ho B e i ht hu hi hz h1 h2 _ n (bcs l) hs hown.2 st hx (by simp only [maxLen]; omega) hbytes hB fun v' w' h3 h4 _ => ?_
  have hl : (l ++ st.data.toList).length = n + st.size := by rw [List.length_append, hown.1, Array.length_toList]; rfl
  have hc : bcs l ++ Lib.strCells st = bcs (l ++ st.data.toList) := by rw [bcs_append]; rfl
  rw [hc] at h3
  have hb := below_of_own hown hB h4
  rcases h3.2 with ⟨hv, h0⟩ | ⟨g, cap, cur, hv, r⟩
  · have hv' : v' = .slice none (n + st.size) 0 := by rw [hv, h0]
    subst hv'
    exact h _ _ _ ⟨hl, h3⟩ hb
  · subst hv
    exact h _ _ _ ⟨hl, h3⟩ hb

theorem cellsOf_byte {e : TypeId} (he : ByteInfo P e) (w : World) : (sizeOf e).run P w = .ok 1 w := by
  obtain ⟨i, hi, hz, h1, h2⟩ := info_parts he
  simp [sizeOf, typeInfo, hi, h1]

/-- b[k:], as the walk takes it: an equation for every world. -/
theorem run_from {t e : TypeId} (ht : P.underlying t = some (.slice e)) (he : ByteInfo P e) {B : Nat} {A : Option Addr} {n c : Nat} {l : List UInt8} (h : Rd w B A n c l) (k : Nat) (hk : k ≤ n) :
    ∃ A', (∀ W, (Instr.sliceAt t (.slice A n c) (some (.int .i64 (k : Int))) none none).run P W = .ok (.slice A' (n - k) (c - k)) W) ∧ Rd w B A' (n - k) (c - k) (l.drop k) := by
  have hte : P.underlying t = some (.slice (P.elem t)) := by rw [ht]; simp [Program.elem, ht]
  have hee : P.elem t = e := by simp [Program.elem, ht]
  refine ⟨_, fun W => ?_, h.cut hk⟩
  rw [run_sliceAt_slice W t _ _ _ _ hte, run_slice_l W t A n c hte .i64 (k : Int) (by omega) (by omega), hee, cellsOf_byte he W]
  simp [sliced]

/-- b[:k] -/
theorem run_upto {t e : TypeId} (ht : P.underlying t = some (.slice e)) (he : ByteInfo P e) {B : Nat} {A : Option Addr} {n c : Nat} {l : List UInt8} (h : Rd w B A n c l) (k : Nat) (hk : k ≤ n) :
    ∃ A', (∀ W, (Instr.sliceAt t (.slice A n c) none (some (.int .i64 (k : Int))) none).run P W = .ok (.slice A' k c) W) ∧ Rd w B A' k c (l.take k) := by
  have hte : P.underlying t = some (.slice (P.elem t)) := by rw [ht]; simp [Program.elem, ht]
  have hee : P.elem t = e := by simp [Program.elem, ht]
  have hc := h.cap
  refine ⟨_, fun W => ?_, h.take hk⟩
  rw [run_sliceAt_slice W t _ _ _ _ hte, run_slice_h W t A n c hte .i64 (k : Int) (by omega) (by omega), hee, cellsOf_byte he W]
  simp [sliced]
  intro _
  cases A <;> simp [Addr.add]

/-- b[i:j] -/
theorem run_mid {t e : TypeId} (ht : P.underlying t = some (.slice e)) (he : ByteInfo P e) {B : Nat} {A : Option Addr} {n c : Nat} {l : List UInt8} (h : Rd w B A n c l) (i j : Nat) (hij : i ≤ j) (hj : j ≤ n) :
    ∃ A', (∀ W, (Instr.sliceAt t (.slice A n c) (some (.int .i64 (i : Int))) (some (.int .i64 (j : Int))) none).run P W = .ok (.slice A' (j - i) (c - i)) W) ∧ Rd w B A' (j - i) (c - i) ((l.drop i).take (j - i)) := by
  have hte : P.underlying t = some (.slice (P.elem t)) := by rw [ht]; simp [Program.elem, ht]
  have hee : P.elem t = e := by simp [Program.elem, ht]
  have hc := h.cap
  refine ⟨_, fun W => ?_, (h.cut (k := i) (by omega)).take (k := j - i) (by omega)⟩
  rw [run_sliceAt_slice W t _ _ _ _ hte, run_slice_lh W t A n c hte .i64 .i64 (i : Int) (j : Int) (by omega) (by omega) (by omega), hee, cellsOf_byte he W]
  simp [sliced]

/-- b[i:i+m] -/
theorem run_part {t e : TypeId} (ht : P.underlying t = some (.slice e)) (he : ByteInfo P e) {B : Nat} {A : Option Addr} {n c : Nat} {l : List UInt8} (h : Rd w B A n c l) (i m : Nat) (hm : i + m ≤ n) :
    ∃ A', (∀ W, (Instr.sliceAt t (.slice A n c) (some (.int .i64 (i : Int))) (some (.int .i64 ((i : Int) + (m : Int)))) none).run P W = .ok (.slice A' m (c - i)) W) ∧ Rd w B A' m (c - i) ((l.drop i).take m) := by
  obtain ⟨A', h1, h2⟩ := run_mid ht he h i (i + m) (by omega) hm
  rw [show i + m - i = m by omega] at h2
  refine ⟨A', fun W => ?_, h2⟩
  have := h1 W
  rw [show i + m - i = m by omega, show ((i + m : Nat) : Int) = (i : Int) + (m : Int) by omega] at this
  exact this

theorem toList_foldl_push (l : List UInt8) : ∀ s : ByteArray, (l.foldl (fun r x => r.push x) s).data.toList = s.data.toList ++ l := by
  induction l with
  | nil => intro s; simp
  | cons x l ih => intro s; rw [List.foldl_cons, ih]; simp [ByteArray.push]

/-- A list of bytes as a string. -/
def strOf (l : List UInt8) : ByteArray := ⟨l.toArray⟩
theorem strOf_size (l : List UInt8) : (strOf l).size = l.length := by simp [strOf, ByteArray.size]
theorem strOf_data (l : List UInt8) : (strOf l).data.toList = l := by simp [strOf]
theorem strOf_self (s : ByteArray) : strOf s.data.toList = s := by simp [strOf]
theorem strOf_inj {l m : List UInt8} : strOf l = strOf m ↔ l = m := by
  refine ⟨fun h => ?_, fun h => by rw [h]⟩
  have := congrArg (fun s => s.data.toList) h
  simpa [strOf] using this

/-- string(b) of bytes that can be read. -/
theorem run_str {src dst e : TypeId} (hs : P.underlying src = some (.slice e)) (he : P.underlying e = some (.int .u8)) (hd : P.underlying dst = some .string)
    {B : Nat} {A : Option Addr} {n c : Nat} {l : List UInt8} (hr : Rd w B A n c l) : (convert src dst (.slice A n c)).run P w = .ok (.string (strOf l)) w := by
  rw [run_convert_bytes_string w src dst e A n c hs he hd]
  rcases A with _ | a
  · have hl : l = [] := by
      rcases Nat.eq_zero_or_pos n with h0 | h0
      · exact List.eq_nil_of_length_eq_zero (hr.len.trans h0)
      · obtain ⟨_, _, h, _⟩ := hr.cells h0; cases h
    subst hl
    simp [Conv.bytesToString, strOf, ByteArray.empty, ByteArray.emptyWithCapacity]
    rfl
  · have hload : (loadCells a n).run P w = .ok ((l.map fun x => (x.toNat : Int)).map (Value.int .u8)).toArray w := by
      have h1 := run_loadCells_list (P := P) w a (bcs l) (hr.news rfl)
      have h2 : bcs l = (l.map fun x => (x.toNat : Int)).map (Value.int .u8) := by simp [bcs]
      rw [bcs_length, hr.len, h2] at h1
      exact h1
    rw [run_bytesToString w a n c _ hload]
    congr 2
    rw [List.foldl_map]
    have : (fun (x : ByteArray) (y : UInt8) => x.push (UInt8.ofNat ((y.toNat : Int)).toNat)) = fun r y => r.push y := by
      funext x y; simp
    rw [this]
    have := toList_foldl_push l ByteArray.empty
    apply ByteArray.ext
    apply Array.ext'
    rw [this]
    simp [strOf, ByteArray.empty, ByteArray.emptyWithCapacity]
    rfl
end

end Go.Proofs.YtlijagbklopipaaDoor
