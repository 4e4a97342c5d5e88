/-
  Lists of spans: in plain Lean, and in memory. Conditions: those that each states.
-/
import Derived.Test.YtlijagbklopipaaDoorProI
namespace Go.Proofs.YtlijagbklopipaaDoor
open Go.RowKit
set_option linter.unusedVariables false

/-- A span. -/
structure Sp where
  k : Int
  lo : Int
  hi : Int
  deriving DecidableEq

/-- Its three cells; those of a list. -/
def spv (s : Sp) : List Value := [.int .i64 s.k, .int .i64 s.lo, .int .i64 s.hi]
def spc (l : List Sp) : List Value := l.flatMap spv
theorem spc_nil : spc [] = [] := rfl
theorem spc_cons (s : Sp) (l : List Sp) : spc (s :: l) = spv s ++ spc l := rfl
theorem spc_append (l m : List Sp) : spc (l ++ m) = spc l ++ spc m := by simp [spc]
theorem spc_length (l : List Sp) : (spc l).length = l.length * 3 := by
  induction l with
  | nil => rfl
  | cons s l ih => rw [spc_cons, List.length_append, ih, List.length_cons, Nat.succ_mul]; simp [spv, Nat.add_comm]
theorem spc_one (l : List Sp) : ∀ u ∈ spc l, u.oneCell' = true := by
  intro u hu
  simp only [spc, List.mem_flatMap, spv, List.mem_cons, List.not_mem_nil, or_false] at hu
  obtain ⟨s, _, h | h | h⟩ := hu <;> subst h <;> rfl
theorem spc_at {l : List Sp} {j : Nat} (h : j < l.length) : (spc l)[j * 3]? = some (.int .i64 (l.getD j ⟨0, 0, 0⟩).k) ∧ (spc l)[j * 3 + 1]? = some (.int .i64 (l.getD j ⟨0, 0, 0⟩).lo) ∧ (spc l)[j * 3 + 2]? = some (.int .i64 (l.getD j ⟨0, 0, 0⟩).hi) := by
  induction l generalizing j with
  | nil => simp at h
  | cons s l ih =>
    cases j with
    | zero => exact ⟨rfl, rfl, rfl⟩
    | succ j =>
      have := ih (j := j) (by simpa using h)
      rw [spc_cons]
      have e : ∀ i, (spv s ++ spc l)[(j + 1) * 3 + i]? = (spc l)[j * 3 + i]? := fun i => by
        rw [List.getElem?_append_right (by simp [spv]; omega)]
        congr 1
        simp [spv]
        omega
      have e0 := e 0
      rw [Nat.add_zero, Nat.add_zero] at e0
      rw [e0, e 1, e 2]
      exact this

/-- The slice (A, n, c) reads as the spans l, and lies below block B. -/
structure Rp (w : World) (B : Nat) (A : Option Addr) (n c : Nat) (l : List Sp) : Prop where
  len : l.length = n
  cap : n ≤ c
  top : c ≤ 9223372036854775807
  cells : 0 < n → ∃ b off, A = some ⟨b, off, none⟩ ∧ b < B ∧ ∀ j, j < n → w.cell? ⟨b, off + j * 3, none⟩ = some (.int .i64 (l.getD j ⟨0, 0, 0⟩).k) ∧ w.cell? ⟨b, off + j * 3 + 1, none⟩ = some (.int .i64 (l.getD j ⟨0, 0, 0⟩).lo) ∧ w.cell? ⟨b, off + j * 3 + 2, none⟩ = some (.int .i64 (l.getD j ⟨0, 0, 0⟩).hi)
theorem Rp.nil (w : World) (B : Nat) : Rp w B none 0 0 [] := ⟨rfl, Nat.le_refl _, by omega, fun h => absurd h (by omega)⟩
theorem Rp.below {w w' : World} {B : Nat} {A : Option Addr} {n c : Nat} {l : List Sp} (h : Rp w B A n c l) (hb : Below B w w') : Rp w' B A n c l :=
  ⟨h.len, h.cap, h.top, fun hn => by
    obtain ⟨b, off, e, hlt, hc⟩ := h.cells hn
    exact ⟨b, off, e, hlt, fun j hj => ⟨(hb.cell (p := ⟨b, off + j * 3, none⟩) hlt).trans (hc j hj).1, (hb.cell (p := ⟨b, off + j * 3 + 1, none⟩) hlt).trans (hc j hj).2.1, (hb.cell (p := ⟨b, off + j * 3 + 2, none⟩) hlt).trans (hc j hj).2.2⟩⟩⟩
theorem Rp.more {w : World} {B B' : Nat} {A : Option Addr} {n c : Nat} {l : List Sp} (h : Rp w B A n c l) (hB : B ≤ B') : Rp w B' A n c l :=
  ⟨h.len, h.cap, h.top, fun hn => by
    obtain ⟨b, off, e, hlt, hc⟩ := h.cells hn
    exact ⟨b, off, e, by omega, hc⟩⟩
theorem Rp.step {w w' : World} {B : Nat} {A : Option Addr} {n c : Nat} {l : List Sp} (h : Rp w B A n c l) (hb : Below w.heap.size w w') (hB : B ≤ w.heap.size) : Rp w' B A n c l := h.below (hb.mono hB)
theorem Rp.lit (w : World) (t : TypeId) (l : List Sp) (hl : l.length ≤ 9223372036854775807) : Rp (w.alloc (.cells (spc l).toArray t)) (w.heap.size + 1) (some ⟨w.heap.size, 0, none⟩) l.length l.length l := by
  refine ⟨rfl, Nat.le_refl _, hl, fun _ => ⟨w.heap.size, 0, rfl, by omega, fun j hj => ?_⟩⟩
  have key : ∀ i, (w.alloc (.cells (spc l).toArray t)).cell? ⟨w.heap.size, i, none⟩ = (spc l)[i]? := fun i => by
    rw [cell_of_row _ w.heap.size i _ t (0, 0) (heap_alloc_new w _)]; simp
  obtain ⟨h1, h2, h3⟩ := spc_at hj
  rw [Nat.zero_add]
  exact ⟨(key _).trans h1, (key _).trans h2, (key _).trans h3⟩
/-- What is left behind the first. -/
theorem Rp.rest {w : World} {B : Nat} {A : Option Addr} {n c : Nat} {s : Sp} {l : List Sp} (h : Rp w B A n c (s :: l)) : Rp w B (if c = 1 then A else A.map (·.add 3)) (n - 1) (c - 1) l := by
  have hl := h.len
  rw [List.length_cons] at hl
  refine ⟨by omega, by have := h.cap; omega, by have := h.top; omega, fun hn => ?_⟩
  obtain ⟨b, off, rfl, hlt, hc⟩ := h.cells (by omega)
  have := h.cap
  rw [if_neg (by omega)]
  refine ⟨b, off + 3, by simp [add_plain], hlt, fun j hj => ?_⟩
  have h1 := hc (j + 1) (by omega)
  rw [show off + (j + 1) * 3 = off + 3 + j * 3 by omega] at h1
  simpa using h1

/-- The slice (A, n, c) is the call's own, from block B on, and holds the spans l. -/
def Osp (e : TypeId) (w : World) (B : Nat) (A : Option Addr) (n c : Nat) (l : List Sp) : Prop := l.length = n ∧ w.ownsRow B e 3 (.slice A n c) n (spc l)
namespace Osp
variable {e : TypeId} {w w' : World} {B B' : Nat} {A : Option Addr} {n c : Nat} {l : List Sp}
theorem nil (e : TypeId) (w : World) (B : Nat) : Osp e w B none 0 0 [] := ⟨rfl, World.ownsRow_nil w B e 3⟩
theorem rp (h : Osp e w B A n c l) : Rp w w.heap.size A n c l := by
  rcases h.2.2 with ⟨hv, h0⟩ | ⟨g, cap, cur, hv, hg, hh, hn, hc, hcs, htake⟩
  · injection hv with h1 h2 h3
    subst h1; subst h2; subst h3
    exact ⟨h.1, Nat.le_refl _, by omega, fun hh => absurd hh (by omega)⟩
  · injection hv with h1 h2 h3
    subst h1; subst h3
    refine ⟨h.1, hn, by simpa [maxLen] using hc, fun h0 => ⟨g, 0, rfl, (Array.getElem?_eq_some_iff.1 hh).1, fun j hj => ?_⟩⟩
    have key : ∀ i, i < n * 3 → w.cell? ⟨g, i, none⟩ = (spc l)[i]? := fun i hi => h.2.cellAt i hi
    have hjl : j < l.length := by have := h.1; omega
    obtain ⟨h1, h2, h3⟩ := spc_at hjl
    rw [Nat.zero_add]
    exact ⟨(key _ (by omega)).trans h1, (key _ (by omega)).trans h2, (key _ (by omega)).trans h3⟩
theorem step (h : Osp e w B A n c l) (hb : Below w.heap.size w w') : Osp e w' B A n c l := by
  refine ⟨h.1, h.2.1, ?_⟩
  rcases h.2.2 with hn | ⟨g, cap, cur, hv, hg, hh, r⟩
  · exact .inl hn
  · exact .inr ⟨g, cap, cur, hv, hg, (hb.block g (Array.getElem?_eq_some_iff.1 hh).1).trans hh, r⟩
theorem less (h : Osp e w B A n c l) (hB : B' ≤ B) : Osp e w B' A n c l := by
  refine ⟨h.1, h.2.1, ?_⟩
  rcases h.2.2 with hn | ⟨g, cap, cur, hv, hg, hh, r⟩
  · exact .inl hn
  · exact .inr ⟨g, cap, cur, hv, by omega, hh, r⟩
theorem alloc (h : Osp e w B A n c l) (o : Obj) : Osp e (w.alloc o) B A n c l := ⟨h.1, World.ownsRow.alloc h.2 o⟩
end Osp

theorem spanInfo : (Tryd.prog.info? 54).map (fun i => (i.zero, i.size, i.bytes)) = some (some (.agg #[.int .i64 0, .int .i64 0, .int .i64 0]), 3, 24) := by kernel_rfl

/-- append of one span that has just been laid in a block of its own. -/
theorem wpList_appSp {w : World} {ops : Array Oper} {rest : List Oper} {o : Oper} {a : Act} {Q : Exit → Act → World → Prop} (hgd : o.guard = none) (s x : Operand)
    (ho : o.op = .call { callee := .builtin .append, args := #[s, x], argTypes := #[45, 45] })
    {B : Nat} {A : Option Addr} {n c : Nat} {l : List Sp} (hs : a.eval s = .slice A n c) (hown : Osp 54 w B A n c l) {T : TypeId} (v : Sp)
    (hx : a.eval x = .slice (some ⟨w.heap.size, 0, none⟩) 1 1) (hn : n ≤ 1000000000000) (hB : B ≤ w.heap.size)
    (h : ∀ A' c' w', Osp 54 w' B A' (n + 1) c' (l ++ [v]) → Below B w w' → wpList Tryd.prog ops Q rest (a.put o.dst (.slice A' (n + 1) c')) w') : wpList Tryd.prog ops Q (o :: rest) a (w.alloc (.cells #[.int .i64 v.k, .int .i64 v.lo, .int .i64 v.hi] T)) := by
  refine wpList_plain hgd fun K hK => ?_
  obtain ⟨i, hi, hz0, hs0, hb0⟩ := info_parts spanInfo
  obtain ⟨v', w', hrun, h2, h3, _⟩ := run_append_own (P := Tryd.prog) (w.alloc (.cells #[.int .i64 v.k, .int .i64 v.lo, .int .i64 v.hi] T)) B 45 o.type 54 i (.agg #[.int .i64 0, .int .i64 0, .int .i64 0]) 3 24 Tryd.underlying45 hi hz0 hs0 hb0 rfl (by omega) (.slice A n c) n (spc l) (World.ownsRow.alloc hown.2 _) ⟨w.heap.size, 0, none⟩ 1 1 (spv v) rfl
    (by
      intro j u hj
      rw [add_plain, cell_of_row _ w.heap.size (0 + j) _ T (0, 0) (heap_alloc_new w _), Nat.zero_add]
      simpa [spv] using hj)
    (fun u hu => spc_one [v] u (by simpa [spc] using hu)) (by simp only [maxLen]; omega) (by omega) (by simp; omega)
  have hbel : Below B w w' := ((Below.refl B w).alloc hB _).grown h3 (by simp; omega) fun k hk => (World.ownsRow.lt hown.2 k hk).1
  have fin : ∃ A' c', v' = .slice A' (n + 1) c' := by
    rcases h2.2 with ⟨hv', h0⟩ | ⟨g, cap, cur, hv', _⟩
    · omega
    · exact ⟨_, _, hv'⟩
  obtain ⟨A', c', rfl⟩ := fin
  have ho2 : Osp 54 w' B A' (n + 1) c' (l ++ [v]) := ⟨by rw [List.length_append, hown.1]; rfl, by rw [spc_append]; simpa [spc] using h2⟩
  unfold Oper.wp execOp
  simp only [ho, resolve, invoke, builtin, Sem.run_bind, Sem.run_pure, Result.andThen_ok, List.map_toArray, List.map_cons, List.map_nil, hs, hx, hrun]
  exact hK _ _ (h A' c' w' ho2 hbel)

theorem wpList_appSpH {w : World} {ops : Array Oper} {rest : List Oper} {o : Oper} {a : Act} {Q : Exit → Act → World → Prop} (hgd : o.guard = none) (s x : Operand)
    (ho : o.op = .call { callee := .builtin .append, args := #[s, x], argTypes := #[45, 45] })
    {B : Nat} {A : Option Addr} {n c : Nat} {l : List Sp} (hs : a.eval s = .slice A n c) (hown : Osp 54 w B A n c l) {T : TypeId} (v : Sp) (H : Nat) (hH : w.heap.size = H)
    (hx : a.eval x = .slice (some ⟨H, 0, none⟩) 1 1) (hn : n ≤ 1000000000000) (hB : B ≤ w.heap.size)
    (h : ∀ A' c' w', Osp 54 w' B A' (n + 1) c' (l ++ [v]) → Below B w w' → wpList Tryd.prog ops Q rest (a.put o.dst (.slice A' (n + 1) c')) w') : wpList Tryd.prog ops Q (o :: rest) a (w.alloc (.cells #[.int .i64 v.k, .int .i64 v.lo, .int .i64 v.hi] T)) := by
  subst hH
  exact wpList_appSp hgd s x ho hs hown v hx hn hB h

/-- May spans be? last: the kind ahead. -/
def rightFrom (last : Int) : List Sp → Bool
  | [] => true
  | s :: l => !(decide (s.k ≤ last) || decide (255 < s.k) || decide (s.lo < 0) || decide (s.hi < s.lo) || decide (255 < s.hi)) && rightFrom s.k l
def rightL (l : List Sp) : Bool := rightFrom (-1) l

/-- Those that both know. -/
def mg (out : List Sp) : List Sp → List Sp → List Sp × Int
  | [], _ => (out, 0)
  | _ :: _, [] => (out, 0)
  | a :: m, b :: t =>
    if a.k < b.k then mg out m (b :: t)
    else if b.k < a.k then mg out (a :: m) t
    else if min a.hi b.hi < max a.lo b.lo then ([], 61)
    else mg (out ++ [⟨a.k, max a.lo b.lo, min a.hi b.hi⟩]) m t
termination_by m t => m.length + t.length
def agreeL (m t : List Sp) : List Sp × Int := if (!rightL m || !rightL t) = true then ([], 1) else mg [] m t
end Go.Proofs.YtlijagbklopipaaDoor
