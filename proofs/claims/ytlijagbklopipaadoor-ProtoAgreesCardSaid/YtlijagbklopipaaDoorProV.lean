/-
  What stands in memory while a request, or an answer, is read: the reader, what has been read, and what is not touched. Conditions: those that each states.
-/
import Derived.Test.YtlijagbklopipaaDoorProU
namespace Go.Proofs.YtlijagbklopipaaDoor
open Go.RowKit
set_option linter.unusedVariables false

/-- While it is read: the reader's block Bx, the block Bq of what is read (its cells: q), other blocks F. -/
structure Gm (Tx Tq : TypeId) (w0 w : World) (Bx Bq : Nat) (A : Option Addr) (n c : Nat) (F : List (Nat × Obj)) (s : St) (q : Array Value) : Prop where
  rd : w.heap[Bx]? = some (.cells #[.slice A n c, .int .i64 s.1, .int .i64 s.2] Tx (0, 0))
  x : w.heap[Bq]? = some (.cells q Tq (0, 0))
  oth : ∀ p ∈ F, w.heap[p.1]? = some p.2 ∧ p.1 ≠ Bx ∧ p.1 ≠ Bq
  low : w0.heap.size ≤ Bx ∧ Bx < Bq
  below : Below w0.heap.size w0 w

namespace Gm
variable {Tx Tq : TypeId} {w0 w w' : World} {Bx Bq : Nat} {A : Option Addr} {n c : Nat} {F : List (Nat × Obj)} {s s' : St} {q : Array Value}
theorem ltx (h : Gm Tx Tq w0 w Bx Bq A n c F s q) : Bx < w.heap.size := (Array.getElem?_eq_some_iff.1 h.rd).1
theorem ltq (h : Gm Tx Tq w0 w Bx Bq A n c F s q) : Bq < w.heap.size := (Array.getElem?_eq_some_iff.1 h.x).1
theorem read (h : Gm Tx Tq w0 w Bx Bq A n c F s q) (k : Reads Tx w w' Bx A n c s') : Gm Tx Tq w0 w' Bx Bq A n c F s' q := by
  have hl := h.low
  refine ⟨k.box, (k.grown.block Bq h.ltq (by simp; omega)).trans h.x, fun p hp => ?_, h.low, h.below.trans (below_grown k.grown (Nat.le_of_lt (Nat.lt_of_le_of_lt hl.1 h.ltx)) (fun j hj => by cases hj; exact hl.1))⟩
  obtain ⟨h1, h2, h3⟩ := h.oth p hp
  exact ⟨(k.grown.block p.1 (Array.getElem?_eq_some_iff.1 h1).1 (by simpa using h2)).trans h1, h2, h3⟩
theorem set (h : Gm Tx Tq w0 w Bx Bq A n c F s q) (i : Nat) (v : Value) : Gm Tx Tq w0 (w.setCell ⟨Bq, i, none⟩ v) Bx Bq A n c F s (q.setIfInBounds i v) := by
  have hl := h.low
  have g := grown_set w Bq i v
  refine ⟨(g.block Bx h.ltx (by simp; omega)).trans h.rd, heap_setCell_same _ Bq i _ _ _ h.x, fun p hp => ?_, h.low, h.below.setCell (by simp; omega) _⟩
  obtain ⟨h1, h2, h3⟩ := h.oth p hp
  exact ⟨(g.block p.1 (Array.getElem?_eq_some_iff.1 h1).1 (by simpa using h3)).trans h1, h2, h3⟩
theorem cell (h : Gm Tx Tq w0 w Bx Bq A n c F s q) (i : Nat) (v : Value) (hv : q[i]? = some v) : w.cell? ⟨Bq, i, none⟩ = some v ∧ w.frozen? ⟨Bq, i, none⟩ = false :=
  ⟨by rw [cell_of_row _ Bq i _ _ _ h.x]; exact hv, by simp [World.frozen?, h.x]⟩
theorem ecell (h : Gm Tx Tq w0 w Bx Bq A n c F s q) : w.cell? ⟨Bx, 2, none⟩ = some (.int .i64 s.2) ∧ w.frozen? ⟨Bx, 2, none⟩ = false := by
  obtain ⟨k0, k1, k2, f1, f2⟩ := Reads.cells (Reads.refl h.rd)
  exact ⟨k2, f2⟩
theorem setE (h : Gm Tx Tq w0 w Bx Bq A n c F s q) (e : Int) : Gm Tx Tq w0 (w.setCell ⟨Bx, 2, none⟩ (.int .i64 e)) Bx Bq A n c F (s.1, e) q := h.read (Reads.putE h.rd e)
theorem bytes (h : Gm Tx Tq w0 w Bx Bq A n c F s q) {l : List UInt8} (hr : Rd w0 w0.heap.size A n c l) : Rd w Bx A n c l := (hr.below h.below).more h.low.1
end Gm

theorem Ow.read {e Tx : TypeId} {w w' : World} {B Bx : Nat} {A A' : Option Addr} {n c n' c' : Nat} {vs : List Value} {s : St} (h : Ow e w B A n c vs) (k : Reads Tx w w' Bx A' n' c' s) (hB : Bx < B) : Ow e w' B A n c vs := h.kept k.grown (fun j hj => by cases hj; exact hB)
theorem Ow.set {e : TypeId} {w : World} {B Bq i : Nat} {A : Option Addr} {n c : Nat} {vs : List Value} {v : Value} (h : Ow e w B A n c vs) (hB : Bq < B) : Ow e (w.setCell ⟨Bq, i, none⟩ v) B A n c vs := h.kept (grown_set w Bq i v) (fun j hj => by cases hj; exact hB)
theorem Ob.keptLow {e : TypeId} {w w' : World} {B : Nat} {A : Option Addr} {n c : Nat} {l : List UInt8} (h : Ob e w B A n c l) {r : Nat} (hg : w.grownBy w' (some r)) (hr : r < B) : Ob e w' B A n c l := by
  refine h.kept hg ?_
  rcases hk : Value.ownBlock (.slice A n c) with _ | k
  · exact .inl rfl
  · refine .inr fun e => ?_
    have h1 := (World.ownsRow.lt h.2 k hk).1
    cases e
    omega

theorem rtxt_len (l : List UInt8) (s : St) : (rtxt l s).1.length ≤ l.length := by
  unfold rtxt
  split
  · simp
  · unfold getT
    try simp only
    repeat' split
    all_goals first
      | exact Nat.zero_le _
      | (rw [List.length_take, List.length_drop]; omega)
theorem rblb_len {most : Int} (l : List UInt8) (s : St) : (rblb most l s).1.length ≤ l.length := by
  unfold rblb
  try simp only
  repeat' split
  all_goals first
    | exact Nat.zero_le _
    | (rw [List.length_take, List.length_drop]; omega)
theorem of7 {w : World} {b : Nat} {T : TypeId} {a0 a1 a2 a3 a4 a5 a6 : Value} (h : w.heap[b]? = some (.cells #[a0, a1, a2, a3, a4, a5, a6] T (0, 0))) :
    (w.cell? ⟨b, 0, none⟩ = some a0 ∧ w.cell? ⟨b, 1, none⟩ = some a1 ∧ w.cell? ⟨b, 2, none⟩ = some a2 ∧ w.cell? ⟨b, 3, none⟩ = some a3 ∧ w.cell? ⟨b, 4, none⟩ = some a4 ∧ w.cell? ⟨b, 5, none⟩ = some a5 ∧ w.cell? ⟨b, 6, none⟩ = some a6) ∧ ∀ j, w.frozen? ⟨b, j, none⟩ = false := by
  have key : ∀ j, w.cell? ⟨b, j, none⟩ = (#[a0, a1, a2, a3, a4, a5, a6])[j]? := fun j => cell_of_row _ b j _ _ _ h
  exact ⟨⟨key 0, key 1, key 2, key 3, key 4, key 5, key 6⟩, fun j => by simp [World.frozen?, h]⟩
theorem of8 {w : World} {b : Nat} {T : TypeId} {a0 a1 a2 a3 a4 a5 a6 a7 : Value} (h : w.heap[b]? = some (.cells #[a0, a1, a2, a3, a4, a5, a6, a7] T (0, 0))) :
    (w.cell? ⟨b, 0, none⟩ = some a0 ∧ w.cell? ⟨b, 1, none⟩ = some a1 ∧ w.cell? ⟨b, 2, none⟩ = some a2 ∧ w.cell? ⟨b, 3, none⟩ = some a3 ∧ w.cell? ⟨b, 4, none⟩ = some a4 ∧ w.cell? ⟨b, 5, none⟩ = some a5 ∧ w.cell? ⟨b, 6, none⟩ = some a6 ∧ w.cell? ⟨b, 7, none⟩ = some a7) ∧ ∀ j, w.frozen? ⟨b, j, none⟩ = false := by
  have key : ∀ j, w.cell? ⟨b, j, none⟩ = (#[a0, a1, a2, a3, a4, a5, a6, a7])[j]? := fun j => cell_of_row _ b j _ _ _ h
  exact ⟨⟨key 0, key 1, key 2, key 3, key 4, key 5, key 6, key 7⟩, fun j => by simp [World.frozen?, h]⟩
def set7 (w : World) (b : Nat) (a0 a1 a2 a3 a4 a5 a6 : Value) : World := ((((((w.setCell ⟨b, 0, none⟩ a0).setCell ⟨b, 1, none⟩ a1).setCell ⟨b, 2, none⟩ a2).setCell ⟨b, 3, none⟩ a3).setCell ⟨b, 4, none⟩ a4).setCell ⟨b, 5, none⟩ a5).setCell ⟨b, 6, none⟩ a6
def set8 (w : World) (b : Nat) (a0 a1 a2 a3 a4 a5 a6 a7 : Value) : World := (set7 w b a0 a1 a2 a3 a4 a5 a6).setCell ⟨b, 7, none⟩ a7
theorem set7_heap {w : World} {b : Nat} {T : TypeId} {x0 x1 x2 x3 x4 x5 x6 a0 a1 a2 a3 a4 a5 a6 : Value} (h : w.heap[b]? = some (.cells #[x0, x1, x2, x3, x4, x5, x6] T (0, 0))) : (set7 w b a0 a1 a2 a3 a4 a5 a6).heap[b]? = some (.cells #[a0, a1, a2, a3, a4, a5, a6] T (0, 0))  := by
  have h0 := heap_setCell_same _ b 0 _ _ a0 h
  have h1 := heap_setCell_same _ b 1 _ _ a1 h0
  have h2 := heap_setCell_same _ b 2 _ _ a2 h1
  have h3 := heap_setCell_same _ b 3 _ _ a3 h2
  have h4 := heap_setCell_same _ b 4 _ _ a4 h3
  have h5 := heap_setCell_same _ b 5 _ _ a5 h4
  have h6 := heap_setCell_same _ b 6 _ _ a6 h5
  simp only [List.setIfInBounds_toArray, List.set_cons_zero, List.set_cons_succ] at h6
  exact h6
theorem set8_heap {w : World} {b : Nat} {T : TypeId} {x0 x1 x2 x3 x4 x5 x6 x7 a0 a1 a2 a3 a4 a5 a6 a7 : Value} (h : w.heap[b]? = some (.cells #[x0, x1, x2, x3, x4, x5, x6, x7] T (0, 0))) : (set8 w b a0 a1 a2 a3 a4 a5 a6 a7).heap[b]? = some (.cells #[a0, a1, a2, a3, a4, a5, a6, a7] T (0, 0))  := by
  have h0 := heap_setCell_same _ b 0 _ _ a0 h
  have h1 := heap_setCell_same _ b 1 _ _ a1 h0
  have h2 := heap_setCell_same _ b 2 _ _ a2 h1
  have h3 := heap_setCell_same _ b 3 _ _ a3 h2
  have h4 := heap_setCell_same _ b 4 _ _ a4 h3
  have h5 := heap_setCell_same _ b 5 _ _ a5 h4
  have h6 := heap_setCell_same _ b 6 _ _ a6 h5
  have h7 := heap_setCell_same _ b 7 _ _ a7 h6
  simp only [List.setIfInBounds_toArray, List.set_cons_zero, List.set_cons_succ] at h7
  exact h7
theorem set7_grown (w : World) (b : Nat) (a0 a1 a2 a3 a4 a5 a6 : Value) : w.grownBy (set7 w b a0 a1 a2 a3 a4 a5 a6) (some b) :=
  grown_trans (grown_trans (grown_trans (grown_trans (grown_trans (grown_trans (grown_set _ _ _ _) (grown_set _ _ _ _)) (grown_set _ _ _ _)) (grown_set _ _ _ _)) (grown_set _ _ _ _)) (grown_set _ _ _ _)) (grown_set _ _ _ _)
theorem set8_grown (w : World) (b : Nat) (a0 a1 a2 a3 a4 a5 a6 a7 : Value) : w.grownBy (set8 w b a0 a1 a2 a3 a4 a5 a6 a7) (some b) := grown_trans (set7_grown w b a0 a1 a2 a3 a4 a5 a6) (grown_set _ _ _ _)
end Go.Proofs.YtlijagbklopipaaDoor
