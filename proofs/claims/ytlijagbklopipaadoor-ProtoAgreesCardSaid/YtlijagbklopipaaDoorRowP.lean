/-
  A list of spans that came in, by its parts.
-/
import Derived.Test.YtlijagbklopipaaDoorRowQ
namespace Go.Proofs.YtlijagbklopipaaDoor
open Go.RowKit Go.ChangeShapes Go.WideShapes Go.Deep
set_option linter.unusedVariables false

set_option maxRecDepth 100000 in
theorem spans_open {H : Type} {enc : TypeId × Value → H} {w : World} {base : Nat} {sp : Nat → Bool} {held : Bool} {r : Reach} {b0 : Nat} {v : Value} {d : DataW H} {p : List MemPlace}
    (hv : Value.okWide Tryd.prog w r b0 45 v) (h : DataW.Trod enc Tryd.prog w base sp held 45 v d p) :
    ∃ (A : Option Addr) (n c : Nat) (z : List Sp), v = .slice A n c ∧ Rp w w.heap.size A n c z := by
  obtain ⟨A, n, c, rfl⟩ := okWide_slice Tryd.underlying45 hv
  obtain ⟨fuel, hf⟩ := h
  have hC : Tryd.prog.cellsOf 54 = 3 := by kernel_rfl
  rcases open_slice Tryd.underlying45 hf with ⟨hcs, _⟩ | ⟨a, len, cap, m, n', D, Pl, hcs, _, hl, hm, hmm, _, hi⟩
  · simp [Value.cells] at hcs
    obtain ⟨rfl, rfl, rfl⟩ := hcs
    exact ⟨none, 0, 0, [], rfl, Rp.nil _ _⟩
  · simp [Value.cells] at hcs
    obtain ⟨rfl, rfl, rfl⟩ := hcs
    have hlm : n ≤ m := by rw [hmm]; split <;> omega
    have key : ∀ i, i < n → ∃ s : Sp, w.cell? (a.add (i * 3)) = some (.int .i64 s.k) ∧ w.cell? (a.add (i * 3 + 1)) = some (.int .i64 s.lo) ∧ w.cell? (a.add (i * 3 + 2)) = some (.int .i64 s.hi) := by
      intro i hin
      obtain ⟨cs', hc, ht'⟩ := hi i (by omega)
      rw [hC] at hc
      obtain ⟨s, rfl⟩ := span_elem ht'
      obtain ⟨_, _, hat⟩ := World.cells?_some hc
      have h0 := hat 0 (by omega)
      have h1 := hat 1 (by omega)
      have h2 := hat 2 (by omega)
      rw [Go.Deep.add_add] at h0 h1 h2
      exact ⟨s, h0, h1, h2⟩
    haveI : Inhabited Sp := ⟨⟨0, 0, 0⟩⟩
    obtain ⟨f, hf'⟩ := choose_lt key
    refine ⟨some a, n, c, (List.range n).map f, rfl, ⟨by simp, hl, by simpa [maxLen] using hm, fun hn => ?_⟩⟩
    have h0 := (hf' 0 hn).1
    have hb : (a.add (0 * 3)).block < w.heap.size := World.block_lt_of_cell? w _ h0
    obtain ⟨b, off, spot⟩ := a
    have hs : spot = none := by simpa [Addr.add] using World.cell?_spot h0
    subst hs
    refine ⟨b, off, rfl, by simpa [Addr.add] using hb, fun j hj => ?_⟩
    obtain ⟨g0, g1, g2⟩ := hf' j hj
    rw [Go.Proofs.YtlijagbklopipaaDoor.add_plain] at g0 g1 g2
    have e : ((List.range n).map f).getD j ⟨0, 0, 0⟩ = f j := by simp [List.getD, hj]
    rw [e]
    exact ⟨g0, by rw [Nat.add_assoc]; exact g1, by rw [Nat.add_assoc]; exact g2⟩
end Go.Proofs.YtlijagbklopipaaDoor
