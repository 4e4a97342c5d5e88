/-
  A record that came in, by its fields.
-/
import Derived.Deep.Fields
import Derived.Test.YteamnapboophiaaRow
import Derived.Test.YteamnapboophiaaProg
namespace Go.Proofs.Yteamnapboophiaa
open Go.RowKit Go.ChangeShapes Go.WideShapes Go.Deep
set_option linter.unusedVariables false

theorem rec_open {H : Type} {enc : TypeId × Value → H} {w : World} {base : Nat} {sp : Nat → Bool} {held : Bool} {r : Reach} {b0 : Nat} {v : Value} {d : DataW H} {p : List MemPlace}
    (hv : Value.okWide Try.prog w r b0 23 v) (h : DataW.Trod enc Try.prog w base sp held 23 v d p) :
    ∃ (off : Int) (k s : ByteArray) (dead : Bool) (st : Int), v = .agg #[.int .i64 off, .string k, .string s, .bool dead, .int .i64 st] ∧ (-9223372036854775808 ≤ off ∧ off ≤ 9223372036854775807) ∧ k.size ≤ 9223372036854775807 ∧ s.size ≤ 9223372036854775807 ∧ (-9223372036854775808 ≤ st ∧ st ≤ 9223372036854775807) := by
  have hu := Try.underlying23
  have hC : Try.prog.cellsOf 23 = 5 := by kernel_rfl
  have c3 : Try.prog.cellsOf 3 = 1 := by kernel_rfl
  have c9 : Try.prog.cellsOf 9 = 1 := by kernel_rfl
  have c4 : Try.prog.cellsOf 4 = 1 := by kernel_rfl
  obtain ⟨cs, rfl, hsz⟩ := okWide_struct hu hv
  obtain ⟨l⟩ := cs
  match l, hsz.trans hC with
  | [x0, x1, x2, x3, x4], _ =>
    obtain ⟨fuel, hf⟩ := h
    obtain ⟨xs, n, _, hx, _, hlen, hg⟩ := DataW.trod_struct hu hf
    match xs, hlen with
    | [y0, y1, y2, y3, y4], _ =>
      have g0 := hg 0 _ rfl
      have g1 := hg 1 _ rfl
      have g2 := hg 2 _ rfl
      have g3 := hg 3 _ rfl
      have g4 := hg 4 _ rfl
      simp [Value.cells, c3, c9, c4] at g0 g1 g2 g3 g4
      obtain ⟨n0, e0, _, w0⟩ := DataW.trod_int Try.underlying3 g0
      obtain ⟨s1, e1, _, w1⟩ := DataW.trod_string Try.underlying9 g1
      obtain ⟨s2, e2, _, w2⟩ := DataW.trod_string Try.underlying9 g2
      obtain ⟨b3, e3, _⟩ := DataW.trod_bool Try.underlying4 g3
      obtain ⟨n4, e4, _, w4⟩ := DataW.trod_int Try.underlying3 g4
      simp only [List.cons.injEq, and_true] at e0 e1 e2 e3 e4
      subst e0 e1 e2 e3 e4
      exact ⟨n0, s1, s2, b3, n4, rfl, bounds_i64 w0, by simpa [maxLen] using w1, by simpa [maxLen] using w2, bounds_i64 w4⟩
end Go.Proofs.Yteamnapboophiaa
