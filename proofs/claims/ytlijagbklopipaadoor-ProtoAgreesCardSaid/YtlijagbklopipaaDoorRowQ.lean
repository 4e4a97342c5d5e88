/-
  Requests, answers and lists of spans that came in, by their parts.
-/
import Derived.Deep.Fields
import Derived.Deep.Slices
import Derived.SliceStrings
import Derived.Test.YtlijagbklopipaaDoorRow
import Derived.Test.YtlijagbklopipaaDoorSpnA
namespace Go.Proofs.YtlijagbklopipaaDoor
open Go.RowKit Go.ChangeShapes Go.WideShapes Go.Deep
set_option linter.unusedVariables false

section
variable {H : Type} {enc : TypeId × Value → H} {w : World} {base : Nat} {sp : Nat → Bool} {held : Bool} {fuel : Nat} {c : Value} {x : DataW H × List MemPlace}
theorem ints_open (h : DataW.trod enc Tryd.prog w base sp held fuel 22 [c] = some x) : ∃ (A : Option Addr) (n k : Nat) (zs : List Int), c = .slice A n k ∧ Rx w w.heap.size A n k (iv zs) := by
  rcases open_ints Tryd.underlying22 Tryd.underlying3 (by kernel_rfl) h with ⟨hcs, _⟩ | ⟨a, l, k, zs, hcs, _, hl, hm, hz, _, hcell, hwz⟩
  · simp only [List.cons.injEq, and_true] at hcs
    exact ⟨none, 0, 0, [], hcs, Rx.nil _ _⟩
  · simp only [List.cons.injEq, and_true] at hcs
    refine ⟨some a, l, k, zs.take l, hcs, ?_⟩
    have hzl : l ≤ zs.length := by rw [hz]; split <;> omega
    refine ⟨by rw [iv_len, List.length_take, Nat.min_eq_left hzl], hl, by simpa [maxLen] using hm, fun hn => ?_⟩
    have h0 := hcell 0 (by omega)
    have hb : (a.add 0).block < w.heap.size := World.block_lt_of_cell? w _ h0
    obtain ⟨b, off, spot⟩ := a
    have hs : spot = none := by simpa [Addr.add] using World.cell?_spot h0
    subst hs
    refine ⟨b, off, rfl, by simpa [Addr.add] using hb, fun j hj => ?_⟩
    have hc := hcell j (by omega)
    rw [add_plain] at hc
    rw [hc, iv_at (by rw [List.length_take]; omega)]
    simp [List.getD, hj]
theorem bytes_open (h : DataW.trod enc Tryd.prog w base sp held fuel 24 [c] = some x) : ∃ (A : Option Addr) (n k : Nat) (bs : List UInt8), c = .slice A n k ∧ Rd w w.heap.size A n k bs := by
  rcases open_ints Tryd.underlying24 Tryd.underlying5 (by kernel_rfl) h with ⟨hcs, _⟩ | ⟨a, l, k, zs, hcs, _, hl, hm, hz, _, hcell, hwz⟩
  · simp only [List.cons.injEq, and_true] at hcs
    exact ⟨none, 0, 0, [], hcs, Rd.nil _ _⟩
  · simp only [List.cons.injEq, and_true] at hcs
    have hzl : l ≤ zs.length := by rw [hz]; split <;> omega
    refine ⟨some a, l, k, (zs.take l).map fun z => UInt8.ofNat z.toNat, hcs, ⟨by simp; omega, hl, by simpa [maxLen] using hm, fun hn => ?_⟩⟩
    have h0 := hcell 0 (by omega)
    have hb : (a.add 0).block < w.heap.size := World.block_lt_of_cell? w _ h0
    obtain ⟨b, off, spot⟩ := a
    have hs : spot = none := by simpa [Addr.add] using World.cell?_spot h0
    subst hs
    refine ⟨b, off, rfl, by simpa [Addr.add] using hb, fun j hj => ?_⟩
    have hc := hcell j (by omega)
    rw [add_plain] at hc
    rw [hc]
    have hj' : j < zs.length := by omega
    have hw := bounds_u8 (hwz zs[j] (List.getElem_mem hj'))
    simp [List.getD, hj', hj]
    omega
theorem texts_open (h : DataW.trod enc Tryd.prog w base sp held fuel 23 [c] = some x) : ∃ (A : Option Addr) (n k : Nat) (ts : List (List UInt8)), c = .slice A n k ∧ Rx w w.heap.size A n k (sv ts) := by
  rcases open_strings Tryd.underlying23 Tryd.underlying9 (by kernel_rfl) h with ⟨hcs, _⟩ | ⟨a, l, k, ss, hcs, _, hl, hm, hz, _, hcell, hwz⟩
  · simp only [List.cons.injEq, and_true] at hcs
    exact ⟨none, 0, 0, [], hcs, Rx.nil _ _⟩
  · simp only [List.cons.injEq, and_true] at hcs
    have hzl : l ≤ ss.length := by rw [hz]; split <;> omega
    refine ⟨some a, l, k, (ss.take l).map fun s => s.data.toList, hcs, ⟨by simp [sv]; omega, hl, by simpa [maxLen] using hm, fun hn => ?_⟩⟩
    have h0 := hcell 0 (by omega)
    have hb : (a.add 0).block < w.heap.size := World.block_lt_of_cell? w _ h0
    obtain ⟨b, off, spot⟩ := a
    have hs : spot = none := by simpa [Addr.add] using World.cell?_spot h0
    subst hs
    refine ⟨b, off, rfl, by simpa [Addr.add] using hb, fun j hj => ?_⟩
    have hc := hcell j (by omega)
    rw [add_plain] at hc
    have hj' : j < ss.length := by omega
    rw [hc]
    simp [sv, List.getD, hj', hj, Go.Proofs.YtlijagbklopipaaDoor.strOf_self]
set_option maxRecDepth 100000 in
theorem span_elem {l : List Value} (h : DataW.trod enc Tryd.prog w base sp held fuel 54 l = some x) : ∃ s : Sp, l = spv s := by
  have hC : Tryd.prog.cellsOf 54 = 3 := by kernel_rfl
  have c3 : Tryd.prog.cellsOf 3 = 1 := by kernel_rfl
  obtain ⟨xs, n, _, hx, hl, hlen, hg⟩ := DataW.trod_struct Tryd.underlying54 h
  rw [hC] at hl
  match l, hl, xs, hlen with
  | [x0, x1, x2], _, [y0, y1, y2], _ =>
    have g0 := hg 0 _ rfl
    have g1 := hg 1 _ rfl
    have g2 := hg 2 _ rfl
    simp [c3] at g0 g1 g2
    obtain ⟨n0, e0, f0, _⟩ := DataW.trod_int Tryd.underlying3 g0
    obtain ⟨n1, e1, f1, _⟩ := DataW.trod_int Tryd.underlying3 g1
    obtain ⟨n2, e2, f2, _⟩ := DataW.trod_int Tryd.underlying3 g2
    simp only [List.cons.injEq, and_true] at e0 e1 e2
    subst e0 e1 e2
    exact ⟨⟨n0, n1, n2⟩, rfl⟩
end

set_option maxRecDepth 100000 in
theorem req_open {H : Type} {enc : TypeId × Value → H} {w : World} {base : Nat} {sp : Nat → Bool} {held : Bool} {r : Reach} {b0 : Nat} {v : Value} {d : DataW H} {p : List MemPlace}
    (hv : Value.okWide Tryd.prog w r b0 26 v) (h : DataW.Trod enc Tryd.prog w base sp held 26 v d p) :
    ∃ (n0 : Int) (n1 : Int) (n2 : Int) (s3 : List UInt8) (Ai : Option Addr) (ni ci : Nat) (At : Option Addr) (nt ct : Nat) (Ab : Option Addr) (nb cb : Nat) (zs : List Int) (ts : List (List UInt8)) (bs : List UInt8), v = .agg #[.int .i64 n0, .int .i64 n1, .int .i64 n2, .string (strOf s3), .slice Ai ni ci, .slice At nt ct, .slice Ab nb cb] ∧ ((-9223372036854775808 ≤ n0 ∧ n0 ≤ 9223372036854775807) ∧ (-9223372036854775808 ≤ n1 ∧ n1 ≤ 9223372036854775807) ∧ (-9223372036854775808 ≤ n2 ∧ n2 ≤ 9223372036854775807) ∧ s3.length ≤ 9223372036854775807) ∧ Rq w w.heap.size Ai ni ci At nt ct Ab nb cb zs ts bs := by
  have hu := Tryd.underlying26
  have hC : Tryd.prog.cellsOf 26 = 7 := by kernel_rfl
  have c3 : Tryd.prog.cellsOf 3 = 1 := by kernel_rfl
  have c9 : Tryd.prog.cellsOf 9 = 1 := by kernel_rfl
  have c29 : Tryd.prog.cellsOf 29 = 1 := by kernel_rfl
  have c22 : Tryd.prog.cellsOf 22 = 1 := by kernel_rfl
  have c23 : Tryd.prog.cellsOf 23 = 1 := by kernel_rfl
  have c24 : Tryd.prog.cellsOf 24 = 1 := by kernel_rfl
  obtain ⟨cs, rfl, hsz⟩ := okWide_struct hu hv
  obtain ⟨l⟩ := cs
  match l, hsz.trans hC with
  | [x0, x1, x2, x3, x4, x5, x6], _ =>
    obtain ⟨fuel, hf⟩ := h
    obtain ⟨xs, n, _, hx, _, hlen, hg⟩ := DataW.trod_struct hu hf
    match xs, hlen with
    | [y0, y1, y2, y3, y4, y5, y6], _ =>
      have g0 := hg 0 _ rfl
      have g1 := hg 1 _ rfl
      have g2 := hg 2 _ rfl
      have g3 := hg 3 _ rfl
      have g4 := hg 4 _ rfl
      have g5 := hg 5 _ rfl
      have g6 := hg 6 _ rfl
      simp [Value.cells, c3, c9, c22, c23, c24] at g0 g1 g2 g3 g4 g5 g6
      obtain ⟨n0, e0, _, w0⟩ := DataW.trod_int Tryd.underlying3 g0
      obtain ⟨n1, e1, _, w1⟩ := DataW.trod_int Tryd.underlying3 g1
      obtain ⟨n2, e2, _, w2⟩ := DataW.trod_int Tryd.underlying3 g2
      obtain ⟨s3, e3, _, w3⟩ := DataW.trod_string Tryd.underlying9 g3
      simp only [List.cons.injEq, and_true] at e0 e1 e2 e3
      subst e0 e1 e2 e3
      obtain ⟨Ai, ni, ci, zs, rfl, hI⟩ := ints_open g4
      obtain ⟨At, nt, ct, ts, rfl, hT⟩ := texts_open g5
      obtain ⟨Ab, nb, cb, bs, rfl, hB⟩ := bytes_open g6
      exact ⟨n0, n1, n2, s3.data.toList, Ai, ni, ci, At, nt, ct, Ab, nb, cb, zs, ts, bs, (by simp only [Go.Proofs.YtlijagbklopipaaDoor.strOf_self]), ⟨bounds_i64 w0, bounds_i64 w1, bounds_i64 w2, by rw [Array.length_toList]; simpa [maxLen] using w3⟩, ⟨hI, hT, hB⟩⟩

set_option maxRecDepth 100000 in
theorem resp_open {H : Type} {enc : TypeId × Value → H} {w : World} {base : Nat} {sp : Nat → Bool} {held : Bool} {r : Reach} {b0 : Nat} {v : Value} {d : DataW H} {p : List MemPlace}
    (hv : Value.okWide Tryd.prog w r b0 38 v) (h : DataW.Trod enc Tryd.prog w base sp held 38 v d p) :
    ∃ (n0 : Int) (n1 : Int) (n2 : Int) (n3 : Int) (n4 : Int) (Ai : Option Addr) (ni ci : Nat) (At : Option Addr) (nt ct : Nat) (Ab : Option Addr) (nb cb : Nat) (zs : List Int) (ts : List (List UInt8)) (bs : List UInt8), v = .agg #[.int .i64 n0, .int .i64 n1, .int .i64 n2, .int .i64 n3, .int .i64 n4, .slice Ai ni ci, .slice At nt ct, .slice Ab nb cb] ∧ ((-9223372036854775808 ≤ n0 ∧ n0 ≤ 9223372036854775807) ∧ (-9223372036854775808 ≤ n1 ∧ n1 ≤ 9223372036854775807) ∧ (-9223372036854775808 ≤ n2 ∧ n2 ≤ 9223372036854775807) ∧ (-9223372036854775808 ≤ n3 ∧ n3 ≤ 9223372036854775807) ∧ (-9223372036854775808 ≤ n4 ∧ n4 ≤ 9223372036854775807)) ∧ Rq w w.heap.size Ai ni ci At nt ct Ab nb cb zs ts bs := by
  have hu := Tryd.underlying38
  have hC : Tryd.prog.cellsOf 38 = 8 := by kernel_rfl
  have c3 : Tryd.prog.cellsOf 3 = 1 := by kernel_rfl
  have c9 : Tryd.prog.cellsOf 9 = 1 := by kernel_rfl
  have c29 : Tryd.prog.cellsOf 29 = 1 := by kernel_rfl
  have c22 : Tryd.prog.cellsOf 22 = 1 := by kernel_rfl
  have c23 : Tryd.prog.cellsOf 23 = 1 := by kernel_rfl
  have c24 : Tryd.prog.cellsOf 24 = 1 := by kernel_rfl
  obtain ⟨cs, rfl, hsz⟩ := okWide_struct hu hv
  obtain ⟨l⟩ := cs
  match l, hsz.trans hC with
  | [x0, x1, x2, x3, x4, x5, x6, x7], _ =>
    obtain ⟨fuel, hf⟩ := h
    obtain ⟨xs, n, _, hx, _, hlen, hg⟩ := DataW.trod_struct hu hf
    match xs, hlen with
    | [y0, y1, y2, y3, y4, y5, y6, y7], _ =>
      have g0 := hg 0 _ rfl
      have g1 := hg 1 _ rfl
      have g2 := hg 2 _ rfl
      have g3 := hg 3 _ rfl
      have g4 := hg 4 _ rfl
      have g5 := hg 5 _ rfl
      have g6 := hg 6 _ rfl
      have g7 := hg 7 _ rfl
      simp [Value.cells, c3, c29, c22, c23, c24] at g0 g1 g2 g3 g4 g5 g6 g7
      obtain ⟨n0, e0, _, w0⟩ := DataW.trod_int Tryd.underlying3 g0
      obtain ⟨n1, e1, _, w1⟩ := DataW.trod_int Tryd.underlying3 g1
      obtain ⟨n2, e2, _, w2⟩ := DataW.trod_int Tryd.underlying3 g2
      obtain ⟨n3, e3, _, w3⟩ := DataW.trod_int Tryd.underlying29 g3
      obtain ⟨n4, e4, _, w4⟩ := DataW.trod_int Tryd.underlying3 g4
      simp only [List.cons.injEq, and_true] at e0 e1 e2 e3 e4
      subst e0 e1 e2 e3 e4
      obtain ⟨Ai, ni, ci, zs, rfl, hI⟩ := ints_open g5
      obtain ⟨At, nt, ct, ts, rfl, hT⟩ := texts_open g6
      obtain ⟨Ab, nb, cb, bs, rfl, hB⟩ := bytes_open g7
      exact ⟨n0, n1, n2, n3, n4, Ai, ni, ci, At, nt, ct, Ab, nb, cb, zs, ts, bs, rfl, ⟨bounds_i64 w0, bounds_i64 w1, bounds_i64 w2, bounds_i64 w3, bounds_i64 w4⟩, ⟨hI, hT, hB⟩⟩
end Go.Proofs.YtlijagbklopipaaDoor
