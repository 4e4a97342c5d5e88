/-
  From a row's readings to what the walks ask: slices of numbers, and slices of slices of bytes, with the reach of each.
-/
import Derived.Deep.Matrix
import Derived.SizedLaws
import Derived.Test.YtnffhhmfclcmjaaRow
import Derived.Test.YtnffhhmfclcmjaaFrmS
namespace Go.Proofs.Ytnffhhmfclcmjaa
open Go.RowKit
set_option linter.unusedVariables false

theorem ri_of_ints {W : World} {x : Addr} {len cap : Nat} {zs : List Int} (hl : len ≤ cap) (hm : cap ≤ maxLen) (hz : zs.length = cap)
    (hcell : ∀ i, i < zs.length → W.cell? (x.add i) = some (.int .i64 (zs.getD i 0))) : Ri W W.heap.size (some x) len cap (zs.take len) := by
  refine ⟨by simp; omega, hl, by simpa [maxLen] using hm, fun hn => ?_⟩
  have h0 := hcell 0 (by omega)
  have hb : (x.add 0).block < W.heap.size := World.block_lt_of_cell? W _ h0
  obtain ⟨b, off, spot⟩ := x
  have hs : spot = none := by simpa [Addr.add] using World.cell?_spot h0
  subst hs
  refine ⟨b, off, rfl, by simpa [Addr.add] using hb, fun j hj => ?_⟩
  have hc := hcell j (by omega)
  rw [add_plain] at hc
  rw [hc]
  have hj' : j < zs.length := by omega
  simp [List.getD, hj', hj]

/-- A row of a slice of slices. -/
def rowOf (L : Nat → Nat) (Z : Nat → List Int) (r : Nat) : List UInt8 := ((Z r).take (L r)).map fun z => UInt8.ofNat z.toNat
theorem rl_of_rows {W : World} {x : Addr} {len cap base : Nat} {A : Nat → Option Addr} {L C : Nat → Nat} {Z : Nat → List Int} (hl : len ≤ cap) (hm : cap ≤ maxLen)
    (h : ∀ r, r < cap → W.cell? (x.add r) = some (.slice (A r) (L r) (C r)) ∧ L r ≤ C r ∧ C r ≤ maxLen ∧ (Z r).length = C r ∧ (∀ n ∈ Z r, (Lit.int .u8 n).wf = true) ∧ (A r = none → C r = 0) ∧
        ∀ a', A r = some a' → base ≤ a'.block ∧ ∀ c, c < C r → W.cell? (a'.add c) = some (.int .u8 ((Z r).getD c 0))) :
    Rl W W.heap.size (some x) len cap ((List.range len).map (rowOf L Z)) := by
  refine ⟨by simp, hl, by simpa [maxLen] using hm, fun hn => ?_⟩
  have h0 := (h 0 (by omega)).1
  have hb : (x.add 0).block < W.heap.size := World.block_lt_of_cell? W _ h0
  obtain ⟨b, off, spot⟩ := x
  have hs : spot = none := by simpa [Addr.add] using World.cell?_spot h0
  subst hs
  refine ⟨b, off, rfl, by simpa [Addr.add] using hb, fun j hj => ?_⟩
  obtain ⟨e1, e2, e3, e4, e5, e6, e7⟩ := h j (by omega)
  rw [add_plain] at e1
  refine ⟨_, _, _, e1, ?_⟩
  have hrow : ((List.range len).map (rowOf L Z)).getD j [] = rowOf L Z j := by simp [List.getD, hj]
  rw [hrow]
  rcases hA : A j with _ | a
  · have hc0 := e6 hA
    have hL0 : L j = 0 := by omega
    have hZ : Z j = [] := List.eq_nil_of_length_eq_zero (by omega)
    rw [hL0, hc0, rowOf, hZ]
    simp only [List.take_nil, List.map_nil]
    exact Rd.nil _ _
  · exact rd_of_ints e2 e3 e4 (fun i hi => (e7 a hA).2 i (by omega)) e5

section
variable {H : Type} {P : Program}
theorem weightsAll_mem {e : TypeId} {n : Nat} : ∀ {elems : List (DataW H)} {d : DataW H}, d ∈ elems → n ∈ d.weights P e → n ∈ DataW.weightsAll P e elems
  | x :: r, d, hd, hn => by
    simp only [DataW.weightsAll, List.mem_append]
    rcases List.mem_cons.1 hd with rfl | hd
    · exact .inl hn
    · exact .inr (weightsAll_mem hd hn)
theorem rows_reach {ts : List TypeId} {ds : List (DataW H)} (h : (DataW.weightsEach P ts ds).all (· ≤ reachBytes) = true) {j : Nat} {t e q : TypeId} (ht : ts[j]? = some t) (hu : P.underlying t = some (.slice e)) (he : P.underlying e = some (.slice q)) (hq : P.bytesOf q = 1)
    {len : Nat} {A : Nat → Option Addr} {L C : Nat → Nat} {Z : Nat → List Int} {spare : List (DataW H)} (hd : ds[j]? = some (.slice ((List.range len).map fun r => Deep.intRow .u8 (A r) (L r) (Z r)) spare))
    (hx : ∀ r, r < len → L r ≤ C r ∧ (Z r).length = C r ∧ (A r = none → C r = 0)) : ∀ y ∈ (List.range len).map (rowOf L Z), y.length ≤ 140737488355328 := by
  intro y hy
  obtain ⟨r, hr, rfl⟩ := List.mem_map.1 hy
  have hr' := List.mem_range.1 hr
  obtain ⟨g1, g2, g3⟩ := hx r hr'
  have hlen : (rowOf L Z r).length ≤ (Z r).length := by simp only [rowOf, List.length_map, List.length_take]; omega
  rcases hA : A r with _ | a
  · have := g3 hA
    omega
  · have hmem : (Z r).length ∈ DataW.weightsEach P ts ds := by
      refine DataW.weights_mem_each ht hd _ ?_
      simp only [DataW.weights, hu, List.mem_cons, List.mem_append]
      refine .inr (.inl (weightsAll_mem (List.mem_map.2 ⟨r, hr, rfl⟩) ?_))
      simp only [Deep.intRow, hA, DataW.weights, he, hq, List.mem_cons, Nat.mul_one]
      left
      simp [Go.ChangeShapes.lits]
      omega
    have := List.all_eq_true.1 h _ hmem
    have h2 : (Z r).length ≤ reachBytes := by simpa using this
    have := reachBytes_lt
    omega
end
end Go.Proofs.Ytnffhhmfclcmjaa
