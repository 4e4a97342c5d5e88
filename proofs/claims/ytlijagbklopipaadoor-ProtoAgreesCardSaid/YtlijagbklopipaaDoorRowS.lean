/-
  What the row's condition on the package's table gives the walks: its 52 cells.
-/
import Derived.Test.YtlijagbklopipaaDoorRows
import Derived.Test.YtlijagbklopipaaDoorRow
import Derived.Test.YtlijagbklopipaaDoorProI
import Derived.LaidMore
import Derived.Lay
import Derived.ProofKit
import Derived.Stop.Joined
namespace Go.Proofs.YtlijagbklopipaaDoor
open Go.RowKit Go.ChangeShapes Go.WideShapes Go.ChangeAt
set_option linter.unusedVariables false

set_option maxRecDepth 100000 in
theorem shape_elem {H : Type} {enc : TypeId × Value → H} {w : World} {base : Nat} {sp : Nat → Bool} {held : Bool} {fuel : Nat} {l : List Value} {d : DataW H} {p : List MemPlace} {a b c e : Int}
    (h : DataW.trod enc Tryd.prog w base sp held fuel 59 l = some (d, p)) (hd : d = .agg [.lit (.int .i64 a), .lit (.int .i64 b), .lit (.int .i64 c), .lit (.int .i64 e)]) :
    l = [.int .i64 a, .int .i64 b, .int .i64 c, .int .i64 e] := by
  have hC : Tryd.prog.cellsOf 59 = 4 := by kernel_rfl
  have c3 : Tryd.prog.cellsOf 3 = 1 := by kernel_rfl
  obtain ⟨xs, n, _, hx, hl, hlen, hg⟩ := DataW.trod_struct Tryd.underlying59 h
  rw [hC] at hl
  match l, hl, xs, hlen with
  | [x0, x1, x2, x3], _, [y0, y1, y2, y3], _ =>
    have g0 := hg 0 _ rfl
    have g1 := hg 1 _ rfl
    have g2 := hg 2 _ rfl
    have g3 := hg 3 _ rfl
    simp [c3] at g0 g1 g2 g3
    obtain ⟨n0, e0, f0, _⟩ := DataW.trod_int Tryd.underlying3 g0
    obtain ⟨n1, e1, f1, _⟩ := DataW.trod_int Tryd.underlying3 g1
    obtain ⟨n2, e2, f2, _⟩ := DataW.trod_int Tryd.underlying3 g2
    obtain ⟨n3, e3, f3, _⟩ := DataW.trod_int Tryd.underlying3 g3
    simp only [List.cons.injEq, and_true] at e0 e1 e2 e3
    subst e0 e1 e2 e3 f0 f1 f2 f3
    subst hd
    simp only [List.map_cons, List.map_nil, Prod.mk.injEq, DataW.agg.injEq, List.cons.injEq, DataW.lit.injEq, Lit.int.injEq, true_and, and_true] at hx
    obtain ⟨⟨rfl, rfl, rfl, rfl⟩, _⟩ := hx
    rfl

def shapeD (k : Nat) : DataW Unit := .agg [.lit (.int .i64 (shapesL.getD (k * 4) 0)), .lit (.int .i64 (shapesL.getD (k * 4 + 1) 0)), .lit (.int .i64 (shapesL.getD (k * 4 + 2) 0)), .lit (.int .i64 (shapesL.getD (k * 4 + 3) 0))]
theorem laid_is : (Rows.laid_watermeet_proto_shapes : DataW Unit) = .agg ((List.range 13).map shapeD) := by rfl

set_option maxRecDepth 100000 in
theorem shp_of_laid {W : World} (h : laidMet Tryd.prog [("watermeet/proto.shapes", Rows.laid_watermeet_proto_shapes)] W) : Shp W := by
  obtain ⟨ps, ⟨g, t, cs, fuel, p, q, hg, ht, hv, hd, _, _⟩, _, _⟩ := h
  obtain rfl := Option.some.inj ((show Tryd.prog.globalNamed "watermeet/proto.shapes" = some 0 by kernel_rfl).symm.trans hg)
  obtain rfl := Option.some.inj ((show (Tryd.prog.globals[0]?).map (·.type) = some 60 by kernel_rfl).symm.trans ht)
  rw [laid_is] at hd
  obtain ⟨xs, m, _, ex, hcl, hl, hel⟩ := DataW.trod_array Tryd.underlying60 hd
  have c4 : Tryd.prog.cellsOf 59 = 4 := by kernel_rfl
  have e3 : xs.map (·.1) = (List.range 13).map shapeD := (DataW.agg.inj (Prod.mk.inj ex).1).symm
  have key : ∀ r, r < 13 → ((cs.toList.drop (r * 4)).take 4) = [.int .i64 (shapesL.getD (r * 4) 0), .int .i64 (shapesL.getD (r * 4 + 1) 0), .int .i64 (shapesL.getD (r * 4 + 2) 0), .int .i64 (shapesL.getD (r * 4 + 3) 0)] := fun r hr => by
    have hE := hel r hr
    rw [c4, List.getElem?_eq_getElem (by omega)] at hE
    have e4 : (xs.map (·.1))[r]? = ((List.range 13).map shapeD)[r]? := by rw [e3]
    rw [List.getElem?_map, List.getElem?_map, List.getElem?_eq_getElem (by omega : r < xs.length), List.getElem?_range hr] at e4
    simp only [Option.map_some, Option.some.injEq] at e4
    exact shape_elem (d := xs[r].1) (p := xs[r].2) hE e4
  have cell : ∀ j, j < 52 → W.cell? ⟨0, j, none⟩ = some (.int .i64 (shapesL.getD j 0)) := fun j hj => by
    obtain ⟨r, i, rfl, hr, hi⟩ : ∃ r i, j = r * 4 + i ∧ r < 13 ∧ i < 4 := ⟨j / 4, j % 4, by omega, by omega, by omega⟩
    have hk := key r hr
    have h0 : ((cs.toList.drop (r * 4)).take 4)[i]? = cs.toList[r * 4 + i]? := by
      rw [List.getElem?_take, if_pos hi, List.getElem?_drop]
    rw [hk] at h0
    have hv2 := World.var?_cell hg hv (r * 4 + i)
    rw [hv2]
    have h3 : cs[r * 4 + i]? = cs.toList[r * 4 + i]? := (Array.getElem?_toList (xs := cs)).symm
    rw [h3, ← h0]
    have hm : i = 0 ∨ i = 1 ∨ i = 2 ∨ i = 3 := by omega
    rcases hm with rfl | rfl | rfl | rfl <;> rfl
  exact ⟨block_lt_of_cell (cell 0 (by omega)), cell⟩
abbrev laidL : List (String × DataW Unit) := [("watermeet/proto.shapes", Rows.laid_watermeet_proto_shapes)]
/-- The door's own heap meets the condition. -/
theorem door_met (os : Os) (args : Array Value) : laidMetH Tryd.prog laidL ((World.doorLaid Tryd.prog 26 os).forCall (fun _ _ => 0) ⟨#[], args, []⟩).memory :=
  laidMetH_of_parts3 (fuel := 8) (laidMet_of_run' 8 (by kernel_rfl) (by kernel_rfl)) (by kernel_rfl) (by kernel_rfl)
theorem shp_of_laidH {W : World} (h : laidMetH Tryd.prog laidL W) : Shp W := by
  rw [MakeChecks.laidMetH_plain _ _ _ (by kernel_rfl)] at h
  exact shp_of_laid h
end Go.Proofs.YtlijagbklopipaaDoor
