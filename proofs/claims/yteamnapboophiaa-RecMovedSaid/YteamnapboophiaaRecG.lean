/-
  rec.Get: the walk.
-/
import Derived.Test.YteamnapboophiaaRecH
namespace Go.Proofs.Yteamnapboophiaa
open Go.RowKit
set_option linter.unusedVariables false

/-- A record's value. -/
def rv (r : Rc) : Value := .agg #[.int .i64 r.off, .string (strOf r.key), .string (strOf r.val), .bool r.dead, .int .i64 r.stamp]
/-- What Get answers. -/
def GetR (w : World) (R : Rc × Int × Int) (e : Ending) (w' : World) : Prop := ∃ (r : Rc) (n z : Int), R = (r, n, z) ∧ e = .returned (.tuple #[rv r, .int .i64 n, .int .i64 z]) ∧ Below w.heap.size w w'

/-- The result's block, the reader's block, and what lay below. -/
structure Stt (w0 W : World) (o : Int) (k v : ByteArray) (d : Bool) (s : Int) (A : Option Addr) (n c : Nat) (at_ e : Int) : Prop where
  res : W.heap[w0.heap.size]? = some (.cells #[.int .i64 o, .string k, .string v, .bool d, .int .i64 s] 23 (0, 0))
  rdr : W.heap[w0.heap.size + 1]? = some (.cells #[.slice A n c, .int .i64 at_, .int .i64 e] 45 (0, 0))
  bel : Below w0.heap.size w0 W
namespace Stt
variable {w0 W W' : World} {o : Int} {k v : ByteArray} {d : Bool} {s : Int} {A : Option Addr} {n c : Nat} {at_ e : Int}
theorem read {at2 e2 : Int} (h : Stt w0 W o k v d s A n c at_ e) (hr : Reads W W' (w0.heap.size + 1) A n c at2 e2) : Stt w0 W' o k v d s A n c at2 e2 :=
  ⟨(hr.grown.block _ (Array.getElem?_eq_some_iff.1 h.res).1 (by simp)).trans h.res, hr.box, h.bel.grown hr.grown h.bel.size (fun k hk => by cases hk; omega)⟩
theorem kept (h : Stt w0 W o k v d s A n c at_ e) (hb : Below W.heap.size W W') : Stt w0 W' o k v d s A n c at_ e :=
  ⟨(hb.block _ (Array.getElem?_eq_some_iff.1 h.res).1).trans h.res, (hb.block _ (Array.getElem?_eq_some_iff.1 h.rdr).1).trans h.rdr, h.bel.trans (hb.mono h.bel.size)⟩
theorem cells (h : Stt w0 W o k v d s A n c at_ e) : W.cell? ⟨w0.heap.size, 0, none⟩ = some (.int .i64 o) ∧ W.cell? ⟨w0.heap.size, 1, none⟩ = some (.string k) ∧ W.cell? ⟨w0.heap.size, 2, none⟩ = some (.string v) ∧ W.cell? ⟨w0.heap.size, 3, none⟩ = some (.bool d) ∧ W.cell? ⟨w0.heap.size, 4, none⟩ = some (.int .i64 s) ∧
    (∀ j, W.frozen? ⟨w0.heap.size, j, none⟩ = false) ∧ W.cell? ⟨w0.heap.size + 1, 1, none⟩ = some (.int .i64 at_) ∧ W.cell? ⟨w0.heap.size + 1, 2, none⟩ = some (.int .i64 e) ∧ W.frozen? ⟨w0.heap.size + 1, 2, none⟩ = false := by
  refine ⟨?_, ?_, ?_, ?_, ?_, ?_, ?_, ?_, ?_⟩
  · rw [cell_of_row _ _ 0 _ _ _ h.res]; rfl
  · rw [cell_of_row _ _ 1 _ _ _ h.res]; rfl
  · rw [cell_of_row _ _ 2 _ _ _ h.res]; rfl
  · rw [cell_of_row _ _ 3 _ _ _ h.res]; rfl
  · rw [cell_of_row _ _ 4 _ _ _ h.res]; rfl
  · intro j; simp [World.frozen?, h.res]
  · rw [cell_of_row _ _ 1 _ _ _ h.rdr]; rfl
  · rw [cell_of_row _ _ 2 _ _ _ h.rdr]; rfl
  · simp [World.frozen?, h.rdr]
theorem set0 (h : Stt w0 W o k v d s A n c at_ e) (x : Int) : Stt w0 (W.setCell ⟨w0.heap.size, 0, none⟩ (.int .i64 x)) x k v d s A n c at_ e :=
  ⟨heap_setCell_same _ _ 0 _ _ _ h.res, (Below.heap_setCell W _ _ _ (by simp)).trans h.rdr, h.bel.setCell (Nat.le_refl _) _⟩
theorem set1 (h : Stt w0 W o k v d s A n c at_ e) (x : ByteArray) : Stt w0 (W.setCell ⟨w0.heap.size, 1, none⟩ (.string x)) o x v d s A n c at_ e :=
  ⟨heap_setCell_same _ _ 1 _ _ _ h.res, (Below.heap_setCell W _ _ _ (by simp)).trans h.rdr, h.bel.setCell (Nat.le_refl _) _⟩
theorem set2 (h : Stt w0 W o k v d s A n c at_ e) (x : ByteArray) : Stt w0 (W.setCell ⟨w0.heap.size, 2, none⟩ (.string x)) o k x d s A n c at_ e :=
  ⟨heap_setCell_same _ _ 2 _ _ _ h.res, (Below.heap_setCell W _ _ _ (by simp)).trans h.rdr, h.bel.setCell (Nat.le_refl _) _⟩
theorem set3 (h : Stt w0 W o k v d s A n c at_ e) (x : Bool) : Stt w0 (W.setCell ⟨w0.heap.size, 3, none⟩ (.bool x)) o k v x s A n c at_ e :=
  ⟨heap_setCell_same _ _ 3 _ _ _ h.res, (Below.heap_setCell W _ _ _ (by simp)).trans h.rdr, h.bel.setCell (Nat.le_refl _) _⟩
theorem set4 (h : Stt w0 W o k v d s A n c at_ e) (x : Int) : Stt w0 (W.setCell ⟨w0.heap.size, 4, none⟩ (.int .i64 x)) o k v d x A n c at_ e :=
  ⟨heap_setCell_same _ _ 4 _ _ _ h.res, (Below.heap_setCell W _ _ _ (by simp)).trans h.rdr, h.bel.setCell (Nat.le_refl _) _⟩
theorem setE (h : Stt w0 W o k v d s A n c at_ e) (x : Int) : Stt w0 (W.setCell ⟨w0.heap.size + 1, 2, none⟩ (.int .i64 x)) o k v d s A n c at_ x :=
  ⟨(Below.heap_setCell W _ _ _ (by simp)).trans h.res, heap_setCell_same _ _ 2 _ _ _ h.rdr, h.bel.setCell (by simp) _⟩
end Stt
theorem stt0 (w : World) (A : Option Addr) (n c : Nat) (at_ : Int) : Stt w ((w.alloc (.cells #[.int .i64 0, .string { data := #[] }, .string { data := #[] }, .bool false, .int .i64 0] 23)).alloc (.cells #[.slice A n c, .int .i64 at_, .int .i64 0] 45)) 0 { data := #[] } { data := #[] } false 0 A n c at_ 0 := by
  refine ⟨?_, ?_, bput (bput (Below.refl _ w) _) _⟩
  · exact (Below.heap_alloc _ _ _ (by simp)).trans (World.alloc_heap_new w _)
  · have := World.alloc_heap_new (w.alloc (.cells #[.int .i64 0, .string { data := #[] }, .string { data := #[] }, .bool false, .int .i64 0] 23)) (.cells #[.slice A n c, .int .i64 at_, .int .i64 0] 45)
    rwa [World.size_alloc] at this

/-- GENERATED -/
theorem getT_small {l s : List UInt8} {at_ most n : Int} (h : getT l at_ most = (s, n, 0)) (hm : most ≤ 64) : s.length ≤ 9223372036854775807 := by
  have := (getT_only h).2.2.2.1
  omega

set_option maxRecDepth 100000 in
set_option maxHeartbeats 2000000 in
theorem get_1 {w : World} {A : Option Addr} {n c : Nat} {l : List UInt8} (h : Rd w w.heap.size A n c l) (at_ base st : Int) (hm : mayG l at_ base st = true) {d : Int} {i e1 : Int} (h1 : getV l at_ = (d, i, e1)) (n1 : e1 ≠ 0) : Calls Try.prog 20 #[.slice A n c, .int .i64 at_, .int .i64 base, .int .i64 st] w (GetR w (getR l at_ base st)) := by
  have HE := Lib.hid (getR1 hm h1 n1)
  have hlen := h.len
  have htop := h.top
  have hcap := h.cap
  simp only [mayG, Bool.and_eq_true, decide_eq_true_eq] at hm
  obtain ⟨⟨⟨g1, g2⟩, g3⟩, g4⟩ := hm
  have HI1 := Lib.hid g1
  have HI2 := Lib.hid g2
  have t1 : decide (at_ < 0) = false := by simp only [decide_eq_false_iff_not]; omega
  have t2 : decide ((n : Int) < at_) = false := by simp only [decide_eq_false_iff_not]; omega
  have H1 := Lib.hid h1
  have NE := Lib.hid n1
  have tE : (e1 == 0) = false := by simpa using n1
  have tE' : (e1 != 0) = true := by simpa using n1
  clear n1
  clear g1 g2 h1
  go_enter Try.func20, Try.ntmps20
  go_wp2_with fail
  refine (in_is _ _ HI1.out).mono ?_
  rintro e w1 ⟨rfl, rfl⟩
  go_wp2_with fail
  refine (in_is _ _ HI2.out).mono ?_
  rintro e w1 ⟨rfl, rfl⟩
  go_wp2_with fail
  have st0 := stt0 w A n c at_
  generalize (w.alloc (.cells #[.int .i64 0, .string { data := #[] }, .string { data := #[] }, .bool false, .int .i64 0] 23)).alloc (.cells #[.slice A n c, .int .i64 at_, .int .i64 0] 45) = W0 at *
  refine (field_int_ok (Stt.rdr st0) (h.below (Stt.bel st0)) H1.out).mono ?_
  rintro e W1 ⟨rfl, hr1⟩
  have st1 := Stt.read st0 hr1
  clear hr1 st0
  go_wp2_with fail
  refine (beside_ok base d HI1.out).mono ?_
  rintro e w2 ⟨rfl, rfl⟩
  obtain ⟨q0, q1, q2, q3, q4, qf, qa, qe, qg⟩ := Stt.cells st1
  have qf0 := qf 0
  have qf1 := qf 1
  have qf2 := qf 2
  have qf3 := qf 3
  have qf4 := qf 4
  clear qf
  go_wp2_with fail
  clear q0 q1 q2 q3 q4 qf0 qf1 qf2 qf3 qf4 qa qe qg
  have st2 := Stt.set0 st1 (besideI base d)
  clear st1
  generalize W1.setCell ⟨w.heap.size, 0, none⟩ (.int .i64 (besideI base d)) = W2 at *
  refine (field_int_not (Stt.rdr st2) NE.out).mono ?_
  rintro e w2 ⟨rfl, rfl⟩
  have st3 := st2
  clear st2
  go_wp2_with fail
  refine (beside_ok st 0 HI2.out).mono ?_
  rintro e w2 ⟨rfl, rfl⟩
  obtain ⟨q0, q1, q2, q3, q4, qf, qa, qe, qg⟩ := Stt.cells st3
  have qf0 := qf 0
  have qf1 := qf 1
  have qf2 := qf 2
  have qf3 := qf 3
  have qf4 := qf 4
  clear qf
  go_wp2_with fail
  clear q0 q1 q2 q3 q4 qf0 qf1 qf2 qf3 qf4 qa qe qg
  have st4 := Stt.set4 st3 (besideI st 0)
  clear st3
  generalize W2.setCell ⟨w.heap.size, 4, none⟩ (.int .i64 (besideI st 0)) = W4 at *
  refine (field_bool_not (Stt.rdr st4) NE.out).mono ?_
  rintro e w2 ⟨rfl, rfl⟩
  have st5 := st4
  clear st4
  obtain ⟨q0, q1, q2, q3, q4, qf, qa, qe, qg⟩ := Stt.cells st5
  have qf0 := qf 0
  have qf1 := qf 1
  have qf2 := qf 2
  have qf3 := qf 3
  have qf4 := qf 4
  clear qf
  go_wp2_with fail
  clear q0 q1 q2 q3 q4 qf0 qf1 qf2 qf3 qf4 qa qe qg
  have st6 := Stt.set3 st5 false
  clear st5
  generalize W4.setCell ⟨w.heap.size, 3, none⟩ (.bool false) = W6 at *
  refine (field_string_not (Stt.rdr st6) NE.out).mono ?_
  rintro e w2 ⟨rfl, rfl⟩
  have st7 := st6
  clear st6
  go_wp2_with fail
  refine (field_string_not (Stt.rdr st7) NE.out).mono ?_
  rintro e w2 ⟨rfl, rfl⟩
  have st8 := st7
  clear st7
  obtain ⟨q0, q1, q2, q3, q4, qf, qa, qe, qg⟩ := Stt.cells st8
  have qf0 := qf 0
  have qf1 := qf 1
  have qf2 := qf 2
  have qf3 := qf 3
  have qf4 := qf 4
  clear qf
  have st9 := Stt.set2 (Stt.set1 st8 { data := #[] }) { data := #[] }
  obtain ⟨_, _, _, _, _, _, _, ue, ug⟩ := Stt.cells st9
  obtain ⟨_, _, uc, _, _, uf, _, _, _⟩ := Stt.cells (Stt.set1 st8 { data := #[] })
  have uf2 := uf 2
  clear uf
  go_wp2_with fail
  generalize (W6.setCell ⟨w.heap.size, 1, none⟩ (.string { data := #[] })).setCell ⟨w.heap.size, 2, none⟩ (.string { data := #[] }) = WF at *
  obtain ⟨q0, q1, q2, q3, q4, qf, qa, qe, qg⟩ := Stt.cells st9
  have qf0 := qf 0
  have qf1 := qf 1
  have qf2 := qf 2
  have qf3 := qf 3
  have qf4 := qf 4
  clear qf
  go_region
  go_wp2
  have stZ := Stt.kept (Stt.set4 (Stt.set3 (Stt.set2 (Stt.set1 (Stt.set0 st9 0) { data := #[] }) { data := #[] }) false) 0) (Below.refl _ _).drew
  clear q0 q1 q2 q3 q4 qf0 qf1 qf2 qf3 qf4 qa qe qg
  generalize (((((WF.setCell ⟨w.heap.size, 0, none⟩ (.int .i64 0)).setCell ⟨w.heap.size, 1, none⟩ (.string { data := #[] })).setCell ⟨w.heap.size, 2, none⟩ (.string { data := #[] })).setCell ⟨w.heap.size, 3, none⟩ (.bool false)).setCell ⟨w.heap.size, 4, none⟩ (.int .i64 0)).drew = WZ at *
  obtain ⟨q0, q1, q2, q3, q4, _, _, _, _⟩ := Stt.cells stZ
  refine bodyPost_ret (v := .tuple #[rv zeroR, .int .i64 0, .int .i64 e1]) ?_ rfl ⟨_, _, _, HE.out, rfl, stZ.bel⟩
  simp [results, Try.f20, go_sem, q0, q1, q2, q3, q4, rv, zeroR, strOf_nil]

set_option maxRecDepth 100000 in
set_option maxHeartbeats 2000000 in
theorem get_2 {w : World} {A : Option Addr} {n c : Nat} {l : List UInt8} (h : Rd w w.heap.size A n c l) (at_ base st : Int) (hm : mayG l at_ base st = true) {d : Int} {i : Int} (h1 : getV l at_ = (d, i, 0)) {s : Int} {j e2 : Int} (h2 : getV l i = (s, j, e2)) (n2 : e2 ≠ 0) : Calls Try.prog 20 #[.slice A n c, .int .i64 at_, .int .i64 base, .int .i64 st] w (GetR w (getR l at_ base st)) := by
  have HE := Lib.hid (getR2 hm h1 h2 n2)
  have hlen := h.len
  have htop := h.top
  have hcap := h.cap
  simp only [mayG, Bool.and_eq_true, decide_eq_true_eq] at hm
  obtain ⟨⟨⟨g1, g2⟩, g3⟩, g4⟩ := hm
  have HI1 := Lib.hid g1
  have HI2 := Lib.hid g2
  have t1 : decide (at_ < 0) = false := by simp only [decide_eq_false_iff_not]; omega
  have t2 : decide ((n : Int) < at_) = false := by simp only [decide_eq_false_iff_not]; omega
  have H1 := Lib.hid h1
  have H2 := Lib.hid h2
  have NE := Lib.hid n2
  have tE : (e2 == 0) = false := by simpa using n2
  have tE' : (e2 != 0) = true := by simpa using n2
  clear n2
  clear g1 g2 h1 h2
  go_enter Try.func20, Try.ntmps20
  go_wp2_with fail
  refine (in_is _ _ HI1.out).mono ?_
  rintro e w1 ⟨rfl, rfl⟩
  go_wp2_with fail
  refine (in_is _ _ HI2.out).mono ?_
  rintro e w1 ⟨rfl, rfl⟩
  go_wp2_with fail
  have st0 := stt0 w A n c at_
  generalize (w.alloc (.cells #[.int .i64 0, .string { data := #[] }, .string { data := #[] }, .bool false, .int .i64 0] 23)).alloc (.cells #[.slice A n c, .int .i64 at_, .int .i64 0] 45) = W0 at *
  refine (field_int_ok (Stt.rdr st0) (h.below (Stt.bel st0)) H1.out).mono ?_
  rintro e W1 ⟨rfl, hr1⟩
  have st1 := Stt.read st0 hr1
  clear hr1 st0
  go_wp2_with fail
  refine (beside_ok base d HI1.out).mono ?_
  rintro e w2 ⟨rfl, rfl⟩
  obtain ⟨q0, q1, q2, q3, q4, qf, qa, qe, qg⟩ := Stt.cells st1
  have qf0 := qf 0
  have qf1 := qf 1
  have qf2 := qf 2
  have qf3 := qf 3
  have qf4 := qf 4
  clear qf
  go_wp2_with fail
  clear q0 q1 q2 q3 q4 qf0 qf1 qf2 qf3 qf4 qa qe qg
  have st2 := Stt.set0 st1 (besideI base d)
  clear st1
  generalize W1.setCell ⟨w.heap.size, 0, none⟩ (.int .i64 (besideI base d)) = W2 at *
  refine (field_int_ok (Stt.rdr st2) (h.below (Stt.bel st2)) H2.out).mono ?_
  rintro e W3 ⟨rfl, hr3⟩
  have st3 := Stt.read st2 hr3
  clear hr3 st2
  go_wp2_with fail
  refine (beside_ok st s HI2.out).mono ?_
  rintro e w2 ⟨rfl, rfl⟩
  obtain ⟨q0, q1, q2, q3, q4, qf, qa, qe, qg⟩ := Stt.cells st3
  have qf0 := qf 0
  have qf1 := qf 1
  have qf2 := qf 2
  have qf3 := qf 3
  have qf4 := qf 4
  clear qf
  go_wp2_with fail
  clear q0 q1 q2 q3 q4 qf0 qf1 qf2 qf3 qf4 qa qe qg
  have st4 := Stt.set4 st3 (besideI st s)
  clear st3
  generalize W3.setCell ⟨w.heap.size, 4, none⟩ (.int .i64 (besideI st s)) = W4 at *
  refine (field_bool_not (Stt.rdr st4) NE.out).mono ?_
  rintro e w2 ⟨rfl, rfl⟩
  have st5 := st4
  clear st4
  obtain ⟨q0, q1, q2, q3, q4, qf, qa, qe, qg⟩ := Stt.cells st5
  have qf0 := qf 0
  have qf1 := qf 1
  have qf2 := qf 2
  have qf3 := qf 3
  have qf4 := qf 4
  clear qf
  go_wp2_with fail
  clear q0 q1 q2 q3 q4 qf0 qf1 qf2 qf3 qf4 qa qe qg
  have st6 := Stt.set3 st5 false
  clear st5
  generalize W4.setCell ⟨w.heap.size, 3, none⟩ (.bool false) = W6 at *
  refine (field_string_not (Stt.rdr st6) NE.out).mono ?_
  rintro e w2 ⟨rfl, rfl⟩
  have st7 := st6
  clear st6
  go_wp2_with fail
  refine (field_string_not (Stt.rdr st7) NE.out).mono ?_
  rintro e w2 ⟨rfl, rfl⟩
  have st8 := st7
  clear st7
  obtain ⟨q0, q1, q2, q3, q4, qf, qa, qe, qg⟩ := Stt.cells st8
  have qf0 := qf 0
  have qf1 := qf 1
  have qf2 := qf 2
  have qf3 := qf 3
  have qf4 := qf 4
  clear qf
  have st9 := Stt.set2 (Stt.set1 st8 { data := #[] }) { data := #[] }
  obtain ⟨_, _, _, _, _, _, _, ue, ug⟩ := Stt.cells st9
  obtain ⟨_, _, uc, _, _, uf, _, _, _⟩ := Stt.cells (Stt.set1 st8 { data := #[] })
  have uf2 := uf 2
  clear uf
  go_wp2_with fail
  generalize (W6.setCell ⟨w.heap.size, 1, none⟩ (.string { data := #[] })).setCell ⟨w.heap.size, 2, none⟩ (.string { data := #[] }) = WF at *
  obtain ⟨q0, q1, q2, q3, q4, qf, qa, qe, qg⟩ := Stt.cells st9
  have qf0 := qf 0
  have qf1 := qf 1
  have qf2 := qf 2
  have qf3 := qf 3
  have qf4 := qf 4
  clear qf
  go_region
  go_wp2
  have stZ := Stt.kept (Stt.set4 (Stt.set3 (Stt.set2 (Stt.set1 (Stt.set0 st9 0) { data := #[] }) { data := #[] }) false) 0) (Below.refl _ _).drew
  clear q0 q1 q2 q3 q4 qf0 qf1 qf2 qf3 qf4 qa qe qg
  generalize (((((WF.setCell ⟨w.heap.size, 0, none⟩ (.int .i64 0)).setCell ⟨w.heap.size, 1, none⟩ (.string { data := #[] })).setCell ⟨w.heap.size, 2, none⟩ (.string { data := #[] })).setCell ⟨w.heap.size, 3, none⟩ (.bool false)).setCell ⟨w.heap.size, 4, none⟩ (.int .i64 0)).drew = WZ at *
  obtain ⟨q0, q1, q2, q3, q4, _, _, _, _⟩ := Stt.cells stZ
  refine bodyPost_ret (v := .tuple #[rv zeroR, .int .i64 0, .int .i64 e2]) ?_ rfl ⟨_, _, _, HE.out, rfl, stZ.bel⟩
  simp [results, Try.f20, go_sem, q0, q1, q2, q3, q4, rv, zeroR, strOf_nil]

set_option maxRecDepth 100000 in
set_option maxHeartbeats 2000000 in
theorem get_3 {w : World} {A : Option Addr} {n c : Nat} {l : List UInt8} (h : Rd w w.heap.size A n c l) (at_ base st : Int) (hm : mayG l at_ base st = true) {d : Int} {i : Int} (h1 : getV l at_ = (d, i, 0)) {s : Int} {j : Int} (h2 : getV l i = (s, j, 0)) {f : Bool} {m e3 : Int} (h3 : flagR l j = (f, m, e3)) (n3 : e3 ≠ 0) : Calls Try.prog 20 #[.slice A n c, .int .i64 at_, .int .i64 base, .int .i64 st] w (GetR w (getR l at_ base st)) := by
  have HE := Lib.hid (getR3 hm h1 h2 h3 n3)
  have hlen := h.len
  have htop := h.top
  have hcap := h.cap
  simp only [mayG, Bool.and_eq_true, decide_eq_true_eq] at hm
  obtain ⟨⟨⟨g1, g2⟩, g3⟩, g4⟩ := hm
  have HI1 := Lib.hid g1
  have HI2 := Lib.hid g2
  have t1 : decide (at_ < 0) = false := by simp only [decide_eq_false_iff_not]; omega
  have t2 : decide ((n : Int) < at_) = false := by simp only [decide_eq_false_iff_not]; omega
  have HJ : Hid (0 ≤ j) := Lib.hid (by have := getV_next (l := l) (at_ := i) (by rw [h2]); rw [h2] at this; simp only at this; omega)
  have H1 := Lib.hid h1
  have H2 := Lib.hid h2
  have H3 := Lib.hid h3
  have NE := Lib.hid n3
  have tE : (e3 == 0) = false := by simpa using n3
  have tE' : (e3 != 0) = true := by simpa using n3
  clear n3
  clear g1 g2 h1 h2 h3
  go_enter Try.func20, Try.ntmps20
  go_wp2_with fail
  refine (in_is _ _ HI1.out).mono ?_
  rintro e w1 ⟨rfl, rfl⟩
  go_wp2_with fail
  refine (in_is _ _ HI2.out).mono ?_
  rintro e w1 ⟨rfl, rfl⟩
  go_wp2_with fail
  have st0 := stt0 w A n c at_
  generalize (w.alloc (.cells #[.int .i64 0, .string { data := #[] }, .string { data := #[] }, .bool false, .int .i64 0] 23)).alloc (.cells #[.slice A n c, .int .i64 at_, .int .i64 0] 45) = W0 at *
  refine (field_int_ok (Stt.rdr st0) (h.below (Stt.bel st0)) H1.out).mono ?_
  rintro e W1 ⟨rfl, hr1⟩
  have st1 := Stt.read st0 hr1
  clear hr1 st0
  go_wp2_with fail
  refine (beside_ok base d HI1.out).mono ?_
  rintro e w2 ⟨rfl, rfl⟩
  obtain ⟨q0, q1, q2, q3, q4, qf, qa, qe, qg⟩ := Stt.cells st1
  have qf0 := qf 0
  have qf1 := qf 1
  have qf2 := qf 2
  have qf3 := qf 3
  have qf4 := qf 4
  clear qf
  go_wp2_with fail
  clear q0 q1 q2 q3 q4 qf0 qf1 qf2 qf3 qf4 qa qe qg
  have st2 := Stt.set0 st1 (besideI base d)
  clear st1
  generalize W1.setCell ⟨w.heap.size, 0, none⟩ (.int .i64 (besideI base d)) = W2 at *
  refine (field_int_ok (Stt.rdr st2) (h.below (Stt.bel st2)) H2.out).mono ?_
  rintro e W3 ⟨rfl, hr3⟩
  have st3 := Stt.read st2 hr3
  clear hr3 st2
  go_wp2_with fail
  refine (beside_ok st s HI2.out).mono ?_
  rintro e w2 ⟨rfl, rfl⟩
  obtain ⟨q0, q1, q2, q3, q4, qf, qa, qe, qg⟩ := Stt.cells st3
  have qf0 := qf 0
  have qf1 := qf 1
  have qf2 := qf 2
  have qf3 := qf 3
  have qf4 := qf 4
  clear qf
  go_wp2_with fail
  clear q0 q1 q2 q3 q4 qf0 qf1 qf2 qf3 qf4 qa qe qg
  have st4 := Stt.set4 st3 (besideI st s)
  clear st3
  generalize W3.setCell ⟨w.heap.size, 4, none⟩ (.int .i64 (besideI st s)) = W4 at *
  refine (field_bool_ok (Stt.rdr st4) (h.below (Stt.bel st4)) HJ.out H3.out).mono ?_
  rintro e W5 ⟨rfl, hr5⟩
  have st5 := Stt.read st4 hr5
  clear hr5 st4
  obtain ⟨q0, q1, q2, q3, q4, qf, qa, qe, qg⟩ := Stt.cells st5
  have qf0 := qf 0
  have qf1 := qf 1
  have qf2 := qf 2
  have qf3 := qf 3
  have qf4 := qf 4
  clear qf
  go_wp2_with fail
  clear q0 q1 q2 q3 q4 qf0 qf1 qf2 qf3 qf4 qa qe qg
  have st6 := Stt.set3 st5 f
  clear st5
  generalize W5.setCell ⟨w.heap.size, 3, none⟩ (.bool f) = W6 at *
  refine (field_string_not (Stt.rdr st6) NE.out).mono ?_
  rintro e w2 ⟨rfl, rfl⟩
  have st7 := st6
  clear st6
  go_wp2_with fail
  refine (field_string_not (Stt.rdr st7) NE.out).mono ?_
  rintro e w2 ⟨rfl, rfl⟩
  have st8 := st7
  clear st7
  obtain ⟨q0, q1, q2, q3, q4, qf, qa, qe, qg⟩ := Stt.cells st8
  have qf0 := qf 0
  have qf1 := qf 1
  have qf2 := qf 2
  have qf3 := qf 3
  have qf4 := qf 4
  clear qf
  have st9 := Stt.set2 (Stt.set1 st8 { data := #[] }) { data := #[] }
  obtain ⟨_, _, _, _, _, _, _, ue, ug⟩ := Stt.cells st9
  obtain ⟨_, _, uc, _, _, uf, _, _, _⟩ := Stt.cells (Stt.set1 st8 { data := #[] })
  have uf2 := uf 2
  clear uf
  go_wp2_with fail
  generalize (W6.setCell ⟨w.heap.size, 1, none⟩ (.string { data := #[] })).setCell ⟨w.heap.size, 2, none⟩ (.string { data := #[] }) = WF at *
  obtain ⟨q0, q1, q2, q3, q4, qf, qa, qe, qg⟩ := Stt.cells st9
  have qf0 := qf 0
  have qf1 := qf 1
  have qf2 := qf 2
  have qf3 := qf 3
  have qf4 := qf 4
  clear qf
  go_region
  go_wp2
  have stZ := Stt.kept (Stt.set4 (Stt.set3 (Stt.set2 (Stt.set1 (Stt.set0 st9 0) { data := #[] }) { data := #[] }) false) 0) (Below.refl _ _).drew
  clear q0 q1 q2 q3 q4 qf0 qf1 qf2 qf3 qf4 qa qe qg
  generalize (((((WF.setCell ⟨w.heap.size, 0, none⟩ (.int .i64 0)).setCell ⟨w.heap.size, 1, none⟩ (.string { data := #[] })).setCell ⟨w.heap.size, 2, none⟩ (.string { data := #[] })).setCell ⟨w.heap.size, 3, none⟩ (.bool false)).setCell ⟨w.heap.size, 4, none⟩ (.int .i64 0)).drew = WZ at *
  obtain ⟨q0, q1, q2, q3, q4, _, _, _, _⟩ := Stt.cells stZ
  refine bodyPost_ret (v := .tuple #[rv zeroR, .int .i64 0, .int .i64 e3]) ?_ rfl ⟨_, _, _, HE.out, rfl, stZ.bel⟩
  simp [results, Try.f20, go_sem, q0, q1, q2, q3, q4, rv, zeroR, strOf_nil]

set_option maxRecDepth 100000 in
set_option maxHeartbeats 2000000 in
theorem get_4 {w : World} {A : Option Addr} {n c : Nat} {l : List UInt8} (h : Rd w w.heap.size A n c l) (at_ base st : Int) (hm : mayG l at_ base st = true) {d : Int} {i : Int} (h1 : getV l at_ = (d, i, 0)) {s : Int} {j : Int} (h2 : getV l i = (s, j, 0)) {f : Bool} {m : Int} (h3 : flagR l j = (f, m, 0)) {k : List UInt8} {q e4 : Int} (h4 : getT l m 64 = (k, q, e4)) (n4 : e4 ≠ 0) : Calls Try.prog 20 #[.slice A n c, .int .i64 at_, .int .i64 base, .int .i64 st] w (GetR w (getR l at_ base st)) := by
  have HE := Lib.hid (getR4 hm h1 h2 h3 h4 n4)
  have hlen := h.len
  have htop := h.top
  have hcap := h.cap
  simp only [mayG, Bool.and_eq_true, decide_eq_true_eq] at hm
  obtain ⟨⟨⟨g1, g2⟩, g3⟩, g4⟩ := hm
  have HI1 := Lib.hid g1
  have HI2 := Lib.hid g2
  have t1 : decide (at_ < 0) = false := by simp only [decide_eq_false_iff_not]; omega
  have t2 : decide ((n : Int) < at_) = false := by simp only [decide_eq_false_iff_not]; omega
  have HJ : Hid (0 ≤ j) := Lib.hid (by have := getV_next (l := l) (at_ := i) (by rw [h2]); rw [h2] at this; simp only at this; omega)
  have H1 := Lib.hid h1
  have H2 := Lib.hid h2
  have H3 := Lib.hid h3
  have H4 := Lib.hid h4
  have NE := Lib.hid n4
  have tE : (e4 == 0) = false := by simpa using n4
  have tE' : (e4 != 0) = true := by simpa using n4
  clear n4
  clear g1 g2 h1 h2 h3 h4
  go_enter Try.func20, Try.ntmps20
  go_wp2_with fail
  refine (in_is _ _ HI1.out).mono ?_
  rintro e w1 ⟨rfl, rfl⟩
  go_wp2_with fail
  refine (in_is _ _ HI2.out).mono ?_
  rintro e w1 ⟨rfl, rfl⟩
  go_wp2_with fail
  have st0 := stt0 w A n c at_
  generalize (w.alloc (.cells #[.int .i64 0, .string { data := #[] }, .string { data := #[] }, .bool false, .int .i64 0] 23)).alloc (.cells #[.slice A n c, .int .i64 at_, .int .i64 0] 45) = W0 at *
  refine (field_int_ok (Stt.rdr st0) (h.below (Stt.bel st0)) H1.out).mono ?_
  rintro e W1 ⟨rfl, hr1⟩
  have st1 := Stt.read st0 hr1
  clear hr1 st0
  go_wp2_with fail
  refine (beside_ok base d HI1.out).mono ?_
  rintro e w2 ⟨rfl, rfl⟩
  obtain ⟨q0, q1, q2, q3, q4, qf, qa, qe, qg⟩ := Stt.cells st1
  have qf0 := qf 0
  have qf1 := qf 1
  have qf2 := qf 2
  have qf3 := qf 3
  have qf4 := qf 4
  clear qf
  go_wp2_with fail
  clear q0 q1 q2 q3 q4 qf0 qf1 qf2 qf3 qf4 qa qe qg
  have st2 := Stt.set0 st1 (besideI base d)
  clear st1
  generalize W1.setCell ⟨w.heap.size, 0, none⟩ (.int .i64 (besideI base d)) = W2 at *
  refine (field_int_ok (Stt.rdr st2) (h.below (Stt.bel st2)) H2.out).mono ?_
  rintro e W3 ⟨rfl, hr3⟩
  have st3 := Stt.read st2 hr3
  clear hr3 st2
  go_wp2_with fail
  refine (beside_ok st s HI2.out).mono ?_
  rintro e w2 ⟨rfl, rfl⟩
  obtain ⟨q0, q1, q2, q3, q4, qf, qa, qe, qg⟩ := Stt.cells st3
  have qf0 := qf 0
  have qf1 := qf 1
  have qf2 := qf 2
  have qf3 := qf 3
  have qf4 := qf 4
  clear qf
  go_wp2_with fail
  clear q0 q1 q2 q3 q4 qf0 qf1 qf2 qf3 qf4 qa qe qg
  have st4 := Stt.set4 st3 (besideI st s)
  clear st3
  generalize W3.setCell ⟨w.heap.size, 4, none⟩ (.int .i64 (besideI st s)) = W4 at *
  refine (field_bool_ok (Stt.rdr st4) (h.below (Stt.bel st4)) HJ.out H3.out).mono ?_
  rintro e W5 ⟨rfl, hr5⟩
  have st5 := Stt.read st4 hr5
  clear hr5 st4
  obtain ⟨q0, q1, q2, q3, q4, qf, qa, qe, qg⟩ := Stt.cells st5
  have qf0 := qf 0
  have qf1 := qf 1
  have qf2 := qf 2
  have qf3 := qf 3
  have qf4 := qf 4
  clear qf
  go_wp2_with fail
  clear q0 q1 q2 q3 q4 qf0 qf1 qf2 qf3 qf4 qa qe qg
  have st6 := Stt.set3 st5 f
  clear st5
  generalize W5.setCell ⟨w.heap.size, 3, none⟩ (.bool f) = W6 at *
  refine (field_string_ok (Stt.rdr st6) (h.below (Stt.bel st6)) H4.out).mono ?_
  rintro e W7 ⟨rfl, hr7⟩
  have st7 := Stt.read st6 hr7
  clear hr7 st6
  go_wp2_with fail
  refine (field_string_not (Stt.rdr st7) NE.out).mono ?_
  rintro e w2 ⟨rfl, rfl⟩
  have st8 := st7
  clear st7
  obtain ⟨q0, q1, q2, q3, q4, qf, qa, qe, qg⟩ := Stt.cells st8
  have qf0 := qf 0
  have qf1 := qf 1
  have qf2 := qf 2
  have qf3 := qf 3
  have qf4 := qf 4
  clear qf
  have st9 := Stt.set2 (Stt.set1 st8 (strOf k)) { data := #[] }
  obtain ⟨_, _, _, _, _, _, _, ue, ug⟩ := Stt.cells st9
  obtain ⟨_, _, uc, _, _, uf, _, _, _⟩ := Stt.cells (Stt.set1 st8 (strOf k))
  have uf2 := uf 2
  clear uf
  go_wp2_with fail
  generalize (W7.setCell ⟨w.heap.size, 1, none⟩ (.string (strOf k))).setCell ⟨w.heap.size, 2, none⟩ (.string { data := #[] }) = WF at *
  obtain ⟨q0, q1, q2, q3, q4, qf, qa, qe, qg⟩ := Stt.cells st9
  have qf0 := qf 0
  have qf1 := qf 1
  have qf2 := qf 2
  have qf3 := qf 3
  have qf4 := qf 4
  clear qf
  go_region
  go_wp2
  have stZ := Stt.kept (Stt.set4 (Stt.set3 (Stt.set2 (Stt.set1 (Stt.set0 st9 0) { data := #[] }) { data := #[] }) false) 0) (Below.refl _ _).drew
  clear q0 q1 q2 q3 q4 qf0 qf1 qf2 qf3 qf4 qa qe qg
  generalize (((((WF.setCell ⟨w.heap.size, 0, none⟩ (.int .i64 0)).setCell ⟨w.heap.size, 1, none⟩ (.string { data := #[] })).setCell ⟨w.heap.size, 2, none⟩ (.string { data := #[] })).setCell ⟨w.heap.size, 3, none⟩ (.bool false)).setCell ⟨w.heap.size, 4, none⟩ (.int .i64 0)).drew = WZ at *
  obtain ⟨q0, q1, q2, q3, q4, _, _, _, _⟩ := Stt.cells stZ
  refine bodyPost_ret (v := .tuple #[rv zeroR, .int .i64 0, .int .i64 e4]) ?_ rfl ⟨_, _, _, HE.out, rfl, stZ.bel⟩
  simp [results, Try.f20, go_sem, q0, q1, q2, q3, q4, rv, zeroR, strOf_nil]

set_option maxRecDepth 100000 in
set_option maxHeartbeats 2000000 in
theorem get_5 {w : World} {A : Option Addr} {n c : Nat} {l : List UInt8} (h : Rd w w.heap.size A n c l) (at_ base st : Int) (hm : mayG l at_ base st = true) {d : Int} {i : Int} (h1 : getV l at_ = (d, i, 0)) {s : Int} {j : Int} (h2 : getV l i = (s, j, 0)) {f : Bool} {m : Int} (h3 : flagR l j = (f, m, 0)) {k : List UInt8} {q : Int} (h4 : getT l m 64 = (k, q, 0)) {v : List UInt8} {r e5 : Int} (h5 : getT l q 64 = (v, r, e5)) (n5 : e5 ≠ 0) : Calls Try.prog 20 #[.slice A n c, .int .i64 at_, .int .i64 base, .int .i64 st] w (GetR w (getR l at_ base st)) := by
  have HE := Lib.hid (getR5 hm h1 h2 h3 h4 h5 n5)
  have hlen := h.len
  have htop := h.top
  have hcap := h.cap
  simp only [mayG, Bool.and_eq_true, decide_eq_true_eq] at hm
  obtain ⟨⟨⟨g1, g2⟩, g3⟩, g4⟩ := hm
  have HI1 := Lib.hid g1
  have HI2 := Lib.hid g2
  have t1 : decide (at_ < 0) = false := by simp only [decide_eq_false_iff_not]; omega
  have t2 : decide ((n : Int) < at_) = false := by simp only [decide_eq_false_iff_not]; omega
  have HJ : Hid (0 ≤ j) := Lib.hid (by have := getV_next (l := l) (at_ := i) (by rw [h2]); rw [h2] at this; simp only at this; omega)
  have H1 := Lib.hid h1
  have H2 := Lib.hid h2
  have H3 := Lib.hid h3
  have H4 := Lib.hid h4
  have H5 := Lib.hid h5
  have NE := Lib.hid n5
  have tE : (e5 == 0) = false := by simpa using n5
  have tE' : (e5 != 0) = true := by simpa using n5
  clear n5
  clear g1 g2 h1 h2 h3 h4 h5
  go_enter Try.func20, Try.ntmps20
  go_wp2_with fail
  refine (in_is _ _ HI1.out).mono ?_
  rintro e w1 ⟨rfl, rfl⟩
  go_wp2_with fail
  refine (in_is _ _ HI2.out).mono ?_
  rintro e w1 ⟨rfl, rfl⟩
  go_wp2_with fail
  have st0 := stt0 w A n c at_
  generalize (w.alloc (.cells #[.int .i64 0, .string { data := #[] }, .string { data := #[] }, .bool false, .int .i64 0] 23)).alloc (.cells #[.slice A n c, .int .i64 at_, .int .i64 0] 45) = W0 at *
  refine (field_int_ok (Stt.rdr st0) (h.below (Stt.bel st0)) H1.out).mono ?_
  rintro e W1 ⟨rfl, hr1⟩
  have st1 := Stt.read st0 hr1
  clear hr1 st0
  go_wp2_with fail
  refine (beside_ok base d HI1.out).mono ?_
  rintro e w2 ⟨rfl, rfl⟩
  obtain ⟨q0, q1, q2, q3, q4, qf, qa, qe, qg⟩ := Stt.cells st1
  have qf0 := qf 0
  have qf1 := qf 1
  have qf2 := qf 2
  have qf3 := qf 3
  have qf4 := qf 4
  clear qf
  go_wp2_with fail
  clear q0 q1 q2 q3 q4 qf0 qf1 qf2 qf3 qf4 qa qe qg
  have st2 := Stt.set0 st1 (besideI base d)
  clear st1
  generalize W1.setCell ⟨w.heap.size, 0, none⟩ (.int .i64 (besideI base d)) = W2 at *
  refine (field_int_ok (Stt.rdr st2) (h.below (Stt.bel st2)) H2.out).mono ?_
  rintro e W3 ⟨rfl, hr3⟩
  have st3 := Stt.read st2 hr3
  clear hr3 st2
  go_wp2_with fail
  refine (beside_ok st s HI2.out).mono ?_
  rintro e w2 ⟨rfl, rfl⟩
  obtain ⟨q0, q1, q2, q3, q4, qf, qa, qe, qg⟩ := Stt.cells st3
  have qf0 := qf 0
  have qf1 := qf 1
  have qf2 := qf 2
  have qf3 := qf 3
  have qf4 := qf 4
  clear qf
  go_wp2_with fail
  clear q0 q1 q2 q3 q4 qf0 qf1 qf2 qf3 qf4 qa qe qg
  have st4 := Stt.set4 st3 (besideI st s)
  clear st3
  generalize W3.setCell ⟨w.heap.size, 4, none⟩ (.int .i64 (besideI st s)) = W4 at *
  refine (field_bool_ok (Stt.rdr st4) (h.below (Stt.bel st4)) HJ.out H3.out).mono ?_
  rintro e W5 ⟨rfl, hr5⟩
  have st5 := Stt.read st4 hr5
  clear hr5 st4
  obtain ⟨q0, q1, q2, q3, q4, qf, qa, qe, qg⟩ := Stt.cells st5
  have qf0 := qf 0
  have qf1 := qf 1
  have qf2 := qf 2
  have qf3 := qf 3
  have qf4 := qf 4
  clear qf
  go_wp2_with fail
  clear q0 q1 q2 q3 q4 qf0 qf1 qf2 qf3 qf4 qa qe qg
  have st6 := Stt.set3 st5 f
  clear st5
  generalize W5.setCell ⟨w.heap.size, 3, none⟩ (.bool f) = W6 at *
  refine (field_string_ok (Stt.rdr st6) (h.below (Stt.bel st6)) H4.out).mono ?_
  rintro e W7 ⟨rfl, hr7⟩
  have st7 := Stt.read st6 hr7
  clear hr7 st6
  go_wp2_with fail
  refine (field_string_ok (Stt.rdr st7) (h.below (Stt.bel st7)) H5.out).mono ?_
  rintro e W8 ⟨rfl, hr8⟩
  have st8 := Stt.read st7 hr8
  clear hr8 st7
  obtain ⟨q0, q1, q2, q3, q4, qf, qa, qe, qg⟩ := Stt.cells st8
  have qf0 := qf 0
  have qf1 := qf 1
  have qf2 := qf 2
  have qf3 := qf 3
  have qf4 := qf 4
  clear qf
  have st9 := Stt.set2 (Stt.set1 st8 (strOf k)) (strOf v)
  obtain ⟨_, _, _, _, _, _, _, ue, ug⟩ := Stt.cells st9
  obtain ⟨_, _, uc, _, _, uf, _, _, _⟩ := Stt.cells (Stt.set1 st8 (strOf k))
  have uf2 := uf 2
  clear uf
  go_wp2_with fail
  generalize (W8.setCell ⟨w.heap.size, 1, none⟩ (.string (strOf k))).setCell ⟨w.heap.size, 2, none⟩ (.string (strOf v)) = WF at *
  obtain ⟨q0, q1, q2, q3, q4, qf, qa, qe, qg⟩ := Stt.cells st9
  have qf0 := qf 0
  have qf1 := qf 1
  have qf2 := qf 2
  have qf3 := qf 3
  have qf4 := qf 4
  clear qf
  go_region
  go_wp2
  have stZ := Stt.kept (Stt.set4 (Stt.set3 (Stt.set2 (Stt.set1 (Stt.set0 st9 0) { data := #[] }) { data := #[] }) false) 0) (Below.refl _ _).drew
  clear q0 q1 q2 q3 q4 qf0 qf1 qf2 qf3 qf4 qa qe qg
  generalize (((((WF.setCell ⟨w.heap.size, 0, none⟩ (.int .i64 0)).setCell ⟨w.heap.size, 1, none⟩ (.string { data := #[] })).setCell ⟨w.heap.size, 2, none⟩ (.string { data := #[] })).setCell ⟨w.heap.size, 3, none⟩ (.bool false)).setCell ⟨w.heap.size, 4, none⟩ (.int .i64 0)).drew = WZ at *
  obtain ⟨q0, q1, q2, q3, q4, _, _, _, _⟩ := Stt.cells stZ
  refine bodyPost_ret (v := .tuple #[rv zeroR, .int .i64 0, .int .i64 e5]) ?_ rfl ⟨_, _, _, HE.out, rfl, stZ.bel⟩
  simp [results, Try.f20, go_sem, q0, q1, q2, q3, q4, rv, zeroR, strOf_nil]

set_option maxRecDepth 100000 in
set_option maxHeartbeats 2000000 in
theorem get_6 {w : World} {A : Option Addr} {n c : Nat} {l : List UInt8} (h : Rd w w.heap.size A n c l) (at_ base st : Int) (hm : mayG l at_ base st = true) {d : Int} {i : Int} (h1 : getV l at_ = (d, i, 0)) {s : Int} {j : Int} (h2 : getV l i = (s, j, 0)) {f : Bool} {m : Int} (h3 : flagR l j = (f, m, 0)) {k : List UInt8} {q : Int} (h4 : getT l m 64 = (k, q, 0)) {v : List UInt8} {r : Int} (h5 : getT l q 64 = (v, r, 0)) (h6 : chk ⟨besideI base d, k, v, f, besideI st s⟩ = false) : Calls Try.prog 20 #[.slice A n c, .int .i64 at_, .int .i64 base, .int .i64 st] w (GetR w (getR l at_ base st)) := by
  have HE := Lib.hid (getR6 hm h1 h2 h3 h4 h5 h6)
  have hlen := h.len
  have htop := h.top
  have hcap := h.cap
  simp only [mayG, Bool.and_eq_true, decide_eq_true_eq] at hm
  obtain ⟨⟨⟨g1, g2⟩, g3⟩, g4⟩ := hm
  have HI1 := Lib.hid g1
  have HI2 := Lib.hid g2
  have t1 : decide (at_ < 0) = false := by simp only [decide_eq_false_iff_not]; omega
  have t2 : decide ((n : Int) < at_) = false := by simp only [decide_eq_false_iff_not]; omega
  have HJ : Hid (0 ≤ j) := Lib.hid (by have := getV_next (l := l) (at_ := i) (by rw [h2]); rw [h2] at this; simp only at this; omega)
  have H1 := Lib.hid h1
  have H2 := Lib.hid h2
  have H3 := Lib.hid h3
  have H4 := Lib.hid h4
  have H5 := Lib.hid h5
  have HT4 : Hid (k.length ≤ 9223372036854775807) := Lib.hid (getT_small h4 (by omega))
  have HT5 : Hid (v.length ≤ 9223372036854775807) := Lib.hid (getT_small h5 (by omega))
  have HCK := Lib.hid h6
  clear h6
  clear g1 g2 h1 h2 h3 h4 h5
  go_enter Try.func20, Try.ntmps20
  go_wp2_with fail
  refine (in_is _ _ HI1.out).mono ?_
  rintro e w1 ⟨rfl, rfl⟩
  go_wp2_with fail
  refine (in_is _ _ HI2.out).mono ?_
  rintro e w1 ⟨rfl, rfl⟩
  go_wp2_with fail
  have st0 := stt0 w A n c at_
  generalize (w.alloc (.cells #[.int .i64 0, .string { data := #[] }, .string { data := #[] }, .bool false, .int .i64 0] 23)).alloc (.cells #[.slice A n c, .int .i64 at_, .int .i64 0] 45) = W0 at *
  refine (field_int_ok (Stt.rdr st0) (h.below (Stt.bel st0)) H1.out).mono ?_
  rintro e W1 ⟨rfl, hr1⟩
  have st1 := Stt.read st0 hr1
  clear hr1 st0
  go_wp2_with fail
  refine (beside_ok base d HI1.out).mono ?_
  rintro e w2 ⟨rfl, rfl⟩
  obtain ⟨q0, q1, q2, q3, q4, qf, qa, qe, qg⟩ := Stt.cells st1
  have qf0 := qf 0
  have qf1 := qf 1
  have qf2 := qf 2
  have qf3 := qf 3
  have qf4 := qf 4
  clear qf
  go_wp2_with fail
  clear q0 q1 q2 q3 q4 qf0 qf1 qf2 qf3 qf4 qa qe qg
  have st2 := Stt.set0 st1 (besideI base d)
  clear st1
  generalize W1.setCell ⟨w.heap.size, 0, none⟩ (.int .i64 (besideI base d)) = W2 at *
  refine (field_int_ok (Stt.rdr st2) (h.below (Stt.bel st2)) H2.out).mono ?_
  rintro e W3 ⟨rfl, hr3⟩
  have st3 := Stt.read st2 hr3
  clear hr3 st2
  go_wp2_with fail
  refine (beside_ok st s HI2.out).mono ?_
  rintro e w2 ⟨rfl, rfl⟩
  obtain ⟨q0, q1, q2, q3, q4, qf, qa, qe, qg⟩ := Stt.cells st3
  have qf0 := qf 0
  have qf1 := qf 1
  have qf2 := qf 2
  have qf3 := qf 3
  have qf4 := qf 4
  clear qf
  go_wp2_with fail
  clear q0 q1 q2 q3 q4 qf0 qf1 qf2 qf3 qf4 qa qe qg
  have st4 := Stt.set4 st3 (besideI st s)
  clear st3
  generalize W3.setCell ⟨w.heap.size, 4, none⟩ (.int .i64 (besideI st s)) = W4 at *
  refine (field_bool_ok (Stt.rdr st4) (h.below (Stt.bel st4)) HJ.out H3.out).mono ?_
  rintro e W5 ⟨rfl, hr5⟩
  have st5 := Stt.read st4 hr5
  clear hr5 st4
  obtain ⟨q0, q1, q2, q3, q4, qf, qa, qe, qg⟩ := Stt.cells st5
  have qf0 := qf 0
  have qf1 := qf 1
  have qf2 := qf 2
  have qf3 := qf 3
  have qf4 := qf 4
  clear qf
  go_wp2_with fail
  clear q0 q1 q2 q3 q4 qf0 qf1 qf2 qf3 qf4 qa qe qg
  have st6 := Stt.set3 st5 f
  clear st5
  generalize W5.setCell ⟨w.heap.size, 3, none⟩ (.bool f) = W6 at *
  refine (field_string_ok (Stt.rdr st6) (h.below (Stt.bel st6)) H4.out).mono ?_
  rintro e W7 ⟨rfl, hr7⟩
  have st7 := Stt.read st6 hr7
  clear hr7 st6
  go_wp2_with fail
  refine (field_string_ok (Stt.rdr st7) (h.below (Stt.bel st7)) H5.out).mono ?_
  rintro e W8 ⟨rfl, hr8⟩
  have st8 := Stt.read st7 hr8
  clear hr8 st7
  obtain ⟨q0, q1, q2, q3, q4, qf, qa, qe, qg⟩ := Stt.cells st8
  have qf0 := qf 0
  have qf1 := qf 1
  have qf2 := qf 2
  have qf3 := qf 3
  have qf4 := qf 4
  clear qf
  have st9 := Stt.set2 (Stt.set1 st8 (strOf k)) (strOf v)
  obtain ⟨_, _, _, _, _, _, _, ue, ug⟩ := Stt.cells st9
  obtain ⟨_, _, uc, _, _, uf, _, _, _⟩ := Stt.cells (Stt.set1 st8 (strOf k))
  have uf2 := uf 2
  clear uf
  go_wp2_with fail
  generalize (W8.setCell ⟨w.heap.size, 1, none⟩ (.string (strOf k))).setCell ⟨w.heap.size, 2, none⟩ (.string (strOf v)) = WF at *
  refine (check_is (by rw [strOf_size]; exact HT4.out) (by rw [strOf_size]; exact HT5.out) (b := false) (by rw [strOf_size, strOf_size]; exact HCK.out)).mono ?_
  rintro e w2 ⟨rfl, hb2⟩
  have stC := Stt.kept st9 hb2
  clear hb2 st9
  obtain ⟨q0, q1, q2, q3, q4, qf, qa, qe, qg⟩ := Stt.cells stC
  have qf0 := qf 0
  have qf1 := qf 1
  have qf2 := qf 2
  have qf3 := qf 3
  have qf4 := qf 4
  clear qf
  have eI : errI false = 1 := rfl
  have stD := Stt.setE stC 1
  obtain ⟨_, _, _, _, _, _, _, ue, ug⟩ := Stt.cells stD
  go_wp2_with fail
  clear q0 q1 q2 q3 q4 qf0 qf1 qf2 qf3 qf4 qa qe qg ue ug
  generalize w2.setCell ⟨w.heap.size + 1, 2, none⟩ (.int .i64 1) = WF at *
  obtain ⟨q0, q1, q2, q3, q4, qf, qa, qe, qg⟩ := Stt.cells stD
  have qf0 := qf 0
  have qf1 := qf 1
  have qf2 := qf 2
  have qf3 := qf 3
  have qf4 := qf 4
  clear qf
  go_region
  go_wp2
  have stZ := Stt.kept (Stt.set4 (Stt.set3 (Stt.set2 (Stt.set1 (Stt.set0 stD 0) { data := #[] }) { data := #[] }) false) 0) (Below.refl _ _).drew
  clear q0 q1 q2 q3 q4 qf0 qf1 qf2 qf3 qf4 qa qe qg
  generalize (((((WF.setCell ⟨w.heap.size, 0, none⟩ (.int .i64 0)).setCell ⟨w.heap.size, 1, none⟩ (.string { data := #[] })).setCell ⟨w.heap.size, 2, none⟩ (.string { data := #[] })).setCell ⟨w.heap.size, 3, none⟩ (.bool false)).setCell ⟨w.heap.size, 4, none⟩ (.int .i64 0)).drew = WZ at *
  obtain ⟨q0, q1, q2, q3, q4, _, _, _, _⟩ := Stt.cells stZ
  refine bodyPost_ret (v := .tuple #[rv zeroR, .int .i64 0, .int .i64 1]) ?_ rfl ⟨_, _, _, HE.out, rfl, stZ.bel⟩
  simp [results, Try.f20, go_sem, q0, q1, q2, q3, q4, rv, zeroR, strOf_nil]

set_option maxRecDepth 100000 in
set_option maxHeartbeats 2000000 in
theorem get_7 {w : World} {A : Option Addr} {n c : Nat} {l : List UInt8} (h : Rd w w.heap.size A n c l) (at_ base st : Int) (hm : mayG l at_ base st = true) {d : Int} {i : Int} (h1 : getV l at_ = (d, i, 0)) {s : Int} {j : Int} (h2 : getV l i = (s, j, 0)) {f : Bool} {m : Int} (h3 : flagR l j = (f, m, 0)) {k : List UInt8} {q : Int} (h4 : getT l m 64 = (k, q, 0)) {v : List UInt8} {r : Int} (h5 : getT l q 64 = (v, r, 0)) (h6 : chk ⟨besideI base d, k, v, f, besideI st s⟩ = true) : Calls Try.prog 20 #[.slice A n c, .int .i64 at_, .int .i64 base, .int .i64 st] w (GetR w (getR l at_ base st)) := by
  have HE := Lib.hid (getR7 hm h1 h2 h3 h4 h5 h6)
  have hlen := h.len
  have htop := h.top
  have hcap := h.cap
  simp only [mayG, Bool.and_eq_true, decide_eq_true_eq] at hm
  obtain ⟨⟨⟨g1, g2⟩, g3⟩, g4⟩ := hm
  have HI1 := Lib.hid g1
  have HI2 := Lib.hid g2
  have t1 : decide (at_ < 0) = false := by simp only [decide_eq_false_iff_not]; omega
  have t2 : decide ((n : Int) < at_) = false := by simp only [decide_eq_false_iff_not]; omega
  have HJ : Hid (0 ≤ j) := Lib.hid (by have := getV_next (l := l) (at_ := i) (by rw [h2]); rw [h2] at this; simp only at this; omega)
  have H1 := Lib.hid h1
  have H2 := Lib.hid h2
  have H3 := Lib.hid h3
  have H4 := Lib.hid h4
  have H5 := Lib.hid h5
  have HT4 : Hid (k.length ≤ 9223372036854775807) := Lib.hid (getT_small h4 (by omega))
  have HT5 : Hid (v.length ≤ 9223372036854775807) := Lib.hid (getT_small h5 (by omega))
  have HCK := Lib.hid h6
  clear h6
  clear g1 g2 h1 h2 h3 h4 h5
  go_enter Try.func20, Try.ntmps20
  go_wp2_with fail
  refine (in_is _ _ HI1.out).mono ?_
  rintro e w1 ⟨rfl, rfl⟩
  go_wp2_with fail
  refine (in_is _ _ HI2.out).mono ?_
  rintro e w1 ⟨rfl, rfl⟩
  go_wp2_with fail
  have st0 := stt0 w A n c at_
  generalize (w.alloc (.cells #[.int .i64 0, .string { data := #[] }, .string { data := #[] }, .bool false, .int .i64 0] 23)).alloc (.cells #[.slice A n c, .int .i64 at_, .int .i64 0] 45) = W0 at *
  refine (field_int_ok (Stt.rdr st0) (h.below (Stt.bel st0)) H1.out).mono ?_
  rintro e W1 ⟨rfl, hr1⟩
  have st1 := Stt.read st0 hr1
  clear hr1 st0
  go_wp2_with fail
  refine (beside_ok base d HI1.out).mono ?_
  rintro e w2 ⟨rfl, rfl⟩
  obtain ⟨q0, q1, q2, q3, q4, qf, qa, qe, qg⟩ := Stt.cells st1
  have qf0 := qf 0
  have qf1 := qf 1
  have qf2 := qf 2
  have qf3 := qf 3
  have qf4 := qf 4
  clear qf
  go_wp2_with fail
  clear q0 q1 q2 q3 q4 qf0 qf1 qf2 qf3 qf4 qa qe qg
  have st2 := Stt.set0 st1 (besideI base d)
  clear st1
  generalize W1.setCell ⟨w.heap.size, 0, none⟩ (.int .i64 (besideI base d)) = W2 at *
  refine (field_int_ok (Stt.rdr st2) (h.below (Stt.bel st2)) H2.out).mono ?_
  rintro e W3 ⟨rfl, hr3⟩
  have st3 := Stt.read st2 hr3
  clear hr3 st2
  go_wp2_with fail
  refine (beside_ok st s HI2.out).mono ?_
  rintro e w2 ⟨rfl, rfl⟩
  obtain ⟨q0, q1, q2, q3, q4, qf, qa, qe, qg⟩ := Stt.cells st3
  have qf0 := qf 0
  have qf1 := qf 1
  have qf2 := qf 2
  have qf3 := qf 3
  have qf4 := qf 4
  clear qf
  go_wp2_with fail
  clear q0 q1 q2 q3 q4 qf0 qf1 qf2 qf3 qf4 qa qe qg
  have st4 := Stt.set4 st3 (besideI st s)
  clear st3
  generalize W3.setCell ⟨w.heap.size, 4, none⟩ (.int .i64 (besideI st s)) = W4 at *
  refine (field_bool_ok (Stt.rdr st4) (h.below (Stt.bel st4)) HJ.out H3.out).mono ?_
  rintro e W5 ⟨rfl, hr5⟩
  have st5 := Stt.read st4 hr5
  clear hr5 st4
  obtain ⟨q0, q1, q2, q3, q4, qf, qa, qe, qg⟩ := Stt.cells st5
  have qf0 := qf 0
  have qf1 := qf 1
  have qf2 := qf 2
  have qf3 := qf 3
  have qf4 := qf 4
  clear qf
  go_wp2_with fail
  clear q0 q1 q2 q3 q4 qf0 qf1 qf2 qf3 qf4 qa qe qg
  have st6 := Stt.set3 st5 f
  clear st5
  generalize W5.setCell ⟨w.heap.size, 3, none⟩ (.bool f) = W6 at *
  refine (field_string_ok (Stt.rdr st6) (h.below (Stt.bel st6)) H4.out).mono ?_
  rintro e W7 ⟨rfl, hr7⟩
  have st7 := Stt.read st6 hr7
  clear hr7 st6
  go_wp2_with fail
  refine (field_string_ok (Stt.rdr st7) (h.below (Stt.bel st7)) H5.out).mono ?_
  rintro e W8 ⟨rfl, hr8⟩
  have st8 := Stt.read st7 hr8
  clear hr8 st7
  obtain ⟨q0, q1, q2, q3, q4, qf, qa, qe, qg⟩ := Stt.cells st8
  have qf0 := qf 0
  have qf1 := qf 1
  have qf2 := qf 2
  have qf3 := qf 3
  have qf4 := qf 4
  clear qf
  have st9 := Stt.set2 (Stt.set1 st8 (strOf k)) (strOf v)
  obtain ⟨_, _, _, _, _, _, _, ue, ug⟩ := Stt.cells st9
  obtain ⟨_, _, uc, _, _, uf, _, _, _⟩ := Stt.cells (Stt.set1 st8 (strOf k))
  have uf2 := uf 2
  clear uf
  go_wp2_with fail
  generalize (W8.setCell ⟨w.heap.size, 1, none⟩ (.string (strOf k))).setCell ⟨w.heap.size, 2, none⟩ (.string (strOf v)) = WF at *
  refine (check_is (by rw [strOf_size]; exact HT4.out) (by rw [strOf_size]; exact HT5.out) (b := true) (by rw [strOf_size, strOf_size]; exact HCK.out)).mono ?_
  rintro e w2 ⟨rfl, hb2⟩
  have stC := Stt.kept st9 hb2
  clear hb2 st9
  obtain ⟨q0, q1, q2, q3, q4, qf, qa, qe, qg⟩ := Stt.cells stC
  have qf0 := qf 0
  have qf1 := qf 1
  have qf2 := qf 2
  have qf3 := qf 3
  have qf4 := qf 4
  clear qf
  have eI : errI true = 0 := rfl
  have stD := Stt.setE stC 0
  obtain ⟨_, _, _, _, _, _, _, ue, ug⟩ := Stt.cells stD
  go_wp2_with fail
  clear q0 q1 q2 q3 q4 qf0 qf1 qf2 qf3 qf4 qa qe qg ue ug
  generalize w2.setCell ⟨w.heap.size + 1, 2, none⟩ (.int .i64 0) = WF at *
  obtain ⟨q0, q1, q2, q3, q4, qf, qa, qe, qg⟩ := Stt.cells stD
  have qf0 := qf 0
  have qf1 := qf 1
  have qf2 := qf 2
  have qf3 := qf 3
  have qf4 := qf 4
  clear qf
  go_region
  go_wp2
  have stZ := Stt.kept (Stt.set4 (Stt.set3 (Stt.set2 (Stt.set1 (Stt.set0 stD (besideI base d)) (strOf k)) (strOf v)) f) (besideI st s)) (Below.refl _ _).drew
  clear q0 q1 q2 q3 q4 qf0 qf1 qf2 qf3 qf4 qa qe qg
  generalize (((((WF.setCell ⟨w.heap.size, 0, none⟩ (.int .i64 (besideI base d))).setCell ⟨w.heap.size, 1, none⟩ (.string (strOf k))).setCell ⟨w.heap.size, 2, none⟩ (.string (strOf v))).setCell ⟨w.heap.size, 3, none⟩ (.bool f)).setCell ⟨w.heap.size, 4, none⟩ (.int .i64 (besideI st s))).drew = WZ at *
  obtain ⟨q0, q1, q2, q3, q4, _, _, _, _⟩ := Stt.cells stZ
  refine bodyPost_ret (v := .tuple #[rv ⟨besideI base d, k, v, f, besideI st s⟩, .int .i64 r, .int .i64 0]) ?_ rfl ⟨_, _, _, HE.out, rfl, stZ.bel⟩
  simp [results, Try.f20, go_sem, q0, q1, q2, q3, q4, rv]

theorem get_0 {w : World} {A : Option Addr} {n c : Nat} {l : List UInt8} (h : Rd w w.heap.size A n c l) (at_ base st : Int) (hm : mayG l at_ base st = false) : Calls Try.prog 20 #[.slice A n c, .int .i64 at_, .int .i64 base, .int .i64 st] w (GetR w (getR l at_ base st)) := by
  have HE := Lib.hid (getR0 hm)
  have hlen := h.len
  cases h1 : inR base with
  | false =>
    go_enter Try.func20, Try.ntmps20
    go_wp2_with fail
    refine (in_is _ _ h1).mono ?_
    rintro e w1 ⟨rfl, rfl⟩
    go_wp2
    refine bodyPost_ret (v := .tuple #[rv zeroR, .int .i64 0, .int .i64 1]) ?_ rfl ⟨_, _, _, HE.out, rfl, bput (Below.refl _ w) _⟩
    simp [results, Try.f20, go_sem, rv, zeroR, strOf_nil]
  | true =>
  cases h2 : inR st with
  | false =>
    go_enter Try.func20, Try.ntmps20
    go_wp2_with fail
    refine (in_is _ _ h1).mono ?_
    rintro e w1 ⟨rfl, rfl⟩
    go_wp2_with fail
    refine (in_is _ _ h2).mono ?_
    rintro e w1 ⟨rfl, rfl⟩
    go_wp2
    refine bodyPost_ret (v := .tuple #[rv zeroR, .int .i64 0, .int .i64 1]) ?_ rfl ⟨_, _, _, HE.out, rfl, bput (Below.refl _ w) _⟩
    simp [results, Try.f20, go_sem, rv, zeroR, strOf_nil]
  | true =>
  by_cases h3 : at_ < 0
  · have t1 : decide (at_ < 0) = true := by simpa using h3
    go_enter Try.func20, Try.ntmps20
    go_wp2_with fail
    refine (in_is _ _ h1).mono ?_
    rintro e w1 ⟨rfl, rfl⟩
    go_wp2_with fail
    refine (in_is _ _ h2).mono ?_
    rintro e w1 ⟨rfl, rfl⟩
    go_wp2
    refine bodyPost_ret (v := .tuple #[rv zeroR, .int .i64 0, .int .i64 1]) ?_ rfl ⟨_, _, _, HE.out, rfl, bput (Below.refl _ w) _⟩
    simp [results, Try.f20, go_sem, rv, zeroR, strOf_nil]
  · have t1 : decide (at_ < 0) = false := by simpa using h3
    have t2 : decide ((n : Int) < at_) = true := by
      simp only [mayG, h1, h2, Bool.true_and, Bool.and_eq_false_iff, decide_eq_false_iff_not] at hm
      simp only [decide_eq_true_eq]
      omega
    go_enter Try.func20, Try.ntmps20
    go_wp2_with fail
    refine (in_is _ _ h1).mono ?_
    rintro e w1 ⟨rfl, rfl⟩
    go_wp2_with fail
    refine (in_is _ _ h2).mono ?_
    rintro e w1 ⟨rfl, rfl⟩
    go_wp2
    refine bodyPost_ret (v := .tuple #[rv zeroR, .int .i64 0, .int .i64 1]) ?_ rfl ⟨_, _, _, HE.out, rfl, bput (Below.refl _ w) _⟩
    simp [results, Try.f20, go_sem, rv, zeroR, strOf_nil]

theorem get_ok {w : World} {A : Option Addr} {n c : Nat} {l : List UInt8} (h : Rd w w.heap.size A n c l) (at_ base st : Int) : Calls Try.prog 20 #[.slice A n c, .int .i64 at_, .int .i64 base, .int .i64 st] w (GetR w (getR l at_ base st)) := by
  cases hm : mayG l at_ base st with
  | false => exact get_0 h at_ base st hm
  | true =>
  obtain ⟨d, i, e1, h1⟩ : ∃ d i e1, getV l at_ = (d, i, e1) := ⟨_, _, _, rfl⟩
  by_cases n1 : e1 = 0
  · subst n1
    obtain ⟨s, j, e2, h2⟩ : ∃ s j e2, getV l i = (s, j, e2) := ⟨_, _, _, rfl⟩
    by_cases n2 : e2 = 0
    · subst n2
      obtain ⟨f, m, e3, h3⟩ : ∃ f m e3, flagR l j = (f, m, e3) := ⟨_, _, _, rfl⟩
      by_cases n3 : e3 = 0
      · subst n3
        obtain ⟨k, q, e4, h4⟩ : ∃ k q e4, getT l m 64 = (k, q, e4) := ⟨_, _, _, rfl⟩
        by_cases n4 : e4 = 0
        · subst n4
          obtain ⟨v, r, e5, h5⟩ : ∃ v r e5, getT l q 64 = (v, r, e5) := ⟨_, _, _, rfl⟩
          by_cases n5 : e5 = 0
          · subst n5
            cases h6 : chk ⟨besideI base d, k, v, f, besideI st s⟩ with
            | false => exact get_6 h at_ base st hm h1 h2 h3 h4 h5 h6
            | true => exact get_7 h at_ base st hm h1 h2 h3 h4 h5 h6
          · exact get_5 h at_ base st hm h1 h2 h3 h4 h5 n5
        · exact get_4 h at_ base st hm h1 h2 h3 h4 n4
      · exact get_3 h at_ base st hm h1 h2 h3 n3
    · exact get_2 h at_ base st hm h1 h2 n2
  · exact get_1 h at_ base st hm h1 n1
end Go.Proofs.Yteamnapboophiaa
