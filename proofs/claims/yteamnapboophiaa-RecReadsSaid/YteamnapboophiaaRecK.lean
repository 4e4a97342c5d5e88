/-
  The reference's Get: the walk.
-/
import Derived.Test.YteamnapboophiaaRecG
namespace Go.Proofs.Yteamnapboophiaa
open Go.RowKit
set_option linter.unusedVariables false

theorem rb_in (n d : Int) : inR (rbesideI n d) = inR (besideI n d) := by
  unfold rbesideI
  cases h : inR (besideI n d) with
  | true => rw [if_pos rfl, h]
  | false => rw [if_neg (by simp)]; decide
theorem rb_eq {n d : Int} (h : inR (besideI n d) = true) : rbesideI n d = besideI n d := by rw [rbesideI, if_pos h]
theorem rb_chk (base st d s : Int) (k v : List UInt8) (f : Bool) : chkN (rbesideI base d) k.length v.length f (rbesideI st s) = chk ⟨besideI base d, k, v, f, besideI st s⟩ := by
  unfold chk chkN
  rw [rb_in, rb_in]

/-- The result's block, the empty record's block, and what lay below. -/
structure Two (w0 W : World) (o : Int) (k v : ByteArray) (d : Bool) (s : Int) : Prop where
  res : W.heap[w0.heap.size]? = some (.cells #[.int .i64 o, .string k, .string v, .bool d, .int .i64 s] 23 (0, 0))
  non : W.heap[w0.heap.size + 1]? = some (.cells #[.int .i64 0, .string { data := #[] }, .string { data := #[] }, .bool false, .int .i64 0] 23 (0, 0))
  bel : Below w0.heap.size w0 W
namespace Two
variable {w0 W W' : World} {o : Int} {k v : ByteArray} {d : Bool} {s : Int}
theorem kept (h : Two w0 W o k v d s) (hb : Below W.heap.size W W') : Two w0 W' o k v d s :=
  ⟨(hb.block _ (Array.getElem?_eq_some_iff.1 h.res).1).trans h.res, (hb.block _ (Array.getElem?_eq_some_iff.1 h.non).1).trans h.non, h.bel.trans (hb.mono h.bel.size)⟩
theorem cells (h : Two w0 W o k v d s) : W.cell? ⟨w0.heap.size, 0, none⟩ = some (.int .i64 o) ∧ W.cell? ⟨w0.heap.size, 1, none⟩ = some (.string k) ∧ W.cell? ⟨w0.heap.size, 2, none⟩ = some (.string v) ∧ W.cell? ⟨w0.heap.size, 3, none⟩ = some (.bool d) ∧ W.cell? ⟨w0.heap.size, 4, none⟩ = some (.int .i64 s) ∧
    (∀ j, W.frozen? ⟨w0.heap.size, j, none⟩ = false) := by
  refine ⟨?_, ?_, ?_, ?_, ?_, ?_⟩
  · rw [cell_of_row _ _ 0 _ _ _ h.res]; rfl
  · rw [cell_of_row _ _ 1 _ _ _ h.res]; rfl
  · rw [cell_of_row _ _ 2 _ _ _ h.res]; rfl
  · rw [cell_of_row _ _ 3 _ _ _ h.res]; rfl
  · rw [cell_of_row _ _ 4 _ _ _ h.res]; rfl
  · intro j; simp [World.frozen?, h.res]
theorem nones (h : Two w0 W o k v d s) : W.cell? ⟨w0.heap.size + 1, 0, none⟩ = some (.int .i64 0) ∧ W.cell? ⟨w0.heap.size + 1, 1, none⟩ = some (.string { data := #[] }) ∧ W.cell? ⟨w0.heap.size + 1, 2, none⟩ = some (.string { data := #[] }) ∧ W.cell? ⟨w0.heap.size + 1, 3, none⟩ = some (.bool false) ∧ W.cell? ⟨w0.heap.size + 1, 4, none⟩ = some (.int .i64 0) := by
  refine ⟨?_, ?_, ?_, ?_, ?_⟩
  · rw [cell_of_row _ _ 0 _ _ _ h.non]; rfl
  · rw [cell_of_row _ _ 1 _ _ _ h.non]; rfl
  · rw [cell_of_row _ _ 2 _ _ _ h.non]; rfl
  · rw [cell_of_row _ _ 3 _ _ _ h.non]; rfl
  · rw [cell_of_row _ _ 4 _ _ _ h.non]; rfl
theorem set0 (h : Two w0 W o k v d s) (x : Int) : Two w0 (W.setCell ⟨w0.heap.size, 0, none⟩ (.int .i64 x)) x k v d s :=
  ⟨heap_setCell_same _ _ 0 _ _ _ h.res, (Below.heap_setCell W _ _ _ (by simp)).trans h.non, h.bel.setCell (Nat.le_refl _) _⟩
theorem set1 (h : Two w0 W o k v d s) (x : ByteArray) : Two w0 (W.setCell ⟨w0.heap.size, 1, none⟩ (.string x)) o x v d s :=
  ⟨heap_setCell_same _ _ 1 _ _ _ h.res, (Below.heap_setCell W _ _ _ (by simp)).trans h.non, h.bel.setCell (Nat.le_refl _) _⟩
theorem set2 (h : Two w0 W o k v d s) (x : ByteArray) : Two w0 (W.setCell ⟨w0.heap.size, 2, none⟩ (.string x)) o k x d s :=
  ⟨heap_setCell_same _ _ 2 _ _ _ h.res, (Below.heap_setCell W _ _ _ (by simp)).trans h.non, h.bel.setCell (Nat.le_refl _) _⟩
theorem set3 (h : Two w0 W o k v d s) (x : Bool) : Two w0 (W.setCell ⟨w0.heap.size, 3, none⟩ (.bool x)) o k v x s :=
  ⟨heap_setCell_same _ _ 3 _ _ _ h.res, (Below.heap_setCell W _ _ _ (by simp)).trans h.non, h.bel.setCell (Nat.le_refl _) _⟩
theorem set4 (h : Two w0 W o k v d s) (x : Int) : Two w0 (W.setCell ⟨w0.heap.size, 4, none⟩ (.int .i64 x)) o k v d x :=
  ⟨heap_setCell_same _ _ 4 _ _ _ h.res, (Below.heap_setCell W _ _ _ (by simp)).trans h.non, h.bel.setCell (Nat.le_refl _) _⟩
end Two
abbrev zeros : Obj := .cells #[.int .i64 0, .string { data := #[] }, .string { data := #[] }, .bool false, .int .i64 0] 23
theorem two0 (w : World) : Two w ((w.alloc (.cells #[.int .i64 0, .string { data := #[] }, .string { data := #[] }, .bool false, .int .i64 0] 23)).alloc (.cells #[.int .i64 0, .string { data := #[] }, .string { data := #[] }, .bool false, .int .i64 0] 23)) 0 { data := #[] } { data := #[] } false 0 := by
  refine ⟨?_, ?_, bput (bput (Below.refl _ w) _) _⟩
  · exact (Below.heap_alloc _ _ _ (by simp)).trans (World.alloc_heap_new w _)
  · have := World.alloc_heap_new (w.alloc zeros) zeros
    rwa [World.size_alloc] at this

set_option maxRecDepth 100000 in
set_option maxHeartbeats 2000000 in
theorem rget_1 {w : World} {A : Option Addr} {n c : Nat} {l : List UInt8} (h : Rd w w.heap.size A n c l) (at_ base st : Int) (hm : mayG l at_ base st = true) {d : Int} {i e1 : Int} (h1 : getV l at_ = (d, i, e1)) (n1 : e1 ≠ 0) : Calls Try.prog 21 #[.slice A n c, .int .i64 at_, .int .i64 base, .int .i64 st] w (GetR w (getR l at_ base st)) := by
  have HE := Lib.hid (getR1 hm h1 n1)
  have hlen := h.len
  have htop := h.top
  have hcap := h.cap
  simp only [mayG, Bool.and_eq_true, decide_eq_true_eq] at hm
  obtain ⟨⟨⟨g1, g2⟩, g3⟩, g4⟩ := hm
  have HI1 := Lib.hid g1
  have HI2 := Lib.hid g2
  have t1 : decide (at_ < 0) = false := by simp only [decide_eq_false_iff_not]; omega
  have t2 : decide ((n : Int) < at_) = false := by simp only [decide_eq_false_iff_not]; omega
  have H1 := Lib.hid h1
  have tE : (e1 != 0) = true := by simpa using n1
  clear n1
  clear g1 g2 h1
  go_enter Try.func21, Try.ntmps21
  go_wp2_with fail
  refine (rin_is _ _ HI1.out).mono ?_
  rintro e w1 ⟨rfl, rfl⟩
  go_wp2_with fail
  refine (rin_is _ _ HI2.out).mono ?_
  rintro e w1 ⟨rfl, rfl⟩
  go_wp2_with fail
  have st0 := two0 w
  generalize (w.alloc (.cells #[.int .i64 0, .string { data := #[] }, .string { data := #[] }, .bool false, .int .i64 0] 23)).alloc (.cells #[.int .i64 0, .string { data := #[] }, .string { data := #[] }, .bool false, .int .i64 0] 23) = W0 at *
  refine (rGetVar_ok (h.below (Two.bel st0)) _).mono ?_
  rintro e w2 hv
  obtain ⟨va, vb, vc, hV, rfl, rfl⟩ := hv.out
  rw [H1.out] at hV
  cases hV
  obtain ⟨q0, q1, q2, q3, q4, qf⟩ := Two.cells st0
  have qf0 := qf 0
  have qf1 := qf 1
  have qf2 := qf 2
  have qf3 := qf 3
  have qf4 := qf 4
  clear qf
  obtain ⟨p0, p1, p2, p3, p4⟩ := Two.nones st0
  go_wp2
  have stZ := (Two.set4 (Two.set3 (Two.set2 (Two.set1 (Two.set0 st0 0) { data := #[] }) { data := #[] }) false) 0)
  clear q0 q1 q2 q3 q4 qf0 qf1 qf2 qf3 qf4 p0 p1 p2 p3 p4
  generalize (((((W0.setCell ⟨w.heap.size, 0, none⟩ (.int .i64 0)).setCell ⟨w.heap.size, 1, none⟩ (.string { data := #[] })).setCell ⟨w.heap.size, 2, none⟩ (.string { data := #[] })).setCell ⟨w.heap.size, 3, none⟩ (.bool false)).setCell ⟨w.heap.size, 4, none⟩ (.int .i64 0)) = WZ at *
  obtain ⟨q0, q1, q2, q3, q4, _⟩ := Two.cells stZ
  refine bodyPost_ret (v := .tuple #[rv zeroR, .int .i64 0, .int .i64 e1]) ?_ rfl ⟨_, _, _, HE.out, rfl, stZ.bel⟩
  simp [results, Try.f21, go_sem, q0, q1, q2, q3, q4, rv, zeroR, strOf_nil]

set_option maxRecDepth 100000 in
set_option maxHeartbeats 2000000 in
theorem rget_2 {w : World} {A : Option Addr} {n c : Nat} {l : List UInt8} (h : Rd w w.heap.size A n c l) (at_ base st : Int) (hm : mayG l at_ base st = true) {d : Int} {i : Int} (h1 : getV l at_ = (d, i, 0)) {s : Int} {j e2 : Int} (h2 : getV l i = (s, j, e2)) (n2 : e2 ≠ 0) : Calls Try.prog 21 #[.slice A n c, .int .i64 at_, .int .i64 base, .int .i64 st] w (GetR w (getR l at_ base st)) := by
  have HE := Lib.hid (getR2 hm h1 h2 n2)
  have hlen := h.len
  have htop := h.top
  have hcap := h.cap
  simp only [mayG, Bool.and_eq_true, decide_eq_true_eq] at hm
  obtain ⟨⟨⟨g1, g2⟩, g3⟩, g4⟩ := hm
  have HI1 := Lib.hid g1
  have HI2 := Lib.hid g2
  have t1 : decide (at_ < 0) = false := by simp only [decide_eq_false_iff_not]; omega
  have t2 : decide ((n : Int) < at_) = false := by simp only [decide_eq_false_iff_not]; omega
  have H1 := Lib.hid h1
  have H2 := Lib.hid h2
  have tE : (e2 != 0) = true := by simpa using n2
  clear n2
  clear g1 g2 h1 h2
  go_enter Try.func21, Try.ntmps21
  go_wp2_with fail
  refine (rin_is _ _ HI1.out).mono ?_
  rintro e w1 ⟨rfl, rfl⟩
  go_wp2_with fail
  refine (rin_is _ _ HI2.out).mono ?_
  rintro e w1 ⟨rfl, rfl⟩
  go_wp2_with fail
  have st0 := two0 w
  generalize (w.alloc (.cells #[.int .i64 0, .string { data := #[] }, .string { data := #[] }, .bool false, .int .i64 0] 23)).alloc (.cells #[.int .i64 0, .string { data := #[] }, .string { data := #[] }, .bool false, .int .i64 0] 23) = W0 at *
  refine (rGetVar_ok (h.below (Two.bel st0)) _).mono ?_
  rintro e w2 hv
  obtain ⟨va, vb, vc, hV, rfl, rfl⟩ := hv.out
  rw [H1.out] at hV
  cases hV
  go_wp2_with fail
  refine (rGetVar_ok (h.below (Two.bel st0)) _).mono ?_
  rintro e w2 hv
  obtain ⟨va, vb, vc, hV, rfl, rfl⟩ := hv.out
  rw [H2.out] at hV
  cases hV
  obtain ⟨q0, q1, q2, q3, q4, qf⟩ := Two.cells st0
  have qf0 := qf 0
  have qf1 := qf 1
  have qf2 := qf 2
  have qf3 := qf 3
  have qf4 := qf 4
  clear qf
  obtain ⟨p0, p1, p2, p3, p4⟩ := Two.nones st0
  go_wp2
  have stZ := (Two.set4 (Two.set3 (Two.set2 (Two.set1 (Two.set0 st0 0) { data := #[] }) { data := #[] }) false) 0)
  clear q0 q1 q2 q3 q4 qf0 qf1 qf2 qf3 qf4 p0 p1 p2 p3 p4
  generalize (((((W0.setCell ⟨w.heap.size, 0, none⟩ (.int .i64 0)).setCell ⟨w.heap.size, 1, none⟩ (.string { data := #[] })).setCell ⟨w.heap.size, 2, none⟩ (.string { data := #[] })).setCell ⟨w.heap.size, 3, none⟩ (.bool false)).setCell ⟨w.heap.size, 4, none⟩ (.int .i64 0)) = WZ at *
  obtain ⟨q0, q1, q2, q3, q4, _⟩ := Two.cells stZ
  refine bodyPost_ret (v := .tuple #[rv zeroR, .int .i64 0, .int .i64 e2]) ?_ rfl ⟨_, _, _, HE.out, rfl, stZ.bel⟩
  simp [results, Try.f21, go_sem, q0, q1, q2, q3, q4, rv, zeroR, strOf_nil]

set_option maxRecDepth 100000 in
set_option maxHeartbeats 2000000 in
theorem rget_3 {w : World} {A : Option Addr} {n c : Nat} {l : List UInt8} (h : Rd w w.heap.size A n c l) (at_ base st : Int) (hm : mayG l at_ base st = true) {d : Int} {i : Int} (h1 : getV l at_ = (d, i, 0)) {s : Int} {j : Int} (h2 : getV l i = (s, j, 0)) {f : Bool} {m e3 : Int} (h3 : flagR l j = (f, m, e3)) (n3 : e3 ≠ 0) : Calls Try.prog 21 #[.slice A n c, .int .i64 at_, .int .i64 base, .int .i64 st] w (GetR w (getR l at_ base st)) := by
  have HE := Lib.hid (getR3 hm h1 h2 h3 n3)
  have hlen := h.len
  have htop := h.top
  have hcap := h.cap
  simp only [mayG, Bool.and_eq_true, decide_eq_true_eq] at hm
  obtain ⟨⟨⟨g1, g2⟩, g3⟩, g4⟩ := hm
  have HI1 := Lib.hid g1
  have HI2 := Lib.hid g2
  have t1 : decide (at_ < 0) = false := by simp only [decide_eq_false_iff_not]; omega
  have t2 : decide ((n : Int) < at_) = false := by simp only [decide_eq_false_iff_not]; omega
  have hj0 : 0 ≤ j := by have := getV_next (l := l) (at_ := i) (by rw [h2]); rw [h2] at this; simp only at this; omega
  obtain ⟨J, rfl⟩ := Int.eq_ofNat_of_zero_le hj0
  clear hj0
  have H1 := Lib.hid h1
  have H2 := Lib.hid h2
  have H3 := Lib.hid h3
  have hfr := h3
  unfold flagR at hfr
  by_cases hJ : n ≤ J
  · have tJ : decide (n ≤ J) = true := by simpa using hJ
    rw [if_pos (by omega)] at hfr
    cases hfr
    clear g1 g2 h1 h2 h3
    go_enter Try.func21, Try.ntmps21
    go_wp2_with fail
    refine (rin_is _ _ HI1.out).mono ?_
    rintro e w1 ⟨rfl, rfl⟩
    go_wp2_with fail
    refine (rin_is _ _ HI2.out).mono ?_
    rintro e w1 ⟨rfl, rfl⟩
    go_wp2_with fail
    have st0 := two0 w
    generalize (w.alloc (.cells #[.int .i64 0, .string { data := #[] }, .string { data := #[] }, .bool false, .int .i64 0] 23)).alloc (.cells #[.int .i64 0, .string { data := #[] }, .string { data := #[] }, .bool false, .int .i64 0] 23) = W0 at *
    refine (rGetVar_ok (h.below (Two.bel st0)) _).mono ?_
    rintro e w2 hv
    obtain ⟨va, vb, vc, hV, rfl, rfl⟩ := hv.out
    rw [H1.out] at hV
    cases hV
    go_wp2_with fail
    refine (rGetVar_ok (h.below (Two.bel st0)) _).mono ?_
    rintro e w2 hv
    obtain ⟨va, vb, vc, hV, rfl, rfl⟩ := hv.out
    rw [H2.out] at hV
    cases hV
    obtain ⟨q0, q1, q2, q3, q4, qf⟩ := Two.cells st0
    have qf0 := qf 0
    have qf1 := qf 1
    have qf2 := qf 2
    have qf3 := qf 3
    have qf4 := qf 4
    clear qf
    obtain ⟨p0, p1, p2, p3, p4⟩ := Two.nones st0
    go_wp2
    have stZ := (Two.set4 (Two.set3 (Two.set2 (Two.set1 (Two.set0 st0 0) { data := #[] }) { data := #[] }) false) 0)
    clear q0 q1 q2 q3 q4 qf0 qf1 qf2 qf3 qf4 p0 p1 p2 p3 p4
    generalize (((((W0.setCell ⟨w.heap.size, 0, none⟩ (.int .i64 0)).setCell ⟨w.heap.size, 1, none⟩ (.string { data := #[] })).setCell ⟨w.heap.size, 2, none⟩ (.string { data := #[] })).setCell ⟨w.heap.size, 3, none⟩ (.bool false)).setCell ⟨w.heap.size, 4, none⟩ (.int .i64 0)) = WZ at *
    obtain ⟨q0, q1, q2, q3, q4, _⟩ := Two.cells stZ
    refine bodyPost_ret (v := .tuple #[rv zeroR, .int .i64 0, .int .i64 10]) ?_ rfl ⟨_, _, _, HE.out, rfl, stZ.bel⟩
    simp [results, Try.f21, go_sem, q0, q1, q2, q3, q4, rv, zeroR, strOf_nil]
  · have tJ : decide (n ≤ J) = false := by simpa using hJ
    rw [if_neg (by omega)] at hfr
    obtain ⟨b, off, rfl, hlt, hc⟩ := h.cells (by omega)
    have hcell := hc J (by omega)
    have hx : l.getD ((J : Int)).toNat 0 = l.getD J 0 := rfl
    rw [hx] at hfr
    by_cases hbig : 1 < (l.getD J 0).toNat
    · have tB : decide ((1 : Int) < ((l.getD J 0).toNat : Int)) = true := by simp only [decide_eq_true_eq]; omega
      rw [if_pos hbig] at hfr
      cases hfr
      generalize (l.getD J 0).toNat = xb at *
      clear g1 g2 h1 h2 h3 hc hx
      go_enter Try.func21, Try.ntmps21
      go_wp2_with fail
      refine (rin_is _ _ HI1.out).mono ?_
      rintro e w1 ⟨rfl, rfl⟩
      go_wp2_with fail
      refine (rin_is _ _ HI2.out).mono ?_
      rintro e w1 ⟨rfl, rfl⟩
      go_wp2_with fail
      have st0 := two0 w
      generalize (w.alloc (.cells #[.int .i64 0, .string { data := #[] }, .string { data := #[] }, .bool false, .int .i64 0] 23)).alloc (.cells #[.int .i64 0, .string { data := #[] }, .string { data := #[] }, .bool false, .int .i64 0] 23) = W0 at *
      refine (rGetVar_ok (h.below (Two.bel st0)) _).mono ?_
      rintro e w2 hv
      obtain ⟨va, vb, vc, hV, rfl, rfl⟩ := hv.out
      rw [H1.out] at hV
      cases hV
      go_wp2_with fail
      refine (rGetVar_ok (h.below (Two.bel st0)) _).mono ?_
      rintro e w2 hv
      obtain ⟨va, vb, vc, hV, rfl, rfl⟩ := hv.out
      rw [H2.out] at hV
      cases hV
      have hcell2 := ((Two.bel st0).cell (p := ⟨b, off + J, none⟩) hlt).trans hcell
      obtain ⟨q0, q1, q2, q3, q4, qf⟩ := Two.cells st0
      have qf0 := qf 0
      have qf1 := qf 1
      have qf2 := qf 2
      have qf3 := qf 3
      have qf4 := qf 4
      clear qf
      obtain ⟨p0, p1, p2, p3, p4⟩ := Two.nones st0
      go_wp2
      have stZ := (Two.set4 (Two.set3 (Two.set2 (Two.set1 (Two.set0 st0 0) { data := #[] }) { data := #[] }) false) 0)
      clear q0 q1 q2 q3 q4 qf0 qf1 qf2 qf3 qf4 p0 p1 p2 p3 p4
      generalize (((((W0.setCell ⟨w.heap.size, 0, none⟩ (.int .i64 0)).setCell ⟨w.heap.size, 1, none⟩ (.string { data := #[] })).setCell ⟨w.heap.size, 2, none⟩ (.string { data := #[] })).setCell ⟨w.heap.size, 3, none⟩ (.bool false)).setCell ⟨w.heap.size, 4, none⟩ (.int .i64 0)) = WZ at *
      obtain ⟨q0, q1, q2, q3, q4, _⟩ := Two.cells stZ
      refine bodyPost_ret (v := .tuple #[rv zeroR, .int .i64 0, .int .i64 11]) ?_ rfl ⟨_, _, _, HE.out, rfl, stZ.bel⟩
      simp [results, Try.f21, go_sem, q0, q1, q2, q3, q4, rv, zeroR, strOf_nil]
    · rw [if_neg hbig] at hfr
      cases hfr
      exact absurd rfl n3

set_option maxRecDepth 100000 in
set_option maxHeartbeats 2000000 in
theorem rget_4 {w : World} {A : Option Addr} {n c : Nat} {l : List UInt8} (h : Rd w w.heap.size A n c l) (at_ base st : Int) (hm : mayG l at_ base st = true) {d : Int} {i : Int} (h1 : getV l at_ = (d, i, 0)) {s : Int} {j : Int} (h2 : getV l i = (s, j, 0)) {f : Bool} {m : Int} (h3 : flagR l j = (f, m, 0)) {k : List UInt8} {q e4 : Int} (h4 : getT l m 64 = (k, q, e4)) (n4 : e4 ≠ 0) : Calls Try.prog 21 #[.slice A n c, .int .i64 at_, .int .i64 base, .int .i64 st] w (GetR w (getR l at_ base st)) := by
  have HE := Lib.hid (getR4 hm h1 h2 h3 h4 n4)
  have hlen := h.len
  have htop := h.top
  have hcap := h.cap
  simp only [mayG, Bool.and_eq_true, decide_eq_true_eq] at hm
  obtain ⟨⟨⟨g1, g2⟩, g3⟩, g4⟩ := hm
  have HI1 := Lib.hid g1
  have HI2 := Lib.hid g2
  have t1 : decide (at_ < 0) = false := by simp only [decide_eq_false_iff_not]; omega
  have t2 : decide ((n : Int) < at_) = false := by simp only [decide_eq_false_iff_not]; omega
  have hj0 : 0 ≤ j := by have := getV_next (l := l) (at_ := i) (by rw [h2]); rw [h2] at this; simp only at this; omega
  obtain ⟨J, rfl⟩ := Int.eq_ofNat_of_zero_le hj0
  clear hj0
  have H1 := Lib.hid h1
  have H2 := Lib.hid h2
  have H3 := Lib.hid h3
  have H4 := Lib.hid h4
  have tE : (e4 != 0) = true := by simpa using n4
  clear n4
  have hfr := h3
  unfold flagR at hfr
  by_cases hJ : n ≤ J
  · rw [if_pos (by omega)] at hfr; cases hfr
  have tJ : decide (n ≤ J) = false := by simpa using hJ
  rw [if_neg (by omega)] at hfr
  have hrd := h
  obtain ⟨b, off, rfl, hlt, hc⟩ := h.cells (by omega)
  have hcell := hc J (by omega)
  have hx : l.getD ((J : Int)).toNat 0 = l.getD J 0 := rfl
  rw [hx] at hfr
  by_cases hbig : 1 < (l.getD J 0).toNat
  · rw [if_pos hbig] at hfr; cases hfr
  rw [if_neg hbig] at hfr
  simp only [Prod.mk.injEq, and_true] at hfr
  obtain ⟨hf, hm2⟩ := hfr
  subst hm2
  have tB : decide ((1 : Int) < ((l.getD J 0).toNat : Int)) = false := by simp only [decide_eq_false_iff_not]; omega
  have hJn : J < n := by omega
  have tF : (((l.getD J 0).toNat : Int) == 1) = f := by
    rw [← hf, Bool.eq_iff_iff]; simp; omega
  generalize (l.getD J 0).toNat = xb at *
  clear g1 g2 h1 h2 h3 h4 hc hx hf hrd
  go_enter Try.func21, Try.ntmps21
  go_wp2_with fail
  refine (rin_is _ _ HI1.out).mono ?_
  rintro e w1 ⟨rfl, rfl⟩
  go_wp2_with fail
  refine (rin_is _ _ HI2.out).mono ?_
  rintro e w1 ⟨rfl, rfl⟩
  go_wp2_with fail
  have st0 := two0 w
  generalize (w.alloc (.cells #[.int .i64 0, .string { data := #[] }, .string { data := #[] }, .bool false, .int .i64 0] 23)).alloc (.cells #[.int .i64 0, .string { data := #[] }, .string { data := #[] }, .bool false, .int .i64 0] 23) = W0 at *
  refine (rGetVar_ok (h.below (Two.bel st0)) _).mono ?_
  rintro e w2 hv
  obtain ⟨va, vb, vc, hV, rfl, rfl⟩ := hv.out
  rw [H1.out] at hV
  cases hV
  go_wp2_with fail
  refine (rGetVar_ok (h.below (Two.bel st0)) _).mono ?_
  rintro e w2 hv
  obtain ⟨va, vb, vc, hV, rfl, rfl⟩ := hv.out
  rw [H2.out] at hV
  cases hV
  have hcell2 := ((Two.bel st0).cell (p := ⟨b, off + J, none⟩) hlt).trans hcell
  go_wp2_with fail
  refine (rGetText_ok (h.below (Two.bel st0)) _ _).mono ?_
  rintro e w2 ⟨va, vb, vc, hV, rfl, rfl⟩
  rw [H4.out] at hV
  cases hV
  obtain ⟨q0, q1, q2, q3, q4, qf⟩ := Two.cells st0
  have qf0 := qf 0
  have qf1 := qf 1
  have qf2 := qf 2
  have qf3 := qf 3
  have qf4 := qf 4
  clear qf
  obtain ⟨p0, p1, p2, p3, p4⟩ := Two.nones st0
  go_wp2
  have stZ := (Two.set4 (Two.set3 (Two.set2 (Two.set1 (Two.set0 st0 0) { data := #[] }) { data := #[] }) false) 0)
  clear q0 q1 q2 q3 q4 qf0 qf1 qf2 qf3 qf4 p0 p1 p2 p3 p4
  generalize (((((W0.setCell ⟨w.heap.size, 0, none⟩ (.int .i64 0)).setCell ⟨w.heap.size, 1, none⟩ (.string { data := #[] })).setCell ⟨w.heap.size, 2, none⟩ (.string { data := #[] })).setCell ⟨w.heap.size, 3, none⟩ (.bool false)).setCell ⟨w.heap.size, 4, none⟩ (.int .i64 0)) = WZ at *
  obtain ⟨q0, q1, q2, q3, q4, _⟩ := Two.cells stZ
  refine bodyPost_ret (v := .tuple #[rv zeroR, .int .i64 0, .int .i64 e4]) ?_ rfl ⟨_, _, _, HE.out, rfl, stZ.bel⟩
  simp [results, Try.f21, go_sem, q0, q1, q2, q3, q4, rv, zeroR, strOf_nil]

set_option maxRecDepth 100000 in
set_option maxHeartbeats 2000000 in
theorem rget_5 {w : World} {A : Option Addr} {n c : Nat} {l : List UInt8} (h : Rd w w.heap.size A n c l) (at_ base st : Int) (hm : mayG l at_ base st = true) {d : Int} {i : Int} (h1 : getV l at_ = (d, i, 0)) {s : Int} {j : Int} (h2 : getV l i = (s, j, 0)) {f : Bool} {m : Int} (h3 : flagR l j = (f, m, 0)) {k : List UInt8} {q : Int} (h4 : getT l m 64 = (k, q, 0)) {v : List UInt8} {r e5 : Int} (h5 : getT l q 64 = (v, r, e5)) (n5 : e5 ≠ 0) : Calls Try.prog 21 #[.slice A n c, .int .i64 at_, .int .i64 base, .int .i64 st] w (GetR w (getR l at_ base st)) := by
  have HE := Lib.hid (getR5 hm h1 h2 h3 h4 h5 n5)
  have hlen := h.len
  have htop := h.top
  have hcap := h.cap
  simp only [mayG, Bool.and_eq_true, decide_eq_true_eq] at hm
  obtain ⟨⟨⟨g1, g2⟩, g3⟩, g4⟩ := hm
  have HI1 := Lib.hid g1
  have HI2 := Lib.hid g2
  have t1 : decide (at_ < 0) = false := by simp only [decide_eq_false_iff_not]; omega
  have t2 : decide ((n : Int) < at_) = false := by simp only [decide_eq_false_iff_not]; omega
  have hj0 : 0 ≤ j := by have := getV_next (l := l) (at_ := i) (by rw [h2]); rw [h2] at this; simp only at this; omega
  obtain ⟨J, rfl⟩ := Int.eq_ofNat_of_zero_le hj0
  clear hj0
  have H1 := Lib.hid h1
  have H2 := Lib.hid h2
  have H3 := Lib.hid h3
  have H4 := Lib.hid h4
  have H5 := Lib.hid h5
  have tE : (e5 != 0) = true := by simpa using n5
  clear n5
  have hfr := h3
  unfold flagR at hfr
  by_cases hJ : n ≤ J
  · rw [if_pos (by omega)] at hfr; cases hfr
  have tJ : decide (n ≤ J) = false := by simpa using hJ
  rw [if_neg (by omega)] at hfr
  have hrd := h
  obtain ⟨b, off, rfl, hlt, hc⟩ := h.cells (by omega)
  have hcell := hc J (by omega)
  have hx : l.getD ((J : Int)).toNat 0 = l.getD J 0 := rfl
  rw [hx] at hfr
  by_cases hbig : 1 < (l.getD J 0).toNat
  · rw [if_pos hbig] at hfr; cases hfr
  rw [if_neg hbig] at hfr
  simp only [Prod.mk.injEq, and_true] at hfr
  obtain ⟨hf, hm2⟩ := hfr
  subst hm2
  have tB : decide ((1 : Int) < ((l.getD J 0).toNat : Int)) = false := by simp only [decide_eq_false_iff_not]; omega
  have hJn : J < n := by omega
  have tF : (((l.getD J 0).toNat : Int) == 1) = f := by
    rw [← hf, Bool.eq_iff_iff]; simp; omega
  generalize (l.getD J 0).toNat = xb at *
  clear g1 g2 h1 h2 h3 h4 h5 hc hx hf hrd
  go_enter Try.func21, Try.ntmps21
  go_wp2_with fail
  refine (rin_is _ _ HI1.out).mono ?_
  rintro e w1 ⟨rfl, rfl⟩
  go_wp2_with fail
  refine (rin_is _ _ HI2.out).mono ?_
  rintro e w1 ⟨rfl, rfl⟩
  go_wp2_with fail
  have st0 := two0 w
  generalize (w.alloc (.cells #[.int .i64 0, .string { data := #[] }, .string { data := #[] }, .bool false, .int .i64 0] 23)).alloc (.cells #[.int .i64 0, .string { data := #[] }, .string { data := #[] }, .bool false, .int .i64 0] 23) = W0 at *
  refine (rGetVar_ok (h.below (Two.bel st0)) _).mono ?_
  rintro e w2 hv
  obtain ⟨va, vb, vc, hV, rfl, rfl⟩ := hv.out
  rw [H1.out] at hV
  cases hV
  go_wp2_with fail
  refine (rGetVar_ok (h.below (Two.bel st0)) _).mono ?_
  rintro e w2 hv
  obtain ⟨va, vb, vc, hV, rfl, rfl⟩ := hv.out
  rw [H2.out] at hV
  cases hV
  have hcell2 := ((Two.bel st0).cell (p := ⟨b, off + J, none⟩) hlt).trans hcell
  go_wp2_with fail
  refine (rGetText_ok (h.below (Two.bel st0)) _ _).mono ?_
  rintro e w2 ⟨va, vb, vc, hV, rfl, rfl⟩
  rw [H4.out] at hV
  cases hV
  go_wp2_with fail
  refine (rGetText_ok (h.below (Two.bel st0)) _ _).mono ?_
  rintro e w2 ⟨va, vb, vc, hV, rfl, rfl⟩
  rw [H5.out] at hV
  cases hV
  obtain ⟨q0, q1, q2, q3, q4, qf⟩ := Two.cells st0
  have qf0 := qf 0
  have qf1 := qf 1
  have qf2 := qf 2
  have qf3 := qf 3
  have qf4 := qf 4
  clear qf
  obtain ⟨p0, p1, p2, p3, p4⟩ := Two.nones st0
  go_wp2
  have stZ := (Two.set4 (Two.set3 (Two.set2 (Two.set1 (Two.set0 st0 0) { data := #[] }) { data := #[] }) false) 0)
  clear q0 q1 q2 q3 q4 qf0 qf1 qf2 qf3 qf4 p0 p1 p2 p3 p4
  generalize (((((W0.setCell ⟨w.heap.size, 0, none⟩ (.int .i64 0)).setCell ⟨w.heap.size, 1, none⟩ (.string { data := #[] })).setCell ⟨w.heap.size, 2, none⟩ (.string { data := #[] })).setCell ⟨w.heap.size, 3, none⟩ (.bool false)).setCell ⟨w.heap.size, 4, none⟩ (.int .i64 0)) = WZ at *
  obtain ⟨q0, q1, q2, q3, q4, _⟩ := Two.cells stZ
  refine bodyPost_ret (v := .tuple #[rv zeroR, .int .i64 0, .int .i64 e5]) ?_ rfl ⟨_, _, _, HE.out, rfl, stZ.bel⟩
  simp [results, Try.f21, go_sem, q0, q1, q2, q3, q4, rv, zeroR, strOf_nil]

set_option maxRecDepth 100000 in
set_option maxHeartbeats 2000000 in
theorem rget_6 {w : World} {A : Option Addr} {n c : Nat} {l : List UInt8} (h : Rd w w.heap.size A n c l) (at_ base st : Int) (hm : mayG l at_ base st = true) {d : Int} {i : Int} (h1 : getV l at_ = (d, i, 0)) {s : Int} {j : Int} (h2 : getV l i = (s, j, 0)) {f : Bool} {m : Int} (h3 : flagR l j = (f, m, 0)) {k : List UInt8} {q : Int} (h4 : getT l m 64 = (k, q, 0)) {v : List UInt8} {r : Int} (h5 : getT l q 64 = (v, r, 0)) (h6 : chk ⟨besideI base d, k, v, f, besideI st s⟩ = false) : Calls Try.prog 21 #[.slice A n c, .int .i64 at_, .int .i64 base, .int .i64 st] w (GetR w (getR l at_ base st)) := by
  have HE := Lib.hid (getR6 hm h1 h2 h3 h4 h5 h6)
  have hlen := h.len
  have htop := h.top
  have hcap := h.cap
  simp only [mayG, Bool.and_eq_true, decide_eq_true_eq] at hm
  obtain ⟨⟨⟨g1, g2⟩, g3⟩, g4⟩ := hm
  have HI1 := Lib.hid g1
  have HI2 := Lib.hid g2
  have t1 : decide (at_ < 0) = false := by simp only [decide_eq_false_iff_not]; omega
  have t2 : decide ((n : Int) < at_) = false := by simp only [decide_eq_false_iff_not]; omega
  have hj0 : 0 ≤ j := by have := getV_next (l := l) (at_ := i) (by rw [h2]); rw [h2] at this; simp only at this; omega
  obtain ⟨J, rfl⟩ := Int.eq_ofNat_of_zero_le hj0
  clear hj0
  have H1 := Lib.hid h1
  have H2 := Lib.hid h2
  have H3 := Lib.hid h3
  have H4 := Lib.hid h4
  have H5 := Lib.hid h5
  have HT4 : Hid (k.length ≤ 9223372036854775807) := Lib.hid (getT_small h4 (by omega))
  have HT5 : Hid (v.length ≤ 9223372036854775807) := Lib.hid (getT_small h5 (by omega))
  have HCK := Lib.hid ((rb_chk base st d s k v f).trans h6)
  clear h6
  have hfr := h3
  unfold flagR at hfr
  by_cases hJ : n ≤ J
  · rw [if_pos (by omega)] at hfr; cases hfr
  have tJ : decide (n ≤ J) = false := by simpa using hJ
  rw [if_neg (by omega)] at hfr
  have hrd := h
  obtain ⟨b, off, rfl, hlt, hc⟩ := h.cells (by omega)
  have hcell := hc J (by omega)
  have hx : l.getD ((J : Int)).toNat 0 = l.getD J 0 := rfl
  rw [hx] at hfr
  by_cases hbig : 1 < (l.getD J 0).toNat
  · rw [if_pos hbig] at hfr; cases hfr
  rw [if_neg hbig] at hfr
  simp only [Prod.mk.injEq, and_true] at hfr
  obtain ⟨hf, hm2⟩ := hfr
  subst hm2
  have tB : decide ((1 : Int) < ((l.getD J 0).toNat : Int)) = false := by simp only [decide_eq_false_iff_not]; omega
  have hJn : J < n := by omega
  have tF : (((l.getD J 0).toNat : Int) == 1) = f := by
    rw [← hf, Bool.eq_iff_iff]; simp; omega
  generalize (l.getD J 0).toNat = xb at *
  clear g1 g2 h1 h2 h3 h4 h5 hc hx hf hrd
  go_enter Try.func21, Try.ntmps21
  go_wp2_with fail
  refine (rin_is _ _ HI1.out).mono ?_
  rintro e w1 ⟨rfl, rfl⟩
  go_wp2_with fail
  refine (rin_is _ _ HI2.out).mono ?_
  rintro e w1 ⟨rfl, rfl⟩
  go_wp2_with fail
  have st0 := two0 w
  generalize (w.alloc (.cells #[.int .i64 0, .string { data := #[] }, .string { data := #[] }, .bool false, .int .i64 0] 23)).alloc (.cells #[.int .i64 0, .string { data := #[] }, .string { data := #[] }, .bool false, .int .i64 0] 23) = W0 at *
  refine (rGetVar_ok (h.below (Two.bel st0)) _).mono ?_
  rintro e w2 hv
  obtain ⟨va, vb, vc, hV, rfl, rfl⟩ := hv.out
  rw [H1.out] at hV
  cases hV
  go_wp2_with fail
  refine (rGetVar_ok (h.below (Two.bel st0)) _).mono ?_
  rintro e w2 hv
  obtain ⟨va, vb, vc, hV, rfl, rfl⟩ := hv.out
  rw [H2.out] at hV
  cases hV
  have hcell2 := ((Two.bel st0).cell (p := ⟨b, off + J, none⟩) hlt).trans hcell
  go_wp2_with fail
  refine (rGetText_ok (h.below (Two.bel st0)) _ _).mono ?_
  rintro e w2 ⟨va, vb, vc, hV, rfl, rfl⟩
  rw [H4.out] at hV
  cases hV
  go_wp2_with fail
  refine (rGetText_ok (h.below (Two.bel st0)) _ _).mono ?_
  rintro e w2 ⟨va, vb, vc, hV, rfl, rfl⟩
  rw [H5.out] at hV
  cases hV
  go_wp2_with fail
  have HS : Hid (∀ w', Below W0.heap.size W0 w' → w'.cell? ⟨b, off + J, none⟩ = some (.int .u8 (xb : Int))) := Lib.hid fun w' hb => (hb.cell (p := ⟨b, off + J, none⟩) (Nat.lt_of_lt_of_le hlt (Two.bel st0).size)).trans hcell2
  have z1 := (Below.refl W0.heap.size W0).drew
  clear hcell hcell2
  go_region_held3 (fun w' => w'.cell? ⟨b, off + J, none⟩ = some (.int .u8 (xb : Int))) (first | exact HS.out _ z1 | exact HS.out _ (bput z1 _) | exact HS.out _ (bset (bset (bset (bset (bset (bput z1 _) (by simp) _) (by simp) _) (by simp) _) (by simp) _) (by simp) _) | fail) (first
    | (go_at_call 38; (with_reducible refine (rbeside_ok base d HI1.out).mono ?_); rintro e w2 ⟨rfl, rfl⟩)
    | (go_at_call 38; (with_reducible refine (rbeside_ok st s HI2.out).mono ?_); rintro e w2 ⟨rfl, rfl⟩)
    | fail)
  all_goals
    have hbb := (bput (Below.refl W0.heap.size W0) (.cells #[.int .i64 (rbesideI base d), .string (strOf k), .string (strOf v), .bool f, .int .i64 (rbesideI st s)] 23)).drew
    have st1 := Two.kept st0 hbb
    have hsz : W0.heap.size < ((W0.alloc (.cells #[.int .i64 (rbesideI base d), .string (strOf k), .string (strOf v), .bool f, .int .i64 (rbesideI st s)] 23)).drew).heap.size := by show W0.heap.size < (W0.alloc (.cells #[.int .i64 (rbesideI base d), .string (strOf k), .string (strOf v), .bool f, .int .i64 (rbesideI st s)] 23)).heap.size; simp
    have key : ∀ j, ((W0.alloc (.cells #[.int .i64 (rbesideI base d), .string (strOf k), .string (strOf v), .bool f, .int .i64 (rbesideI st s)] 23)).drew).cell? ⟨W0.heap.size, j, none⟩ = (#[Value.int .i64 (rbesideI base d), .string (strOf k), .string (strOf v), .bool f, .int .i64 (rbesideI st s)] : Array Value)[j]? := fun j => cell_of_row _ W0.heap.size j _ _ _ (heap_alloc_new W0 (.cells #[.int .i64 (rbesideI base d), .string (strOf k), .string (strOf v), .bool f, .int .i64 (rbesideI st s)] 23))
    generalize (W0.alloc (.cells #[.int .i64 (rbesideI base d), .string (strOf k), .string (strOf v), .bool f, .int .i64 (rbesideI st s)] 23)).drew = W1 at *
    have u0 := key 0
    have u1 := key 1
    have u2 := key 2
    have u3 := key 3
    have u4 := key 4
    simp only [List.getElem?_toArray, List.getElem?_cons_zero, List.getElem?_cons_succ] at u0 u1 u2 u3 u4
    clear key
    go_wp2_with fail
    refine (rcheck_is (by rw [strOf_size]; exact HT4.out) (by rw [strOf_size]; exact HT5.out) (b := false) (by rw [strOf_size, strOf_size]; exact HCK.out)).mono ?_
    rintro e w2 ⟨rfl, hb2⟩
    have stC := Two.kept st1 hb2
    have v0 := (hb2.cell (p := ⟨W0.heap.size, 0, none⟩) hsz).trans u0
    have v1 := (hb2.cell (p := ⟨W0.heap.size, 1, none⟩) hsz).trans u1
    have v2 := (hb2.cell (p := ⟨W0.heap.size, 2, none⟩) hsz).trans u2
    have v3 := (hb2.cell (p := ⟨W0.heap.size, 3, none⟩) hsz).trans u3
    have v4 := (hb2.cell (p := ⟨W0.heap.size, 4, none⟩) hsz).trans u4
    clear hb2 st1 hbb hsz u0 u1 u2 u3 u4
    obtain ⟨q0, q1, q2, q3, q4, qf⟩ := Two.cells stC
    have qf0 := qf 0
    have qf1 := qf 1
    have qf2 := qf 2
    have qf3 := qf 3
    have qf4 := qf 4
    clear qf
    obtain ⟨p0, p1, p2, p3, p4⟩ := Two.nones stC
    have eI : errI false = 1 := rfl
    go_wp2
    clear v0 v1 v2 v3 v4
    have stZ := (Two.set4 (Two.set3 (Two.set2 (Two.set1 (Two.set0 stC 0) { data := #[] }) { data := #[] }) false) 0)
    clear q0 q1 q2 q3 q4 qf0 qf1 qf2 qf3 qf4 p0 p1 p2 p3 p4
    generalize (((((w2.setCell ⟨w.heap.size, 0, none⟩ (.int .i64 0)).setCell ⟨w.heap.size, 1, none⟩ (.string { data := #[] })).setCell ⟨w.heap.size, 2, none⟩ (.string { data := #[] })).setCell ⟨w.heap.size, 3, none⟩ (.bool false)).setCell ⟨w.heap.size, 4, none⟩ (.int .i64 0)) = WZ at *
    obtain ⟨q0, q1, q2, q3, q4, _⟩ := Two.cells stZ
    refine bodyPost_ret (v := .tuple #[rv zeroR, .int .i64 0, .int .i64 1]) ?_ rfl ⟨_, _, _, HE.out, rfl, stZ.bel⟩
    simp [results, Try.f21, go_sem, q0, q1, q2, q3, q4, rv, zeroR, strOf_nil]

set_option maxRecDepth 100000 in
set_option maxHeartbeats 2000000 in
theorem rget_7 {w : World} {A : Option Addr} {n c : Nat} {l : List UInt8} (h : Rd w w.heap.size A n c l) (at_ base st : Int) (hm : mayG l at_ base st = true) {d : Int} {i : Int} (h1 : getV l at_ = (d, i, 0)) {s : Int} {j : Int} (h2 : getV l i = (s, j, 0)) {f : Bool} {m : Int} (h3 : flagR l j = (f, m, 0)) {k : List UInt8} {q : Int} (h4 : getT l m 64 = (k, q, 0)) {v : List UInt8} {r : Int} (h5 : getT l q 64 = (v, r, 0)) (h6 : chk ⟨besideI base d, k, v, f, besideI st s⟩ = true) : Calls Try.prog 21 #[.slice A n c, .int .i64 at_, .int .i64 base, .int .i64 st] w (GetR w (getR l at_ base st)) := by
  have HE := Lib.hid (getR7 hm h1 h2 h3 h4 h5 h6)
  have hlen := h.len
  have htop := h.top
  have hcap := h.cap
  simp only [mayG, Bool.and_eq_true, decide_eq_true_eq] at hm
  obtain ⟨⟨⟨g1, g2⟩, g3⟩, g4⟩ := hm
  have HI1 := Lib.hid g1
  have HI2 := Lib.hid g2
  have t1 : decide (at_ < 0) = false := by simp only [decide_eq_false_iff_not]; omega
  have t2 : decide ((n : Int) < at_) = false := by simp only [decide_eq_false_iff_not]; omega
  have hj0 : 0 ≤ j := by have := getV_next (l := l) (at_ := i) (by rw [h2]); rw [h2] at this; simp only at this; omega
  obtain ⟨J, rfl⟩ := Int.eq_ofNat_of_zero_le hj0
  clear hj0
  have H1 := Lib.hid h1
  have H2 := Lib.hid h2
  have H3 := Lib.hid h3
  have H4 := Lib.hid h4
  have H5 := Lib.hid h5
  have HT4 : Hid (k.length ≤ 9223372036854775807) := Lib.hid (getT_small h4 (by omega))
  have HT5 : Hid (v.length ≤ 9223372036854775807) := Lib.hid (getT_small h5 (by omega))
  have HCK := Lib.hid ((rb_chk base st d s k v f).trans h6)
  have hck := h6
  simp only [chk, chkN, Bool.and_eq_true] at hck
  have HB1 := Lib.hid (rb_eq hck.1.1.1.1)
  have HB2 := Lib.hid (rb_eq hck.1.1.1.2)
  clear hck
  clear h6
  have hfr := h3
  unfold flagR at hfr
  by_cases hJ : n ≤ J
  · rw [if_pos (by omega)] at hfr; cases hfr
  have tJ : decide (n ≤ J) = false := by simpa using hJ
  rw [if_neg (by omega)] at hfr
  have hrd := h
  obtain ⟨b, off, rfl, hlt, hc⟩ := h.cells (by omega)
  have hcell := hc J (by omega)
  have hx : l.getD ((J : Int)).toNat 0 = l.getD J 0 := rfl
  rw [hx] at hfr
  by_cases hbig : 1 < (l.getD J 0).toNat
  · rw [if_pos hbig] at hfr; cases hfr
  rw [if_neg hbig] at hfr
  simp only [Prod.mk.injEq, and_true] at hfr
  obtain ⟨hf, hm2⟩ := hfr
  subst hm2
  have tB : decide ((1 : Int) < ((l.getD J 0).toNat : Int)) = false := by simp only [decide_eq_false_iff_not]; omega
  have hJn : J < n := by omega
  have tF : (((l.getD J 0).toNat : Int) == 1) = f := by
    rw [← hf, Bool.eq_iff_iff]; simp; omega
  generalize (l.getD J 0).toNat = xb at *
  clear g1 g2 h1 h2 h3 h4 h5 hc hx hf hrd
  go_enter Try.func21, Try.ntmps21
  go_wp2_with fail
  refine (rin_is _ _ HI1.out).mono ?_
  rintro e w1 ⟨rfl, rfl⟩
  go_wp2_with fail
  refine (rin_is _ _ HI2.out).mono ?_
  rintro e w1 ⟨rfl, rfl⟩
  go_wp2_with fail
  have st0 := two0 w
  generalize (w.alloc (.cells #[.int .i64 0, .string { data := #[] }, .string { data := #[] }, .bool false, .int .i64 0] 23)).alloc (.cells #[.int .i64 0, .string { data := #[] }, .string { data := #[] }, .bool false, .int .i64 0] 23) = W0 at *
  refine (rGetVar_ok (h.below (Two.bel st0)) _).mono ?_
  rintro e w2 hv
  obtain ⟨va, vb, vc, hV, rfl, rfl⟩ := hv.out
  rw [H1.out] at hV
  cases hV
  go_wp2_with fail
  refine (rGetVar_ok (h.below (Two.bel st0)) _).mono ?_
  rintro e w2 hv
  obtain ⟨va, vb, vc, hV, rfl, rfl⟩ := hv.out
  rw [H2.out] at hV
  cases hV
  have hcell2 := ((Two.bel st0).cell (p := ⟨b, off + J, none⟩) hlt).trans hcell
  go_wp2_with fail
  refine (rGetText_ok (h.below (Two.bel st0)) _ _).mono ?_
  rintro e w2 ⟨va, vb, vc, hV, rfl, rfl⟩
  rw [H4.out] at hV
  cases hV
  go_wp2_with fail
  refine (rGetText_ok (h.below (Two.bel st0)) _ _).mono ?_
  rintro e w2 ⟨va, vb, vc, hV, rfl, rfl⟩
  rw [H5.out] at hV
  cases hV
  go_wp2_with fail
  have HS : Hid (∀ w', Below W0.heap.size W0 w' → w'.cell? ⟨b, off + J, none⟩ = some (.int .u8 (xb : Int))) := Lib.hid fun w' hb => (hb.cell (p := ⟨b, off + J, none⟩) (Nat.lt_of_lt_of_le hlt (Two.bel st0).size)).trans hcell2
  have z1 := (Below.refl W0.heap.size W0).drew
  clear hcell hcell2
  go_region_held3 (fun w' => w'.cell? ⟨b, off + J, none⟩ = some (.int .u8 (xb : Int))) (first | exact HS.out _ z1 | exact HS.out _ (bput z1 _) | exact HS.out _ (bset (bset (bset (bset (bset (bput z1 _) (by simp) _) (by simp) _) (by simp) _) (by simp) _) (by simp) _) | fail) (first
    | (go_at_call 38; (with_reducible refine (rbeside_ok base d HI1.out).mono ?_); rintro e w2 ⟨rfl, rfl⟩)
    | (go_at_call 38; (with_reducible refine (rbeside_ok st s HI2.out).mono ?_); rintro e w2 ⟨rfl, rfl⟩)
    | fail)
  all_goals
    have hbb := (bput (Below.refl W0.heap.size W0) (.cells #[.int .i64 (rbesideI base d), .string (strOf k), .string (strOf v), .bool f, .int .i64 (rbesideI st s)] 23)).drew
    have st1 := Two.kept st0 hbb
    have hsz : W0.heap.size < ((W0.alloc (.cells #[.int .i64 (rbesideI base d), .string (strOf k), .string (strOf v), .bool f, .int .i64 (rbesideI st s)] 23)).drew).heap.size := by show W0.heap.size < (W0.alloc (.cells #[.int .i64 (rbesideI base d), .string (strOf k), .string (strOf v), .bool f, .int .i64 (rbesideI st s)] 23)).heap.size; simp
    have key : ∀ j, ((W0.alloc (.cells #[.int .i64 (rbesideI base d), .string (strOf k), .string (strOf v), .bool f, .int .i64 (rbesideI st s)] 23)).drew).cell? ⟨W0.heap.size, j, none⟩ = (#[Value.int .i64 (rbesideI base d), .string (strOf k), .string (strOf v), .bool f, .int .i64 (rbesideI st s)] : Array Value)[j]? := fun j => cell_of_row _ W0.heap.size j _ _ _ (heap_alloc_new W0 (.cells #[.int .i64 (rbesideI base d), .string (strOf k), .string (strOf v), .bool f, .int .i64 (rbesideI st s)] 23))
    generalize (W0.alloc (.cells #[.int .i64 (rbesideI base d), .string (strOf k), .string (strOf v), .bool f, .int .i64 (rbesideI st s)] 23)).drew = W1 at *
    have u0 := key 0
    have u1 := key 1
    have u2 := key 2
    have u3 := key 3
    have u4 := key 4
    simp only [List.getElem?_toArray, List.getElem?_cons_zero, List.getElem?_cons_succ] at u0 u1 u2 u3 u4
    clear key
    go_wp2_with fail
    refine (rcheck_is (by rw [strOf_size]; exact HT4.out) (by rw [strOf_size]; exact HT5.out) (b := true) (by rw [strOf_size, strOf_size]; exact HCK.out)).mono ?_
    rintro e w2 ⟨rfl, hb2⟩
    have stC := Two.kept st1 hb2
    have v0 := (hb2.cell (p := ⟨W0.heap.size, 0, none⟩) hsz).trans u0
    have v1 := (hb2.cell (p := ⟨W0.heap.size, 1, none⟩) hsz).trans u1
    have v2 := (hb2.cell (p := ⟨W0.heap.size, 2, none⟩) hsz).trans u2
    have v3 := (hb2.cell (p := ⟨W0.heap.size, 3, none⟩) hsz).trans u3
    have v4 := (hb2.cell (p := ⟨W0.heap.size, 4, none⟩) hsz).trans u4
    clear hb2 st1 hbb hsz u0 u1 u2 u3 u4
    rw [HB1.out] at v0
    rw [HB2.out] at v4
    obtain ⟨q0, q1, q2, q3, q4, qf⟩ := Two.cells stC
    have qf0 := qf 0
    have qf1 := qf 1
    have qf2 := qf 2
    have qf3 := qf 3
    have qf4 := qf 4
    clear qf
    obtain ⟨p0, p1, p2, p3, p4⟩ := Two.nones stC
    have eI : errI true = 0 := rfl
    go_wp2
    clear v0 v1 v2 v3 v4
    have stZ := (Two.set4 (Two.set3 (Two.set2 (Two.set1 (Two.set0 stC (besideI base d)) (strOf k)) (strOf v)) f) (besideI st s))
    clear q0 q1 q2 q3 q4 qf0 qf1 qf2 qf3 qf4 p0 p1 p2 p3 p4
    generalize (((((w2.setCell ⟨w.heap.size, 0, none⟩ (.int .i64 (besideI base d))).setCell ⟨w.heap.size, 1, none⟩ (.string (strOf k))).setCell ⟨w.heap.size, 2, none⟩ (.string (strOf v))).setCell ⟨w.heap.size, 3, none⟩ (.bool f)).setCell ⟨w.heap.size, 4, none⟩ (.int .i64 (besideI st s))) = WZ at *
    obtain ⟨q0, q1, q2, q3, q4, _⟩ := Two.cells stZ
    refine bodyPost_ret (v := .tuple #[rv ⟨besideI base d, k, v, f, besideI st s⟩, .int .i64 r, .int .i64 0]) ?_ rfl ⟨_, _, _, HE.out, rfl, stZ.bel⟩
    simp [results, Try.f21, go_sem, q0, q1, q2, q3, q4, rv]

theorem rget_0 {w : World} {A : Option Addr} {n c : Nat} {l : List UInt8} (h : Rd w w.heap.size A n c l) (at_ base st : Int) (hm : mayG l at_ base st = false) : Calls Try.prog 21 #[.slice A n c, .int .i64 at_, .int .i64 base, .int .i64 st] w (GetR w (getR l at_ base st)) := by
  have HE := Lib.hid (getR0 hm)
  have hlen := h.len
  cases h1 : inR base with
  | false =>
    go_enter Try.func21, Try.ntmps21
    go_wp2_with fail
    refine (rin_is _ _ h1).mono ?_
    rintro e w1 ⟨rfl, rfl⟩
    go_wp2
    refine bodyPost_ret (v := .tuple #[rv zeroR, .int .i64 0, .int .i64 1]) ?_ rfl ⟨_, _, _, HE.out, rfl, ?_⟩
    · simp [results, Try.f21, go_sem, rv, zeroR, strOf_nil]
    · exact bput (bput (Below.refl _ w) _) _
  | true =>
  cases h2 : inR st with
  | false =>
    go_enter Try.func21, Try.ntmps21
    go_wp2_with fail
    refine (rin_is _ _ h1).mono ?_
    rintro e w1 ⟨rfl, rfl⟩
    go_wp2_with fail
    refine (rin_is _ _ h2).mono ?_
    rintro e w1 ⟨rfl, rfl⟩
    go_wp2
    refine bodyPost_ret (v := .tuple #[rv zeroR, .int .i64 0, .int .i64 1]) ?_ rfl ⟨_, _, _, HE.out, rfl, ?_⟩
    · simp [results, Try.f21, go_sem, rv, zeroR, strOf_nil]
    · exact bput (bput (Below.refl _ w) _) _
  | true =>
  by_cases h3 : at_ < 0
  · have t1 : decide (at_ < 0) = true := by simpa using h3
    go_enter Try.func21, Try.ntmps21
    go_wp2_with fail
    refine (rin_is _ _ h1).mono ?_
    rintro e w1 ⟨rfl, rfl⟩
    go_wp2_with fail
    refine (rin_is _ _ h2).mono ?_
    rintro e w1 ⟨rfl, rfl⟩
    go_wp2
    refine bodyPost_ret (v := .tuple #[rv zeroR, .int .i64 0, .int .i64 1]) ?_ rfl ⟨_, _, _, HE.out, rfl, ?_⟩
    · simp [results, Try.f21, go_sem, rv, zeroR, strOf_nil]
    · exact bput (bput (Below.refl _ w) _) _
  · have t1 : decide (at_ < 0) = false := by simpa using h3
    have t2 : decide ((n : Int) < at_) = true := by
      simp only [mayG, h1, h2, Bool.true_and, Bool.and_eq_false_iff, decide_eq_false_iff_not] at hm
      simp only [decide_eq_true_eq]
      omega
    go_enter Try.func21, Try.ntmps21
    go_wp2_with fail
    refine (rin_is _ _ h1).mono ?_
    rintro e w1 ⟨rfl, rfl⟩
    go_wp2_with fail
    refine (rin_is _ _ h2).mono ?_
    rintro e w1 ⟨rfl, rfl⟩
    go_wp2
    refine bodyPost_ret (v := .tuple #[rv zeroR, .int .i64 0, .int .i64 1]) ?_ rfl ⟨_, _, _, HE.out, rfl, ?_⟩
    · simp [results, Try.f21, go_sem, rv, zeroR, strOf_nil]
    · exact bput (bput (Below.refl _ w) _) _

theorem rget_ok {w : World} {A : Option Addr} {n c : Nat} {l : List UInt8} (h : Rd w w.heap.size A n c l) (at_ base st : Int) : Calls Try.prog 21 #[.slice A n c, .int .i64 at_, .int .i64 base, .int .i64 st] w (GetR w (getR l at_ base st)) := by
  cases hm : mayG l at_ base st with
  | false => exact rget_0 h at_ base st hm
  | true =>
  obtain ⟨d, i, e1, h1⟩ : ∃ d i e1, getV l at_ = (d, i, e1) := ⟨_, _, _, rfl⟩
  by_cases n1 : e1 = 0
  · subst n1
    obtain ⟨s, j, e2, h2⟩ : ∃ s j e2, getV l i = (s, j, e2) := ⟨_, _, _, rfl⟩
    by_cases n2 : e2 = 0
    · subst n2
      obtain ⟨f, m, e3, h3⟩ : ∃ f m e3, flagR l j = (f, m, e3) := ⟨_, _, _, rfl⟩
      by_cases n3 : e3 = 0
      · subst n3
        obtain ⟨k, q, e4, h4⟩ : ∃ k q e4, getT l m 64 = (k, q, e4) := ⟨_, _, _, rfl⟩
        by_cases n4 : e4 = 0
        · subst n4
          obtain ⟨v, r, e5, h5⟩ : ∃ v r e5, getT l q 64 = (v, r, e5) := ⟨_, _, _, rfl⟩
          by_cases n5 : e5 = 0
          · subst n5
            cases h6 : chk ⟨besideI base d, k, v, f, besideI st s⟩ with
            | false => exact rget_6 h at_ base st hm h1 h2 h3 h4 h5 h6
            | true => exact rget_7 h at_ base st hm h1 h2 h3 h4 h5 h6
          · exact rget_5 h at_ base st hm h1 h2 h3 h4 h5 n5
        · exact rget_4 h at_ base st hm h1 h2 h3 h4 n4
      · exact rget_3 h at_ base st hm h1 h2 h3 n3
    · exact rget_2 h at_ base st hm h1 h2 n2
  · exact rget_1 h at_ base st hm h1 n1
end Go.Proofs.Yteamnapboophiaa
