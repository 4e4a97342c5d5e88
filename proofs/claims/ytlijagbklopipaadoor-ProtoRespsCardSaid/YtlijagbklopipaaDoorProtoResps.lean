/-
  The walk of ProtoResps. Conditions: those that it states.
-/
import Derived.Deep.DeepCutAuto
import Derived.Test.YtlijagbklopipaaDoorProRS
import Derived.Test.YtlijagbklopipaaDoorProRY
import Derived.Test.YtlijagbklopipaaDoorLivB
namespace Go.Proofs.YtlijagbklopipaaDoor
open Go.RowKit
set_option linter.unusedVariables false

set_option maxRecDepth 100000 in
set_option maxHeartbeats 8000000 in
theorem protoResps_walk {w : World} (hs : Shp w) (k v id er wa : Int) {Ai At Ab : Option Addr} {ni ci nt ct nb cb : Nat} {zs ts bs} (h : Rq w w.heap.size Ai ni ci At nt ct Ab nb cb zs ts bs) {A : Option Addr} {n c : Nat} {l : List UInt8} (hl : Rd w w.heap.size A n c l) :
    Calls Tryd.prog 4 #[.agg #[.int .i64 k, .int .i64 v, .int .i64 id, .int .i64 er, .int .i64 wa, .slice Ai ni ci, .slice At nt ct, .slice Ab nb cb], .slice A n c] w (Says w (.bool true)) := by
  obtain ⟨W1, hW1⟩ : ∃ W, W = w.alloc (.cells #[.int .i64 k, .int .i64 v, .int .i64 id, .int .i64 er, .int .i64 wa, .slice Ai ni ci, .slice At nt ct, .slice Ab nb cb] 38) := ⟨_, rfl⟩
  have b1 : Below w.heap.size w W1 := by rw [hW1]; exact bput (Below.refl _ w) _
  have g1 : W1.heap[w.heap.size]? = some (.cells #[.int .i64 k, .int .i64 v, .int .i64 id, .int .i64 er, .int .i64 wa, .slice Ai ni ci, .slice At nt ct, .slice Ab nb cb] 38 (0, 0)) := by rw [hW1]; exact heap_alloc_new w _
  have HF : Hid (∀ w', Below W1.heap.size W1 w' → w'.heap[w.heap.size]? = some (.cells #[.int .i64 k, .int .i64 v, .int .i64 id, .int .i64 er, .int .i64 wa, .slice Ai ni ci, .slice At nt ct, .slice Ab nb cb] 38 (0, 0))) := Lib.hid fun w' hb =>
    (hb.block _ (Array.getElem?_eq_some_iff.1 g1).1).trans g1
  have HQ : Hid (∀ w', Below W1.heap.size W1 w' → Rq w' w'.heap.size Ai ni ci At nt ct Ab nb cb zs ts bs ∧ Rd w' w'.heap.size A n c l ∧ Shp w') := Lib.hid fun w' hb =>
    ⟨(h.step (bthen b1 hb) (Nat.le_refl _)).more (bthen b1 hb).size, (hl.step (bthen b1 hb) (Nat.le_refl _)).more (bthen b1 hb).size, hs.on (bthen b1 hb)⟩
  have HB1 := Lib.hid b1
  have hL := live_ok W1 (HQ.out W1 (Below.refl _ _)).2.2
  have HL := Lib.hid hL
  skip
  have hcap := hl.cap
  have htop := hl.top
  clear b1 g1 h hs hL hl
  go_enter Tryd.func4, Tryd.ntmps4
  go_wp2_with fail
  rw [← hW1]
  clear hW1
  refine HL.out.mono ?_
  rintro e w2 ⟨rfl, b2⟩
  have B2 := Lib.hid b2
  clear b2
  obtain ⟨⟨a0, a1, a2, a3, a4, a5, a6, a7⟩, -⟩ := of8 (HF.out w2 B2.out)
  go_wp2_with fail
  refine (fewS_ok k v id er wa (HQ.out w2 B2.out).1 (Nat.le_refl _)).mono ?_
  rintro e w3 ⟨bo, rfl, b3⟩
  have B3 := Lib.hid (bthen B2.out b3)
  clear a0 a1 a2 a3 a4 a5 a6 a7 b3
  cases bo with
  | false =>
    go_wp2
    go_ret
    exact ⟨rfl, bthen HB1.out B3.out⟩
  | true =>
  by_cases hn : n ≤ 5000
  case neg =>
    have t1 : decide ((5000 : Int) < (n : Int)) = true := by simp only [decide_eq_true_eq]; omega
    have t2 : decide (5000 < n) = true := by simp only [decide_eq_true_eq]; omega
    clear hn
    go_wp2
    go_ret
    exact ⟨rfl, bthen HB1.out B3.out⟩
  have t1 : decide ((5000 : Int) < (n : Int)) = false := by simp only [decide_eq_false_iff_not]; omega
  have t2 : decide (5000 < n) = false := by simp only [decide_eq_false_iff_not]; omega
  obtain ⟨pl, pe, hp⟩ : ∃ pl pe, putS ⟨k, v, id, er, wa, zs, ts, bs⟩ = (pl, pe) := ⟨_, _, rfl⟩
  obtain ⟨⟨k', v', id', er', wa', zs', ts', bs'⟩, de, hd⟩ : ∃ d de, decS l = (d, de) := ⟨_, _, rfl⟩
  have HD := Lib.hid hd
  have HPP := Lib.hid hp
  clear hn hd hp
  obtain ⟨⟨a0, a1, a2, a3, a4, a5, a6, a7⟩, -⟩ := of8 (HF.out w3 B3.out)
  have HP := Lib.hid (p_putS_ok k v id er wa (HQ.out w3 B3.out).1)
  rw [HPP.out] at HP
  go_wp2_with fail
  refine HP.out.mono ?_
  rintro e w4 ⟨A4, n4, c4, rfl, ho4, b4⟩
  have B4 := Lib.hid (bthen B3.out b4)
  have HR4 := Lib.hid ho4.rd
  clear a0 a1 a2 a3 a4 a5 a6 a7 b4 ho4 HP
  obtain ⟨⟨a0, a1, a2, a3, a4, a5, a6, a7⟩, -⟩ := of8 (HF.out w4 B4.out)
  have HP := Lib.hid (r_putS_ok k v id er wa (HQ.out w4 B4.out).1)
  rw [HPP.out] at HP
  go_wp2_with fail
  refine HP.out.mono ?_
  rintro e w5 ⟨A5, n5, c5, rfl, ho5, b5⟩
  have B5 := Lib.hid (bthen B4.out b5)
  have HR5 := Lib.hid ho5
  have HR45 := Lib.hid ((HR4.out.step b5 (Nat.le_refl _)).more b5.size)
  clear a0 a1 a2 a3 a4 a5 a6 a7 b5 ho5 HP HR4
  have HG := Lib.hid (p_getS_ok (HQ.out w5 B5.out).2.1)
  rw [HD.out] at HG
  go_upto_region 6 with fail
  go_wp2_with fail
  refine HG.out.mono ?_
  rintro e w6 ⟨Xi, mXi, dXi, Xt, mXt, dXt, Xb, mXb, dXb, rfl, hx6, b6⟩
  obtain ⟨W7, hW7⟩ : ∃ W, W = w6.alloc (.cells #[.int .i64 k', .int .i64 v', .int .i64 id', .int .i64 er', .int .i64 wa', .slice Xi mXi dXi, .slice Xt mXt dXt, .slice Xb mXb dXb] 38) := ⟨_, rfl⟩
  have b7 : Below w6.heap.size w6 W7 := by rw [hW7]; exact bput (Below.refl _ w6) _
  have g7 : W7.heap[w6.heap.size]? = some (.cells #[.int .i64 k', .int .i64 v', .int .i64 id', .int .i64 er', .int .i64 wa', .slice Xi mXi dXi, .slice Xt mXt dXt, .slice Xb mXb dXb] 38 (0, 0)) := by rw [hW7]; exact heap_alloc_new w6 _
  have B7 := Lib.hid (bthen (bthen B5.out b6) b7)
  have B57 := Lib.hid (bthen b6 b7)
  have HX7 := Lib.hid ((hx6.step b7 (Nat.le_refl _)).more b7.size)
  have HG7 := Lib.hid g7
  have HS7 : Hid (W7.heap.size = w6.heap.size + 1) := Lib.hid (by rw [hW7]; simp)
  clear b6 b7 g7 hx6 HG
  have HG := Lib.hid (r_getS_ok (HQ.out W7 B7.out).2.1)
  rw [HD.out] at HG
  go_upto_region 7 with fail
  rw [← hW7]
  have HW7 := Lib.hid hW7
  clear hW7
  go_wp2_with fail
  refine HG.out.mono ?_
  rintro e w8 ⟨Yi, mYi, dYi, Yt, mYt, dYt, Yb, mYb, dYb, rfl, hx8, b8⟩
  obtain ⟨W9, hW9⟩ : ∃ W, W = w8.alloc (.cells #[.int .i64 k', .int .i64 v', .int .i64 id', .int .i64 er', .int .i64 wa', .slice Yi mYi dYi, .slice Yt mYt dYt, .slice Yb mYb dYb] 38) := ⟨_, rfl⟩
  have b9 : Below w8.heap.size w8 W9 := by rw [hW9]; exact bput (Below.refl _ w8) _
  have g9 : W9.heap[w8.heap.size]? = some (.cells #[.int .i64 k', .int .i64 v', .int .i64 id', .int .i64 er', .int .i64 wa', .slice Yi mYi dYi, .slice Yt mYt dYt, .slice Yb mYb dYb] 38 (0, 0)) := by rw [hW9]; exact heap_alloc_new w8 _
  have B79 := Lib.hid (bthen b8 b9)
  have B9 := Lib.hid (bthen B7.out B79.out)
  have B59 := Lib.hid (bthen B57.out B79.out)
  have HX9 := Lib.hid ((HX7.out.step B79.out (Nat.le_refl _)).more B79.out.size)
  have HY9 := Lib.hid ((hx8.step b9 (Nat.le_refl _)).more b9.size)
  have HG9 := Lib.hid g9
  have HGX : Hid (W9.heap[w6.heap.size]? = some (.cells #[.int .i64 k', .int .i64 v', .int .i64 id', .int .i64 er', .int .i64 wa', .slice Xi mXi dXi, .slice Xt mXt dXt, .slice Xb mXb dXb] 38 (0, 0))) := Lib.hid ((B79.out.block _ (Array.getElem?_eq_some_iff.1 HG7.out).1).trans HG7.out)
  have HRA := Lib.hid ((HR45.out.step B59.out (Nat.le_refl _)).more B59.out.size)
  have HRB := Lib.hid ((HR5.out.step B59.out (Nat.le_refl _)).more B59.out.size)
  clear b8 b9 g9 hx8 HG HR45 HR5
  obtain ⟨sx, hsx⟩ : ∃ s, strOf pl = s := ⟨_, rfl⟩
  have HSX := Lib.hid hsx
  have HBW := Lib.hid (bthen HB1.out B9.out)
  clear hsx t1 t2
  go_upto_region 8 with fail
  rw [← hW9]
  clear hW9
  obtain ⟨⟨x0, x1, x2, x3, x4, x5, x6, x7⟩, -⟩ := of8 HGX.out
  obtain ⟨⟨y0, y1, y2, y3, y4, y5, y6, y7⟩, -⟩ := of8 HG9.out
  have q1 := str_eq6 HRA.out HSX.out
  have q2 := str_eq6 HRB.out HSX.out
  go_wp2_with fail
  refine (sameS_ok k' v' id' er' wa' HX9.out HY9.out (Nat.le_refl _)).mono ?_
  rintro e w10 ⟨rfl, b10⟩
  have B10 := Lib.hid (bthen HBW.out b10)
  clear b10 x0 x1 x2 x3 x4 x5 x6 x7 y0 y1 y2 y3 y4 y5 y6 y7 q1 q2
  go_wp2
  go_ret
  exact ⟨rfl, B10.out⟩
end Go.Proofs.YtlijagbklopipaaDoor
