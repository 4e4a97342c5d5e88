/-
  The walk of ProtoReqs. Conditions: those that it states.
-/
import Derived.Deep.DeepCutAuto
import Derived.Test.YtlijagbklopipaaDoorProRQ
import Derived.Test.YtlijagbklopipaaDoorProRX
import Derived.Test.YtlijagbklopipaaDoorLivB
namespace Go.Proofs.YtlijagbklopipaaDoor
open Go.RowKit
set_option linter.unusedVariables false

set_option maxRecDepth 100000 in
set_option maxHeartbeats 8000000 in
theorem protoReqs_walk {w : World} (hs : Shp w) (k v id : Int) (who : List UInt8) {Ai At Ab : Option Addr} {ni ci nt ct nb cb : Nat} {zs ts bs} (hw : who.length ≤ 9223372036854775807) (h : Rq w w.heap.size Ai ni ci At nt ct Ab nb cb zs ts bs) {A : Option Addr} {n c : Nat} {l : List UInt8} (hl : Rd w w.heap.size A n c l) :
    Calls Tryd.prog 3 #[.agg #[.int .i64 k, .int .i64 v, .int .i64 id, .string (strOf who), .slice Ai ni ci, .slice At nt ct, .slice Ab nb cb], .slice A n c] w (Says w (.bool true)) := by
  obtain ⟨W1, hW1⟩ : ∃ W, W = w.alloc (.cells #[.int .i64 k, .int .i64 v, .int .i64 id, .string (strOf who), .slice Ai ni ci, .slice At nt ct, .slice Ab nb cb] 26) := ⟨_, rfl⟩
  have b1 : Below w.heap.size w W1 := by rw [hW1]; exact bput (Below.refl _ w) _
  have g1 : W1.heap[w.heap.size]? = some (.cells #[.int .i64 k, .int .i64 v, .int .i64 id, .string (strOf who), .slice Ai ni ci, .slice At nt ct, .slice Ab nb cb] 26 (0, 0)) := by rw [hW1]; exact heap_alloc_new w _
  have HF : Hid (∀ w', Below W1.heap.size W1 w' → w'.heap[w.heap.size]? = some (.cells #[.int .i64 k, .int .i64 v, .int .i64 id, .string (strOf who), .slice Ai ni ci, .slice At nt ct, .slice Ab nb cb] 26 (0, 0))) := Lib.hid fun w' hb =>
    (hb.block _ (Array.getElem?_eq_some_iff.1 g1).1).trans g1
  have HQ : Hid (∀ w', Below W1.heap.size W1 w' → Rq w' w'.heap.size Ai ni ci At nt ct Ab nb cb zs ts bs ∧ Rd w' w'.heap.size A n c l ∧ Shp w') := Lib.hid fun w' hb =>
    ⟨(h.step (bthen b1 hb) (Nat.le_refl _)).more (bthen b1 hb).size, (hl.step (bthen b1 hb) (Nat.le_refl _)).more (bthen b1 hb).size, hs.on (bthen b1 hb)⟩
  have HB1 := Lib.hid b1
  have hL := live_ok W1 (HQ.out W1 (Below.refl _ _)).2.2
  have HL := Lib.hid hL
  have HWW := Lib.hid hw
  have hcap := hl.cap
  have htop := hl.top
  clear b1 g1 h hs hL hl hw
  go_enter Tryd.func3, Tryd.ntmps3
  go_wp2_with fail
  rw [← hW1]
  clear hW1
  refine HL.out.mono ?_
  rintro e w2 ⟨rfl, b2⟩
  have B2 := Lib.hid b2
  clear b2
  obtain ⟨⟨a0, a1, a2, a3, a4, a5, a6⟩, -⟩ := of7 (HF.out w2 B2.out)
  go_wp2_with fail
  refine (fewQ_ok k v id who (HQ.out w2 B2.out).1 (Nat.le_refl _)).mono ?_
  rintro e w3 ⟨bo, rfl, b3⟩
  have B3 := Lib.hid (bthen B2.out b3)
  clear a0 a1 a2 a3 a4 a5 a6 b3
  cases bo with
  | false =>
    go_wp2
    go_ret
    exact ⟨rfl, bthen HB1.out B3.out⟩
  | true =>
  by_cases hn : n ≤ 3000
  case neg =>
    have t1 : decide ((3000 : Int) < (n : Int)) = true := by simp only [decide_eq_true_eq]; omega
    have t2 : decide (3000 < n) = true := by simp only [decide_eq_true_eq]; omega
    clear hn
    go_wp2
    go_ret
    exact ⟨rfl, bthen HB1.out B3.out⟩
  have t1 : decide ((3000 : Int) < (n : Int)) = false := by simp only [decide_eq_false_iff_not]; omega
  have t2 : decide (3000 < n) = false := by simp only [decide_eq_false_iff_not]; omega
  obtain ⟨pl, pe, hp⟩ : ∃ pl pe, putQ ⟨k, v, id, who, zs, ts, bs⟩ = (pl, pe) := ⟨_, _, rfl⟩
  obtain ⟨⟨k', v', id', who', zs', ts', bs'⟩, de, hd⟩ : ∃ d de, decQ l = (d, de) := ⟨_, _, rfl⟩
  have HD := Lib.hid hd
  have HPP := Lib.hid hp
  clear hn hd hp
  obtain ⟨⟨a0, a1, a2, a3, a4, a5, a6⟩, -⟩ := of7 (HF.out w3 B3.out)
  have HP := Lib.hid (p_putQ_ok (HQ.out w3 B3.out).2.2 k v id who (HQ.out w3 B3.out).1 HWW.out)
  rw [HPP.out] at HP
  go_wp2_with fail
  refine HP.out.mono ?_
  rintro e w4 ⟨A4, n4, c4, rfl, ho4, b4⟩
  have B4 := Lib.hid (bthen B3.out b4)
  have HR4 := Lib.hid ho4.rd
  clear a0 a1 a2 a3 a4 a5 a6 b4 ho4 HP
  obtain ⟨⟨a0, a1, a2, a3, a4, a5, a6⟩, -⟩ := of7 (HF.out w4 B4.out)
  have HP := Lib.hid (r_putQ_ok k v id who (HQ.out w4 B4.out).1 HWW.out)
  rw [HPP.out] at HP
  go_wp2_with fail
  refine HP.out.mono ?_
  rintro e w5 ⟨A5, n5, c5, rfl, ho5, b5⟩
  have B5 := Lib.hid (bthen B4.out b5)
  have HR5 := Lib.hid ho5
  have HR45 := Lib.hid ((HR4.out.step b5 (Nat.le_refl _)).more b5.size)
  clear a0 a1 a2 a3 a4 a5 a6 b5 ho5 HP HR4
  have HG := Lib.hid (p_getQ_ok (HQ.out w5 B5.out).2.2 (HQ.out w5 B5.out).2.1)
  rw [HD.out] at HG
  go_upto_region 6 with fail
  go_wp2_with fail
  refine HG.out.mono ?_
  rintro e w6 ⟨Xi, mXi, dXi, Xt, mXt, dXt, Xb, mXb, dXb, rfl, hx6, b6⟩
  obtain ⟨W7, hW7⟩ : ∃ W, W = w6.alloc (.cells #[.int .i64 k', .int .i64 v', .int .i64 id', .string (strOf who'), .slice Xi mXi dXi, .slice Xt mXt dXt, .slice Xb mXb dXb] 26) := ⟨_, rfl⟩
  have b7 : Below w6.heap.size w6 W7 := by rw [hW7]; exact bput (Below.refl _ w6) _
  have g7 : W7.heap[w6.heap.size]? = some (.cells #[.int .i64 k', .int .i64 v', .int .i64 id', .string (strOf who'), .slice Xi mXi dXi, .slice Xt mXt dXt, .slice Xb mXb dXb] 26 (0, 0)) := by rw [hW7]; exact heap_alloc_new w6 _
  have B7 := Lib.hid (bthen (bthen B5.out b6) b7)
  have B57 := Lib.hid (bthen b6 b7)
  have HX7 := Lib.hid ((hx6.step b7 (Nat.le_refl _)).more b7.size)
  have HG7 := Lib.hid g7
  have HS7 : Hid (W7.heap.size = w6.heap.size + 1) := Lib.hid (by rw [hW7]; simp)
  clear b6 b7 g7 hx6 HG
  have HG := Lib.hid (r_getQ_ok (HQ.out W7 B7.out).2.1)
  rw [HD.out] at HG
  go_upto_region 7 with fail
  rw [← hW7]
  have HW7 := Lib.hid hW7
  clear hW7
  go_wp2_with fail
  refine HG.out.mono ?_
  rintro e w8 ⟨Yi, mYi, dYi, Yt, mYt, dYt, Yb, mYb, dYb, rfl, hx8, b8⟩
  obtain ⟨W9, hW9⟩ : ∃ W, W = w8.alloc (.cells #[.int .i64 k', .int .i64 v', .int .i64 id', .string (strOf who'), .slice Yi mYi dYi, .slice Yt mYt dYt, .slice Yb mYb dYb] 26) := ⟨_, rfl⟩
  have b9 : Below w8.heap.size w8 W9 := by rw [hW9]; exact bput (Below.refl _ w8) _
  have g9 : W9.heap[w8.heap.size]? = some (.cells #[.int .i64 k', .int .i64 v', .int .i64 id', .string (strOf who'), .slice Yi mYi dYi, .slice Yt mYt dYt, .slice Yb mYb dYb] 26 (0, 0)) := by rw [hW9]; exact heap_alloc_new w8 _
  have B79 := Lib.hid (bthen b8 b9)
  have B9 := Lib.hid (bthen B7.out B79.out)
  have B59 := Lib.hid (bthen B57.out B79.out)
  have HX9 := Lib.hid ((HX7.out.step B79.out (Nat.le_refl _)).more B79.out.size)
  have HY9 := Lib.hid ((hx8.step b9 (Nat.le_refl _)).more b9.size)
  have HG9 := Lib.hid g9
  have HGX : Hid (W9.heap[w6.heap.size]? = some (.cells #[.int .i64 k', .int .i64 v', .int .i64 id', .string (strOf who'), .slice Xi mXi dXi, .slice Xt mXt dXt, .slice Xb mXb dXb] 26 (0, 0))) := Lib.hid ((B79.out.block _ (Array.getElem?_eq_some_iff.1 HG7.out).1).trans HG7.out)
  have HRA := Lib.hid ((HR45.out.step B59.out (Nat.le_refl _)).more B59.out.size)
  have HRB := Lib.hid ((HR5.out.step B59.out (Nat.le_refl _)).more B59.out.size)
  clear b8 b9 g9 hx8 HG HR45 HR5
  obtain ⟨sx, hsx⟩ : ∃ s, strOf pl = s := ⟨_, rfl⟩
  have HSX := Lib.hid hsx
  have HBW := Lib.hid (bthen HB1.out B9.out)
  clear hsx t1 t2
  go_upto_region 8 with fail
  rw [← hW9]
  clear hW9
  obtain ⟨C, hC⟩ : ∃ C, C = chkQ ⟨k, v, id, who, zs, ts, bs⟩ := ⟨_, rfl⟩
  have HCC := Lib.hid hC
  clear hC
  have HCK : Hid (∀ m : Lows W9, Calls Tryd.prog 18 #[.agg #[.int .i64 k, .int .i64 v, .int .i64 id, .string (strOf who), .slice Ai ni ci, .slice At nt ct, .slice Ab nb cb]] m.w (Says m.w (.int .i64 C)) ∧ Calls Tryd.prog 19 #[.agg #[.int .i64 k, .int .i64 v, .int .i64 id, .string (strOf who), .slice Ai ni ci, .slice At nt ct, .slice Ab nb cb]] m.w (Says m.w (.int .i64 C))) := Lib.hid fun m => by
    rw [HCC.out]
    have hq := HQ.out m.w (bthen B9.out m.b)
    exact ⟨p_chkQ_ok hq.2.2 k v id who hq.1 HWW.out, r_chkQ_ok k v id who hq.1 HWW.out⟩
  have HSM : Hid (∀ m : Lows W9, Calls Tryd.prog 20 #[.agg #[.int .i64 k', .int .i64 v', .int .i64 id', .string (strOf who'), .slice Xi mXi dXi, .slice Xt mXt dXt, .slice Xb mXb dXb], .agg #[.int .i64 k', .int .i64 v', .int .i64 id', .string (strOf who'), .slice Yi mYi dYi, .slice Yt mYt dYt, .slice Yb mYb dYb]] m.w (Says m.w (.bool true))) := Lib.hid fun m =>
    sameQ_ok k' v' id' who' ((HX9.out.step m.b (Nat.le_refl _)).more m.b.size) ((HY9.out.step m.b (Nat.le_refl _)).more m.b.size) (Nat.le_refl _)
  have HAC : Hid (∀ m : Lows W9, m.w.cell? ⟨w.heap.size, 0, none⟩ = some (.int .i64 k) ∧ m.w.cell? ⟨w.heap.size, 1, none⟩ = some (.int .i64 v) ∧ m.w.cell? ⟨w.heap.size, 2, none⟩ = some (.int .i64 id) ∧ m.w.cell? ⟨w.heap.size, 3, none⟩ = some (.string (strOf who)) ∧ m.w.cell? ⟨w.heap.size, 4, none⟩ = some (.slice Ai ni ci) ∧ m.w.cell? ⟨w.heap.size, 5, none⟩ = some (.slice At nt ct) ∧ m.w.cell? ⟨w.heap.size, 6, none⟩ = some (.slice Ab nb cb)) := Lib.hid fun m => (of7 (HF.out m.w (bthen B9.out m.b))).1
  have HXC : Hid (∀ m : Lows W9, m.w.cell? ⟨w6.heap.size, 0, none⟩ = some (.int .i64 k') ∧ m.w.cell? ⟨w6.heap.size, 1, none⟩ = some (.int .i64 v') ∧ m.w.cell? ⟨w6.heap.size, 2, none⟩ = some (.int .i64 id') ∧ m.w.cell? ⟨w6.heap.size, 3, none⟩ = some (.string (strOf who')) ∧ m.w.cell? ⟨w6.heap.size, 4, none⟩ = some (.slice Xi mXi dXi) ∧ m.w.cell? ⟨w6.heap.size, 5, none⟩ = some (.slice Xt mXt dXt) ∧ m.w.cell? ⟨w6.heap.size, 6, none⟩ = some (.slice Xb mXb dXb)) := Lib.hid fun m => (of7 ((m.b.block _ (Array.getElem?_eq_some_iff.1 HGX.out).1).trans HGX.out)).1
  have HYC : Hid (∀ m : Lows W9, m.w.cell? ⟨w8.heap.size, 0, none⟩ = some (.int .i64 k') ∧ m.w.cell? ⟨w8.heap.size, 1, none⟩ = some (.int .i64 v') ∧ m.w.cell? ⟨w8.heap.size, 2, none⟩ = some (.int .i64 id') ∧ m.w.cell? ⟨w8.heap.size, 3, none⟩ = some (.string (strOf who')) ∧ m.w.cell? ⟨w8.heap.size, 4, none⟩ = some (.slice Yi mYi dYi) ∧ m.w.cell? ⟨w8.heap.size, 5, none⟩ = some (.slice Yt mYt dYt) ∧ m.w.cell? ⟨w8.heap.size, 6, none⟩ = some (.slice Yb mYb dYb)) := Lib.hid fun m => (of7 ((m.b.block _ (Array.getElem?_eq_some_iff.1 HG9.out).1).trans HG9.out)).1
  have a0 : ∀ m : Lows W9, m.w.cell? ⟨w.heap.size, 0, none⟩ = some (.int .i64 k) := fun m => (HAC.out m).1
  have a1 : ∀ m : Lows W9, m.w.cell? ⟨w.heap.size, 1, none⟩ = some (.int .i64 v) := fun m => (HAC.out m).2.1
  have a2 : ∀ m : Lows W9, m.w.cell? ⟨w.heap.size, 2, none⟩ = some (.int .i64 id) := fun m => (HAC.out m).2.2.1
  have a3 : ∀ m : Lows W9, m.w.cell? ⟨w.heap.size, 3, none⟩ = some (.string (strOf who)) := fun m => (HAC.out m).2.2.2.1
  have a4 : ∀ m : Lows W9, m.w.cell? ⟨w.heap.size, 4, none⟩ = some (.slice Ai ni ci) := fun m => (HAC.out m).2.2.2.2.1
  have a5 : ∀ m : Lows W9, m.w.cell? ⟨w.heap.size, 5, none⟩ = some (.slice At nt ct) := fun m => (HAC.out m).2.2.2.2.2.1
  have a6 : ∀ m : Lows W9, m.w.cell? ⟨w.heap.size, 6, none⟩ = some (.slice Ab nb cb) := fun m => (HAC.out m).2.2.2.2.2.2
  have x0 : ∀ m : Lows W9, m.w.cell? ⟨w6.heap.size, 0, none⟩ = some (.int .i64 k') := fun m => (HXC.out m).1
  have x1 : ∀ m : Lows W9, m.w.cell? ⟨w6.heap.size, 1, none⟩ = some (.int .i64 v') := fun m => (HXC.out m).2.1
  have x2 : ∀ m : Lows W9, m.w.cell? ⟨w6.heap.size, 2, none⟩ = some (.int .i64 id') := fun m => (HXC.out m).2.2.1
  have x3 : ∀ m : Lows W9, m.w.cell? ⟨w6.heap.size, 3, none⟩ = some (.string (strOf who')) := fun m => (HXC.out m).2.2.2.1
  have x4 : ∀ m : Lows W9, m.w.cell? ⟨w6.heap.size, 4, none⟩ = some (.slice Xi mXi dXi) := fun m => (HXC.out m).2.2.2.2.1
  have x5 : ∀ m : Lows W9, m.w.cell? ⟨w6.heap.size, 5, none⟩ = some (.slice Xt mXt dXt) := fun m => (HXC.out m).2.2.2.2.2.1
  have x6 : ∀ m : Lows W9, m.w.cell? ⟨w6.heap.size, 6, none⟩ = some (.slice Xb mXb dXb) := fun m => (HXC.out m).2.2.2.2.2.2
  have y0 : ∀ m : Lows W9, m.w.cell? ⟨w8.heap.size, 0, none⟩ = some (.int .i64 k') := fun m => (HYC.out m).1
  have y1 : ∀ m : Lows W9, m.w.cell? ⟨w8.heap.size, 1, none⟩ = some (.int .i64 v') := fun m => (HYC.out m).2.1
  have y2 : ∀ m : Lows W9, m.w.cell? ⟨w8.heap.size, 2, none⟩ = some (.int .i64 id') := fun m => (HYC.out m).2.2.1
  have y3 : ∀ m : Lows W9, m.w.cell? ⟨w8.heap.size, 3, none⟩ = some (.string (strOf who')) := fun m => (HYC.out m).2.2.2.1
  have y4 : ∀ m : Lows W9, m.w.cell? ⟨w8.heap.size, 4, none⟩ = some (.slice Yi mYi dYi) := fun m => (HYC.out m).2.2.2.2.1
  have y5 : ∀ m : Lows W9, m.w.cell? ⟨w8.heap.size, 5, none⟩ = some (.slice Yt mYt dYt) := fun m => (HYC.out m).2.2.2.2.2.1
  have y6 : ∀ m : Lows W9, m.w.cell? ⟨w8.heap.size, 6, none⟩ = some (.slice Yb mYb dYb) := fun m => (HYC.out m).2.2.2.2.2.2
  have q1 : ∀ m : Lows W9, (convert 24 9 (.slice A4 n4 c4)).run Tryd.prog m.w = .ok (.string sx) m.w := fun m => str_eq6 ((HRA.out.step m.b (Nat.le_refl _)).more m.b.size) HSX.out
  have q2 : ∀ m : Lows W9, (convert 24 9 (.slice A5 n5 c5)).run Tryd.prog m.w = .ok (.string sx) m.w := fun m => str_eq6 ((HRB.out.step m.b (Nat.le_refl _)).more m.b.size) HSX.out
  refine wp_region_low (W := W9) (by kernel_rfl) (by kernel_rfl) (Below.refl _ _) ?_
  repeat (first | go_big_quiet_step ((first
    | (go_at_call 18; exact low_says (HCK.out _).1)
    | (go_at_call 19; exact low_says (HCK.out _).2)
    | (go_at_call 20; exact low_says (HSM.out _)))) | quiet_step ((first
    | (go_at_call 18; exact low_says (HCK.out _).1)
    | (go_at_call 19; exact low_says (HCK.out _).2)
    | (go_at_call 20; exact low_says (HSM.out _)))))
  refine wpQuiet_nil ?_
  intro _ hw'
  obtain ⟨nq, hw''⟩ := hw'
  subst hw''
  go_wp2
  go_ret
  exact ⟨rfl, bthen HBW.out nq.b⟩
end Go.Proofs.YtlijagbklopipaaDoor
