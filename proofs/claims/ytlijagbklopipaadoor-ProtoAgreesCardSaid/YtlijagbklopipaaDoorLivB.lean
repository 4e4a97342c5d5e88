/-
  Contract of the chapter's live. Conditions: those that it states.
-/
import Derived.Test.YtlijagbklopipaaDoorLivA
namespace Go.Proofs.YtlijagbklopipaaDoor
open Go.RowKit
set_option linter.unusedVariables false

set_option maxRecDepth 100000 in
set_option maxHeartbeats 8000000 in
theorem live_ok (w : World) (hs : Shp w) : Calls Tryd.prog 12 #[] w (Says w (.bool true)) := by
  obtain ⟨W1, hW1⟩ : ∃ W, W = (((w.alloc (.cells #[.int .i64 7, .int .i64 1, .int .i64 1] 3)).alloc (.cells #[.string { data := #[110] }] 9)).alloc (.cells #[.int .i64 5, .int .i64 0, .int .i64 5, .string { data := #[] }, .slice (some ⟨w.heap.size, 0, none⟩) 3 3, .slice (some ⟨w.heap.size + 1, 0, none⟩) 1 1, .slice none 0 0] 26)) := ⟨_, rfl⟩
  have b1 : Below w.heap.size w W1 := by rw [hW1]; exact bput (bput (bput (Below.refl _ w) _) _) _
  have hz1 : W1.heap.size = w.heap.size + 3 := by rw [hW1]; simp
  have g1 : W1.heap[w.heap.size + 2]? = some (.cells #[.int .i64 5, .int .i64 0, .int .i64 5, .string { data := #[] }, .slice (some ⟨w.heap.size, 0, none⟩) 3 3, .slice (some ⟨w.heap.size + 1, 0, none⟩) 1 1, .slice none 0 0] 26 (0, 0)) := by
    have h1 := heap_alloc_new ((w.alloc (.cells #[.int .i64 7, .int .i64 1, .int .i64 1] 3)).alloc (.cells #[.string { data := #[110] }] 9)) (.cells #[.int .i64 5, .int .i64 0, .int .i64 5, .string { data := #[] }, .slice (some ⟨w.heap.size, 0, none⟩) 3 3, .slice (some ⟨w.heap.size + 1, 0, none⟩) 1 1, .slice none 0 0] 26)
    rw [World.size_alloc, World.size_alloc] at h1
    rw [hW1]
    exact h1
  have r1 : Rq W1 W1.heap.size (some ⟨w.heap.size, 0, none⟩) 3 3 (some ⟨w.heap.size + 1, 0, none⟩) 1 1 none 0 0 [7, 1, 1] [[110]] [] := by
    have h1 : Rx (w.alloc (.cells #[.int .i64 7, .int .i64 1, .int .i64 1] 3)) (w.heap.size + 1) (some ⟨w.heap.size, 0, none⟩) 3 3 (iv [7, 1, 1]) := Rx.lit w 3 (iv [7, 1, 1]) (by simp [iv])
    have h2 : Rx ((w.alloc (.cells #[.int .i64 7, .int .i64 1, .int .i64 1] 3)).alloc (.cells #[.string { data := #[110] }] 9)) (w.heap.size + 1 + 1) (some ⟨w.heap.size + 1, 0, none⟩) 1 1 (sv [[110]]) := by
      have h3 := Rx.lit (w.alloc (.cells #[.int .i64 7, .int .i64 1, .int .i64 1] 3)) 9 (sv [[110]]) (by simp [sv])
      rw [World.size_alloc] at h3
      exact h3
    rw [hz1, hW1]
    refine ⟨((h1.below ((Below.refl _ _).alloc (by simp) _)).below ((Below.refl _ _).alloc (by simp) _)).more (by omega), (h2.below ((Below.refl _ _).alloc (by simp) _)).more (by omega), Rd.nil _ _⟩
  have HC2 := Lib.hid (p_putQ_ok (hs.on b1) 5 0 5 [] r1 (by simp))
  have HG1 := Lib.hid g1
  have HR1 := Lib.hid r1
  have HB1 := Lib.hid b1
  have HS := Lib.hid hs
  have HZ1 := Lib.hid hz1
  clear b1 hz1 g1 r1 hs
  go_enter Tryd.func12, Tryd.ntmps12
  go_wp2_with fail
  rw [← hW1]
  have hk1 : W1.heap.size = w.heap.size + 3 := HZ1.out
  clear hW1 hk1
  refine HC2.out.mono ?_
  rw [show (⟨5, 0, 5, [], [7, 1, 1], [[110]], []⟩ : RQ) = exQ from rfl, putQ_good exQ_ok]
  rintro e w2 ⟨A2, n2, c2, rfl, ho2, b2⟩
  have HO2 := Lib.hid ho2
  have B2 := Lib.hid (bthen HB1.out b2)
  have B12 := Lib.hid b2
  have hg3 := p_getQ_ok (HS.out.on B2.out) (ho2.rd)
  rw [decQ_back exQ_ok] at hg3
  have HC3 := Lib.hid hg3
  clear ho2 b2 hg3 HC2
  go_wp2_with fail
  refine HC3.out.mono ?_
  rintro e w3 ⟨Ai, ni, ci, At, nt, ct, Ab, nb, cb, rfl, hx3, b3⟩
  have HX3 := Lib.hid hx3
  have B3 := Lib.hid b3
  clear hx3 b3 HC3
  obtain ⟨W4, hW4⟩ : ∃ W, W = (((w3.alloc (.cells #[.int .i64 exQ.kind, .int .i64 exQ.ver, .int .i64 exQ.id, .string (strOf exQ.who), .slice Ai ni ci, .slice At nt ct, .slice Ab nb cb] 26)).alloc (.cells #[.int .i64 (-1)] 3)).alloc (.cells #[.int .i64 12, .int .i64 1, .int .i64 5, .int .i64 0, .int .i64 3, .slice (some ⟨w3.heap.size + 1, 0, none⟩) 1 1, .slice none 0 0, .slice none 0 0] 38)) := ⟨_, rfl⟩
  have b4 : Below w3.heap.size w3 W4 := by rw [hW4]; exact bput (bput (bput (Below.refl _ w3) _) _) _
  have hz4 : W4.heap.size = w3.heap.size + 3 := by rw [hW4]; simp
  have g4 : W4.heap[w3.heap.size + 2]? = some (.cells #[.int .i64 12, .int .i64 1, .int .i64 5, .int .i64 0, .int .i64 3, .slice (some ⟨w3.heap.size + 1, 0, none⟩) 1 1, .slice none 0 0, .slice none 0 0] 38 (0, 0)) := by
    have h1 := heap_alloc_new ((w3.alloc (.cells #[.int .i64 exQ.kind, .int .i64 exQ.ver, .int .i64 exQ.id, .string (strOf exQ.who), .slice Ai ni ci, .slice At nt ct, .slice Ab nb cb] 26)).alloc (.cells #[.int .i64 (-1)] 3)) (.cells #[.int .i64 12, .int .i64 1, .int .i64 5, .int .i64 0, .int .i64 3, .slice (some ⟨w3.heap.size + 1, 0, none⟩) 1 1, .slice none 0 0, .slice none 0 0] 38)
    rw [World.size_alloc, World.size_alloc] at h1
    rw [hW4]
    exact h1
  have g3 : W4.heap[w3.heap.size]? = some (.cells #[.int .i64 exQ.kind, .int .i64 exQ.ver, .int .i64 exQ.id, .string (strOf exQ.who), .slice Ai ni ci, .slice At nt ct, .slice Ab nb cb] 26 (0, 0)) := by
    rw [hW4, (bput (Below.refl _ _) _).block w3.heap.size (by simp; omega), (bput (Below.refl _ _) _).block w3.heap.size (by simp)]
    exact heap_alloc_new w3 _
  have r4 : Rq W4 W4.heap.size (some ⟨w3.heap.size + 1, 0, none⟩) 1 1 none 0 0 none 0 0 [-1] [] [] := by
    have h2 : Rx ((w3.alloc (.cells #[.int .i64 exQ.kind, .int .i64 exQ.ver, .int .i64 exQ.id, .string (strOf exQ.who), .slice Ai ni ci, .slice At nt ct, .slice Ab nb cb] 26)).alloc (.cells #[.int .i64 (-1)] 3)) (w3.heap.size + 1 + 1) (some ⟨w3.heap.size + 1, 0, none⟩) 1 1 (iv [-1]) := by
      have h3 := Rx.lit (w3.alloc (.cells #[.int .i64 exQ.kind, .int .i64 exQ.ver, .int .i64 exQ.id, .string (strOf exQ.who), .slice Ai ni ci, .slice At nt ct, .slice Ab nb cb] 26)) 3 (iv [-1]) (by simp [iv])
      rw [World.size_alloc] at h3
      exact h3
    rw [hz4, hW4]
    refine ⟨(h2.below ((Below.refl _ _).alloc (by simp) _)).more (by omega), Rx.nil _ _, Rd.nil _ _⟩
  have HC5 := Lib.hid (p_putS_ok 12 1 5 0 3 r4)
  have HG4 := Lib.hid g4
  have HG3 := Lib.hid g3
  have HR4 := Lib.hid r4
  have B4 := Lib.hid b4
  have HZ4 := Lib.hid hz4
  clear b4 hz4 g4 g3 r4
  go_wp2_with fail
  rw [← hW4]
  clear hW4
  refine HC5.out.mono ?_
  rw [show (⟨12, 1, 5, 0, 3, [-1], [], []⟩ : RS) = exS from rfl, putS_good exS_ok]
  rintro e w5 ⟨A5, n5, c5, rfl, ho5, b5⟩
  have B45 := Lib.hid b5
  have B5 := Lib.hid (bthen (bthen (bthen B2.out B3.out) B4.out) b5)
  have hg6 := p_getS_ok (ho5.rd)
  rw [decS_back exS_ok] at hg6
  have HC6 := Lib.hid hg6
  clear ho5 b5 hg6 HC5
  go_wp2_with fail
  refine HC6.out.mono ?_
  rintro e w6 ⟨Bi, mi, di, Bt, mt, dt, Bb, mb, db, rfl, hx6, b6⟩
  have HX6 := Lib.hid hx6
  have B56 := Lib.hid b6
  have B6 := Lib.hid (bthen B5.out b6)
  clear hx6 b6 HC6
  obtain ⟨W7, hW7⟩ : ∃ W, W = (((w6.alloc (.cells #[.int .i64 exS.kind, .int .i64 exS.ver, .int .i64 exS.id, .int .i64 exS.er, .int .i64 exS.wait, .slice Bi mi di, .slice Bt mt dt, .slice Bb mb db] 38)).alloc (.cells #[.int .i64 1, .int .i64 0, .int .i64 2, .int .i64 3, .int .i64 0, .int .i64 0] 54)).alloc (.cells #[.int .i64 1, .int .i64 1, .int .i64 5] 54)) := ⟨_, rfl⟩
  have b7 : Below w6.heap.size w6 W7 := by rw [hW7]; exact bput (bput (bput (Below.refl _ w6) _) _) _
  have hz7 : W7.heap.size = w6.heap.size + 3 := by rw [hW7]; simp
  have g7 : W7.heap[w6.heap.size]? = some (.cells #[.int .i64 exS.kind, .int .i64 exS.ver, .int .i64 exS.id, .int .i64 exS.er, .int .i64 exS.wait, .slice Bi mi di, .slice Bt mt dt, .slice Bb mb db] 38 (0, 0)) := by
    rw [hW7, (bput (Below.refl _ _) _).block w6.heap.size (by simp; omega), (bput (Below.refl _ _) _).block w6.heap.size (by simp)]
    exact heap_alloc_new w6 _
  have p1 : Rp W7 W7.heap.size (some ⟨w6.heap.size + 1, 0, none⟩) 2 2 [⟨1, 0, 2⟩, ⟨3, 0, 0⟩] := by
    have h1 : Rp ((w6.alloc (.cells #[.int .i64 exS.kind, .int .i64 exS.ver, .int .i64 exS.id, .int .i64 exS.er, .int .i64 exS.wait, .slice Bi mi di, .slice Bt mt dt, .slice Bb mb db] 38)).alloc (.cells #[.int .i64 1, .int .i64 0, .int .i64 2, .int .i64 3, .int .i64 0, .int .i64 0] 54)) (w6.heap.size + 1 + 1) (some ⟨w6.heap.size + 1, 0, none⟩) 2 2 [⟨1, 0, 2⟩, ⟨3, 0, 0⟩] := by
      have h3 := Rp.lit (w6.alloc (.cells #[.int .i64 exS.kind, .int .i64 exS.ver, .int .i64 exS.id, .int .i64 exS.er, .int .i64 exS.wait, .slice Bi mi di, .slice Bt mt dt, .slice Bb mb db] 38)) 54 [⟨1, 0, 2⟩, ⟨3, 0, 0⟩] (by simp)
      rw [World.size_alloc] at h3
      exact h3
    rw [hz7, hW7]
    exact (h1.below ((Below.refl _ _).alloc (by simp) _)).more (by omega)
  have p2 : Rp W7 W7.heap.size (some ⟨w6.heap.size + 2, 0, none⟩) 1 1 [⟨1, 1, 5⟩] := by
    have h3 := Rp.lit ((w6.alloc (.cells #[.int .i64 exS.kind, .int .i64 exS.ver, .int .i64 exS.id, .int .i64 exS.er, .int .i64 exS.wait, .slice Bi mi di, .slice Bt mt dt, .slice Bb mb db] 38)).alloc (.cells #[.int .i64 1, .int .i64 0, .int .i64 2, .int .i64 3, .int .i64 0, .int .i64 0] 54)) 54 [⟨1, 1, 5⟩] (by simp)
    rw [World.size_alloc, World.size_alloc] at h3
    rw [hz7, hW7]
    exact h3
  have hc8 := p_agree_ok p1 p2 (by omega)
  rw [ex_agree1] at hc8
  have HC8 := Lib.hid hc8
  have HG7 := Lib.hid g7
  have B67 := Lib.hid b7
  clear b7 hz7 g7 p1 p2 hc8
  go_wp2_with fail
  rw [← hW7]
  clear hW7
  refine HC8.out.mono ?_
  rintro e w8 ⟨A8, n8, c8, rfl, ho8, b8⟩
  obtain rfl : n8 = 1 := ho8.1.symm
  have HO8 := Lib.hid ho8
  have B78 := Lib.hid b8
  clear ho8 b8 HC8
  obtain ⟨W9, hW9⟩ : ∃ W, W = ((w8.alloc (.cells #[.int .i64 1, .int .i64 0, .int .i64 2] 54)).alloc (.cells #[.int .i64 1, .int .i64 3, .int .i64 5] 54)) := ⟨_, rfl⟩
  have b9 : Below w8.heap.size w8 W9 := by rw [hW9]; exact bput (bput (Below.refl _ w8) _) _
  have hz9 : W9.heap.size = w8.heap.size + 2 := by rw [hW9]; simp
  have p3 : Rp W9 W9.heap.size (some ⟨w8.heap.size, 0, none⟩) 1 1 [⟨1, 0, 2⟩] := by
    have h3 := Rp.lit w8 54 [⟨1, 0, 2⟩] (by simp)
    rw [hz9, hW9]
    exact (h3.below ((Below.refl _ _).alloc (by simp) _)).more (by omega)
  have p4 : Rp W9 W9.heap.size (some ⟨w8.heap.size + 1, 0, none⟩) 1 1 [⟨1, 3, 5⟩] := by
    have h3 := Rp.lit (w8.alloc (.cells #[.int .i64 1, .int .i64 0, .int .i64 2] 54)) 54 [⟨1, 3, 5⟩] (by simp)
    rw [World.size_alloc] at h3
    rw [hz9, hW9]
    exact h3
  have hc10 := p_agree_ok p3 p4 (by omega)
  rw [ex_agree2] at hc10
  have HC10 := Lib.hid hc10
  have B89 := Lib.hid b9
  clear b9 hz9 p3 p4 hc10
  go_wp2_with fail
  rw [← hW9]
  clear hW9
  refine HC10.out.mono ?_
  rintro e w10 ⟨A10, n10, c10, rfl, -, b10⟩
  have B810 := Lib.hid (bthen B89.out b10)
  clear b10 HC10
  obtain ⟨W11, hW11⟩ : ∃ W, W = (w10.alloc (.cells #[.int .u8 13, .int .u8 0] 5)) := ⟨_, rfl⟩
  have b11 : Below w10.heap.size w10 W11 := by rw [hW11]; exact bput (Below.refl _ w10) _
  have d11 : Rd W11 W11.heap.size (some ⟨w10.heap.size, 0, none⟩) 2 2 [13, 0] := by
    have h3 := Rd.lit w10 5 [.int .u8 13, .int .u8 0] [13, 0] rfl (by simp)
    rw [hW11, World.size_alloc]
    exact h3
  have B811 := Lib.hid (bthen B810.out b11)
  have B8 := Lib.hid (bthen (bthen B6.out B67.out) B78.out)
  have hc12 := p_getQ_ok (HS.out.on (bthen B8.out B811.out)) d11
  rw [ex_kind] at hc12
  have HC12 := Lib.hid hc12
  clear b11 d11 hc12
  go_wp2_with fail
  rw [← hW11]
  clear hW11
  refine HC12.out.mono ?_
  rintro e w12 ⟨Ci, ki, li, Ct, kt, lt, Cb, kb, lb, rfl, -, b12⟩
  have B812 := Lib.hid (bthen B811.out b12)
  clear b12 HC12
  obtain ⟨W13, hW13⟩ : ∃ W, W = (w12.alloc (.cells #[.int .i64 zeroQ.kind, .int .i64 zeroQ.ver, .int .i64 zeroQ.id, .string (strOf zeroQ.who), .slice Ci ki li, .slice Ct kt lt, .slice Cb kb lb] 26)) := ⟨_, rfl⟩
  have b13 : Below w12.heap.size w12 W13 := by rw [hW13]; exact bput (Below.refl _ w12) _
  have B813 := Lib.hid (bthen B812.out b13)
  clear b13
  have B713 := Lib.hid (bthen B78.out B813.out)
  have B613 := Lib.hid (bthen B67.out B713.out)
  have B413 := Lib.hid (bthen (bthen B45.out B56.out) B613.out)
  have B313 := Lib.hid (bthen B4.out B413.out)
  have B213 := Lib.hid (bthen B3.out B313.out)
  have B113 := Lib.hid (bthen B12.out B213.out)
  have B13 := Lib.hid (bthen HB1.out B113.out)
  have HF : Hid (∀ w', Below W13.heap.size W13 w' → w'.heap[w.heap.size + 2]? = some (.cells #[.int .i64 5, .int .i64 0, .int .i64 5, .string { data := #[] }, .slice (some ⟨w.heap.size, 0, none⟩) 3 3, .slice (some ⟨w.heap.size + 1, 0, none⟩) 1 1, .slice none 0 0] 26 (0, 0)) ∧ w'.heap[w3.heap.size]? = some (.cells #[.int .i64 exQ.kind, .int .i64 exQ.ver, .int .i64 exQ.id, .string (strOf exQ.who), .slice Ai ni ci, .slice At nt ct, .slice Ab nb cb] 26 (0, 0)) ∧ w'.heap[w3.heap.size + 2]? = some (.cells #[.int .i64 12, .int .i64 1, .int .i64 5, .int .i64 0, .int .i64 3, .slice (some ⟨w3.heap.size + 1, 0, none⟩) 1 1, .slice none 0 0, .slice none 0 0] 38 (0, 0)) ∧ w'.heap[w6.heap.size]? = some (.cells #[.int .i64 exS.kind, .int .i64 exS.ver, .int .i64 exS.id, .int .i64 exS.er, .int .i64 exS.wait, .slice Bi mi di, .slice Bt mt dt, .slice Bb mb db] 38 (0, 0))) := Lib.hid fun w' hb =>
    ⟨((bthen B113.out hb).block _ (Array.getElem?_eq_some_iff.1 HG1.out).1).trans HG1.out, ((bthen B413.out hb).block _ (Array.getElem?_eq_some_iff.1 HG3.out).1).trans HG3.out, ((bthen B413.out hb).block _ (Array.getElem?_eq_some_iff.1 HG4.out).1).trans HG4.out, ((bthen B713.out hb).block _ (Array.getElem?_eq_some_iff.1 HG7.out).1).trans HG7.out⟩
  obtain ⟨ba, oa, rfl, hba, hca⟩ := HO8.out.rp.cells (by omega)
  have HL : Hid (∀ w', Below W13.heap.size W13 w' → w'.cell? ⟨ba, oa, none⟩ = some (.int .i64 1) ∧ w'.cell? ⟨ba, oa + 1, none⟩ = some (.int .i64 1) ∧ w'.cell? ⟨ba, oa + 2, none⟩ = some (.int .i64 2)) := Lib.hid fun w' hb => by
    obtain ⟨h1, h2, h3⟩ := hca 0 (by omega)
    have hw := bthen B813.out hb
    exact ⟨(hw.cell (p := ⟨ba, oa, none⟩) hba).trans h1, (hw.cell (p := ⟨ba, oa + 1, none⟩) hba).trans h2, (hw.cell (p := ⟨ba, oa + 2, none⟩) hba).trans h3⟩
  clear hca
  have hcv := str_eq6 (s := { data := #[5, 0, 10, 14, 2, 2, 2, 110] }) ((HO2.out.step B213.out).rd) (by rw [exQ_bytes]; rfl)
  have x1 := (of7 (HF.out W13 (Below.refl _ _)).1).1
  have x2 := (of7 (HF.out W13 (Below.refl _ _)).2.1).1
  obtain ⟨k0, k1, k2, k3, k4, k5, k6⟩ := x1
  obtain ⟨l0, l1, l2, l3, l4, l5, l6⟩ := x2
  go_upto_region 10 with fail
  rw [← hW13]
  clear hW13
  have HRQ1 := Lib.hid ((HR1.out.step B113.out (Nat.le_refl _)).more B113.out.size)
  have HRQ3 := Lib.hid ((HX3.out.step B313.out (Nat.le_refl _)).more B313.out.size)
  have HRS4 := Lib.hid ((HR4.out.step B413.out (Nat.le_refl _)).more B413.out.size)
  have HRS6 := Lib.hid ((HX6.out.step B613.out (Nat.le_refl _)).more B613.out.size)
  go_wp2_with fail
  refine (sameQ_ok 5 0 5 [] HRQ3.out HRQ1.out (Nat.le_refl _)).mono ?_
  rintro e w14 ⟨rfl, b14⟩
  clear k0 k1 k2 k3 k4 k5 k6 l0 l1 l2 l3 l4 l5 l6 hcv
  have x3 := (of8 (HF.out w14 b14).2.2.1).1
  have x4 := (of8 (HF.out w14 b14).2.2.2).1
  obtain ⟨k0, k1, k2, k3, k4, k5, k6, k7⟩ := x3
  obtain ⟨l0, l1, l2, l3, l4, l5, l6, l7⟩ := x4
  have B14 := Lib.hid b14
  clear b14
  go_wp2_with fail
  refine (sameS_ok 12 1 5 0 3 (HRS6.out.step B14.out (Nat.le_refl _)) (HRS4.out.step B14.out (Nat.le_refl _)) B14.out.size).mono ?_
  rintro e w15 ⟨rfl, b15⟩
  clear k0 k1 k2 k3 k4 k5 k6 k7 l0 l1 l2 l3 l4 l5 l6 l7
  have B15 := Lib.hid (bthen B14.out b15)
  obtain ⟨k0, k1, k2⟩ := HL.out w15 B15.out
  clear b15
  go_wp2_with fail
  refine (p_spans_ok w15).mono ?_
  rintro e w16 ⟨A16, n16, c16, rfl, ho16, b16⟩
  obtain rfl : n16 = 12 := ho16.1.symm
  have B16 := Lib.hid (bthen B15.out b16)
  have hc17 := p_chkQ_ok (HS.out.on (bthen B13.out B16.out)) 1 0 0 [] (Rq.none w16 w16.heap.size) (by simp)
  rw [ex_chk] at hc17
  have HC17 := Lib.hid hc17
  clear hc17 ho16 b16 k0 k1 k2
  go_wp2_with fail
  refine HC17.out.mono ?_
  rintro e w17 ⟨rfl, b17⟩
  have B17 := Lib.hid (bthen B16.out b17)
  clear b17
  go_wp2
  go_ret
  exact ⟨rfl, bthen B13.out B17.out⟩
end Go.Proofs.YtlijagbklopipaaDoor
