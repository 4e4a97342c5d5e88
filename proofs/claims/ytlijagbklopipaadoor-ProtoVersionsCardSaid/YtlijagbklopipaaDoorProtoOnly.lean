/-
  The walk of ProtoOnly. Conditions: those that it states.
-/
import Derived.Test.YtlijagbklopipaaDoorLivB
namespace Go.Proofs.YtlijagbklopipaaDoor
open Go.RowKit
set_option linter.unusedVariables false

theorem put_zeroQ : putQ zeroQ = ([], 60) := by rw [putQ_bad (by decide +kernel)]; rfl
theorem put_zeroS : putS zeroS = ([], 60) := by rw [putS_bad (by decide +kernel)]; rfl
theorem put_backQ {l : List UInt8} {r : RQ} (h : chkQ r = 0) (h2 : encQ r = l) : putQ r = (l, 0) := by rw [putQ_good h, h2]
theorem put_backS {l : List UInt8} {r : RS} (h : chkS r = 0) (h2 : encS r = l) : putS r = (l, 0) := by rw [putS_good h, h2]
theorem who_small {r : RQ} (h : chkQ r = 0) : r.who.length ≤ 9223372036854775807 := by
  obtain ⟨_, _, ⟨h1, _⟩, _⟩ := chkQ_ok.1 h
  omega
theorem Rq.lens {w : World} {B : Nat} {Ai At Ab : Option Addr} {ni ci nt ct nb cb : Nat} {zs ts bs} (h : Rq w B Ai ni ci At nt ct Ab nb cb zs ts bs) : ni = zs.length ∧ nt = ts.length := by
  have h1 := h.ints.len
  have h2 := h.texts.len
  rw [iv_len] at h1
  rw [sv_len] at h2
  exact ⟨h1.symm, h2.symm⟩

set_option maxRecDepth 100000 in
set_option maxHeartbeats 4000000 in
theorem proto_only_00 {w : World} (hs : Shp w) {A : Option Addr} {n c : Nat} {l : List UInt8} (h : Rd w w.heap.size A n c l) (hn : n ≤ 5000) {r : RQ} {s : RS} {e f : Int} (hd : decQ l = (r, e)) (hd' : decS l = (s, f)) (hq0 : e ≠ 0) (hqz : r = zeroQ) (hs0 : f ≠ 0) (hsz : s = zeroS) :
    Calls Tryd.prog 7 #[.slice A n c] w (Says w (.bool true)) := by
  have HL := Lib.hid (live_ok w hs)
  have hQ := fun w' (hb : Below w.heap.size w w') => p_getQ_ok (hs.on hb) ((h.step hb (Nat.le_refl _)).more hb.size)
  have hS := fun w' (hb : Below w.heap.size w w') => p_getS_ok ((h.step hb (Nat.le_refl _)).more hb.size)
  rw [hd] at hQ
  rw [hd'] at hS
  have HQ := Lib.hid hQ
  have HS := Lib.hid hS
  have HSH := Lib.hid hs
  have hcap := h.cap
  have htop := h.top
  have HR := Lib.hid h
  have t1 : decide ((5000 : Int) < (n : Int)) = false := by simp only [decide_eq_false_iff_not]; omega
  have TQ1 : (e != 0) = true := by simpa using hq0
  have HPQ : Hid (putQ r = ([], 60)) := Lib.hid (by rw [hqz]; exact put_zeroQ)
  have HWQ : Hid (r.who.length ≤ 9223372036854775807) := Lib.hid (by rw [hqz]; simp [zeroQ])
  have HZQ : Hid (r.kind = 0 ∧ r.ints = [] ∧ r.texts = []) := Lib.hid (by rw [hqz]; exact ⟨rfl, rfl, rfl⟩)
  have TS1 : (f != 0) = true := by simpa using hs0
  have HPS : Hid (putS s = ([], 60)) := Lib.hid (by rw [hsz]; exact put_zeroS)
  have HZS : Hid (s.kind = 0 ∧ s.ints = [] ∧ s.texts = []) := Lib.hid (by rw [hsz]; exact ⟨rfl, rfl, rfl⟩)
  clear hq0 hqz hs0 hsz hd hd' hQ hS h hs hn
  go_enter Tryd.func7, Tryd.ntmps7
  go_wp2_with fail
  refine HL.out.mono ?_
  rintro e0 w1 ⟨rfl, b1⟩
  have B1 := Lib.hid b1
  clear b1
  go_wp2_with fail
  refine (HQ.out w1 B1.out).mono ?_
  rintro e0 w2 ⟨Ai, ni, ci, At, nt, ct, Ab, nb, cb, rfl, hx2, b2⟩
  obtain ⟨W3, hW3⟩ : ∃ W, W = w2.alloc (.cells #[.int .i64 r.kind, .int .i64 r.ver, .int .i64 r.id, .string (strOf r.who), .slice Ai ni ci, .slice At nt ct, .slice Ab nb cb] 26) := ⟨_, rfl⟩
  have b3 : Below w2.heap.size w2 W3 := by rw [hW3]; exact bput (Below.refl _ w2) _
  have g3 : W3.heap[w2.heap.size]? = some (.cells #[.int .i64 r.kind, .int .i64 r.ver, .int .i64 r.id, .string (strOf r.who), .slice Ai ni ci, .slice At nt ct, .slice Ab nb cb] 26 (0, 0)) := by rw [hW3]; exact heap_alloc_new w2 _
  have x3 := (hx2.step b3 (Nat.le_refl _)).more b3.size
  have B3 := Lib.hid (bthen (bthen B1.out b2) b3)
  have HX3 := Lib.hid x3
  have HG3 := Lib.hid g3
  clear b2 b3 g3 x3 hx2
  go_upto_region 5 with fail
  rw [← hW3]
  clear hW3
  go_wp2_with fail
  refine (HS.out W3 B3.out).mono ?_
  rintro e0 w4 ⟨Bi, mi, di, Bt, mt, dt, Bb, mb, db, rfl, hy4, b4⟩
  obtain ⟨W5, hW5⟩ : ∃ W, W = w4.alloc (.cells #[.int .i64 s.kind, .int .i64 s.ver, .int .i64 s.id, .int .i64 s.er, .int .i64 s.wait, .slice Bi mi di, .slice Bt mt dt, .slice Bb mb db] 38) := ⟨_, rfl⟩
  have b5 : Below w4.heap.size w4 W5 := by rw [hW5]; exact bput (Below.refl _ w4) _
  have g5 : W5.heap[w4.heap.size]? = some (.cells #[.int .i64 s.kind, .int .i64 s.ver, .int .i64 s.id, .int .i64 s.er, .int .i64 s.wait, .slice Bi mi di, .slice Bt mt dt, .slice Bb mb db] 38 (0, 0)) := by rw [hW5]; exact heap_alloc_new w4 _
  have y5 := (hy4.step b5 (Nat.le_refl _)).more b5.size
  have b35 := bthen b4 b5
  have B5 := Lib.hid (bthen B3.out b35)
  have HY5 := Lib.hid y5
  have HX5 := Lib.hid ((HX3.out.step b35 (Nat.le_refl _)).more b35.size)
  have HG : Hid (∀ w', Below W5.heap.size W5 w' → w'.heap[w2.heap.size]? = some (.cells #[.int .i64 r.kind, .int .i64 r.ver, .int .i64 r.id, .string (strOf r.who), .slice Ai ni ci, .slice At nt ct, .slice Ab nb cb] 26 (0, 0)) ∧ w'.heap[w4.heap.size]? = some (.cells #[.int .i64 s.kind, .int .i64 s.ver, .int .i64 s.id, .int .i64 s.er, .int .i64 s.wait, .slice Bi mi di, .slice Bt mt dt, .slice Bb mb db] 38 (0, 0))) := Lib.hid fun w' hb =>
    ⟨((bthen b35 hb).block _ (Array.getElem?_eq_some_iff.1 HG3.out).1).trans HG3.out, (hb.block _ (Array.getElem?_eq_some_iff.1 g5).1).trans g5⟩
  clear b4 b5 g5 y5 hy4 b35 HG3 HX3
  go_upto_region 6 with fail
  rw [← hW5]
  clear hW5
  obtain ⟨⟨k0, k1, k2, k3, k4, k5, k6⟩, -⟩ := of7 (HG.out W5 (Below.refl _ _)).1
  obtain ⟨⟨l0, l1, l2, l3, l4, l5, l6, l7⟩, -⟩ := of8 (HG.out W5 (Below.refl _ _)).2
  have u1 : (r.kind != 0) = false := by rw [HZQ.out.1]; rfl
  have u2 : decide (0 < ni) = false := by rw [HX5.out.lens.1, HZQ.out.2.1]; rfl
  have u3 : decide (0 < nt) = false := by rw [HX5.out.lens.2, HZQ.out.2.2]; rfl
  have v1 : (s.kind != 0) = false := by rw [HZS.out.1]; rfl
  have v2 : decide (0 < mi) = false := by rw [HY5.out.lens.1, HZS.out.2.1]; rfl
  have v3 : decide (0 < mt) = false := by rw [HY5.out.lens.2, HZS.out.2.2]; rfl
  have hp6 := p_putQ_ok (HSH.out.on B5.out) r.kind r.ver r.id r.who HX5.out HWQ.out
  rw [show (⟨r.kind, r.ver, r.id, r.who, r.ints, r.texts, r.blob⟩ : RQ) = r from rfl, HPQ.out] at hp6
  have HP6 := Lib.hid hp6
  clear hp6
  go_wp2_with fail
  refine HP6.out.mono ?_
  rintro e0 w6 ⟨A6, n6, c6, rfl, ho6, b6⟩
  have B6 := Lib.hid b6
  have HO6 := Lib.hid ho6
  have hp7 := p_putS_ok s.kind s.ver s.id s.er s.wait ((HY5.out.step b6 (Nat.le_refl _)).more b6.size)
  rw [show (⟨s.kind, s.ver, s.id, s.er, s.wait, s.ints, s.texts, s.blob⟩ : RS) = s from rfl, HPS.out] at hp7
  have HP7 := Lib.hid hp7
  clear k0 k1 k2 k3 k4 k5 k6 l0 l1 l2 l3 l4 l5 l6 l7 b6 ho6 hp7
  obtain ⟨⟨l0, l1, l2, l3, l4, l5, l6, l7⟩, -⟩ := of8 (HG.out w6 B6.out).2
  go_wp2_with fail
  refine HP7.out.mono ?_
  rintro e0 w7 ⟨A7, n7, c7, rfl, ho7, b7⟩
  have B7 := Lib.hid (bthen B6.out b7)
  have HO7 := Lib.hid ho7
  have y1 := str_eq6 (s := strOf l) ((HR.out.step (bthen B5.out B7.out) (Nat.le_refl _))) rfl
  clear l0 l1 l2 l3 l4 l5 l6 l7 b7 ho7
  obtain ⟨⟨k0, k1, k2, k3, k4, k5, k6⟩, -⟩ := of7 (HG.out w7 B7.out).1
  go_wp2
  go_ret
  exact ⟨rfl, bthen B5.out B7.out⟩

set_option maxRecDepth 100000 in
set_option maxHeartbeats 4000000 in
theorem proto_only_01 {w : World} (hs : Shp w) {A : Option Addr} {n c : Nat} {l : List UInt8} (h : Rd w w.heap.size A n c l) (hn : n ≤ 5000) {r : RQ} {s : RS} {e f : Int} (hd : decQ l = (r, e)) (hd' : decS l = (s, (0 : Int))) (hq0 : e ≠ 0) (hqz : r = zeroQ) (hs1 : chkS s = 0) (hs2 : encS s = l) :
    Calls Tryd.prog 7 #[.slice A n c] w (Says w (.bool true)) := by
  have HL := Lib.hid (live_ok w hs)
  have hQ := fun w' (hb : Below w.heap.size w w') => p_getQ_ok (hs.on hb) ((h.step hb (Nat.le_refl _)).more hb.size)
  have hS := fun w' (hb : Below w.heap.size w w') => p_getS_ok ((h.step hb (Nat.le_refl _)).more hb.size)
  rw [hd] at hQ
  rw [hd'] at hS
  have HQ := Lib.hid hQ
  have HS := Lib.hid hS
  have HSH := Lib.hid hs
  have hcap := h.cap
  have htop := h.top
  have HR := Lib.hid h
  have t1 : decide ((5000 : Int) < (n : Int)) = false := by simp only [decide_eq_false_iff_not]; omega
  have TQ1 : (e != 0) = true := by simpa using hq0
  have HPQ : Hid (putQ r = ([], 60)) := Lib.hid (by rw [hqz]; exact put_zeroQ)
  have HWQ : Hid (r.who.length ≤ 9223372036854775807) := Lib.hid (by rw [hqz]; simp [zeroQ])
  have HZQ : Hid (r.kind = 0 ∧ r.ints = [] ∧ r.texts = []) := Lib.hid (by rw [hqz]; exact ⟨rfl, rfl, rfl⟩)
  have HPS := Lib.hid (put_backS hs1 hs2)
  clear hq0 hqz hs1 hs2 hd hd' hQ hS h hs hn
  go_enter Tryd.func7, Tryd.ntmps7
  go_wp2_with fail
  refine HL.out.mono ?_
  rintro e0 w1 ⟨rfl, b1⟩
  have B1 := Lib.hid b1
  clear b1
  go_wp2_with fail
  refine (HQ.out w1 B1.out).mono ?_
  rintro e0 w2 ⟨Ai, ni, ci, At, nt, ct, Ab, nb, cb, rfl, hx2, b2⟩
  obtain ⟨W3, hW3⟩ : ∃ W, W = w2.alloc (.cells #[.int .i64 r.kind, .int .i64 r.ver, .int .i64 r.id, .string (strOf r.who), .slice Ai ni ci, .slice At nt ct, .slice Ab nb cb] 26) := ⟨_, rfl⟩
  have b3 : Below w2.heap.size w2 W3 := by rw [hW3]; exact bput (Below.refl _ w2) _
  have g3 : W3.heap[w2.heap.size]? = some (.cells #[.int .i64 r.kind, .int .i64 r.ver, .int .i64 r.id, .string (strOf r.who), .slice Ai ni ci, .slice At nt ct, .slice Ab nb cb] 26 (0, 0)) := by rw [hW3]; exact heap_alloc_new w2 _
  have x3 := (hx2.step b3 (Nat.le_refl _)).more b3.size
  have B3 := Lib.hid (bthen (bthen B1.out b2) b3)
  have HX3 := Lib.hid x3
  have HG3 := Lib.hid g3
  clear b2 b3 g3 x3 hx2
  go_upto_region 5 with fail
  rw [← hW3]
  clear hW3
  go_wp2_with fail
  refine (HS.out W3 B3.out).mono ?_
  rintro e0 w4 ⟨Bi, mi, di, Bt, mt, dt, Bb, mb, db, rfl, hy4, b4⟩
  obtain ⟨W5, hW5⟩ : ∃ W, W = w4.alloc (.cells #[.int .i64 s.kind, .int .i64 s.ver, .int .i64 s.id, .int .i64 s.er, .int .i64 s.wait, .slice Bi mi di, .slice Bt mt dt, .slice Bb mb db] 38) := ⟨_, rfl⟩
  have b5 : Below w4.heap.size w4 W5 := by rw [hW5]; exact bput (Below.refl _ w4) _
  have g5 : W5.heap[w4.heap.size]? = some (.cells #[.int .i64 s.kind, .int .i64 s.ver, .int .i64 s.id, .int .i64 s.er, .int .i64 s.wait, .slice Bi mi di, .slice Bt mt dt, .slice Bb mb db] 38 (0, 0)) := by rw [hW5]; exact heap_alloc_new w4 _
  have y5 := (hy4.step b5 (Nat.le_refl _)).more b5.size
  have b35 := bthen b4 b5
  have B5 := Lib.hid (bthen B3.out b35)
  have HY5 := Lib.hid y5
  have HX5 := Lib.hid ((HX3.out.step b35 (Nat.le_refl _)).more b35.size)
  have HG : Hid (∀ w', Below W5.heap.size W5 w' → w'.heap[w2.heap.size]? = some (.cells #[.int .i64 r.kind, .int .i64 r.ver, .int .i64 r.id, .string (strOf r.who), .slice Ai ni ci, .slice At nt ct, .slice Ab nb cb] 26 (0, 0)) ∧ w'.heap[w4.heap.size]? = some (.cells #[.int .i64 s.kind, .int .i64 s.ver, .int .i64 s.id, .int .i64 s.er, .int .i64 s.wait, .slice Bi mi di, .slice Bt mt dt, .slice Bb mb db] 38 (0, 0))) := Lib.hid fun w' hb =>
    ⟨((bthen b35 hb).block _ (Array.getElem?_eq_some_iff.1 HG3.out).1).trans HG3.out, (hb.block _ (Array.getElem?_eq_some_iff.1 g5).1).trans g5⟩
  clear b4 b5 g5 y5 hy4 b35 HG3 HX3
  go_upto_region 6 with fail
  rw [← hW5]
  clear hW5
  obtain ⟨⟨k0, k1, k2, k3, k4, k5, k6⟩, -⟩ := of7 (HG.out W5 (Below.refl _ _)).1
  obtain ⟨⟨l0, l1, l2, l3, l4, l5, l6, l7⟩, -⟩ := of8 (HG.out W5 (Below.refl _ _)).2
  have u1 : (r.kind != 0) = false := by rw [HZQ.out.1]; rfl
  have u2 : decide (0 < ni) = false := by rw [HX5.out.lens.1, HZQ.out.2.1]; rfl
  have u3 : decide (0 < nt) = false := by rw [HX5.out.lens.2, HZQ.out.2.2]; rfl
  have hp6 := p_putQ_ok (HSH.out.on B5.out) r.kind r.ver r.id r.who HX5.out HWQ.out
  rw [show (⟨r.kind, r.ver, r.id, r.who, r.ints, r.texts, r.blob⟩ : RQ) = r from rfl, HPQ.out] at hp6
  have HP6 := Lib.hid hp6
  clear hp6
  go_wp2_with fail
  refine HP6.out.mono ?_
  rintro e0 w6 ⟨A6, n6, c6, rfl, ho6, b6⟩
  have B6 := Lib.hid b6
  have HO6 := Lib.hid ho6
  have hp7 := p_putS_ok s.kind s.ver s.id s.er s.wait ((HY5.out.step b6 (Nat.le_refl _)).more b6.size)
  rw [show (⟨s.kind, s.ver, s.id, s.er, s.wait, s.ints, s.texts, s.blob⟩ : RS) = s from rfl, HPS.out] at hp7
  have HP7 := Lib.hid hp7
  clear k0 k1 k2 k3 k4 k5 k6 l0 l1 l2 l3 l4 l5 l6 l7 b6 ho6 hp7
  obtain ⟨⟨l0, l1, l2, l3, l4, l5, l6, l7⟩, -⟩ := of8 (HG.out w6 B6.out).2
  go_wp2_with fail
  refine HP7.out.mono ?_
  rintro e0 w7 ⟨A7, n7, c7, rfl, ho7, b7⟩
  have B7 := Lib.hid (bthen B6.out b7)
  have HO7 := Lib.hid ho7
  have y1 := str_eq6 (s := strOf l) ((HR.out.step (bthen B5.out B7.out) (Nat.le_refl _))) rfl
  have y3 := str_eq6 (s := strOf l) (HO7.out.rd) rfl
  clear l0 l1 l2 l3 l4 l5 l6 l7 b7 ho7
  obtain ⟨⟨k0, k1, k2, k3, k4, k5, k6⟩, -⟩ := of7 (HG.out w7 B7.out).1
  go_wp2
  go_ret
  exact ⟨rfl, bthen B5.out B7.out⟩

set_option maxRecDepth 100000 in
set_option maxHeartbeats 4000000 in
theorem proto_only_10 {w : World} (hs : Shp w) {A : Option Addr} {n c : Nat} {l : List UInt8} (h : Rd w w.heap.size A n c l) (hn : n ≤ 5000) {r : RQ} {s : RS} {e f : Int} (hd : decQ l = (r, (0 : Int))) (hd' : decS l = (s, f)) (hq1 : chkQ r = 0) (hq2 : encQ r = l) (hs0 : f ≠ 0) (hsz : s = zeroS) :
    Calls Tryd.prog 7 #[.slice A n c] w (Says w (.bool true)) := by
  have HL := Lib.hid (live_ok w hs)
  have hQ := fun w' (hb : Below w.heap.size w w') => p_getQ_ok (hs.on hb) ((h.step hb (Nat.le_refl _)).more hb.size)
  have hS := fun w' (hb : Below w.heap.size w w') => p_getS_ok ((h.step hb (Nat.le_refl _)).more hb.size)
  rw [hd] at hQ
  rw [hd'] at hS
  have HQ := Lib.hid hQ
  have HS := Lib.hid hS
  have HSH := Lib.hid hs
  have hcap := h.cap
  have htop := h.top
  have HR := Lib.hid h
  have t1 : decide ((5000 : Int) < (n : Int)) = false := by simp only [decide_eq_false_iff_not]; omega
  have HPQ := Lib.hid (put_backQ hq1 hq2)
  have HCQ := Lib.hid hq1
  have HWQ := Lib.hid (who_small hq1)
  have TS1 : (f != 0) = true := by simpa using hs0
  have HPS : Hid (putS s = ([], 60)) := Lib.hid (by rw [hsz]; exact put_zeroS)
  have HZS : Hid (s.kind = 0 ∧ s.ints = [] ∧ s.texts = []) := Lib.hid (by rw [hsz]; exact ⟨rfl, rfl, rfl⟩)
  clear hq1 hq2 hs0 hsz hd hd' hQ hS h hs hn
  go_enter Tryd.func7, Tryd.ntmps7
  go_wp2_with fail
  refine HL.out.mono ?_
  rintro e0 w1 ⟨rfl, b1⟩
  have B1 := Lib.hid b1
  clear b1
  go_wp2_with fail
  refine (HQ.out w1 B1.out).mono ?_
  rintro e0 w2 ⟨Ai, ni, ci, At, nt, ct, Ab, nb, cb, rfl, hx2, b2⟩
  obtain ⟨W3, hW3⟩ : ∃ W, W = w2.alloc (.cells #[.int .i64 r.kind, .int .i64 r.ver, .int .i64 r.id, .string (strOf r.who), .slice Ai ni ci, .slice At nt ct, .slice Ab nb cb] 26) := ⟨_, rfl⟩
  have b3 : Below w2.heap.size w2 W3 := by rw [hW3]; exact bput (Below.refl _ w2) _
  have g3 : W3.heap[w2.heap.size]? = some (.cells #[.int .i64 r.kind, .int .i64 r.ver, .int .i64 r.id, .string (strOf r.who), .slice Ai ni ci, .slice At nt ct, .slice Ab nb cb] 26 (0, 0)) := by rw [hW3]; exact heap_alloc_new w2 _
  have x3 := (hx2.step b3 (Nat.le_refl _)).more b3.size
  have B3 := Lib.hid (bthen (bthen B1.out b2) b3)
  have HX3 := Lib.hid x3
  have HG3 := Lib.hid g3
  clear b2 b3 g3 x3 hx2
  go_upto_region 5 with fail
  rw [← hW3]
  clear hW3
  go_wp2_with fail
  refine (HS.out W3 B3.out).mono ?_
  rintro e0 w4 ⟨Bi, mi, di, Bt, mt, dt, Bb, mb, db, rfl, hy4, b4⟩
  obtain ⟨W5, hW5⟩ : ∃ W, W = w4.alloc (.cells #[.int .i64 s.kind, .int .i64 s.ver, .int .i64 s.id, .int .i64 s.er, .int .i64 s.wait, .slice Bi mi di, .slice Bt mt dt, .slice Bb mb db] 38) := ⟨_, rfl⟩
  have b5 : Below w4.heap.size w4 W5 := by rw [hW5]; exact bput (Below.refl _ w4) _
  have g5 : W5.heap[w4.heap.size]? = some (.cells #[.int .i64 s.kind, .int .i64 s.ver, .int .i64 s.id, .int .i64 s.er, .int .i64 s.wait, .slice Bi mi di, .slice Bt mt dt, .slice Bb mb db] 38 (0, 0)) := by rw [hW5]; exact heap_alloc_new w4 _
  have y5 := (hy4.step b5 (Nat.le_refl _)).more b5.size
  have b35 := bthen b4 b5
  have B5 := Lib.hid (bthen B3.out b35)
  have HY5 := Lib.hid y5
  have HX5 := Lib.hid ((HX3.out.step b35 (Nat.le_refl _)).more b35.size)
  have HG : Hid (∀ w', Below W5.heap.size W5 w' → w'.heap[w2.heap.size]? = some (.cells #[.int .i64 r.kind, .int .i64 r.ver, .int .i64 r.id, .string (strOf r.who), .slice Ai ni ci, .slice At nt ct, .slice Ab nb cb] 26 (0, 0)) ∧ w'.heap[w4.heap.size]? = some (.cells #[.int .i64 s.kind, .int .i64 s.ver, .int .i64 s.id, .int .i64 s.er, .int .i64 s.wait, .slice Bi mi di, .slice Bt mt dt, .slice Bb mb db] 38 (0, 0))) := Lib.hid fun w' hb =>
    ⟨((bthen b35 hb).block _ (Array.getElem?_eq_some_iff.1 HG3.out).1).trans HG3.out, (hb.block _ (Array.getElem?_eq_some_iff.1 g5).1).trans g5⟩
  clear b4 b5 g5 y5 hy4 b35 HG3 HX3
  go_upto_region 6 with fail
  rw [← hW5]
  clear hW5
  obtain ⟨⟨k0, k1, k2, k3, k4, k5, k6⟩, -⟩ := of7 (HG.out W5 (Below.refl _ _)).1
  obtain ⟨⟨l0, l1, l2, l3, l4, l5, l6, l7⟩, -⟩ := of8 (HG.out W5 (Below.refl _ _)).2
  have v1 : (s.kind != 0) = false := by rw [HZS.out.1]; rfl
  have v2 : decide (0 < mi) = false := by rw [HY5.out.lens.1, HZS.out.2.1]; rfl
  have v3 : decide (0 < mt) = false := by rw [HY5.out.lens.2, HZS.out.2.2]; rfl
  have hp6 := p_putQ_ok (HSH.out.on B5.out) r.kind r.ver r.id r.who HX5.out HWQ.out
  rw [show (⟨r.kind, r.ver, r.id, r.who, r.ints, r.texts, r.blob⟩ : RQ) = r from rfl, HPQ.out] at hp6
  have HP6 := Lib.hid hp6
  clear hp6
  go_wp2_with fail
  refine HP6.out.mono ?_
  rintro e0 w6 ⟨A6, n6, c6, rfl, ho6, b6⟩
  have B6 := Lib.hid b6
  have HO6 := Lib.hid ho6
  have hp7 := p_putS_ok s.kind s.ver s.id s.er s.wait ((HY5.out.step b6 (Nat.le_refl _)).more b6.size)
  rw [show (⟨s.kind, s.ver, s.id, s.er, s.wait, s.ints, s.texts, s.blob⟩ : RS) = s from rfl, HPS.out] at hp7
  have HP7 := Lib.hid hp7
  clear k0 k1 k2 k3 k4 k5 k6 l0 l1 l2 l3 l4 l5 l6 l7 b6 ho6 hp7
  obtain ⟨⟨l0, l1, l2, l3, l4, l5, l6, l7⟩, -⟩ := of8 (HG.out w6 B6.out).2
  go_wp2_with fail
  refine HP7.out.mono ?_
  rintro e0 w7 ⟨A7, n7, c7, rfl, ho7, b7⟩
  have B7 := Lib.hid (bthen B6.out b7)
  have HO7 := Lib.hid ho7
  have y1 := str_eq6 (s := strOf l) ((HR.out.step (bthen B5.out B7.out) (Nat.le_refl _))) rfl
  have y2 := str_eq6 (s := strOf l) ((HO6.out.step b7).rd) rfl
  clear l0 l1 l2 l3 l4 l5 l6 l7 b7 ho7
  obtain ⟨⟨k0, k1, k2, k3, k4, k5, k6⟩, -⟩ := of7 (HG.out w7 B7.out).1
  have hp8 := p_chkQ_ok (HSH.out.on (bthen B5.out B7.out)) r.kind r.ver r.id r.who ((HX5.out.step B7.out (Nat.le_refl _)).more B7.out.size) HWQ.out
  rw [show (⟨r.kind, r.ver, r.id, r.who, r.ints, r.texts, r.blob⟩ : RQ) = r from rfl, HCQ.out] at hp8
  have HP8 := Lib.hid hp8
  clear hp8
  go_wp2_with fail
  refine HP8.out.mono ?_
  rintro e0 w8 ⟨rfl, b8⟩
  have B8 := Lib.hid (bthen B7.out b8)
  clear k0 k1 k2 k3 k4 k5 k6 y1 y2
  have y1 := str_eq6 (s := strOf l) ((HR.out.step (bthen B5.out B8.out) (Nat.le_refl _))) rfl
  clear b8
  go_wp2
  go_ret
  exact ⟨rfl, bthen B5.out B8.out⟩

set_option maxRecDepth 100000 in
set_option maxHeartbeats 4000000 in
theorem proto_only_11 {w : World} (hs : Shp w) {A : Option Addr} {n c : Nat} {l : List UInt8} (h : Rd w w.heap.size A n c l) (hn : n ≤ 5000) {r : RQ} {s : RS} {e f : Int} (hd : decQ l = (r, (0 : Int))) (hd' : decS l = (s, (0 : Int))) (hq1 : chkQ r = 0) (hq2 : encQ r = l) (hs1 : chkS s = 0) (hs2 : encS s = l) :
    Calls Tryd.prog 7 #[.slice A n c] w (Says w (.bool true)) := by
  have HL := Lib.hid (live_ok w hs)
  have hQ := fun w' (hb : Below w.heap.size w w') => p_getQ_ok (hs.on hb) ((h.step hb (Nat.le_refl _)).more hb.size)
  have hS := fun w' (hb : Below w.heap.size w w') => p_getS_ok ((h.step hb (Nat.le_refl _)).more hb.size)
  rw [hd] at hQ
  rw [hd'] at hS
  have HQ := Lib.hid hQ
  have HS := Lib.hid hS
  have HSH := Lib.hid hs
  have hcap := h.cap
  have htop := h.top
  have HR := Lib.hid h
  have t1 : decide ((5000 : Int) < (n : Int)) = false := by simp only [decide_eq_false_iff_not]; omega
  have HPQ := Lib.hid (put_backQ hq1 hq2)
  have HCQ := Lib.hid hq1
  have HWQ := Lib.hid (who_small hq1)
  have HPS := Lib.hid (put_backS hs1 hs2)
  clear hq1 hq2 hs1 hs2 hd hd' hQ hS h hs hn
  go_enter Tryd.func7, Tryd.ntmps7
  go_wp2_with fail
  refine HL.out.mono ?_
  rintro e0 w1 ⟨rfl, b1⟩
  have B1 := Lib.hid b1
  clear b1
  go_wp2_with fail
  refine (HQ.out w1 B1.out).mono ?_
  rintro e0 w2 ⟨Ai, ni, ci, At, nt, ct, Ab, nb, cb, rfl, hx2, b2⟩
  obtain ⟨W3, hW3⟩ : ∃ W, W = w2.alloc (.cells #[.int .i64 r.kind, .int .i64 r.ver, .int .i64 r.id, .string (strOf r.who), .slice Ai ni ci, .slice At nt ct, .slice Ab nb cb] 26) := ⟨_, rfl⟩
  have b3 : Below w2.heap.size w2 W3 := by rw [hW3]; exact bput (Below.refl _ w2) _
  have g3 : W3.heap[w2.heap.size]? = some (.cells #[.int .i64 r.kind, .int .i64 r.ver, .int .i64 r.id, .string (strOf r.who), .slice Ai ni ci, .slice At nt ct, .slice Ab nb cb] 26 (0, 0)) := by rw [hW3]; exact heap_alloc_new w2 _
  have x3 := (hx2.step b3 (Nat.le_refl _)).more b3.size
  have B3 := Lib.hid (bthen (bthen B1.out b2) b3)
  have HX3 := Lib.hid x3
  have HG3 := Lib.hid g3
  clear b2 b3 g3 x3 hx2
  go_upto_region 5 with fail
  rw [← hW3]
  clear hW3
  go_wp2_with fail
  refine (HS.out W3 B3.out).mono ?_
  rintro e0 w4 ⟨Bi, mi, di, Bt, mt, dt, Bb, mb, db, rfl, hy4, b4⟩
  obtain ⟨W5, hW5⟩ : ∃ W, W = w4.alloc (.cells #[.int .i64 s.kind, .int .i64 s.ver, .int .i64 s.id, .int .i64 s.er, .int .i64 s.wait, .slice Bi mi di, .slice Bt mt dt, .slice Bb mb db] 38) := ⟨_, rfl⟩
  have b5 : Below w4.heap.size w4 W5 := by rw [hW5]; exact bput (Below.refl _ w4) _
  have g5 : W5.heap[w4.heap.size]? = some (.cells #[.int .i64 s.kind, .int .i64 s.ver, .int .i64 s.id, .int .i64 s.er, .int .i64 s.wait, .slice Bi mi di, .slice Bt mt dt, .slice Bb mb db] 38 (0, 0)) := by rw [hW5]; exact heap_alloc_new w4 _
  have y5 := (hy4.step b5 (Nat.le_refl _)).more b5.size
  have b35 := bthen b4 b5
  have B5 := Lib.hid (bthen B3.out b35)
  have HY5 := Lib.hid y5
  have HX5 := Lib.hid ((HX3.out.step b35 (Nat.le_refl _)).more b35.size)
  have HG : Hid (∀ w', Below W5.heap.size W5 w' → w'.heap[w2.heap.size]? = some (.cells #[.int .i64 r.kind, .int .i64 r.ver, .int .i64 r.id, .string (strOf r.who), .slice Ai ni ci, .slice At nt ct, .slice Ab nb cb] 26 (0, 0)) ∧ w'.heap[w4.heap.size]? = some (.cells #[.int .i64 s.kind, .int .i64 s.ver, .int .i64 s.id, .int .i64 s.er, .int .i64 s.wait, .slice Bi mi di, .slice Bt mt dt, .slice Bb mb db] 38 (0, 0))) := Lib.hid fun w' hb =>
    ⟨((bthen b35 hb).block _ (Array.getElem?_eq_some_iff.1 HG3.out).1).trans HG3.out, (hb.block _ (Array.getElem?_eq_some_iff.1 g5).1).trans g5⟩
  clear b4 b5 g5 y5 hy4 b35 HG3 HX3
  go_upto_region 6 with fail
  rw [← hW5]
  clear hW5
  obtain ⟨⟨k0, k1, k2, k3, k4, k5, k6⟩, -⟩ := of7 (HG.out W5 (Below.refl _ _)).1
  obtain ⟨⟨l0, l1, l2, l3, l4, l5, l6, l7⟩, -⟩ := of8 (HG.out W5 (Below.refl _ _)).2
  have hp6 := p_putQ_ok (HSH.out.on B5.out) r.kind r.ver r.id r.who HX5.out HWQ.out
  rw [show (⟨r.kind, r.ver, r.id, r.who, r.ints, r.texts, r.blob⟩ : RQ) = r from rfl, HPQ.out] at hp6
  have HP6 := Lib.hid hp6
  clear hp6
  go_wp2_with fail
  refine HP6.out.mono ?_
  rintro e0 w6 ⟨A6, n6, c6, rfl, ho6, b6⟩
  have B6 := Lib.hid b6
  have HO6 := Lib.hid ho6
  have hp7 := p_putS_ok s.kind s.ver s.id s.er s.wait ((HY5.out.step b6 (Nat.le_refl _)).more b6.size)
  rw [show (⟨s.kind, s.ver, s.id, s.er, s.wait, s.ints, s.texts, s.blob⟩ : RS) = s from rfl, HPS.out] at hp7
  have HP7 := Lib.hid hp7
  clear k0 k1 k2 k3 k4 k5 k6 l0 l1 l2 l3 l4 l5 l6 l7 b6 ho6 hp7
  obtain ⟨⟨l0, l1, l2, l3, l4, l5, l6, l7⟩, -⟩ := of8 (HG.out w6 B6.out).2
  go_wp2_with fail
  refine HP7.out.mono ?_
  rintro e0 w7 ⟨A7, n7, c7, rfl, ho7, b7⟩
  have B7 := Lib.hid (bthen B6.out b7)
  have HO7 := Lib.hid ho7
  have y1 := str_eq6 (s := strOf l) ((HR.out.step (bthen B5.out B7.out) (Nat.le_refl _))) rfl
  have y2 := str_eq6 (s := strOf l) ((HO6.out.step b7).rd) rfl
  have y3 := str_eq6 (s := strOf l) (HO7.out.rd) rfl
  clear l0 l1 l2 l3 l4 l5 l6 l7 b7 ho7
  obtain ⟨⟨k0, k1, k2, k3, k4, k5, k6⟩, -⟩ := of7 (HG.out w7 B7.out).1
  have hp8 := p_chkQ_ok (HSH.out.on (bthen B5.out B7.out)) r.kind r.ver r.id r.who ((HX5.out.step B7.out (Nat.le_refl _)).more B7.out.size) HWQ.out
  rw [show (⟨r.kind, r.ver, r.id, r.who, r.ints, r.texts, r.blob⟩ : RQ) = r from rfl, HCQ.out] at hp8
  have HP8 := Lib.hid hp8
  clear hp8
  go_wp2_with fail
  refine HP8.out.mono ?_
  rintro e0 w8 ⟨rfl, b8⟩
  have B8 := Lib.hid (bthen B7.out b8)
  clear k0 k1 k2 k3 k4 k5 k6 y1 y2
  have y1 := str_eq6 (s := strOf l) ((HR.out.step (bthen B5.out B8.out) (Nat.le_refl _))) rfl
  clear y3
  have y3 := str_eq6 (s := strOf l) ((HO7.out.step b8).rd) rfl
  clear b8
  go_wp2
  go_ret
  exact ⟨rfl, bthen B5.out B8.out⟩

set_option maxRecDepth 100000 in
theorem protoOnly_walk {w : World} (hs : Shp w) {A : Option Addr} {n c : Nat} {l : List UInt8} (h : Rd w w.heap.size A n c l) :
    Calls Tryd.prog 7 #[.slice A n c] w (Says w (.bool true)) := by
  by_cases hn : n ≤ 5000
  · obtain ⟨r, e, hd⟩ : ∃ r e, decQ l = (r, e) := ⟨_, _, rfl⟩
    obtain ⟨s, f, hd'⟩ : ∃ r e, decS l = (r, e) := ⟨_, _, rfl⟩
    rcases decQ_only hd with ⟨h1, h2⟩ | ⟨rfl, h1, h2⟩
    · rcases decS_only hd' with ⟨h3, h4⟩ | ⟨rfl, h3, h4⟩
      · exact proto_only_00 hs h hn hd hd' h1 h2 h3 h4
      · exact proto_only_01 (f := 0) hs h hn hd hd' h1 h2 h3 h4
    · rcases decS_only hd' with ⟨h3, h4⟩ | ⟨rfl, h3, h4⟩
      · exact proto_only_10 (e := 0) hs h hn hd hd' h1 h2 h3 h4
      · exact proto_only_11 (e := 0) (f := 0) hs h hn hd hd' h1 h2 h3 h4
  · have HL := Lib.hid (live_ok w hs)
    have hcap := h.cap
    have htop := h.top
    have t1 : decide ((5000 : Int) < (n : Int)) = true := by simp only [decide_eq_true_eq]; omega
    clear h hs hn
    go_enter Tryd.func7, Tryd.ntmps7
    go_wp2_with fail
    refine HL.out.mono ?_
    rintro e w1 ⟨rfl, b1⟩
    go_wp2
    go_ret
    exact ⟨rfl, b1⟩
end Go.Proofs.YtlijagbklopipaaDoor
