/-
  Contract of the document's GetResp. Conditions: those that it states.
-/
import Derived.Deep.DeepCutAuto
import Derived.Test.YtlijagbklopipaaDoorProRX
import Derived.Test.YtlijagbklopipaaDoorProRM
import Derived.Test.YtlijagbklopipaaDoorProY
namespace Go.Proofs.YtlijagbklopipaaDoor
open Go.RowKit
set_option linter.unusedVariables false

theorem inS {l : List UInt8} {V z1 z2 z3 n1 n2 : Int} {z5 : List Int} {z7 : List (List UInt8)} {z8 : List UInt8} {s1 s2 s3 s4 s5 s6 s7 s8 : St} (h0 : ¬ l.length < 2)
    (h1 : rnum l (2, 0) = (z1, s1)) (h2 : rnum l s1 = (z2, s2)) (h3 : opt (decide (1 ≤ V)) rnum 0 l s2 = (z3, s3)) (h4 : rcnt 64 l s3 = (n1, s4)) (h5 : rmany rnum n1.toNat l s4 = (z5, s5)) (h6 : rcnt 16 l s5 = (n2, s6)) (h7 : rmany rtxt n2.toNat l s6 = (z7, s7)) (h8 : rblb 4096 l s7 = (z8, s8)) : s8.2 = 0 → s8.1 ≤ (l.length : Int) := by
  have hb : rbodyS V l (2, 0) = ((z1, z2, z3, n1, z5, n2, z7, z8), s8) := by simp only [rbodyS, bnd, h1, h2, h3, h4, h5, h6, h7, h8]
  exact cod_in (cod_bodyS V) h0 hb

set_option maxRecDepth 100000 in
theorem r_getS_short {w : World} {A : Option Addr} {n c : Nat} {l : List UInt8} (h : Rd w w.heap.size A n c l) (h2 : l.length < 2) :
    Calls Tryd.prog 25 #[.slice A n c] w (GotS w (decS l)) := by
  have hr := h.alloc (Nat.le_refl _) (.cells #[.int .i64 0, .int .i64 0, .int .i64 0, .int .i64 0, .int .i64 0, .slice none 0 0, .slice none 0 0, .slice none 0 0] 38)
  have HC := Lib.hid (r_beg_short hr h2)
  have HD := Lib.hid (decS_short0 h2)
  have hb := bput (Below.refl _ w) (.cells #[.int .i64 0, .int .i64 0, .int .i64 0, .int .i64 0, .int .i64 0, .slice none 0 0, .slice none 0 0, .slice none 0 0] 38)
  clear h hr h2
  go_enter Tryd.func25, Tryd.ntmps25
  go_wp2_with fail
  refine HC.out.mono ?_
  rintro e w1 ⟨rfl, rfl⟩
  go_wp2_with fail
  refine bodyPost_ret (v := .tuple #[.agg #[.int .i64 0, .int .i64 0, .int .i64 0, .int .i64 0, .int .i64 0, .slice none 0 0, .slice none 0 0, .slice none 0 0], .int .i64 10]) (by simp [results, Tryd.results25, go_sem]) rfl ?_
  exact GotS.zero HD.out hb

set_option maxRecDepth 100000 in
theorem r_getS_known {w : World} {A : Option Addr} {n c : Nat} {l : List UInt8} (h : Rd w w.heap.size A n c l) (h2 : ¬ l.length < 2) (hk : knownE (kindOf l) (verOf l) ≠ 0) :
    Calls Tryd.prog 25 #[.slice A n c] w (GotS w (decS l)) := by
  have hr := h.alloc (Nat.le_refl _) (.cells #[.int .i64 0, .int .i64 0, .int .i64 0, .int .i64 0, .int .i64 0, .slice none 0 0, .slice none 0 0, .slice none 0 0] 38)
  have HC := Lib.hid (r_beg_ok hr h2)
  have HD := Lib.hid (decS_known h2 hk)
  have hb := bput (Below.refl _ w) (.cells #[.int .i64 0, .int .i64 0, .int .i64 0, .int .i64 0, .int .i64 0, .slice none 0 0, .slice none 0 0, .slice none 0 0] 38)
  have t1 : (knownE (kindOf l) (verOf l) != 0) = true := by simpa using hk
  have hw0 := heap_alloc_new w (.cells #[.int .i64 0, .int .i64 0, .int .i64 0, .int .i64 0, .int .i64 0, .slice none 0 0, .slice none 0 0, .slice none 0 0] 38)
  have HB := Lib.hid hb
  have HW0 := Lib.hid hw0
  clear h hr h2 hb hk hw0
  go_enter Tryd.func25, Tryd.ntmps25
  go_wp2_with fail
  refine HC.out.mono ?_
  rintro e w1 ⟨Bx, rfl, hx, hbx, hb1⟩
  have hres : w1.heap[w.heap.size]? = some (.cells #[.int .i64 0, .int .i64 0, .int .i64 0, .int .i64 0, .int .i64 0, .slice none 0 0, .slice none 0 0, .slice none 0 0] 38 (0, 0)) := (hb1.block w.heap.size (by simp)).trans HW0.out
  obtain ⟨⟨d0, d1, d2, d3, d4, d5, d6, d7⟩, hf⟩ := of8 hres
  have f0 := hf 0
  have f1 := hf 1
  have f2 := hf 2
  have f3 := hf 3
  have f4 := hf 4
  have f5 := hf 5
  have f6 := hf 6
  have f7 := hf 7
  have HBB := Lib.hid (bthen HB.out hb1)
  have HRS := Lib.hid hres
  clear hb1 hres hbx hx hf
  generalize knownE (kindOf l) (verOf l) = E at *
  go_wp2_with fail
  change bodyPost _ _ _ _ _ (set8 w1 w.heap.size (.int .i64 0) (.int .i64 0) (.int .i64 0) (.int .i64 0) (.int .i64 0) (.slice none 0 0) (.slice none 0 0) (.slice none 0 0))
  have hs := set8_heap (a0 := .int .i64 0) (a1 := .int .i64 0) (a2 := .int .i64 0) (a3 := .int .i64 0) (a4 := .int .i64 0) (a5 := .slice none 0 0) (a6 := .slice none 0 0) (a7 := .slice none 0 0) HRS.out
  have hg := set8_grown w1 w.heap.size (.int .i64 0) (.int .i64 0) (.int .i64 0) (.int .i64 0) (.int .i64 0) (.slice none 0 0) (.slice none 0 0) (.slice none 0 0)
  clear d0 d1 d2 d3 d4 d5 d6 d7
  generalize set8 w1 w.heap.size (.int .i64 0) (.int .i64 0) (.int .i64 0) (.int .i64 0) (.int .i64 0) (.slice none 0 0) (.slice none 0 0) (.slice none 0 0) = WF at *
  obtain ⟨⟨d0, d1, d2, d3, d4, d5, d6, d7⟩, -⟩ := of8 hs
  refine bodyPost_ret (v := .tuple #[.agg #[.int .i64 0, .int .i64 0, .int .i64 0, .int .i64 0, .int .i64 0, .slice none 0 0, .slice none 0 0, .slice none 0 0], .int .i64 E]) (by simp [results, Tryd.results25, go_sem, d0, d1, d2, d3, d4, d5, d6, d7]) rfl ?_
  exact GotS.zero HD.out (HBB.out.trans (below_grown hg HBB.out.size (fun k hk => by cases hk; exact Nat.le_refl _)))

set_option maxRecDepth 100000 in
set_option maxHeartbeats 8000000 in
theorem r_getS_main {w : World} {A : Option Addr} {n c : Nat} {l : List UInt8} (h : Rd w w.heap.size A n c l) (h0 : ¬ l.length < 2) (hk : knownE (kindOf l) (verOf l) = 0) :
    Calls Tryd.prog 25 #[.slice A n c] w (GotS w (decS l)) := by
  have hlen := h.len
  have hcap := h.cap
  have htop := h.top
  have hr := h.alloc (Nat.le_refl _) (.cells #[.int .i64 0, .int .i64 0, .int .i64 0, .int .i64 0, .int .i64 0, .slice none 0 0, .slice none 0 0, .slice none 0 0] 38)
  have hC := r_beg_ok hr h0
  obtain ⟨i1, i2, i3, i4⟩ := known_ok hk
  obtain ⟨b, off, rfl, hbB, hcc⟩ := h.cells (by omega)
  have y0 := hcc 0 (by omega)
  have y1 := hcc 1 (by omega)
  rw [Nat.add_zero] at y0
  obtain ⟨K, hK⟩ := Int.eq_ofNat_of_zero_le (show 0 ≤ kindOf l by omega)
  obtain ⟨V, hV⟩ : ∃ V, verOf l = V := ⟨_, rfl⟩
  rw [show ((l.getD 0 0).toNat : Int) = (K : Int) from hK] at y0
  rw [show ((l.getD 1 0).toNat : Int) = V from hV] at y1
  rw [hK, hV] at hC hk
  rw [hK] at i1 i2
  rw [hV] at i3 i4
  have hHS : ∀ w', Below w.heap.size w w' → w'.cell? ⟨b, off, none⟩ = some (.int .u8 (K : Int)) ∧ w'.cell? ⟨b, off + 1, none⟩ = some (.int .u8 V) := fun w' hb2 =>
    ⟨(hb2.cell (p := ⟨b, off, none⟩) hbB).trans y0, (hb2.cell (p := ⟨b, off + 1, none⟩) hbB).trans y1⟩
  have HY := Lib.hid hHS
  obtain ⟨z1, s1, h1⟩ : ∃ z s, rnum l (2, 0) = (z, s) := ⟨_, _, rfl⟩
  obtain ⟨z2, s2, h2⟩ : ∃ z s, rnum l s1 = (z, s) := ⟨_, _, rfl⟩
  obtain ⟨z3, s3, h3⟩ : ∃ z s, opt (decide (1 ≤ V)) rnum 0 l s2 = (z, s) := ⟨_, _, rfl⟩
  obtain ⟨n1, s4, h4⟩ : ∃ z s, rcnt 64 l s3 = (z, s) := ⟨_, _, rfl⟩
  obtain ⟨z5, s5, h5⟩ : ∃ z s, rmany rnum n1.toNat l s4 = (z, s) := ⟨_, _, rfl⟩
  obtain ⟨n2, s6, h6⟩ : ∃ z s, rcnt 16 l s5 = (z, s) := ⟨_, _, rfl⟩
  obtain ⟨z7, s7, h7⟩ : ∃ z s, rmany rtxt n2.toNat l s6 = (z, s) := ⟨_, _, rfl⟩
  obtain ⟨z8, s8, h8⟩ : ∃ z s, rblb 4096 l s7 = (z, s) := ⟨_, _, rfl⟩
  have hd := decS_steps h0 hK hV hk h1 h2 h3 h4 h5 h6 h7 h8
  rw [endE_R (inS h0 h1 h2 h3 h4 h5 h6 h7 h8)] at hd
  have HD := Lib.hid hd
  generalize decS l = D at *
  have hb0 := bput (Below.refl _ w) (.cells #[.int .i64 0, .int .i64 0, .int .i64 0, .int .i64 0, .int .i64 0, .slice none 0 0, .slice none 0 0, .slice none 0 0] 38)
  have hw0 := heap_alloc_new w (.cells #[.int .i64 0, .int .i64 0, .int .i64 0, .int .i64 0, .int .i64 0, .slice none 0 0, .slice none 0 0, .slice none 0 0] 38)
  have HC := Lib.hid hC
  have H1 := Lib.hid h1
  have H2 := Lib.hid h2
  have H3 := Lib.hid h3
  have H4 := Lib.hid h4
  have H5 := Lib.hid h5
  have H6 := Lib.hid h6
  have H7 := Lib.hid h7
  have H8 := Lib.hid h8
  have HKN := Lib.hid hk
  have HB0 := Lib.hid hb0
  have HW0 := Lib.hid hw0
  have HR := Lib.hid h
  have hz0 : (w.alloc (.cells #[.int .i64 0, .int .i64 0, .int .i64 0, .int .i64 0, .int .i64 0, .slice none 0 0, .slice none 0 0, .slice none 0 0] 38)).heap.size = w.heap.size + 1 := by simp
  have HZ0 := Lib.hid hz0
  have x1 : IntKind.i64.wrap (K : Int) = (K : Int) := IntWalk.i64_in _ (by omega)
  have x2 : IntKind.i64.wrap V = V := IntWalk.i64_in _ (by omega)
  have n3 : (0 : Int) < (n : Int) := by omega
  have n4 : (1 : Int) < (n : Int) := by omega
  have n5 : 0 < n := by omega
  have n6 : 1 < n := by omega
  clear hC h1 h2 h3 h4 h5 h6 h7 h8 hk hb0 hw0 h hr hK hV h0 hz0 hlen hd hHS y0 y1 hcc hbB i1 i2 i3 i4
  go_enter Tryd.func25, Tryd.ntmps25
  go_wp2_with fail
  refine HC.out.mono ?_
  rintro e w1 ⟨Bx, rfl, hx, hbx, hb1⟩
  rw [HKN.out]
  rw [HZ0.out] at hx
  have hxl : Bx < w1.heap.size := (Array.getElem?_eq_some_iff.1 hbx).1
  have hb01 := bthen HB0.out hb1
  have hres : w1.heap[w.heap.size]? = some (.cells #[.int .i64 0, .int .i64 0, .int .i64 0, .int .i64 0, .int .i64 0, .slice none 0 0, .slice none 0 0, .slice none 0 0] 38 (0, 0)) := (hb1.block w.heap.size (by rw [HZ0.out]; exact Nat.lt_succ_self _)).trans HW0.out
  have HBX := Lib.hid hbx
  have HB01 := Lib.hid hb01
  have HRES := Lib.hid hres
  have HXL := Lib.hid hxl
  have HX := Lib.hid hx
  have HY1 : Hid (∀ w', Below w1.heap.size w1 w' → w'.cell? ⟨b, off, none⟩ = some (.int .u8 (K : Int)) ∧ w'.cell? ⟨b, off + 1, none⟩ = some (.int .u8 V)) := Lib.hid fun w' hb2 => HY.out w' (bthen HB01.out hb2)
  have z0 := (Below.refl w1.heap.size w1).drew
  clear hbx hb01 hres hb1 hx hxl
  go_wp2_with fail
  go_region_held3 (fun w' => w'.cell? ⟨b, off, none⟩ = some (.int .u8 (K : Int)) ∧ w'.cell? ⟨b, off + 1, none⟩ = some (.int .u8 V)) (first | exact HY1.out _ z0 | exact HY1.out _ (bput z0 _) | fail) (fail)
  go_wp2_with fail
  obtain ⟨Bq, hBq⟩ : ∃ Bq, Bq = w1.heap.size := ⟨_, rfl⟩
  obtain ⟨W3, hW3⟩ : ∃ W, W = (w1.alloc (.cells #[.int .i64 (K : Int), .int .i64 V, .int .i64 0, .int .i64 0, .int .i64 0, .slice none 0 0, .slice none 0 0, .slice none 0 0] 38)).drew := ⟨_, rfl⟩
  have hwx : w.heap.size < Bx := Nat.lt_of_succ_le HX.out
  have hxq : Bx < Bq := by rw [hBq]; exact HXL.out
  have HG0 : Hid (Gm 88 38 w W3 Bx Bq (some ⟨b, off, none⟩) n c [(w.heap.size, .cells #[.int .i64 0, .int .i64 0, .int .i64 0, .int .i64 0, .int .i64 0, .slice none 0 0, .slice none 0 0, .slice none 0 0] 38 (0, 0))] (2, 0) #[.int .i64 (K : Int), .int .i64 V, .int .i64 0, .int .i64 0, .int .i64 0, .slice none 0 0, .slice none 0 0, .slice none 0 0]) := Lib.hid (by
    have hp : Below w1.heap.size w1 W3 := by rw [hW3]; exact (bput (Below.refl _ w1) _).drew
    refine ⟨(hp.block Bx HXL.out).trans HBX.out, ?_, fun p hpF => ?_, ⟨Nat.le_of_lt hwx, hxq⟩, bthen HB01.out hp⟩
    · rw [hBq, hW3]; exact heap_new_drew w1 _
    · simp only [List.mem_cons, List.not_mem_nil, or_false] at hpF
      subst hpF
      exact ⟨(hp.block w.heap.size (by rw [← hBq]; omega)).trans HRES.out, by simp only; omega, by simp only; omega⟩)
  rw [← hW3]
  have hn1 := r_num_ok HG0.out.rd (HG0.out.bytes HR.out)
  rw [H1.out] at hn1
  have HN1 := Lib.hid hn1
  have HO := Lib.hid (And.intro hwx hxq)
  clear hn1 hW3 HXL HX HBX HB01 HRES HB0 HW0 HZ0 HC z0 HY HY1 hwx hxq
  refine HN1.out.mono ?_
  rintro e w2 ⟨rfl, hrd⟩
  have hg2 := HG0.out.read hrd
  obtain ⟨cc, ff⟩ := hg2.cell 2 _ rfl
  have HG1 : Hid (Gm 88 38 w (w2.setCell ⟨Bq, 2, none⟩ (.int .i64 z1)) Bx Bq (some ⟨b, off, none⟩) n c [(w.heap.size, .cells #[.int .i64 0, .int .i64 0, .int .i64 0, .int .i64 0, .int .i64 0, .slice none 0 0, .slice none 0 0, .slice none 0 0] 38 (0, 0))] s1 #[.int .i64 (K : Int), .int .i64 V, .int .i64 z1, .int .i64 0, .int .i64 0, .slice none 0 0, .slice none 0 0, .slice none 0 0]) := Lib.hid (hg2.set 2 (.int .i64 z1))
  have hn2 := r_num_ok HG1.out.rd (HG1.out.bytes HR.out)
  rw [H2.out] at hn2
  rw [hBq] at hn2
  have HN2 := Lib.hid hn2
  clear hg2 hrd HG0 HN1 hn2
  rw [hBq] at cc ff
  have HBQ := Lib.hid hBq
  clear hBq
  go_wp2_with fail
  refine HN2.out.mono ?_
  rintro e w3 ⟨rfl, hrd⟩
  rw [← HBQ.out] at hrd
  have hg3 := HG1.out.read hrd
  clear cc ff
  obtain ⟨cc, ff⟩ := hg3.cell 3 _ rfl
  obtain ⟨cv, -⟩ := hg3.cell 1 _ rfl
  have HG3 : Hid (Gm 88 38 w (w3.setCell ⟨Bq, 3, none⟩ (.int .i64 z2)) Bx Bq (some ⟨b, off, none⟩) n c [(w.heap.size, .cells #[.int .i64 0, .int .i64 0, .int .i64 0, .int .i64 0, .int .i64 0, .slice none 0 0, .slice none 0 0, .slice none 0 0] 38 (0, 0))] s2 #[.int .i64 (K : Int), .int .i64 V, .int .i64 z1, .int .i64 z2, .int .i64 0, .slice none 0 0, .slice none 0 0, .slice none 0 0]) := Lib.hid (hg3.set 3 _)
  rw [HBQ.out] at cc ff cv
  clear hg3 hrd HN2 HG1
  go_upto_if 34 with fail
  clear cc ff cv
  rw [← HBQ.out]
  clear HBQ
  obtain ⟨w4, hw4⟩ : ∃ W, W = w3.setCell ⟨Bq, 3, none⟩ (.int .i64 z2) := ⟨_, rfl⟩
  have HG1 : Hid (Gm 88 38 w w4 Bx Bq (some ⟨b, off, none⟩) n c [(w.heap.size, .cells #[.int .i64 0, .int .i64 0, .int .i64 0, .int .i64 0, .int .i64 0, .slice none 0 0, .slice none 0 0, .slice none 0 0] 38 (0, 0))] s2 #[.int .i64 (K : Int), .int .i64 V, .int .i64 z1, .int .i64 z2, .int .i64 0, .slice none 0 0, .slice none 0 0, .slice none 0 0]) := Lib.hid (by rw [hw4]; exact HG3.out)
  rw [← hw4]
  clear hw4 HG3
  go_cut [4] (fun s4 wx => s4 = .pointer (some ⟨Bx, 0, none⟩) ∧ Hid (Gm 88 38 w wx Bx Bq (some ⟨b, off, none⟩) n c [(w.heap.size, .cells #[.int .i64 0, .int .i64 0, .int .i64 0, .int .i64 0, .int .i64 0, .slice none 0 0, .slice none 0 0, .slice none 0 0] 38 (0, 0))] s3 #[.int .i64 (K : Int), .int .i64 V, .int .i64 z1, .int .i64 z2, .int .i64 z3, .slice none 0 0, .slice none 0 0, .slice none 0 0]))
  case first =>
    by_cases hv : 1 ≤ V
    · have t1 : decide (1 ≤ V) = true := by simpa using hv
      have hh3 := H3.out
      rw [t1] at hh3
      have hn3 := r_num_ok HG1.out.rd (HG1.out.bytes HR.out)
      rw [show rnum l s2 = (z3, s3) from hh3] at hn3
      have HN3 := Lib.hid hn3
      clear hh3 hn3 hv
      rw [t1]
      go_wp2_with fail
      refine HN3.out.mono ?_
      rintro e w5 ⟨rfl, hrd⟩
      have hg4 := HG1.out.read hrd
      obtain ⟨cc, ff⟩ := hg4.cell 4 _ rfl
      have HG4 := Lib.hid (hg4.set 4 (.int .i64 z3))
      clear hg4 hrd
      go_wp2_with fail
      go_meet
      exact ⟨rfl, Lib.hid HG4.out⟩
    · have t1 : decide (1 ≤ V) = false := by simpa using hv
      have hh3 := H3.out
      rw [t1] at hh3
      obtain ⟨rfl, rfl⟩ : z3 = 0 ∧ s3 = s2 := by
        simp only [opt, ret, Bool.false_eq_true, if_false, Prod.mk.injEq] at hh3
        exact ⟨hh3.1.symm, hh3.2.symm⟩
      clear hh3 hv
      rw [t1]
      go_wp2_with fail
      go_meet
      exact ⟨rfl, Lib.hid HG1.out⟩
  case rest =>
  obtain ⟨rfl, HG⟩ := hcut
  clear HG1
  have hn4 := r_cnt_ok HG.out.rd (HG.out.bytes HR.out) 64
  rw [H4.out] at hn4
  have HN4 := Lib.hid hn4
  clear hn4
  go_wp2_with fail
  refine HN4.out.mono ?_
  rintro e w5 ⟨v1, rfl, hrd, hv1, hv2⟩
  have HG5 := Lib.hid (HG.out.read hrd)
  have hk1 : v1 ≤ 1000 ∨ s4.2 ≠ 0 := by
    by_cases hs : s4.2 = 0
    · obtain ⟨a4, e4⟩ := s4
      simp only at hs hv1
      subst hs
      have := rcnt_in H4.out
      have := hv1 rfl
      left
      omega
    · exact .inr hs
  have hn5 := r_nums_ok HG5.out.rd (HG5.out.bytes HR.out) v1 hk1 hv2
  rw [many_same (n := n1) hv1, H5.out] at hn5
  have HN5 := Lib.hid hn5
  have HLQ := Lib.hid HG5.out.ltq
  clear hrd hv1 hv2 hk1 hn5 HN4 HG
  go_wp2_with fail
  refine HN5.out.mono ?_
  rintro e w6 ⟨AI, nI, cI, rfl, ho, hrd⟩
  have hg6 := HG5.out.read hrd
  obtain ⟨cc, ff⟩ := hg6.cell 5 _ rfl
  have HG7 : Hid (Gm 88 38 w (w6.setCell ⟨Bq, 5, none⟩ (.slice AI nI cI)) Bx Bq (some ⟨b, off, none⟩) n c [(w.heap.size, .cells #[.int .i64 0, .int .i64 0, .int .i64 0, .int .i64 0, .int .i64 0, .slice none 0 0, .slice none 0 0, .slice none 0 0] 38 (0, 0))] s5 #[.int .i64 (K : Int), .int .i64 V, .int .i64 z1, .int .i64 z2, .int .i64 z3, .slice AI nI cI, .slice none 0 0, .slice none 0 0]) := Lib.hid (hg6.set 5 _)
  have HOI := Lib.hid (ho.set (i := 5) (v := .slice AI nI cI) HLQ.out)
  generalize w5.heap.size = B1 at *
  have hn6 := r_cnt_ok HG7.out.rd (HG7.out.bytes HR.out) 16
  rw [H6.out] at hn6
  have HN6 := Lib.hid hn6
  clear hg6 ho hrd hn6 HN5 HG5
  go_wp2_with fail
  refine HN6.out.mono ?_
  rintro e w7 ⟨v2, rfl, hrd, hv1, hv2⟩
  have HG8 := Lib.hid (HG7.out.read hrd)
  have hxb1 : Bx < B1 := by have := HLQ.out; have := HO.out.2; omega
  have HOI8 := Lib.hid (HOI.out.read hrd hxb1)
  have hk1 : v2 ≤ 1000 ∨ s6.2 ≠ 0 := by
    by_cases hs : s6.2 = 0
    · obtain ⟨a4, e4⟩ := s6
      simp only at hs hv1
      subst hs
      have := rcnt_in H6.out
      have := hv1 rfl
      left
      omega
    · exact .inr hs
  have hn7 := r_txts_ok HG8.out.rd (HG8.out.bytes HR.out) v2 hk1 hv2
  rw [many_same (n := n2) hv1, H7.out] at hn7
  have HN7 := Lib.hid hn7
  have HLQ2 := Lib.hid HG8.out.ltq
  clear hrd hv1 hv2 hk1 hn7 HN6 HG7 HOI cc ff
  go_wp2_with fail
  refine HN7.out.mono ?_
  rintro e w8 ⟨AT, nT, cT, rfl, ho, hrd⟩
  have hg9 := HG8.out.read hrd
  obtain ⟨cc, ff⟩ := hg9.cell 6 _ rfl
  have HG9 : Hid (Gm 88 38 w (w8.setCell ⟨Bq, 6, none⟩ (.slice AT nT cT)) Bx Bq (some ⟨b, off, none⟩) n c [(w.heap.size, .cells #[.int .i64 0, .int .i64 0, .int .i64 0, .int .i64 0, .int .i64 0, .slice none 0 0, .slice none 0 0, .slice none 0 0] 38 (0, 0))] s7 #[.int .i64 (K : Int), .int .i64 V, .int .i64 z1, .int .i64 z2, .int .i64 z3, .slice AI nI cI, .slice AT nT cT, .slice none 0 0]) := Lib.hid (hg9.set 6 _)
  have HOI9 := Lib.hid ((HOI8.out.read hrd hxb1).set (i := 6) (v := .slice AT nT cT) HLQ.out)
  have HOT9 := Lib.hid (ho.set (i := 6) (v := .slice AT nT cT) HLQ2.out)
  generalize w7.heap.size = B2 at *
  have hn8 := r_blb_ok HG9.out.rd (HG9.out.bytes HR.out) 4096 (by omega)
  rw [H8.out] at hn8
  have HN8 := Lib.hid hn8
  have HLQ3 := Lib.hid HG9.out.ltq
  clear hg9 ho hrd hn8 HN7 HG8 HOI8
  go_wp2_with fail
  refine HN8.out.mono ?_
  rintro e w9 ⟨AB, nB, cB, rfl, ho, hrd⟩
  have hxb2 : Bx < B2 := by have := HLQ2.out; have := HO.out.2; omega
  have hg10 := HG9.out.read hrd
  have hoI9 := HOI9.out.read hrd hxb1
  have hoT9 := HOT9.out.read hrd hxb2
  clear cc ff
  obtain ⟨cc, ff⟩ := hg10.cell 7 _ rfl
  have hg : Gm 88 38 w (w9.setCell ⟨Bq, 7, none⟩ (.slice AB nB cB)) Bx Bq (some ⟨b, off, none⟩) n c [(w.heap.size, .cells #[.int .i64 0, .int .i64 0, .int .i64 0, .int .i64 0, .int .i64 0, .slice none 0 0, .slice none 0 0, .slice none 0 0] 38 (0, 0))] s8 #[.int .i64 (K : Int), .int .i64 V, .int .i64 z1, .int .i64 z2, .int .i64 z3, .slice AI nI cI, .slice AT nT cT, .slice AB nB cB] := hg10.set 7 _
  have hoI := hoI9.set (i := 7) (v := .slice AB nB cB) HLQ.out
  have hoT := hoT9.set (i := 7) (v := .slice AB nB cB) HLQ2.out
  have hoB := ho.keptLow (grown_set w9 Bq 7 (.slice AB nB cB)) HLQ3.out
  generalize (w8.setCell ⟨Bq, 6, none⟩ (.slice AT nT cT)).heap.size = B3 at *
  have hend := r_end_ok hg.rd (hg.bytes HR.out)
  obtain ⟨E, hE⟩ : ∃ E, E = endR l s8 := ⟨_, rfl⟩
  rw [← hE] at hend HD
  have HEN := Lib.hid hend
  have HG := Lib.hid hg
  have HOI := Lib.hid hoI
  have HOT := Lib.hid hoT
  have HOB := Lib.hid hoB
  have HBR : Hid (w.heap.size < B1 ∧ w.heap.size < B2 ∧ w.heap.size < B3) := Lib.hid (by have := HO.out; have := HLQ.out; have := HLQ2.out; have := HLQ3.out; omega)
  clear hg10 ho hrd hoI9 hoT9 hg hoI hoT hoB hend HN8 HG9 HOI9 HOT9 hxb1 hxb2 hE
  go_wp2_with fail
  refine HEN.out.mono ?_
  rintro e0 w15 ⟨rfl, hb15⟩
  have HB15 := Lib.hid hb15
  clear hb15 cc ff
  by_cases hE : E ≠ 0
  case pos =>
    have t1 : (E != 0) = true := by simpa using hE
    have HDE : Hid (D = (zeroS, E)) := Lib.hid (by rw [HD.out, if_pos hE, if_pos hE])
    have hbQ := HB15.out
    have hres : w15.heap[w.heap.size]? = some (.cells #[.int .i64 0, .int .i64 0, .int .i64 0, .int .i64 0, .int .i64 0, .slice none 0 0, .slice none 0 0, .slice none 0 0] 38 (0, 0)) := (hbQ.block w.heap.size (by have := HG.out.ltx; have := HO.out.1; omega)).trans (HG.out.oth (w.heap.size, _) (.head _)).1
    have hxx := (hbQ.block Bq HG.out.ltq).trans HG.out.x
    obtain ⟨⟨d0, d1, d2, d3, d4, d5, d6, d7⟩, hf⟩ := of8 hres
    have f0 := hf 0
    have f1 := hf 1
    have f2 := hf 2
    have f3 := hf 3
    have f4 := hf 4
    have f5 := hf 5
    have f6 := hf 6
    have f7 := hf 7
    obtain ⟨⟨x0, x1, x2, x3, x4, x5, x6, x7⟩, -⟩ := of8 hxx
    have HBB := Lib.hid (HG.out.below.trans (hbQ.mono HG.out.below.size))
    have HRS := Lib.hid hres
    clear hres hf hxx
    clear hE HD x0 x1 x2 x3 x4 x5 x6 x7 hbQ
    go_wp2_with fail
    change bodyPost _ _ _ _ _ (set8 w15 w.heap.size (.int .i64 0) (.int .i64 0) (.int .i64 0) (.int .i64 0) (.int .i64 0) (.slice none 0 0) (.slice none 0 0) (.slice none 0 0))
    have hs := set8_heap (a0 := .int .i64 0) (a1 := .int .i64 0) (a2 := .int .i64 0) (a3 := .int .i64 0) (a4 := .int .i64 0) (a5 := .slice none 0 0) (a6 := .slice none 0 0) (a7 := .slice none 0 0) HRS.out
    have hg := set8_grown w15 w.heap.size (.int .i64 0) (.int .i64 0) (.int .i64 0) (.int .i64 0) (.int .i64 0) (.slice none 0 0) (.slice none 0 0) (.slice none 0 0)
    clear d0 d1 d2 d3 d4 d5 d6 d7
    generalize set8 w15 w.heap.size (.int .i64 0) (.int .i64 0) (.int .i64 0) (.int .i64 0) (.int .i64 0) (.slice none 0 0) (.slice none 0 0) (.slice none 0 0) = WF at *
    obtain ⟨⟨d0, d1, d2, d3, d4, d5, d6, d7⟩, -⟩ := of8 hs
    refine bodyPost_ret (v := .tuple #[.agg #[.int .i64 0, .int .i64 0, .int .i64 0, .int .i64 0, .int .i64 0, .slice none 0 0, .slice none 0 0, .slice none 0 0], .int .i64 E]) (by simp [results, Tryd.results25, go_sem, d0, d1, d2, d3, d4, d5, d6, d7]) rfl ?_
    exact GotS.zero HDE.out (HBB.out.trans (below_grown hg HBB.out.size (fun k hk => by cases hk; exact Nat.le_refl _)))

  case neg =>
  have t1 : (E != 0) = false := by simpa using hE
  have HDE : Hid (D = if (if chkS ⟨(K : Int), V, z1, z2, z3, z5, z7, z8⟩ ≠ 0 then (1 : Int) else 0) ≠ 0 then (zeroS, if chkS ⟨(K : Int), V, z1, z2, z3, z5, z7, z8⟩ ≠ 0 then (1 : Int) else 0) else (⟨(K : Int), V, z1, z2, z3, z5, z7, z8⟩, 0)) := Lib.hid (by rw [HD.out, if_neg hE])
  have hbQ := HB15.out
  have hxx := (hbQ.block Bq HG.out.ltq).trans HG.out.x
  obtain ⟨⟨x0, x1, x2, x3, x4, x5, x6, x7⟩, -⟩ := of8 hxx
  have hch := r_chkS_ok (K : Int) V z1 z2 z3 (w := w15) ⟨(HOI.out.rx.below hbQ).more hbQ.size, (HOT.out.rx.below hbQ).more hbQ.size, (HOB.out.rd.below hbQ).more hbQ.size⟩
  have HCH := Lib.hid hch
  clear hE HD hbQ hxx hch
  go_wp2_with fail
  refine HCH.out.mono ?_
  rintro e0 w16 ⟨rfl, hb16⟩
  have HB16 := Lib.hid (bthen HB15.out hb16)
  have hbQ := HB16.out
  clear x0 x1 x2 x3 x4 x5 x6 x7 hb16
  have hres : w16.heap[w.heap.size]? = some (.cells #[.int .i64 0, .int .i64 0, .int .i64 0, .int .i64 0, .int .i64 0, .slice none 0 0, .slice none 0 0, .slice none 0 0] 38 (0, 0)) := (hbQ.block w.heap.size (by have := HG.out.ltx; have := HO.out.1; omega)).trans (HG.out.oth (w.heap.size, _) (.head _)).1
  have hxx := (hbQ.block Bq HG.out.ltq).trans HG.out.x
  obtain ⟨⟨d0, d1, d2, d3, d4, d5, d6, d7⟩, hf⟩ := of8 hres
  have f0 := hf 0
  have f1 := hf 1
  have f2 := hf 2
  have f3 := hf 3
  have f4 := hf 4
  have f5 := hf 5
  have f6 := hf 6
  have f7 := hf 7
  obtain ⟨⟨x0, x1, x2, x3, x4, x5, x6, x7⟩, -⟩ := of8 hxx
  have HBB := Lib.hid (HG.out.below.trans (hbQ.mono HG.out.below.size))
  have HRS := Lib.hid hres
  clear hres hf hxx
  have HOI16 := Lib.hid (HOI.out.step hbQ)
  have HOT16 := Lib.hid (HOT.out.step hbQ)
  have HOB16 := Lib.hid (HOB.out.step hbQ)
  clear hbQ
  by_cases hC : chkS ⟨(K : Int), V, z1, z2, z3, z5, z7, z8⟩ ≠ 0
  case pos =>
    have t2 : (chkS ⟨(K : Int), V, z1, z2, z3, z5, z7, z8⟩ != 0) = true := by simpa using hC
    have HDZ : Hid (D = (zeroS, 1)) := Lib.hid (by rw [HDE.out, if_pos hC]; rfl)
    generalize chkS ⟨(K : Int), V, z1, z2, z3, z5, z7, z8⟩ = CC at *
    clear hC HDE x0 x1 x2 x3 x4 x5 x6 x7 HCH
    go_wp2_with fail
    change bodyPost _ _ _ _ _ (set8 w16 w.heap.size (.int .i64 0) (.int .i64 0) (.int .i64 0) (.int .i64 0) (.int .i64 0) (.slice none 0 0) (.slice none 0 0) (.slice none 0 0))
    have hs := set8_heap (a0 := .int .i64 0) (a1 := .int .i64 0) (a2 := .int .i64 0) (a3 := .int .i64 0) (a4 := .int .i64 0) (a5 := .slice none 0 0) (a6 := .slice none 0 0) (a7 := .slice none 0 0) HRS.out
    have hg := set8_grown w16 w.heap.size (.int .i64 0) (.int .i64 0) (.int .i64 0) (.int .i64 0) (.int .i64 0) (.slice none 0 0) (.slice none 0 0) (.slice none 0 0)
    clear d0 d1 d2 d3 d4 d5 d6 d7
    generalize set8 w16 w.heap.size (.int .i64 0) (.int .i64 0) (.int .i64 0) (.int .i64 0) (.int .i64 0) (.slice none 0 0) (.slice none 0 0) (.slice none 0 0) = WF at *
    obtain ⟨⟨d0, d1, d2, d3, d4, d5, d6, d7⟩, -⟩ := of8 hs
    refine bodyPost_ret (v := .tuple #[.agg #[.int .i64 0, .int .i64 0, .int .i64 0, .int .i64 0, .int .i64 0, .slice none 0 0, .slice none 0 0, .slice none 0 0], .int .i64 1]) (by simp [results, Tryd.results25, go_sem, d0, d1, d2, d3, d4, d5, d6, d7]) rfl ?_
    exact GotS.zero HDZ.out (HBB.out.trans (below_grown hg HBB.out.size (fun k hk => by cases hk; exact Nat.le_refl _)))

  case neg =>
  have t2 : (chkS ⟨(K : Int), V, z1, z2, z3, z5, z7, z8⟩ != 0) = false := by simpa using hC
  have HDZ : Hid (D = (⟨(K : Int), V, z1, z2, z3, z5, z7, z8⟩, 0)) := Lib.hid (by rw [HDE.out, if_neg hC]; rfl)
  generalize chkS ⟨(K : Int), V, z1, z2, z3, z5, z7, z8⟩ = CC at *
  clear hC HDE HCH
  go_wp2_with fail
  change bodyPost _ _ _ _ _ (set8 w16 w.heap.size (.int .i64 (K : Int)) (.int .i64 V) (.int .i64 z1) (.int .i64 z2) (.int .i64 z3) (.slice AI nI cI) (.slice AT nT cT) (.slice AB nB cB))
  have hs := set8_heap (a0 := .int .i64 (K : Int)) (a1 := .int .i64 V) (a2 := .int .i64 z1) (a3 := .int .i64 z2) (a4 := .int .i64 z3) (a5 := .slice AI nI cI) (a6 := .slice AT nT cT) (a7 := .slice AB nB cB) HRS.out
  have hg := set8_grown w16 w.heap.size (.int .i64 (K : Int)) (.int .i64 V) (.int .i64 z1) (.int .i64 z2) (.int .i64 z3) (.slice AI nI cI) (.slice AT nT cT) (.slice AB nB cB)
  clear d0 d1 d2 d3 d4 d5 d6 d7 x0 x1 x2 x3 x4 x5 x6 x7
  generalize set8 w16 w.heap.size (.int .i64 (K : Int)) (.int .i64 V) (.int .i64 z1) (.int .i64 z2) (.int .i64 z3) (.slice AI nI cI) (.slice AT nT cT) (.slice AB nB cB) = WF at *
  obtain ⟨⟨d0, d1, d2, d3, d4, d5, d6, d7⟩, -⟩ := of8 hs
  refine bodyPost_ret (v := .tuple #[.agg #[.int .i64 (K : Int), .int .i64 V, .int .i64 z1, .int .i64 z2, .int .i64 z3, .slice AI nI cI, .slice AT nT cT, .slice AB nB cB], .int .i64 0]) (by simp [results, Tryd.results25, go_sem, d0, d1, d2, d3, d4, d5, d6, d7]) rfl ?_
  rw [HDZ.out]
  have hk1 := HOI16.out.kept hg (fun k hk => by cases hk; exact HBR.out.1)
  have hk2 := HOT16.out.kept hg (fun k hk => by cases hk; exact HBR.out.2.1)
  have hk3 := HOB16.out.keptLow hg HBR.out.2.2
  exact ⟨AI, nI, cI, AT, nT, cT, AB, nB, cB, rfl, ⟨hk1.rx, hk2.rx, hk3.rd⟩, HBB.out.trans (below_grown hg HBB.out.size (fun k hk => by cases hk; exact Nat.le_refl _))⟩

theorem r_getS_ok {w : World} {A : Option Addr} {n c : Nat} {l : List UInt8} (h : Rd w w.heap.size A n c l) : Calls Tryd.prog 25 #[.slice A n c] w (GotS w (decS l)) := by
  by_cases h2 : l.length < 2
  · exact r_getS_short h h2
  · by_cases hk : knownE (kindOf l) (verOf l) = 0
    · exact r_getS_main h h2 hk
    · exact r_getS_known h h2 hk
end Go.Proofs.YtlijagbklopipaaDoor
