/-
  Contract of the document's GetReq. Conditions: those that it states.
-/
import Derived.Deep.DeepCutAuto
import Derived.Test.YtlijagbklopipaaDoorProRT
import Derived.Test.YtlijagbklopipaaDoorProRL
import Derived.Test.YtlijagbklopipaaDoorProX
namespace Go.Proofs.YtlijagbklopipaaDoor
open Go.RowKit
set_option linter.unusedVariables false

/-- A reader that has no error stands within the bytes. -/
theorem cod_in {α : Type} {R : Rdr α} {V : α → Prop} {P : α → List UInt8} (hc : Cod R V P) {l : List UInt8} (hl : ¬ l.length < 2) {x : α} {s : St} (h : R l (2, 0) = (x, s)) : s.2 = 0 → s.1 ≤ (l.length : Int) := by
  intro he
  obtain ⟨a, e⟩ := s
  simp only at he
  subst he
  obtain ⟨-, h2, h3⟩ := hc.only (a := 2) (by omega) h
  have := h2.fits
  simp only
  omega
theorem inQ {l : List UInt8} {K V z1 : Int} {z2 : List UInt8} {z3 : List Int} {z4 : Int} {z5 : List (List UInt8)} {z6 : List UInt8} {s1 s2 s3 s4 s5 s6 : St} (h0 : ¬ l.length < 2)
    (h1 : rnum l (2, 0) = (z1, s1)) (h2 : opt (decide (2 ≤ V)) rtxt [] l s1 = (z2, s2)) (h3 : rmany rnum (shI K) l s2 = (z3, s3)) (h4 : rtn K l s3 = (z4, s4)) (h5 : rmany rtxt z4.toNat l s4 = (z5, s5)) (h6 : opt (decide (K = 2)) (rblb 2048) [] l s5 = (z6, s6)) : s6.2 = 0 → s6.1 ≤ (l.length : Int) := by
  have hb : rbodyQ K V l (2, 0) = ((z1, z2, z3, z4, z5, z6), s6) := by simp only [rbodyQ, bnd, h1, h2, h3, h4, h5, h6]
  exact cod_in (cod_bodyQ K V) h0 hb

theorem Gm.onb {Tx Tq : TypeId} {w0 w w' : World} {Bx Bq : Nat} {A : Option Addr} {n c : Nat} {F : List (Nat × Obj)} {s : St} {q : Array Value} (h : Gm Tx Tq w0 w Bx Bq A n c F s q) (hb : Below w.heap.size w w') : Gm Tx Tq w0 w' Bx Bq A n c F s q :=
  ⟨(hb.block Bx h.ltx).trans h.rd, (hb.block Bq h.ltq).trans h.x, fun p hp => ⟨(hb.block p.1 (Array.getElem?_eq_some_iff.1 (h.oth p hp).1).1).trans (h.oth p hp).1, (h.oth p hp).2⟩, h.low, bthen h.below hb⟩
theorem C2.onb {Tx Tq : TypeId} {w0 w w' : World} {Bx Bq : Nat} {A : Option Addr} {n c : Nat} {F : List (Nat × Obj)} {s : St} {q : Array Value} {B1 : Nat} {AI : Option Addr} {nI cI : Nat} {zs : List Int} (h : C2 Tx Tq w0 w Bx Bq A n c F s q B1 AI nI cI zs) (hb : Below w.heap.size w w') : C2 Tx Tq w0 w' Bx Bq A n c F s q B1 AI nI cI zs :=
  ⟨h.1.onb hb, h.2.1.step hb, h.2.2⟩
theorem rnum_hi {l : List UInt8} {s : St} {v a e : Int} (h : rnum l s = (v, (a, e))) : v ≤ 9223372036854775807 := by
  unfold rnum at h
  split at h
  · simp only [Prod.mk.injEq] at h; omega
  · by_cases he : e = 0
    · subst he; exact (getV_range h).2
    · have := (getV_err (l := l) (at_ := s.1) (by rw [h]; exact he)).1
      rw [h] at this
      simp only at this
      omega
theorem rtn_hi {k : Nat} (hk : k < 13) {l : List UInt8} {s : St} {z : Int} {s' : St} (h : rtn (k : Int) l s = (z, s')) : z ≤ 9223372036854775807 := by
  obtain ⟨v, a, e, hq⟩ : ∃ v a e, rnum l s = (v, (a, e)) := ⟨_, _, _, rfl⟩
  have hv := rnum_hi hq
  unfold rtn at h
  split at h
  · rw [hq] at h
    simp only at h
    split at h <;> (simp only [Prod.mk.injEq] at h; omega)
  · simp only [Prod.mk.injEq] at h
    have := (sh_small ⟨k, hk⟩).2
    simp only at this
    omega

set_option maxRecDepth 100000 in
theorem r_getQ_short {w : World} {A : Option Addr} {n c : Nat} {l : List UInt8} (h : Rd w w.heap.size A n c l) (h2 : l.length < 2) :
    Calls Tryd.prog 17 #[.slice A n c] w (GotQ w (decQ l)) := by
  have hr := h.alloc (Nat.le_refl _) (.cells #[.int .i64 0, .int .i64 0, .int .i64 0, .string { data := #[] }, .slice none 0 0, .slice none 0 0, .slice none 0 0] 26)
  have HC := Lib.hid (r_beg_short hr h2)
  have HD := Lib.hid (decQ_short0 h2)
  have hb := bput (Below.refl _ w) (.cells #[.int .i64 0, .int .i64 0, .int .i64 0, .string { data := #[] }, .slice none 0 0, .slice none 0 0, .slice none 0 0] 26)
  clear h hr h2
  go_enter Tryd.func17, Tryd.ntmps17
  go_wp2_with fail
  refine HC.out.mono ?_
  rintro e w1 ⟨rfl, rfl⟩
  go_wp2_with fail
  refine bodyPost_ret (v := .tuple #[.agg #[.int .i64 0, .int .i64 0, .int .i64 0, .string { data := #[] }, .slice none 0 0, .slice none 0 0, .slice none 0 0], .int .i64 10]) (by simp [results, Tryd.results17, go_sem]) rfl ?_
  exact GotQ.zero HD.out hb

set_option maxRecDepth 100000 in
theorem r_getQ_known {w : World} {A : Option Addr} {n c : Nat} {l : List UInt8} (h : Rd w w.heap.size A n c l) (h2 : ¬ l.length < 2) (hk : knownE (kindOf l) (verOf l) ≠ 0) :
    Calls Tryd.prog 17 #[.slice A n c] w (GotQ w (decQ l)) := by
  have hr := h.alloc (Nat.le_refl _) (.cells #[.int .i64 0, .int .i64 0, .int .i64 0, .string { data := #[] }, .slice none 0 0, .slice none 0 0, .slice none 0 0] 26)
  have HC := Lib.hid (r_beg_ok hr h2)
  have HD := Lib.hid (decQ_known h2 hk)
  have hb := bput (Below.refl _ w) (.cells #[.int .i64 0, .int .i64 0, .int .i64 0, .string { data := #[] }, .slice none 0 0, .slice none 0 0, .slice none 0 0] 26)
  have t1 : (knownE (kindOf l) (verOf l) != 0) = true := by simpa using hk
  have hw0 := heap_alloc_new w (.cells #[.int .i64 0, .int .i64 0, .int .i64 0, .string { data := #[] }, .slice none 0 0, .slice none 0 0, .slice none 0 0] 26)
  have HB := Lib.hid hb
  have HW0 := Lib.hid hw0
  clear h hr h2 hb hk hw0
  go_enter Tryd.func17, Tryd.ntmps17
  go_wp2_with fail
  refine HC.out.mono ?_
  rintro e w1 ⟨Bx, rfl, hx, hbx, hb1⟩
  have hres : w1.heap[w.heap.size]? = some (.cells #[.int .i64 0, .int .i64 0, .int .i64 0, .string { data := #[] }, .slice none 0 0, .slice none 0 0, .slice none 0 0] 26 (0, 0)) := (hb1.block w.heap.size (by simp)).trans HW0.out
  obtain ⟨⟨c0, c1, c2, c3, c4, c5, c6⟩, hf⟩ := of7 hres
  have f0 := hf 0
  have f1 := hf 1
  have f2 := hf 2
  have f3 := hf 3
  have f4 := hf 4
  have f5 := hf 5
  have f6 := hf 6
  have HBB := Lib.hid (bthen HB.out hb1)
  have HRS := Lib.hid hres
  clear hb1 hres hbx hx hf
  generalize knownE (kindOf l) (verOf l) = E at *
  go_wp2_with fail
  change bodyPost _ _ _ _ _ (set7 w1 w.heap.size (.int .i64 0) (.int .i64 0) (.int .i64 0) (.string { data := #[] }) (.slice none 0 0) (.slice none 0 0) (.slice none 0 0))
  have hs := set7_heap (a0 := .int .i64 0) (a1 := .int .i64 0) (a2 := .int .i64 0) (a3 := .string { data := #[] }) (a4 := .slice none 0 0) (a5 := .slice none 0 0) (a6 := .slice none 0 0) HRS.out
  have hg := set7_grown w1 w.heap.size (.int .i64 0) (.int .i64 0) (.int .i64 0) (.string { data := #[] }) (.slice none 0 0) (.slice none 0 0) (.slice none 0 0)
  generalize set7 w1 w.heap.size (.int .i64 0) (.int .i64 0) (.int .i64 0) (.string { data := #[] }) (.slice none 0 0) (.slice none 0 0) (.slice none 0 0) = WF at *
  obtain ⟨⟨d0, d1, d2, d3, d4, d5, d6⟩, -⟩ := of7 hs
  refine bodyPost_ret (v := .tuple #[.agg #[.int .i64 0, .int .i64 0, .int .i64 0, .string { data := #[] }, .slice none 0 0, .slice none 0 0, .slice none 0 0], .int .i64 E]) (by simp [results, Tryd.results17, go_sem, d0, d1, d2, d3, d4, d5, d6]) rfl ?_
  exact GotQ.zero HD.out (HBB.out.trans (below_grown hg HBB.out.size (fun k hk => by cases hk; exact Nat.le_refl _)))

set_option maxRecDepth 100000 in
set_option maxHeartbeats 8000000 in
theorem r_getQ_main {w : World} {A : Option Addr} {n c : Nat} {l : List UInt8} (h : Rd w w.heap.size A n c l) (h0 : ¬ l.length < 2) (hk : knownE (kindOf l) (verOf l) = 0) :
    Calls Tryd.prog 17 #[.slice A n c] w (GotQ w (decQ l)) := by
  have hlen := h.len
  have hcap := h.cap
  have htop := h.top
  have hr := h.alloc (Nat.le_refl _) (.cells #[.int .i64 0, .int .i64 0, .int .i64 0, .string { data := #[] }, .slice none 0 0, .slice none 0 0, .slice none 0 0] 26)
  have hC := r_beg_ok hr h0
  obtain ⟨i1, i2, i3, i4⟩ := known_ok hk
  obtain ⟨b, off, rfl, hbB, hcc⟩ := h.cells (by omega)
  have y0 := hcc 0 (by omega)
  have y1 := hcc 1 (by omega)
  rw [Nat.add_zero] at y0
  obtain ⟨K, hK⟩ := Int.eq_ofNat_of_zero_le (show 0 ≤ kindOf l by omega)
  obtain ⟨V, hV⟩ : ∃ V, verOf l = V := ⟨_, rfl⟩
  rw [show ((l.getD 0 0).toNat : Int) = (K : Int) from hK] at y0
  rw [show ((l.getD 1 0).toNat : Int) = V from hV] at y1
  rw [hK, hV] at hC hk
  rw [hK] at i1 i2
  rw [hV] at i3 i4
  have hHS : ∀ w', Below w.heap.size w w' → w'.cell? ⟨b, off, none⟩ = some (.int .u8 (K : Int)) ∧ w'.cell? ⟨b, off + 1, none⟩ = some (.int .u8 V) := fun w' hb2 =>
    ⟨(hb2.cell (p := ⟨b, off, none⟩) hbB).trans y0, (hb2.cell (p := ⟨b, off + 1, none⟩) hbB).trans y1⟩
  have HY := Lib.hid hHS
  obtain ⟨z1, s1, h1⟩ : ∃ z s, rnum l (2, 0) = (z, s) := ⟨_, _, rfl⟩
  obtain ⟨z2, s2, h2⟩ : ∃ z s, opt (decide (2 ≤ V)) rtxt [] l s1 = (z, s) := ⟨_, _, rfl⟩
  obtain ⟨z3, s3, h3⟩ : ∃ z s, rmany rnum (shI (K : Int)) l s2 = (z, s) := ⟨_, _, rfl⟩
  obtain ⟨z4, s4, h4⟩ : ∃ z s, rtn (K : Int) l s3 = (z, s) := ⟨_, _, rfl⟩
  obtain ⟨z5, s5, h5⟩ : ∃ z s, rmany rtxt z4.toNat l s4 = (z, s) := ⟨_, _, rfl⟩
  obtain ⟨z6, s6, h6⟩ : ∃ z s, opt (decide ((K : Int) = 2)) (rblb 2048) [] l s5 = (z, s) := ⟨_, _, rfl⟩
  have hd := decQ_steps h0 hK hV hk h1 h2 h3 h4 h5 h6
  rw [endE_R (inQ h0 h1 h2 h3 h4 h5 h6)] at hd
  have HD := Lib.hid hd
  have hwl : z2.length ≤ l.length := by
    unfold opt at h2
    split at h2
    · have := rtxt_len l s1
      rw [h2] at this
      exact this
    · simp only [ret, Prod.mk.injEq] at h2
      rw [← h2.1]
      exact Nat.zero_le _
  have HWL : Hid (z2.length ≤ 9223372036854775807) := Lib.hid (by omega)
  generalize decQ l = D at *
  have hsm := sh_small ⟨K, by omega⟩
  simp only at hsm
  have hb0 := bput (Below.refl _ w) (.cells #[.int .i64 0, .int .i64 0, .int .i64 0, .string { data := #[] }, .slice none 0 0, .slice none 0 0, .slice none 0 0] 26)
  have hw0 := heap_alloc_new w (.cells #[.int .i64 0, .int .i64 0, .int .i64 0, .string { data := #[] }, .slice none 0 0, .slice none 0 0, .slice none 0 0] 26)
  have HC := Lib.hid hC
  have H1 := Lib.hid h1
  have H2 := Lib.hid h2
  have H3 := Lib.hid h3
  have H4 := Lib.hid h4
  have H5 := Lib.hid h5
  have H6 := Lib.hid h6
  have HKN := Lib.hid hk
  have HB0 := Lib.hid hb0
  have HW0 := Lib.hid hw0
  have HR := Lib.hid h
  have HK13 : Hid (K < 13) := Lib.hid (by omega)
  have hz0 : (w.alloc (.cells #[.int .i64 0, .int .i64 0, .int .i64 0, .string { data := #[] }, .slice none 0 0, .slice none 0 0, .slice none 0 0] 26)).heap.size = w.heap.size + 1 := by simp
  have HZ0 := Lib.hid hz0
  have x1 : IntKind.i64.wrap (K : Int) = (K : Int) := IntWalk.i64_in _ (by omega)
  have x2 : IntKind.i64.wrap V = V := IntWalk.i64_in _ (by omega)
  have n1 : (0 : Int) < (n : Int) := by omega
  have n2 : (1 : Int) < (n : Int) := by omega
  have n3 : 0 < n := by omega
  have n4 : 1 < n := by omega
  have HSM := Lib.hid hsm
  have HV2 : Hid (0 ≤ V ∧ V ≤ 2) := Lib.hid ⟨i3, i4⟩
  clear hC h1 h2 h3 h4 h5 h6 hk hb0 hw0 h hr hwl hK hV h0 hz0 hlen hd hHS y0 y1 hcc hbB hsm i1 i2 i3 i4
  go_enter Tryd.func17, Tryd.ntmps17
  go_wp2_with fail
  refine HC.out.mono ?_
  rintro e w1 ⟨Bx, rfl, hx, hbx, hb1⟩
  rw [HKN.out]
  rw [HZ0.out] at hx
  have hxl : Bx < w1.heap.size := (Array.getElem?_eq_some_iff.1 hbx).1
  have hb01 := bthen HB0.out hb1
  have hres : w1.heap[w.heap.size]? = some (.cells #[.int .i64 0, .int .i64 0, .int .i64 0, .string { data := #[] }, .slice none 0 0, .slice none 0 0, .slice none 0 0] 26 (0, 0)) := (hb1.block w.heap.size (by rw [HZ0.out]; exact Nat.lt_succ_self _)).trans HW0.out
  have HBX := Lib.hid hbx
  have HB01 := Lib.hid hb01
  have HRES := Lib.hid hres
  have HXL := Lib.hid hxl
  have HX := Lib.hid hx
  have HY1 : Hid (∀ w', Below w1.heap.size w1 w' → w'.cell? ⟨b, off, none⟩ = some (.int .u8 (K : Int)) ∧ w'.cell? ⟨b, off + 1, none⟩ = some (.int .u8 V)) := Lib.hid fun w' hb2 => HY.out w' (bthen HB01.out hb2)
  have z0 := (Below.refl w1.heap.size w1).drew
  clear hbx hb01 hres hb1 hx hxl
  go_wp2_with fail
  go_region_held3 (fun w' => w'.cell? ⟨b, off, none⟩ = some (.int .u8 (K : Int)) ∧ w'.cell? ⟨b, off + 1, none⟩ = some (.int .u8 V)) (first | exact HY1.out _ z0 | exact HY1.out _ (bput z0 _) | fail) (fail)
  go_wp2_with fail
  obtain ⟨Bq, hBq⟩ : ∃ Bq, Bq = w1.heap.size := ⟨_, rfl⟩
  obtain ⟨W3, hW3⟩ : ∃ W, W = (w1.alloc (.cells #[.int .i64 (K : Int), .int .i64 V, .int .i64 0, .string { data := #[] }, .slice none 0 0, .slice none 0 0, .slice none 0 0] 26)).drew := ⟨_, rfl⟩
  have hwx : w.heap.size < Bx := Nat.lt_of_succ_le HX.out
  have hxq : Bx < Bq := by rw [hBq]; exact HXL.out
  have HG0 : Hid (Gm 88 26 w W3 Bx Bq (some ⟨b, off, none⟩) n c [(w.heap.size, .cells #[.int .i64 0, .int .i64 0, .int .i64 0, .string { data := #[] }, .slice none 0 0, .slice none 0 0, .slice none 0 0] 26 (0, 0))] (2, 0) #[.int .i64 (K : Int), .int .i64 V, .int .i64 0, .string { data := #[] }, .slice none 0 0, .slice none 0 0, .slice none 0 0]) := Lib.hid (by
    have hp : Below w1.heap.size w1 W3 := by rw [hW3]; exact (bput (Below.refl _ w1) _).drew
    refine ⟨(hp.block Bx HXL.out).trans HBX.out, ?_, fun p hpF => ?_, ⟨Nat.le_of_lt hwx, hxq⟩, bthen HB01.out hp⟩
    · rw [hBq, hW3]; exact heap_new_drew w1 _
    · simp only [List.mem_cons, List.not_mem_nil, or_false] at hpF
      subst hpF
      exact ⟨(hp.block w.heap.size (by rw [← hBq]; omega)).trans HRES.out, by simp only; omega, by simp only; omega⟩)
  rw [← hW3]
  have hn1 := r_num_ok HG0.out.rd (HG0.out.bytes HR.out)
  rw [H1.out] at hn1
  have HN1 := Lib.hid hn1
  have HO := Lib.hid (And.intro hwx hxq)
  clear hn1 hW3 HXL HX HBX HB01 HRES HB0 HW0 HZ0 HC z0 HY HY1 hwx hxq
  refine HN1.out.mono ?_
  rintro e w2 ⟨rfl, hrd⟩
  have hg2 := HG0.out.read hrd
  obtain ⟨cc, ff⟩ := hg2.cell 2 _ rfl
  obtain ⟨cv, -⟩ := hg2.cell 1 _ rfl
  have HG1 : Hid (Gm 88 26 w (w2.setCell ⟨Bq, 2, none⟩ (.int .i64 z1)) Bx Bq (some ⟨b, off, none⟩) n c [(w.heap.size, .cells #[.int .i64 0, .int .i64 0, .int .i64 0, .string { data := #[] }, .slice none 0 0, .slice none 0 0, .slice none 0 0] 26 (0, 0))] s1 #[.int .i64 (K : Int), .int .i64 V, .int .i64 z1, .string { data := #[] }, .slice none 0 0, .slice none 0 0, .slice none 0 0]) := Lib.hid (hg2.set 2 (.int .i64 z1))
  clear hg2 hrd HG0 HN1
  rw [hBq] at cc ff cv
  have HBQ := Lib.hid hBq
  clear hBq
  go_upto_if 32 with fail
  clear cc ff cv
  rw [← HBQ.out]
  clear HBQ
  obtain ⟨W4, hW4⟩ : ∃ W, W = w2.setCell ⟨Bq, 2, none⟩ (.int .i64 z1) := ⟨_, rfl⟩
  rw [← hW4] at HG1 ⊢
  clear hW4
  go_cut [4] (fun s4 wx => s4 = .pointer (some ⟨Bx, 0, none⟩) ∧ Hid (Gm 88 26 w wx Bx Bq (some ⟨b, off, none⟩) n c [(w.heap.size, .cells #[.int .i64 0, .int .i64 0, .int .i64 0, .string { data := #[] }, .slice none 0 0, .slice none 0 0, .slice none 0 0] 26 (0, 0))] s2 #[.int .i64 (K : Int), .int .i64 V, .int .i64 z1, (.string (strOf z2)), .slice none 0 0, .slice none 0 0, .slice none 0 0]))
  case first =>
    by_cases hv : V = 2
    · have t1 : (V == 2) = true := by simpa using hv
      have hh2 := H2.out
      rw [show decide (2 ≤ V) = true by simp only [decide_eq_true_eq]; omega] at hh2
      have hn2 := r_txt_ok HG1.out.rd (HG1.out.bytes HR.out)
      rw [show rtxt l s1 = (z2, s2) from hh2] at hn2
      have HN2 := Lib.hid hn2
      clear hh2 hn2 hv
      rw [t1]
      go_wp2_with fail
      refine HN2.out.mono ?_
      rintro e w4 ⟨rfl, hrd⟩
      have hg4 := HG1.out.read hrd
      obtain ⟨cc, ff⟩ := hg4.cell 3 _ rfl
      have HG4 := Lib.hid (hg4.set 3 (.string (strOf z2)))
      clear hg4 hrd
      go_wp2_with fail
      go_meet
      exact ⟨rfl, Lib.hid HG4.out⟩
    · have t1 : (V == 2) = false := by simpa using hv
      have hh2 := H2.out
      rw [show decide (2 ≤ V) = false by have := HV2.out; simp only [decide_eq_false_iff_not]; omega] at hh2
      obtain ⟨rfl, rfl⟩ : z2 = [] ∧ s2 = s1 := by
        simp only [opt, ret, Bool.false_eq_true, if_false, Prod.mk.injEq] at hh2
        exact ⟨hh2.1.symm, hh2.2.symm⟩
      clear hh2 hv
      rw [t1]
      go_wp2_with fail
      go_meet
      exact ⟨rfl, Lib.hid HG1.out⟩
  case rest =>
  obtain ⟨rfl, HG⟩ := hcut
  clear HG1
  obtain ⟨w5, hw5⟩ : ∃ x, x = wc := ⟨_, rfl⟩
  subst hw5
  obtain ⟨ck, -⟩ := HG.out.cell 0 _ rfl
  go_wp2_with fail
  refine (rints_is K HK13.out).mono ?_
  rintro e w6 ⟨rfl, hb6⟩
  have hg6 := HG.out.onb hb6
  have hn3 := r_nums_ok hg6.rd (hg6.bytes HR.out) ((shI (K : Int) : Nat) : Int) (.inl (by have := HSM.out; omega)) (by have := HSM.out; omega)
  rw [Int.toNat_natCast, H3.out] at hn3
  have HN3 := Lib.hid hn3
  have HLQ := Lib.hid hg6.ltq
  have HG6 := Lib.hid hg6
  clear hn3 ck hb6 hg6 HG
  go_wp2_with fail
  refine HN3.out.mono ?_
  rintro e w7 ⟨AI, nI, cI, rfl, ho, hrd⟩
  have hg7 := HG6.out.read hrd
  obtain ⟨cc, ff⟩ := hg7.cell 4 _ rfl
  obtain ⟨ck, -⟩ := hg7.cell 0 _ rfl
  have hg8 := hg7.set 4 (.slice AI nI cI)
  have ho8 := ho.set (i := 4) (v := .slice AI nI cI) HLQ.out
  obtain ⟨B1, hB1⟩ : ∃ B, B = w6.heap.size := ⟨_, rfl⟩
  rw [← hB1] at ho8 HLQ
  have HG8 : Hid (C2 88 26 w (w7.setCell ⟨Bq, 4, none⟩ (.slice AI nI cI)) Bx Bq (some ⟨b, off, none⟩) n c [(w.heap.size, .cells #[.int .i64 0, .int .i64 0, .int .i64 0, .string { data := #[] }, .slice none 0 0, .slice none 0 0, .slice none 0 0] 26 (0, 0))] s3 #[.int .i64 (K : Int), .int .i64 V, .int .i64 z1, (.string (strOf z2)), .slice AI nI cI, .slice none 0 0, .slice none 0 0] B1 AI nI cI z3) := Lib.hid ⟨hg8, ho8, HLQ.out⟩
  clear hg7 hg8 ho8 ho hrd HG6 HN3 HLQ hB1
  go_wp2_with fail
  clear cc ff ck
  obtain ⟨W8, hW8⟩ : ∃ W, W = w7.setCell ⟨Bq, 4, none⟩ (.slice AI nI cI) := ⟨_, rfl⟩
  rw [← hW8] at HG8 ⊢
  clear hW8
  refine (rtexts_is K HK13.out).mono ?_
  rintro e w9 ⟨rfl, hb9⟩
  have HG9 : Hid (C2 88 26 w w9 Bx Bq (some ⟨b, off, none⟩) n c [(w.heap.size, .cells #[.int .i64 0, .int .i64 0, .int .i64 0, .string { data := #[] }, .slice none 0 0, .slice none 0 0, .slice none 0 0] 26 (0, 0))] s3 #[.int .i64 (K : Int), .int .i64 V, .int .i64 z1, (.string (strOf z2)), .slice AI nI cI, .slice none 0 0, .slice none 0 0] B1 AI nI cI z3) := Lib.hid (HG8.out.onb hb9)
  clear hb9 HG8
  obtain ⟨ck, -⟩ := HG9.out.1.cell 0 _ rfl
  go_upto_if 47 with fail
  clear ck
  go_cut [7] (fun s7 wx => s7 = .int .i64 z4 ∧ Hid (C2 88 26 w wx Bx Bq (some ⟨b, off, none⟩) n c [(w.heap.size, .cells #[.int .i64 0, .int .i64 0, .int .i64 0, .string { data := #[] }, .slice none 0 0, .slice none 0 0, .slice none 0 0] 26 (0, 0))] s4 #[.int .i64 (K : Int), .int .i64 V, .int .i64 z1, (.string (strOf z2)), .slice AI nI cI, .slice none 0 0, .slice none 0 0] B1 AI nI cI z3))
  case first =>
    by_cases hv : K = 7
    · have t1 : ((K : Int) == 7) = true := by simp; omega
      have hh4 := H4.out
      rw [show ((K : Nat) : Int) = 7 by omega] at hh4
      obtain ⟨v, a, e, hq⟩ : ∃ v a e, rnum l s3 = (v, (a, e)) := ⟨_, _, _, rfl⟩
      have hn4 := r_num_ok HG9.out.1.rd (HG9.out.1.bytes HR.out)
      rw [hq] at hn4
      have HN4 := Lib.hid hn4
      have hxb1 : Bx < B1 := by have := HG9.out.2.2; have := HG9.out.1.low; omega
      have HH4 := Lib.hid hh4
      clear hn4 hv hh4
      rw [t1]
      go_wp2_with fail
      refine HN4.out.mono ?_
      rintro e0 w10 ⟨rfl, hrd⟩
      have hg10 := HG9.out.1.read hrd
      have ho10 := HG9.out.2.1.read hrd hxb1
      obtain ⟨ce, fe⟩ := hg10.ecell
      by_cases hbad : e = 0 ∧ (v < 3 ∨ 15 < v)
      · have hh4 := HH4.out
        rw [rtn7a hq hbad] at hh4
        simp only [Prod.mk.injEq] at hh4
        obtain ⟨rfl, rfl⟩ := hh4
        clear HH4
        have HG11 : Hid (C2 88 26 w (w10.setCell ⟨Bx, 2, none⟩ (.int .i64 11)) Bx Bq (some ⟨b, off, none⟩) n c [(w.heap.size, .cells #[.int .i64 0, .int .i64 0, .int .i64 0, .string { data := #[] }, .slice none 0 0, .slice none 0 0, .slice none 0 0] 26 (0, 0))] (a, 11) #[.int .i64 (K : Int), .int .i64 V, .int .i64 z1, (.string (strOf z2)), .slice AI nI cI, .slice none 0 0, .slice none 0 0] B1 AI nI cI z3) := Lib.hid ⟨hg10.setE 11, ho10.set hxb1, HG9.out.2.2⟩
        clear hg10 ho10 hrd HN4 hq HG9
        obtain ⟨rfl, hr3⟩ := hbad
        by_cases hv3 : v < 3
        · have t2 : decide (v < 3) = true := by simpa using hv3
          clear hr3 hv3
          go_wp2_with fail
          go_meet
          exact ⟨rfl, HG11⟩
        · have t2 : decide (v < 3) = false := by simpa using hv3
          have t3 : decide (15 < v) = true := by simp only [decide_eq_true_eq]; omega
          clear hr3 hv3
          go_wp2_with fail
          go_meet
          exact ⟨rfl, HG11⟩
      · have hh4 := HH4.out
        rw [rtn7b hq hbad] at hh4
        simp only [Prod.mk.injEq] at hh4
        obtain ⟨rfl, rfl⟩ := hh4
        clear HH4
        have HG11 : Hid (C2 88 26 w w10 Bx Bq (some ⟨b, off, none⟩) n c [(w.heap.size, .cells #[.int .i64 0, .int .i64 0, .int .i64 0, .string { data := #[] }, .slice none 0 0, .slice none 0 0, .slice none 0 0] 26 (0, 0))] (a, e) #[.int .i64 (K : Int), .int .i64 V, .int .i64 z1, (.string (strOf z2)), .slice AI nI cI, .slice none 0 0, .slice none 0 0] B1 AI nI cI z3) := Lib.hid ⟨hg10, ho10, HG9.out.2.2⟩
        clear hg10 ho10 hrd HN4 hq HG9
        by_cases he : e = 0
        · subst he
          have t2 : decide (v < 3) = false := by simp only [decide_eq_false_iff_not]; omega
          have t3 : decide (15 < v) = false := by simp only [decide_eq_false_iff_not]; omega
          clear hbad
          go_wp2_with fail
          go_meet
          exact ⟨rfl, HG11⟩
        · have t2 : (e == 0) = false := by simpa using he
          clear hbad he
          go_wp2_with fail
          go_meet
          exact ⟨rfl, HG11⟩
    · have t1 : ((K : Int) == 7) = false := by simp; omega
      have hh4 := H4.out
      rw [rtnN (by omega)] at hh4
      simp only [Prod.mk.injEq] at hh4
      obtain ⟨rfl, rfl⟩ := hh4
      clear hv
      rw [t1]
      go_wp2_with fail
      go_meet
      exact ⟨rfl, HG9⟩
  case rest =>
  obtain ⟨rfl, HG⟩ := hcut
  clear HG9
  obtain ⟨w11, hw11⟩ : ∃ x, x = wc := ⟨_, rfl⟩
  subst hw11
  have hn5 := r_txts_ok HG.out.1.rd (HG.out.1.bytes HR.out) z4 (by
    by_cases he : s4.2 = 0
    · left
      obtain ⟨a4, e4⟩ := s4
      simp only at he
      subst he
      have := rtn_le HK13.out H4.out
      omega
    · exact .inr he) (rtn_hi HK13.out H4.out)
  rw [H5.out] at hn5
  have HN5 := Lib.hid hn5
  have HLQ := Lib.hid HG.out.1.ltq
  have hxb1 : Bx < B1 := by have := HG.out.2.2; have := HG.out.1.low; omega
  have HXB := Lib.hid hxb1
  clear hn5 hxb1
  go_wp2_with fail
  refine HN5.out.mono ?_
  rintro e0 w12 ⟨AT, nT, cT, rfl, ho, hrd⟩
  have hg12 := HG.out.1.read hrd
  have ho1 := HG.out.2.1.read hrd HXB.out
  obtain ⟨cc, ff⟩ := hg12.cell 5 _ rfl
  obtain ⟨ck, -⟩ := hg12.cell 0 _ rfl
  have HQ1 := Lib.hid HG.out.2.2
  have HQ2 := HLQ
  obtain ⟨B2, hB2⟩ : ∃ B, B = w11.heap.size := ⟨_, rfl⟩
  have hot := ho.set (i := 5) (v := .slice AT nT cT) HLQ.out
  rw [← hB2] at HQ2 hot
  have HOI := Lib.hid (ho1.set (i := 5) (v := .slice AT nT cT) HQ1.out)
  have HOT := Lib.hid hot
  have HG12 := Lib.hid (hg12.set 5 (.slice AT nT cT))
  clear hg12 ho1 ho hot hrd HN5 HLQ HG hB2
  go_upto_if 72 with fail
  clear cc ff ck
  obtain ⟨W12, hW12⟩ : ∃ W, W = w12.setCell ⟨Bq, 5, none⟩ (.slice AT nT cT) := ⟨_, rfl⟩
  have HG : Hid (Gm 88 26 w W12 Bx Bq (some ⟨b, off, none⟩) n c [(w.heap.size, .cells #[.int .i64 0, .int .i64 0, .int .i64 0, .string { data := #[] }, .slice none 0 0, .slice none 0 0, .slice none 0 0] 26 (0, 0))] s5 #[.int .i64 (K : Int), .int .i64 V, .int .i64 z1, (.string (strOf z2)), .slice AI nI cI, .slice AT nT cT, .slice none 0 0]) := Lib.hid (by rw [hW12]; exact HG12.out)
  rw [← hW12] at HOI HOT ⊢
  clear hW12 HG12
  go_cut [4] (fun s4' wx => s4' = .pointer (some ⟨Bx, 0, none⟩) ∧ Hid (C4 88 26 w wx Bx Bq (some ⟨b, off, none⟩) n c [(w.heap.size, .cells #[.int .i64 0, .int .i64 0, .int .i64 0, .string { data := #[] }, .slice none 0 0, .slice none 0 0, .slice none 0 0] 26 (0, 0))] s6 (fun AB nB cB => #[.int .i64 (K : Int), .int .i64 V, .int .i64 z1, (.string (strOf z2)), .slice AI nI cI, .slice AT nT cT, .slice AB nB cB]) B1 AI nI cI z3 B2 AT nT cT z5 z6))
  case first =>
    have hlow := HG.out.low
    have hxb2 : Bx < B2 := by have := HQ2.out; omega
    by_cases hv : K = 2
    · have t1 : ((K : Int) == 2) = true := by simp; omega
      have hn6 := r_blb_ok HG.out.rd (HG.out.bytes HR.out) 2048 (by omega)
      have hh6 := H6.out
      rw [show decide ((K : Int) = 2) = true by simp only [decide_eq_true_eq]; omega] at hh6
      rw [show rblb 2048 l s5 = (z6, s6) from hh6] at hn6
      have HN6 := Lib.hid hn6
      have HLQ := Lib.hid HG.out.ltq
      clear hn6 hh6 hv
      rw [t1]
      go_wp2_with fail
      refine HN6.out.mono ?_
      rintro e0 w13 ⟨AB, nB, cB, rfl, ho, hrd⟩
      have hg13 := HG.out.read hrd
      obtain ⟨cc, ff⟩ := hg13.cell 6 _ rfl
      have HG14 : Hid (C4 88 26 w (w13.setCell ⟨Bq, 6, none⟩ (.slice AB nB cB)) Bx Bq (some ⟨b, off, none⟩) n c [(w.heap.size, .cells #[.int .i64 0, .int .i64 0, .int .i64 0, .string { data := #[] }, .slice none 0 0, .slice none 0 0, .slice none 0 0] 26 (0, 0))] s6 (fun AB nB cB => #[.int .i64 (K : Int), .int .i64 V, .int .i64 z1, (.string (strOf z2)), .slice AI nI cI, .slice AT nT cT, .slice AB nB cB]) B1 AI nI cI z3 B2 AT nT cT z5 z6) :=
        Lib.hid ⟨AB, nB, cB, _, hg13.set 6 _, (HOI.out.read hrd HXB.out).set HQ1.out, (HOT.out.read hrd hxb2).set HQ2.out, ho.keptLow (grown_set _ Bq 6 _) HLQ.out, HQ1.out, HQ2.out, HLQ.out⟩
      clear hg13 ho hrd HN6 HLQ
      go_wp2_with fail
      go_meet
      exact ⟨rfl, HG14⟩
    · have t1 : ((K : Int) == 2) = false := by simp; omega
      have hh6 := H6.out
      rw [show decide ((K : Int) = 2) = false by simp only [decide_eq_false_iff_not]; omega] at hh6
      obtain ⟨rfl, rfl⟩ : z6 = [] ∧ s6 = s5 := by
        simp only [opt, ret, Bool.false_eq_true, if_false, Prod.mk.injEq] at hh6
        exact ⟨hh6.1.symm, hh6.2.symm⟩
      have HG14 : Hid (C4 88 26 w W12 Bx Bq (some ⟨b, off, none⟩) n c [(w.heap.size, .cells #[.int .i64 0, .int .i64 0, .int .i64 0, .string { data := #[] }, .slice none 0 0, .slice none 0 0, .slice none 0 0] 26 (0, 0))] s6 (fun AB nB cB => #[.int .i64 (K : Int), .int .i64 V, .int .i64 z1, (.string (strOf z2)), .slice AI nI cI, .slice AT nT cT, .slice AB nB cB]) B1 AI nI cI z3 B2 AT nT cT z5 []) :=
        Lib.hid ⟨none, 0, 0, B1, HG.out, HOI.out, HOT.out, Ob.nil _ _ _, HQ1.out, HQ2.out, HQ1.out⟩
      clear hv hh6
      rw [t1]
      go_wp2_with fail
      go_meet
      exact ⟨rfl, HG14⟩
  case rest =>
  obtain ⟨rfl, HG4⟩ := hcut
  clear HG HOI HOT HQ1 HQ2
  obtain ⟨w14, hw14⟩ : ∃ x, x = wc := ⟨_, rfl⟩
  subst hw14
  obtain ⟨AB, nB, cB, B3, hg, hoI, hoT, hoB, hq1, hq2, hq3⟩ := HG4.out
  have hlow := hg.low
  have hend := r_end_ok hg.rd (hg.bytes HR.out)
  obtain ⟨E, hE⟩ : ∃ E, E = endR l s6 := ⟨_, rfl⟩
  rw [← hE] at hend HD
  have HEN := Lib.hid hend
  have HG := Lib.hid hg
  have HOI := Lib.hid hoI
  have HOT := Lib.hid hoT
  have HOB := Lib.hid hoB
  have HBR : Hid (w.heap.size < B1 ∧ w.heap.size < B2 ∧ w.heap.size < B3) := Lib.hid ⟨by omega, by omega, by omega⟩
  clear HG4 hg hoI hoT hoB hq1 hq2 hq3 hlow hend hE
  go_wp2_with fail
  refine HEN.out.mono ?_
  rintro e0 w15 ⟨rfl, hb15⟩
  have HB15 := Lib.hid hb15
  clear hb15
  by_cases hE : E ≠ 0
  · have t1 : (E != 0) = true := by simpa using hE
    have HDE : Hid (D = (zeroQ, E)) := Lib.hid (by rw [HD.out, if_pos hE, if_pos hE])
    have hbQ := HB15.out
    have hres : w15.heap[w.heap.size]? = some (.cells #[.int .i64 0, .int .i64 0, .int .i64 0, .string { data := #[] }, .slice none 0 0, .slice none 0 0, .slice none 0 0] 26 (0, 0)) := (hbQ.block w.heap.size (by have := HG.out.ltx; have := HO.out.1; omega)).trans (HG.out.oth (w.heap.size, _) (.head _)).1
    have hxx := (hbQ.block Bq HG.out.ltq).trans HG.out.x
    obtain ⟨⟨d0, d1, d2, d3, d4, d5, d6⟩, hf⟩ := of7 hres
    obtain ⟨⟨x0, x1, x2, x3, x4, x5, x6⟩, -⟩ := of7 hxx
    have f0 := hf 0
    have f1 := hf 1
    have f2 := hf 2
    have f3 := hf 3
    have f4 := hf 4
    have f5 := hf 5
    have f6 := hf 6
    have HBB := Lib.hid (HG.out.below.trans (hbQ.mono HG.out.below.size))
    have HRS := Lib.hid hres
    clear hres hf hxx
    clear hE HD x0 x1 x2 x3 x4 x5 x6 hbQ
    go_wp2_with fail
    change bodyPost _ _ _ _ _ (set7 w15 w.heap.size (.int .i64 0) (.int .i64 0) (.int .i64 0) (.string { data := #[] }) (.slice none 0 0) (.slice none 0 0) (.slice none 0 0))
    have hs := set7_heap (a0 := .int .i64 0) (a1 := .int .i64 0) (a2 := .int .i64 0) (a3 := .string { data := #[] }) (a4 := .slice none 0 0) (a5 := .slice none 0 0) (a6 := .slice none 0 0) HRS.out
    have hg := set7_grown w15 w.heap.size (.int .i64 0) (.int .i64 0) (.int .i64 0) (.string { data := #[] }) (.slice none 0 0) (.slice none 0 0) (.slice none 0 0)
    clear d0 d1 d2 d3 d4 d5 d6
    generalize set7 w15 w.heap.size (.int .i64 0) (.int .i64 0) (.int .i64 0) (.string { data := #[] }) (.slice none 0 0) (.slice none 0 0) (.slice none 0 0) = WF at *
    obtain ⟨⟨d0, d1, d2, d3, d4, d5, d6⟩, -⟩ := of7 hs
    refine bodyPost_ret (v := .tuple #[.agg #[.int .i64 0, .int .i64 0, .int .i64 0, .string { data := #[] }, .slice none 0 0, .slice none 0 0, .slice none 0 0], .int .i64 E]) (by simp [results, Tryd.results17, go_sem, d0, d1, d2, d3, d4, d5, d6]) rfl ?_
    exact GotQ.zero HDE.out (HBB.out.trans (below_grown hg HBB.out.size (fun k hk => by cases hk; exact Nat.le_refl _)))
  have t1 : (E != 0) = false := by simpa using hE
  have HDE : Hid (D = if (if chkQ ⟨(K : Int), V, z1, z2, z3, z5, z6⟩ ≠ 0 then (1 : Int) else 0) ≠ 0 then (zeroQ, if chkQ ⟨(K : Int), V, z1, z2, z3, z5, z6⟩ ≠ 0 then (1 : Int) else 0) else (⟨(K : Int), V, z1, z2, z3, z5, z6⟩, 0)) := Lib.hid (by rw [HD.out, if_neg hE])
  have hbQ := HB15.out
  have hxx := (hbQ.block Bq HG.out.ltq).trans HG.out.x
  obtain ⟨⟨x0, x1, x2, x3, x4, x5, x6⟩, -⟩ := of7 hxx
  have hch := r_chkQ_ok (K : Int) V z1 z2 (w := w15) ⟨(HOI.out.rx.below hbQ).more hbQ.size, (HOT.out.rx.below hbQ).more hbQ.size, (HOB.out.rd.below hbQ).more hbQ.size⟩ HWL.out
  have HCH := Lib.hid hch
  clear hE HD hbQ hxx hch
  go_wp2_with fail
  refine HCH.out.mono ?_
  rintro e0 w16 ⟨rfl, hb16⟩
  have HB16 := Lib.hid (bthen HB15.out hb16)
  have hbQ := HB16.out
  clear x0 x1 x2 x3 x4 x5 x6 hb16
  have hres : w16.heap[w.heap.size]? = some (.cells #[.int .i64 0, .int .i64 0, .int .i64 0, .string { data := #[] }, .slice none 0 0, .slice none 0 0, .slice none 0 0] 26 (0, 0)) := (hbQ.block w.heap.size (by have := HG.out.ltx; have := HO.out.1; omega)).trans (HG.out.oth (w.heap.size, _) (.head _)).1
  have hxx := (hbQ.block Bq HG.out.ltq).trans HG.out.x
  obtain ⟨⟨d0, d1, d2, d3, d4, d5, d6⟩, hf⟩ := of7 hres
  obtain ⟨⟨x0, x1, x2, x3, x4, x5, x6⟩, -⟩ := of7 hxx
  have f0 := hf 0
  have f1 := hf 1
  have f2 := hf 2
  have f3 := hf 3
  have f4 := hf 4
  have f5 := hf 5
  have f6 := hf 6
  have HBB := Lib.hid (HG.out.below.trans (hbQ.mono HG.out.below.size))
  have HRS := Lib.hid hres
  clear hres hf hxx
  have HOI16 := Lib.hid (HOI.out.step hbQ)
  have HOT16 := Lib.hid (HOT.out.step hbQ)
  have HOB16 := Lib.hid (HOB.out.step hbQ)
  clear hbQ
  by_cases hC : chkQ ⟨(K : Int), V, z1, z2, z3, z5, z6⟩ ≠ 0
  · have t2 : (chkQ ⟨(K : Int), V, z1, z2, z3, z5, z6⟩ != 0) = true := by simpa using hC
    have HDZ : Hid (D = (zeroQ, 1)) := Lib.hid (by rw [HDE.out, if_pos hC]; rfl)
    generalize chkQ ⟨(K : Int), V, z1, z2, z3, z5, z6⟩ = CC at *
    clear hC HDE x0 x1 x2 x3 x4 x5 x6 HCH
    go_wp2_with fail
    change bodyPost _ _ _ _ _ (set7 w16 w.heap.size (.int .i64 0) (.int .i64 0) (.int .i64 0) (.string { data := #[] }) (.slice none 0 0) (.slice none 0 0) (.slice none 0 0))
    have hs := set7_heap (a0 := .int .i64 0) (a1 := .int .i64 0) (a2 := .int .i64 0) (a3 := .string { data := #[] }) (a4 := .slice none 0 0) (a5 := .slice none 0 0) (a6 := .slice none 0 0) HRS.out
    have hg := set7_grown w16 w.heap.size (.int .i64 0) (.int .i64 0) (.int .i64 0) (.string { data := #[] }) (.slice none 0 0) (.slice none 0 0) (.slice none 0 0)
    clear d0 d1 d2 d3 d4 d5 d6
    generalize set7 w16 w.heap.size (.int .i64 0) (.int .i64 0) (.int .i64 0) (.string { data := #[] }) (.slice none 0 0) (.slice none 0 0) (.slice none 0 0) = WF at *
    obtain ⟨⟨d0, d1, d2, d3, d4, d5, d6⟩, -⟩ := of7 hs
    refine bodyPost_ret (v := .tuple #[.agg #[.int .i64 0, .int .i64 0, .int .i64 0, .string { data := #[] }, .slice none 0 0, .slice none 0 0, .slice none 0 0], .int .i64 1]) (by simp [results, Tryd.results17, go_sem, d0, d1, d2, d3, d4, d5, d6]) rfl ?_
    exact GotQ.zero HDZ.out (HBB.out.trans (below_grown hg HBB.out.size (fun k hk => by cases hk; exact Nat.le_refl _)))
  have t2 : (chkQ ⟨(K : Int), V, z1, z2, z3, z5, z6⟩ != 0) = false := by simpa using hC
  have HDZ : Hid (D = (⟨(K : Int), V, z1, z2, z3, z5, z6⟩, 0)) := Lib.hid (by rw [HDE.out, if_neg hC]; rfl)
  generalize chkQ ⟨(K : Int), V, z1, z2, z3, z5, z6⟩ = CC at *
  clear hC HDE HCH
  go_wp2_with fail
  change bodyPost _ _ _ _ _ (set7 w16 w.heap.size (.int .i64 (K : Int)) (.int .i64 V) (.int .i64 z1) (.string (strOf z2)) (.slice AI nI cI) (.slice AT nT cT) (.slice AB nB cB))
  have hs := set7_heap (a0 := .int .i64 (K : Int)) (a1 := .int .i64 V) (a2 := .int .i64 z1) (a3 := .string (strOf z2)) (a4 := .slice AI nI cI) (a5 := .slice AT nT cT) (a6 := .slice AB nB cB) HRS.out
  have hg := set7_grown w16 w.heap.size (.int .i64 (K : Int)) (.int .i64 V) (.int .i64 z1) (.string (strOf z2)) (.slice AI nI cI) (.slice AT nT cT) (.slice AB nB cB)
  clear d0 d1 d2 d3 d4 d5 d6 x0 x1 x2 x3 x4 x5 x6
  generalize set7 w16 w.heap.size (.int .i64 (K : Int)) (.int .i64 V) (.int .i64 z1) (.string (strOf z2)) (.slice AI nI cI) (.slice AT nT cT) (.slice AB nB cB) = WF at *
  obtain ⟨⟨d0, d1, d2, d3, d4, d5, d6⟩, -⟩ := of7 hs
  refine bodyPost_ret (v := .tuple #[.agg #[.int .i64 (K : Int), .int .i64 V, .int .i64 z1, .string (strOf z2), .slice AI nI cI, .slice AT nT cT, .slice AB nB cB], .int .i64 0]) (by simp [results, Tryd.results17, go_sem, d0, d1, d2, d3, d4, d5, d6]) rfl ?_
  rw [HDZ.out]
  have hk1 := HOI16.out.kept hg (fun k hk => by cases hk; exact HBR.out.1)
  have hk2 := HOT16.out.kept hg (fun k hk => by cases hk; exact HBR.out.2.1)
  have hk3 := HOB16.out.keptLow hg HBR.out.2.2
  exact ⟨AI, nI, cI, AT, nT, cT, AB, nB, cB, rfl, ⟨hk1.rx, hk2.rx, hk3.rd⟩, HBB.out.trans (below_grown hg HBB.out.size (fun k hk => by cases hk; exact Nat.le_refl _))⟩

theorem r_getQ_ok {w : World} {A : Option Addr} {n c : Nat} {l : List UInt8} (h : Rd w w.heap.size A n c l) : Calls Tryd.prog 17 #[.slice A n c] w (GotQ w (decQ l)) := by
  by_cases h2 : l.length < 2
  · exact r_getQ_short h h2
  · by_cases hk : knownE (kindOf l) (verOf l) = 0
    · exact r_getQ_main h h2 hk
    · exact r_getQ_known h h2 hk
end Go.Proofs.YtlijagbklopipaaDoor
