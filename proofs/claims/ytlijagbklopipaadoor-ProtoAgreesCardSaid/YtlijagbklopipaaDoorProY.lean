/-
  Contract of proto.GetResp. Conditions: those that it states.
-/
import Derived.Deep.DeepCutAuto
import Derived.Test.YtlijagbklopipaaDoorProX
namespace Go.Proofs.YtlijagbklopipaaDoor
open Go.RowKit
set_option linter.unusedVariables false

/-- What a call answers that reads an answer. -/
def GotS (w : World) (r : RS × Int) (e : Ending) (w' : World) : Prop :=
  ∃ (Ai : Option Addr) (ni ci : Nat) (At : Option Addr) (nt ct : Nat) (Ab : Option Addr) (nb cb : Nat), e = .returned (.tuple #[.agg #[.int .i64 r.1.kind, .int .i64 r.1.ver, .int .i64 r.1.id, .int .i64 r.1.er, .int .i64 r.1.wait, .slice Ai ni ci, .slice At nt ct, .slice Ab nb cb], .int .i64 r.2]) ∧
    Rq w' w'.heap.size Ai ni ci At nt ct Ab nb cb r.1.ints r.1.texts r.1.blob ∧ Below w.heap.size w w'
theorem GotS.zero {w w' : World} {E : Int} {r : RS × Int} (hr : r = (zeroS, E)) (hb : Below w.heap.size w w') : GotS w r (.returned (.tuple #[.agg #[.int .i64 0, .int .i64 0, .int .i64 0, .int .i64 0, .int .i64 0, .slice none 0 0, .slice none 0 0, .slice none 0 0], .int .i64 E])) w' := by
  subst hr
  exact ⟨none, 0, 0, none, 0, 0, none, 0, 0, rfl, Rq.none _ _, hb⟩

theorem decS_short0 {l : List UInt8} (h : l.length < 2) : decS l = (zeroS, 10) := by unfold decS decG; rw [if_pos h]
theorem decS_known {l : List UInt8} (h : ¬ l.length < 2) (hk : knownE (kindOf l) (verOf l) ≠ 0) : decS l = (zeroS, knownE (kindOf l) (verOf l)) := by unfold decS decG; rw [if_neg h, if_pos hk]
theorem decS_steps {l : List UInt8} {K V z1 z2 z3 n1 n2 : Int} {z5 : List Int} {z7 : List (List UInt8)} {z8 : List UInt8} {s1 s2 s3 s4 s5 s6 s7 s8 : St} (h0 : ¬ l.length < 2) (hK : kindOf l = K) (hV : verOf l = V) (hk : knownE K V = 0)
    (h1 : rnum l (2, 0) = (z1, s1)) (h2 : rnum l s1 = (z2, s2)) (h3 : opt (decide (1 ≤ V)) rnum 0 l s2 = (z3, s3)) (h4 : rcnt 64 l s3 = (n1, s4)) (h5 : rmany rnum n1.toNat l s4 = (z5, s5)) (h6 : rcnt 16 l s5 = (n2, s6)) (h7 : rmany rtxt n2.toNat l s6 = (z7, s7)) (h8 : rblb 4096 l s7 = (z8, s8)) :
    decS l = if endE l s8 (chkS ⟨K, V, z1, z2, z3, z5, z7, z8⟩) ≠ 0 then (zeroS, endE l s8 (chkS ⟨K, V, z1, z2, z3, z5, z7, z8⟩)) else (⟨K, V, z1, z2, z3, z5, z7, z8⟩, 0) := by
  unfold decS decG
  rw [if_neg h0, hK, hV, if_neg (by omega)]
  have hb : rbodyS V l (2, 0) = ((z1, z2, z3, n1, z5, n2, z7, z8), s8) := by simp only [rbodyS, bnd, h1, h2, h3, h4, h5, h6, h7, h8]
  simp only []
  rw [hb]
  rfl
theorem many_same {α : Type} {R : Rdr α} {v n : Int} {l : List UInt8} {s : St} (h : s.2 = 0 → v = n) : rmany R v.toNat l s = rmany R n.toNat l s := by
  by_cases hs : s.2 = 0
  · rw [h hs]
  · rw [rmany_stuck _ _ _ hs, rmany_stuck _ _ _ hs]

set_option maxRecDepth 100000 in
theorem p_getS_short {w : World} {A : Option Addr} {n c : Nat} {l : List UInt8} (h : Rd w w.heap.size A n c l) (h2 : l.length < 2) :
    Calls Tryd.prog 24 #[.slice A n c] w (GotS w (decS l)) := by
  have hr := h.alloc (Nat.le_refl _) (.cells #[.int .i64 0, .int .i64 0, .int .i64 0, .int .i64 0, .int .i64 0, .slice none 0 0, .slice none 0 0, .slice none 0 0] 38)
  have HC := Lib.hid (p_beg_short hr h2)
  have HD := Lib.hid (decS_short0 h2)
  have hb := bput (Below.refl _ w) (.cells #[.int .i64 0, .int .i64 0, .int .i64 0, .int .i64 0, .int .i64 0, .slice none 0 0, .slice none 0 0, .slice none 0 0] 38)
  clear h hr h2
  go_enter Tryd.func24, Tryd.ntmps24
  go_wp2_with fail
  refine HC.out.mono ?_
  rintro e w1 ⟨rfl, rfl⟩
  go_wp2_with fail
  refine bodyPost_ret (v := .tuple #[.agg #[.int .i64 0, .int .i64 0, .int .i64 0, .int .i64 0, .int .i64 0, .slice none 0 0, .slice none 0 0, .slice none 0 0], .int .i64 10]) (by simp [results, Tryd.results24, go_sem]) rfl ?_
  exact GotS.zero HD.out hb

set_option maxRecDepth 100000 in
theorem p_getS_known {w : World} {A : Option Addr} {n c : Nat} {l : List UInt8} (h : Rd w w.heap.size A n c l) (h2 : ¬ l.length < 2) (hk : knownE (kindOf l) (verOf l) ≠ 0) :
    Calls Tryd.prog 24 #[.slice A n c] w (GotS w (decS l)) := by
  have hr := h.alloc (Nat.le_refl _) (.cells #[.int .i64 0, .int .i64 0, .int .i64 0, .int .i64 0, .int .i64 0, .slice none 0 0, .slice none 0 0, .slice none 0 0] 38)
  have HC := Lib.hid (p_beg_ok hr h2)
  have HD := Lib.hid (decS_known h2 hk)
  have hb := bput (Below.refl _ w) (.cells #[.int .i64 0, .int .i64 0, .int .i64 0, .int .i64 0, .int .i64 0, .slice none 0 0, .slice none 0 0, .slice none 0 0] 38)
  have t1 : (knownE (kindOf l) (verOf l) != 0) = true := by simpa using hk
  have hw0 := heap_alloc_new w (.cells #[.int .i64 0, .int .i64 0, .int .i64 0, .int .i64 0, .int .i64 0, .slice none 0 0, .slice none 0 0, .slice none 0 0] 38)
  have HB := Lib.hid hb
  have HW0 := Lib.hid hw0
  clear h hr h2 hb hk hw0
  go_enter Tryd.func24, Tryd.ntmps24
  go_wp2_with fail
  refine HC.out.mono ?_
  rintro e w1 ⟨Bx, rfl, hx, hbx, hb1⟩
  have hres : w1.heap[w.heap.size]? = some (.cells #[.int .i64 0, .int .i64 0, .int .i64 0, .int .i64 0, .int .i64 0, .slice none 0 0, .slice none 0 0, .slice none 0 0] 38 (0, 0)) := (hb1.block w.heap.size (by simp)).trans HW0.out
  obtain ⟨⟨d0, d1, d2, d3, d4, d5, d6, d7⟩, hf⟩ := of8 hres
  have f0 := hf 0
  have f1 := hf 1
  have f2 := hf 2
  have f3 := hf 3
  have f4 := hf 4
  have f5 := hf 5
  have f6 := hf 6
  have f7 := hf 7
  have HBB := Lib.hid (bthen HB.out hb1)
  have HRS := Lib.hid hres
  clear hb1 hres hbx hx hf
  generalize knownE (kindOf l) (verOf l) = E at *
  go_wp2_with fail
  change bodyPost _ _ _ _ _ (set8 w1 w.heap.size (.int .i64 0) (.int .i64 0) (.int .i64 0) (.int .i64 0) (.int .i64 0) (.slice none 0 0) (.slice none 0 0) (.slice none 0 0))
  have hs := set8_heap (a0 := .int .i64 0) (a1 := .int .i64 0) (a2 := .int .i64 0) (a3 := .int .i64 0) (a4 := .int .i64 0) (a5 := .slice none 0 0) (a6 := .slice none 0 0) (a7 := .slice none 0 0) HRS.out
  have hg := set8_grown w1 w.heap.size (.int .i64 0) (.int .i64 0) (.int .i64 0) (.int .i64 0) (.int .i64 0) (.slice none 0 0) (.slice none 0 0) (.slice none 0 0)
  clear d0 d1 d2 d3 d4 d5 d6 d7
  generalize set8 w1 w.heap.size (.int .i64 0) (.int .i64 0) (.int .i64 0) (.int .i64 0) (.int .i64 0) (.slice none 0 0) (.slice none 0 0) (.slice none 0 0) = WF at *
  obtain ⟨⟨d0, d1, d2, d3, d4, d5, d6, d7⟩, -⟩ := of8 hs
  refine bodyPost_ret (v := .tuple #[.agg #[.int .i64 0, .int .i64 0, .int .i64 0, .int .i64 0, .int .i64 0, .slice none 0 0, .slice none 0 0, .slice none 0 0], .int .i64 E]) (by simp [results, Tryd.results24, go_sem, d0, d1, d2, d3, d4, d5, d6, d7]) rfl ?_
  exact GotS.zero HD.out (HBB.out.trans (below_grown hg HBB.out.size (fun k hk => by cases hk; exact Nat.le_refl _)))

set_option maxRecDepth 100000 in
set_option maxHeartbeats 4000000 in
theorem p_getS_main {w : World} {A : Option Addr} {n c : Nat} {l : List UInt8} (h : Rd w w.heap.size A n c l) (h0 : ¬ l.length < 2) (hk : knownE (kindOf l) (verOf l) = 0) :
    Calls Tryd.prog 24 #[.slice A n c] w (GotS w (decS l)) := by
  have hlen := h.len
  have hcap := h.cap
  have htop := h.top
  have hr := h.alloc (Nat.le_refl _) (.cells #[.int .i64 0, .int .i64 0, .int .i64 0, .int .i64 0, .int .i64 0, .slice none 0 0, .slice none 0 0, .slice none 0 0] 38)
  have hC := p_beg_ok hr h0
  obtain ⟨i1, i2, i3, i4⟩ := known_ok hk
  obtain ⟨K, hK⟩ := Int.eq_ofNat_of_zero_le (show 0 ≤ kindOf l by omega)
  obtain ⟨V, hV⟩ : ∃ V, verOf l = V := ⟨_, rfl⟩
  rw [hK, hV] at hC hk
  rw [hK] at i1 i2
  rw [hV] at i3 i4
  obtain ⟨z1, s1, h1⟩ : ∃ z s, rnum l (2, 0) = (z, s) := ⟨_, _, rfl⟩
  obtain ⟨z2, s2, h2⟩ : ∃ z s, rnum l s1 = (z, s) := ⟨_, _, rfl⟩
  obtain ⟨z3, s3, h3⟩ : ∃ z s, opt (decide (1 ≤ V)) rnum 0 l s2 = (z, s) := ⟨_, _, rfl⟩
  obtain ⟨n1, s4, h4⟩ : ∃ z s, rcnt 64 l s3 = (z, s) := ⟨_, _, rfl⟩
  obtain ⟨z5, s5, h5⟩ : ∃ z s, rmany rnum n1.toNat l s4 = (z, s) := ⟨_, _, rfl⟩
  obtain ⟨n2, s6, h6⟩ : ∃ z s, rcnt 16 l s5 = (z, s) := ⟨_, _, rfl⟩
  obtain ⟨z7, s7, h7⟩ : ∃ z s, rmany rtxt n2.toNat l s6 = (z, s) := ⟨_, _, rfl⟩
  obtain ⟨z8, s8, h8⟩ : ∃ z s, rblb 4096 l s7 = (z, s) := ⟨_, _, rfl⟩
  have HD := Lib.hid (decS_steps h0 hK hV hk h1 h2 h3 h4 h5 h6 h7 h8)
  generalize decS l = D at *
  have hb0 := bput (Below.refl _ w) (.cells #[.int .i64 0, .int .i64 0, .int .i64 0, .int .i64 0, .int .i64 0, .slice none 0 0, .slice none 0 0, .slice none 0 0] 38)
  have hw0 := heap_alloc_new w (.cells #[.int .i64 0, .int .i64 0, .int .i64 0, .int .i64 0, .int .i64 0, .slice none 0 0, .slice none 0 0, .slice none 0 0] 38)
  have HC := Lib.hid hC
  have H1 := Lib.hid h1
  have H2 := Lib.hid h2
  have H3 := Lib.hid h3
  have H4 := Lib.hid h4
  have H5 := Lib.hid h5
  have H6 := Lib.hid h6
  have H7 := Lib.hid h7
  have H8 := Lib.hid h8
  have HKN := Lib.hid hk
  have HB0 := Lib.hid hb0
  have HW0 := Lib.hid hw0
  have HR := Lib.hid h
  have hz0 : (w.alloc (.cells #[.int .i64 0, .int .i64 0, .int .i64 0, .int .i64 0, .int .i64 0, .slice none 0 0, .slice none 0 0, .slice none 0 0] 38)).heap.size = w.heap.size + 1 := by simp
  have HZ0 := Lib.hid hz0
  clear hC h1 h2 h3 h4 h5 h6 h7 h8 hk hb0 hw0 h hr hK hV h0 hz0 hlen
  go_enter Tryd.func24, Tryd.ntmps24
  go_wp2_with fail
  refine HC.out.mono ?_
  rintro e w1 ⟨Bx, rfl, hx, hbx, hb1⟩
  rw [HKN.out]
  rw [HZ0.out] at hx
  have hxl : Bx < w1.heap.size := (Array.getElem?_eq_some_iff.1 hbx).1
  have hb01 := bthen HB0.out hb1
  have hres : w1.heap[w.heap.size]? = some (.cells #[.int .i64 0, .int .i64 0, .int .i64 0, .int .i64 0, .int .i64 0, .slice none 0 0, .slice none 0 0, .slice none 0 0] 38 (0, 0)) := (hb1.block w.heap.size (by rw [HZ0.out]; exact Nat.lt_succ_self _)).trans HW0.out
  have hn1 := p_num_ok (s := ((2 : Int), (0 : Int))) hbx (HR.out.below hb01)
  rw [H1.out] at hn1
  have HN1 := Lib.hid hn1
  have HF1 := Lib.hid (And.intro hres (And.intro hb01 (And.intro hx hxl)))
  clear hbx hb01 hres hb1 hx hxl hn1
  go_wp2_with fail
  refine HN1.out.mono ?_
  rintro e w2 ⟨rfl, hrd⟩
  have hwx : w.heap.size < Bx := Nat.lt_of_succ_le HF1.out.2.2.1
  obtain ⟨Bq, hBq⟩ : ∃ Bq, Bq = w2.heap.size := ⟨_, rfl⟩
  have hxq : Bx < Bq := by
    have := hrd.grown.size
    have := HF1.out.2.2.2
    omega
  have HG0 : Hid (Gm 77 38 w (w2.alloc (.cells #[.int .i64 (K : Int), .int .i64 V, .int .i64 z1, .int .i64 0, .int .i64 0, .slice none 0 0, .slice none 0 0, .slice none 0 0] 38)) Bx Bq A n c [(w.heap.size, .cells #[.int .i64 0, .int .i64 0, .int .i64 0, .int .i64 0, .int .i64 0, .slice none 0 0, .slice none 0 0, .slice none 0 0] 38 (0, 0))] s1 #[.int .i64 (K : Int), .int .i64 V, .int .i64 z1, .int .i64 0, .int .i64 0, .slice none 0 0, .slice none 0 0, .slice none 0 0]) := Lib.hid (by
    have hp := bput (Below.refl _ w2) (.cells #[.int .i64 (K : Int), .int .i64 V, .int .i64 z1, .int .i64 0, .int .i64 0, .slice none 0 0, .slice none 0 0, .slice none 0 0] 38)
    have hz := hrd.grown.size
    have hg := hrd.grown
    have hxl := HF1.out.2.2.2
    refine ⟨(hp.block Bx (by omega)).trans hrd.box, ?_, fun p hpF => ?_, ⟨Nat.le_of_lt hwx, by omega⟩, ?_⟩
    · rw [hBq]; exact heap_alloc_new w2 _
    · simp only [List.mem_cons, List.not_mem_nil, or_false] at hpF
      subst hpF
      exact ⟨((hp.block w.heap.size (by omega)).trans (hg.block w.heap.size (by omega) (by simp; omega))).trans HF1.out.1, by simp only; omega, by simp only; omega⟩
    · exact bput (HF1.out.2.1.trans (below_grown hg (by omega) (fun j hj => by cases hj; omega))) _)
  clear hrd HF1 HB0 HW0 HZ0 HC HN1
  have HO := Lib.hid (And.intro hwx hxq)
  have hn2 := p_num_ok HG0.out.rd (HG0.out.bytes HR.out)
  rw [H2.out] at hn2
  have HN2 := Lib.hid hn2
  clear hn2
  go_wp2_with fail
  rw [← hBq]
  refine HN2.out.mono ?_
  rintro e w3 ⟨rfl, hrd⟩
  have hg3 := HG0.out.read hrd
  obtain ⟨cc, ff⟩ := hg3.cell 3 _ rfl
  have HG1 : Hid (Gm 77 38 w (w3.setCell ⟨Bq, 3, none⟩ (.int .i64 z2)) Bx Bq A n c [(w.heap.size, .cells #[.int .i64 0, .int .i64 0, .int .i64 0, .int .i64 0, .int .i64 0, .slice none 0 0, .slice none 0 0, .slice none 0 0] 38 (0, 0))] s2 #[.int .i64 (K : Int), .int .i64 V, .int .i64 z1, .int .i64 z2, .int .i64 0, .slice none 0 0, .slice none 0 0, .slice none 0 0]) := Lib.hid (hg3.set 3 _)
  clear hg3 hrd HN2 HG0 hwx hxq hBq
  go_upto_if 30 with fail
  clear cc ff
  obtain ⟨w4, hw4⟩ : ∃ W, W = w3.setCell ⟨Bq, 3, none⟩ (.int .i64 z2) := ⟨_, rfl⟩
  rw [← hw4] at HG1 ⊢
  clear hw4
  go_cut [4] (fun s4 wx => s4 = .pointer (some ⟨Bx, 0, none⟩) ∧ Hid (Gm 77 38 w wx Bx Bq A n c [(w.heap.size, .cells #[.int .i64 0, .int .i64 0, .int .i64 0, .int .i64 0, .int .i64 0, .slice none 0 0, .slice none 0 0, .slice none 0 0] 38 (0, 0))] s3 #[.int .i64 (K : Int), .int .i64 V, .int .i64 z1, .int .i64 z2, .int .i64 z3, .slice none 0 0, .slice none 0 0, .slice none 0 0]))
  case first =>
    by_cases hv : 1 ≤ V
    · have t1 : decide (1 ≤ V) = true := by simpa using hv
      have hh3 := H3.out
      rw [t1] at hh3
      have hn3 := p_num_ok HG1.out.rd (HG1.out.bytes HR.out)
      rw [show rnum l s2 = (z3, s3) from hh3] at hn3
      have HN3 := Lib.hid hn3
      clear hh3 hn3 hv
      rw [t1]
      go_wp2_with fail
      refine HN3.out.mono ?_
      rintro e w5 ⟨rfl, hrd⟩
      have hg4 := HG1.out.read hrd
      obtain ⟨cc, ff⟩ := hg4.cell 4 _ rfl
      have HG4 := Lib.hid (hg4.set 4 (.int .i64 z3))
      clear hg4 hrd
      go_wp2_with fail
      go_meet
      exact ⟨rfl, Lib.hid HG4.out⟩
    · have t1 : decide (1 ≤ V) = false := by simpa using hv
      have hh3 := H3.out
      rw [t1] at hh3
      obtain ⟨rfl, rfl⟩ : z3 = 0 ∧ s3 = s2 := by
        simp only [opt, ret, Bool.false_eq_true, if_false, Prod.mk.injEq] at hh3
        exact ⟨hh3.1.symm, hh3.2.symm⟩
      clear hh3 hv
      rw [t1]
      go_wp2_with fail
      go_meet
      exact ⟨rfl, Lib.hid HG1.out⟩
  case rest =>
  obtain ⟨rfl, HG⟩ := hcut
  clear HG1
  have hn4 := p_cnt_ok HG.out.rd (HG.out.bytes HR.out) 64
  rw [H4.out] at hn4
  have HN4 := Lib.hid hn4
  clear hn4
  go_wp2_with fail
  refine HN4.out.mono ?_
  rintro e w5 ⟨v1, rfl, hrd, hv1, hv2⟩
  have HG5 := Lib.hid (HG.out.read hrd)
  have hk1 : v1 ≤ 1000 ∨ s4.2 ≠ 0 := by
    by_cases hs : s4.2 = 0
    · obtain ⟨a4, e4⟩ := s4
      simp only at hs hv1
      subst hs
      have := rcnt_in H4.out
      have := hv1 rfl
      left
      omega
    · exact .inr hs
  have hn5 := p_nums_ok HG5.out.rd (HG5.out.bytes HR.out) v1 hk1 hv2
  rw [many_same (n := n1) hv1, H5.out] at hn5
  have HN5 := Lib.hid hn5
  have HLQ := Lib.hid HG5.out.ltq
  clear hrd hv1 hv2 hk1 hn5 HN4 HG
  go_wp2_with fail
  refine HN5.out.mono ?_
  rintro e w6 ⟨AI, nI, cI, rfl, ho, hrd⟩
  have hg6 := HG5.out.read hrd
  obtain ⟨cc, ff⟩ := hg6.cell 5 _ rfl
  have HG7 : Hid (Gm 77 38 w (w6.setCell ⟨Bq, 5, none⟩ (.slice AI nI cI)) Bx Bq A n c [(w.heap.size, .cells #[.int .i64 0, .int .i64 0, .int .i64 0, .int .i64 0, .int .i64 0, .slice none 0 0, .slice none 0 0, .slice none 0 0] 38 (0, 0))] s5 #[.int .i64 (K : Int), .int .i64 V, .int .i64 z1, .int .i64 z2, .int .i64 z3, .slice AI nI cI, .slice none 0 0, .slice none 0 0]) := Lib.hid (hg6.set 5 _)
  have HOI := Lib.hid (ho.set (i := 5) (v := .slice AI nI cI) HLQ.out)
  generalize w5.heap.size = B1 at *
  have hn6 := p_cnt_ok HG7.out.rd (HG7.out.bytes HR.out) 16
  rw [H6.out] at hn6
  have HN6 := Lib.hid hn6
  clear hg6 ho hrd hn6 HN5 HG5
  go_wp2_with fail
  refine HN6.out.mono ?_
  rintro e w7 ⟨v2, rfl, hrd, hv1, hv2⟩
  have HG8 := Lib.hid (HG7.out.read hrd)
  have hxb1 : Bx < B1 := by have := HLQ.out; have := HO.out.2; omega
  have HOI8 := Lib.hid (HOI.out.read hrd hxb1)
  have hk1 : v2 ≤ 1000 ∨ s6.2 ≠ 0 := by
    by_cases hs : s6.2 = 0
    · obtain ⟨a4, e4⟩ := s6
      simp only at hs hv1
      subst hs
      have := rcnt_in H6.out
      have := hv1 rfl
      left
      omega
    · exact .inr hs
  have hn7 := p_txts_ok HG8.out.rd (HG8.out.bytes HR.out) v2 hk1 hv2
  rw [many_same (n := n2) hv1, H7.out] at hn7
  have HN7 := Lib.hid hn7
  have HLQ2 := Lib.hid HG8.out.ltq
  clear hrd hv1 hv2 hk1 hn7 HN6 HG7 HOI cc ff
  go_wp2_with fail
  refine HN7.out.mono ?_
  rintro e w8 ⟨AT, nT, cT, rfl, ho, hrd⟩
  have hg9 := HG8.out.read hrd
  obtain ⟨cc, ff⟩ := hg9.cell 6 _ rfl
  have HG9 : Hid (Gm 77 38 w (w8.setCell ⟨Bq, 6, none⟩ (.slice AT nT cT)) Bx Bq A n c [(w.heap.size, .cells #[.int .i64 0, .int .i64 0, .int .i64 0, .int .i64 0, .int .i64 0, .slice none 0 0, .slice none 0 0, .slice none 0 0] 38 (0, 0))] s7 #[.int .i64 (K : Int), .int .i64 V, .int .i64 z1, .int .i64 z2, .int .i64 z3, .slice AI nI cI, .slice AT nT cT, .slice none 0 0]) := Lib.hid (hg9.set 6 _)
  have HOI9 := Lib.hid ((HOI8.out.read hrd hxb1).set (i := 6) (v := .slice AT nT cT) HLQ.out)
  have HOT9 := Lib.hid (ho.set (i := 6) (v := .slice AT nT cT) HLQ2.out)
  generalize w7.heap.size = B2 at *
  have hn8 := p_blb_ok HG9.out.rd (HG9.out.bytes HR.out) 4096 (by omega)
  rw [H8.out] at hn8
  have HN8 := Lib.hid hn8
  have HLQ3 := Lib.hid HG9.out.ltq
  clear hg9 ho hrd hn8 HN7 HG8 HOI8
  go_wp2_with fail
  refine HN8.out.mono ?_
  rintro e w9 ⟨AB, nB, cB, rfl, ho, hrd⟩
  have hxb2 : Bx < B2 := by have := HLQ2.out; have := HO.out.2; omega
  have hg10 := HG9.out.read hrd
  have hoI9 := HOI9.out.read hrd hxb1
  have hoT9 := HOT9.out.read hrd hxb2
  clear cc ff
  obtain ⟨cc, ff⟩ := hg10.cell 7 _ rfl
  have hg : Gm 77 38 w (w9.setCell ⟨Bq, 7, none⟩ (.slice AB nB cB)) Bx Bq A n c [(w.heap.size, .cells #[.int .i64 0, .int .i64 0, .int .i64 0, .int .i64 0, .int .i64 0, .slice none 0 0, .slice none 0 0, .slice none 0 0] 38 (0, 0))] s8 #[.int .i64 (K : Int), .int .i64 V, .int .i64 z1, .int .i64 z2, .int .i64 z3, .slice AI nI cI, .slice AT nT cT, .slice AB nB cB] := hg10.set 7 _
  have hoI := hoI9.set (i := 7) (v := .slice AB nB cB) HLQ.out
  have hoT := hoT9.set (i := 7) (v := .slice AB nB cB) HLQ2.out
  have hoB := ho.keptLow (grown_set w9 Bq 7 (.slice AB nB cB)) HLQ3.out
  generalize (w8.setCell ⟨Bq, 6, none⟩ (.slice AT nT cT)).heap.size = B3 at *
  have hend := p_endS_ok hg.rd (hg.bytes HR.out) (Bq := Bq) (ck := chkS ⟨(K : Int), V, z1, z2, z3, z5, z7, z8⟩)
    (fun w' hb => p_clS_ok (K : Int) V z1 z2 z3 ((hb.block Bq hg.ltq).trans hg.x) (B := (w9.setCell ⟨Bq, 7, none⟩ (.slice AB nB cB)).heap.size) ⟨hoI.rx.below hb, hoT.rx.below hb, hoB.rd.below hb⟩ hb.size)
  generalize endE l s8 (chkS ⟨(K : Int), V, z1, z2, z3, z5, z7, z8⟩) = E at *
  have HEN := Lib.hid hend
  have HG := Lib.hid hg
  have HOI := Lib.hid hoI
  have HOT := Lib.hid hoT
  have HOB := Lib.hid hoB
  have HBR : Hid (w.heap.size < B1 ∧ w.heap.size < B2 ∧ w.heap.size < B3) := Lib.hid (by have := HO.out; have := HLQ.out; have := HLQ2.out; have := HLQ3.out; omega)
  clear hg10 ho hrd hoI9 hoT9 hg hoI hoT hoB hend HN8 HG9 HOI9 HOT9 hxb1 hxb2
  go_wp2_with fail
  refine HEN.out.mono ?_
  rintro e0 w15 ⟨rfl, hb15⟩
  have hres : w15.heap[w.heap.size]? = some (.cells #[.int .i64 0, .int .i64 0, .int .i64 0, .int .i64 0, .int .i64 0, .slice none 0 0, .slice none 0 0, .slice none 0 0] 38 (0, 0)) := (hb15.block w.heap.size (by have := HG.out.ltx; have := HO.out.1; omega)).trans (HG.out.oth (w.heap.size, _) (.head _)).1
  have hxx := (hb15.block Bq HG.out.ltq).trans HG.out.x
  obtain ⟨⟨x0, x1, x2, x3, x4, x5, x6, x7⟩, -⟩ := of8 hxx
  obtain ⟨⟨d0, d1, d2, d3, d4, d5, d6, d7⟩, hf⟩ := of8 hres
  have f0 := hf 0
  have f1 := hf 1
  have f2 := hf 2
  have f3 := hf 3
  have f4 := hf 4
  have f5 := hf 5
  have f6 := hf 6
  have f7 := hf 7
  have HBB := Lib.hid (HG.out.below.trans (hb15.mono HG.out.below.size))
  have HRS := Lib.hid hres
  have HOI15 := Lib.hid (HOI.out.step hb15)
  have HOT15 := Lib.hid (HOT.out.step hb15)
  have HOB15 := Lib.hid (HOB.out.step hb15)
  clear hb15 hres hf hxx cc ff
  by_cases hE : E ≠ 0
  case pos =>
    have t1 : (E != 0) = true := by simpa using hE
    have HDE : Hid (D = (zeroS, E)) := Lib.hid (by rw [HD.out, if_pos hE])
    clear hE HD x0 x1 x2 x3 x4 x5 x6 x7 HOI15 HOT15 HOB15
    go_wp2_with fail
    change bodyPost _ _ _ _ _ (set8 w15 w.heap.size (.int .i64 0) (.int .i64 0) (.int .i64 0) (.int .i64 0) (.int .i64 0) (.slice none 0 0) (.slice none 0 0) (.slice none 0 0))
    have hs := set8_heap (a0 := .int .i64 0) (a1 := .int .i64 0) (a2 := .int .i64 0) (a3 := .int .i64 0) (a4 := .int .i64 0) (a5 := .slice none 0 0) (a6 := .slice none 0 0) (a7 := .slice none 0 0) HRS.out
    have hg := set8_grown w15 w.heap.size (.int .i64 0) (.int .i64 0) (.int .i64 0) (.int .i64 0) (.int .i64 0) (.slice none 0 0) (.slice none 0 0) (.slice none 0 0)
    clear d0 d1 d2 d3 d4 d5 d6 d7
    generalize set8 w15 w.heap.size (.int .i64 0) (.int .i64 0) (.int .i64 0) (.int .i64 0) (.int .i64 0) (.slice none 0 0) (.slice none 0 0) (.slice none 0 0) = WF at *
    obtain ⟨⟨d0, d1, d2, d3, d4, d5, d6, d7⟩, -⟩ := of8 hs
    refine bodyPost_ret (v := .tuple #[.agg #[.int .i64 0, .int .i64 0, .int .i64 0, .int .i64 0, .int .i64 0, .slice none 0 0, .slice none 0 0, .slice none 0 0], .int .i64 E]) (by simp [results, Tryd.results24, go_sem, d0, d1, d2, d3, d4, d5, d6, d7]) rfl ?_
    exact GotS.zero HDE.out (HBB.out.trans (below_grown hg HBB.out.size (fun k hk => by cases hk; exact Nat.le_refl _)))

  case neg =>
  have t1 : (E != 0) = false := by simpa using hE
  have HDE : Hid (D = (⟨(K : Int), V, z1, z2, z3, z5, z7, z8⟩, 0)) := Lib.hid (by rw [HD.out, if_neg hE])
  clear hE HD
  go_wp2_with fail
  change bodyPost _ _ _ _ _ (set8 w15 w.heap.size (.int .i64 (K : Int)) (.int .i64 V) (.int .i64 z1) (.int .i64 z2) (.int .i64 z3) (.slice AI nI cI) (.slice AT nT cT) (.slice AB nB cB))
  have hs := set8_heap (a0 := .int .i64 (K : Int)) (a1 := .int .i64 V) (a2 := .int .i64 z1) (a3 := .int .i64 z2) (a4 := .int .i64 z3) (a5 := .slice AI nI cI) (a6 := .slice AT nT cT) (a7 := .slice AB nB cB) HRS.out
  have hg := set8_grown w15 w.heap.size (.int .i64 (K : Int)) (.int .i64 V) (.int .i64 z1) (.int .i64 z2) (.int .i64 z3) (.slice AI nI cI) (.slice AT nT cT) (.slice AB nB cB)
  clear d0 d1 d2 d3 d4 d5 d6 d7 x0 x1 x2 x3 x4 x5 x6 x7
  generalize set8 w15 w.heap.size (.int .i64 (K : Int)) (.int .i64 V) (.int .i64 z1) (.int .i64 z2) (.int .i64 z3) (.slice AI nI cI) (.slice AT nT cT) (.slice AB nB cB) = WF at *
  obtain ⟨⟨d0, d1, d2, d3, d4, d5, d6, d7⟩, -⟩ := of8 hs
  refine bodyPost_ret (v := .tuple #[.agg #[.int .i64 (K : Int), .int .i64 V, .int .i64 z1, .int .i64 z2, .int .i64 z3, .slice AI nI cI, .slice AT nT cT, .slice AB nB cB], .int .i64 0]) (by simp [results, Tryd.results24, go_sem, d0, d1, d2, d3, d4, d5, d6, d7]) rfl ?_
  rw [HDE.out]
  have hk1 := HOI15.out.kept hg (fun k hk => by cases hk; exact HBR.out.1)
  have hk2 := HOT15.out.kept hg (fun k hk => by cases hk; exact HBR.out.2.1)
  have hk3 := HOB15.out.keptLow hg HBR.out.2.2
  exact ⟨AI, nI, cI, AT, nT, cT, AB, nB, cB, rfl, ⟨hk1.rx, hk2.rx, hk3.rd⟩, HBB.out.trans (below_grown hg HBB.out.size (fun k hk => by cases hk; exact Nat.le_refl _))⟩

theorem p_getS_ok {w : World} {A : Option Addr} {n c : Nat} {l : List UInt8} (h : Rd w w.heap.size A n c l) : Calls Tryd.prog 24 #[.slice A n c] w (GotS w (decS l)) := by
  by_cases h2 : l.length < 2
  · exact p_getS_short h h2
  · by_cases hk : knownE (kindOf l) (verOf l) = 0
    · exact p_getS_main h h2 hk
    · exact p_getS_known h h2 hk
end Go.Proofs.YtlijagbklopipaaDoor
