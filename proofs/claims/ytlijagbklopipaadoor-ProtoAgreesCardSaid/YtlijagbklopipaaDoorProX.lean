/-
  Contract of proto.GetReq, where kind and version are known. Conditions: those that it states.
-/
import Derived.Deep.DeepCutAuto
import Derived.Test.YtlijagbklopipaaDoorProW
namespace Go.Proofs.YtlijagbklopipaaDoor
open Go.RowKit
set_option linter.unusedVariables false

theorem rtn_le {k : Nat} (hk : k < 13) {l : List UInt8} {s : St} {z a : Int} (h : rtn (k : Int) l s = (z, (a, 0))) : z ≤ 15 := by
  unfold rtn at h
  split at h
  · split at h
    · simp at h
    · rename_i h1 h2
      obtain ⟨v, b, e, hq⟩ : ∃ v b e, rnum l s = (v, (b, e)) := ⟨_, _, _, rfl⟩
      rw [hq] at h h2
      have h3 : ¬ (e = 0 ∧ (v < 3 ∨ 15 < v)) := h2
      simp only [Prod.mk.injEq] at h
      omega
  · simp only [Prod.mk.injEq] at h
    have := (sh_small ⟨k, hk⟩).2
    simp only at this
    omega
theorem rtn7a {l : List UInt8} {s : St} {v a e : Int} (h : rnum l s = (v, (a, e))) (h1 : e = 0 ∧ (v < 3 ∨ 15 < v)) : rtn 7 l s = (v, (a, 11)) := by unfold rtn; rw [if_pos rfl, h]; simp only; rw [if_pos h1]
theorem rtn7b {l : List UInt8} {s : St} {v a e : Int} (h : rnum l s = (v, (a, e))) (h1 : ¬ (e = 0 ∧ (v < 3 ∨ 15 < v))) : rtn 7 l s = (v, (a, e)) := by unfold rtn; rw [if_pos rfl, h]; simp only; rw [if_neg h1]
theorem rtnN {k : Int} (hk : ¬ k = 7) (l : List UInt8) (s : St) : rtn k l s = ((shT k : Int), s) := by unfold rtn; rw [if_neg hk]

/-- Three numbers' lists have been read. -/
def C2 (Tx Tq : TypeId) (w0 w : World) (Bx Bq : Nat) (A : Option Addr) (n c : Nat) (F : List (Nat × Obj)) (s : St) (q : Array Value) (B1 : Nat) (AI : Option Addr) (nI cI : Nat) (zs : List Int) : Prop :=
  Gm Tx Tq w0 w Bx Bq A n c F s q ∧ Ow 3 w B1 AI nI cI (iv zs) ∧ Bq < B1
def C3 (Tx Tq : TypeId) (w0 w : World) (Bx Bq : Nat) (A : Option Addr) (n c : Nat) (F : List (Nat × Obj)) (s : St) (Q : Option Addr → Nat → Nat → Array Value) (B1 : Nat) (AI : Option Addr) (nI cI : Nat) (zs : List Int) (ts : List (List UInt8)) : Prop :=
  ∃ AT nT cT B2, Gm Tx Tq w0 w Bx Bq A n c F s (Q AT nT cT) ∧ Ow 3 w B1 AI nI cI (iv zs) ∧ Ow 9 w B2 AT nT cT (sv ts) ∧ Bq < B1 ∧ Bq < B2
def C4 (Tx Tq : TypeId) (w0 w : World) (Bx Bq : Nat) (A : Option Addr) (n c : Nat) (F : List (Nat × Obj)) (s : St) (Q : Option Addr → Nat → Nat → Array Value) (B1 : Nat) (AI : Option Addr) (nI cI : Nat) (zs : List Int) (B2 : Nat) (AT : Option Addr) (nT cT : Nat) (ts : List (List UInt8)) (bs : List UInt8) : Prop :=
  ∃ AB nB cB B3, Gm Tx Tq w0 w Bx Bq A n c F s (Q AB nB cB) ∧ Ow 3 w B1 AI nI cI (iv zs) ∧ Ow 9 w B2 AT nT cT (sv ts) ∧ Own w B3 AB nB cB bs ∧ Bq < B1 ∧ Bq < B2 ∧ Bq < B3

set_option maxRecDepth 100000 in
set_option maxHeartbeats 4000000 in
theorem p_getQ_main {w : World} (hs : Shp w) {A : Option Addr} {n c : Nat} {l : List UInt8} (h : Rd w w.heap.size A n c l) (h0 : ¬ l.length < 2) (hk : knownE (kindOf l) (verOf l) = 0) :
    Calls Tryd.prog 16 #[.slice A n c] w (GotQ w (decQ l)) := by
  have hlen := h.len
  have hcap := h.cap
  have htop := h.top
  have hr := h.alloc (Nat.le_refl _) (.cells #[.int .i64 0, .int .i64 0, .int .i64 0, .string { data := #[] }, .slice none 0 0, .slice none 0 0, .slice none 0 0] 26)
  have hC := p_beg_ok hr h0
  obtain ⟨i1, i2, i3, i4⟩ := known_ok hk
  obtain ⟨K, hK⟩ := Int.eq_ofNat_of_zero_le (show 0 ≤ kindOf l by omega)
  obtain ⟨V, hV⟩ : ∃ V, verOf l = V := ⟨_, rfl⟩
  rw [hK, hV] at hC hk
  rw [hK] at i1 i2
  rw [hV] at i3 i4
  obtain ⟨z1, s1, h1⟩ : ∃ z s, rnum l (2, 0) = (z, s) := ⟨_, _, rfl⟩
  obtain ⟨z2, s2, h2⟩ : ∃ z s, opt (decide (2 ≤ V)) rtxt [] l s1 = (z, s) := ⟨_, _, rfl⟩
  obtain ⟨z3, s3, h3⟩ : ∃ z s, rmany rnum (shI (K : Int)) l s2 = (z, s) := ⟨_, _, rfl⟩
  obtain ⟨z4, s4, h4⟩ : ∃ z s, rtn (K : Int) l s3 = (z, s) := ⟨_, _, rfl⟩
  obtain ⟨z5, s5, h5⟩ : ∃ z s, rmany rtxt z4.toNat l s4 = (z, s) := ⟨_, _, rfl⟩
  obtain ⟨z6, s6, h6⟩ : ∃ z s, opt (decide ((K : Int) = 2)) (rblb 2048) [] l s5 = (z, s) := ⟨_, _, rfl⟩
  have HD := Lib.hid (decQ_steps h0 hK hV hk h1 h2 h3 h4 h5 h6)
  have hwl : z2.length ≤ l.length := by
    unfold opt at h2
    split at h2
    · have := rtxt_len l s1
      rw [h2] at this
      exact this
    · simp only [ret, Prod.mk.injEq] at h2
      rw [← h2.1]
      exact Nat.zero_le _
  have HWL : Hid (z2.length ≤ 9223372036854775807) := Lib.hid (by omega)
  generalize decQ l = D at *
  have hsm := sh_small ⟨K, by omega⟩
  simp only at hsm
  have hsm4 : shM (K : Int) = if K = 7 then 12 else 0 := by unfold shM; split <;> split <;> omega
  have hsb4 : shB (K : Int) = if K = 2 then 2048 else 0 := by unfold shB; split <;> split <;> omega
  have hs12 : shM (K : Int) ≤ 12 := by rw [hsm4]; split <;> omega
  have HM4 := Lib.hid hsm4
  have HB4 := Lib.hid hsb4
  have hb0 := bput (Below.refl _ w) (.cells #[.int .i64 0, .int .i64 0, .int .i64 0, .string { data := #[] }, .slice none 0 0, .slice none 0 0, .slice none 0 0] 26)
  have hw0 := heap_alloc_new w (.cells #[.int .i64 0, .int .i64 0, .int .i64 0, .string { data := #[] }, .slice none 0 0, .slice none 0 0, .slice none 0 0] 26)
  have HC := Lib.hid hC
  have H1 := Lib.hid h1
  have H2 := Lib.hid h2
  have H3 := Lib.hid h3
  have H4 := Lib.hid h4
  have H5 := Lib.hid h5
  have H6 := Lib.hid h6
  have HKN := Lib.hid hk
  have HB0 := Lib.hid hb0
  have HW0 := Lib.hid hw0
  have HS := Lib.hid hs
  have HR := Lib.hid h
  have HK13 : Hid (K < 13) := Lib.hid (by omega)
  have HK1 : Hid (1 ≤ K) := Lib.hid (by omega)
  have j1 : (0 : Int) ≤ (K : Int) := by omega
  have j2 : (K : Int) < 13 := by omega
  have hz0 : (w.alloc (.cells #[.int .i64 0, .int .i64 0, .int .i64 0, .string { data := #[] }, .slice none 0 0, .slice none 0 0, .slice none 0 0] 26)).heap.size = w.heap.size + 1 := by simp
  have HZ0 := Lib.hid hz0
  clear hC h1 h2 h3 h4 h5 h6 hk hb0 hw0 hs h hr hsm4 hsb4 hwl hK hV h0 hz0 hlen
  go_enter Tryd.func16, Tryd.ntmps16
  go_wp2_with fail
  refine HC.out.mono ?_
  rintro e w1 ⟨Bx, rfl, hx, hbx, hb1⟩
  rw [HKN.out]
  rw [HZ0.out] at hx
  have hxl : Bx < w1.heap.size := (Array.getElem?_eq_some_iff.1 hbx).1
  have hb01 := bthen HB0.out hb1
  have hs1 := HS.out.on hb01
  obtain ⟨c0, c1, c2, c3⟩ := hs1.at (k := K) HK13.out
  have hs1z := hs1.1
  have hres : w1.heap[w.heap.size]? = some (.cells #[.int .i64 0, .int .i64 0, .int .i64 0, .string { data := #[] }, .slice none 0 0, .slice none 0 0, .slice none 0 0] 26 (0, 0)) := (hb1.block w.heap.size (by rw [HZ0.out]; exact Nat.lt_succ_self _)).trans HW0.out
  have HBX := Lib.hid hbx
  have HB01 := Lib.hid hb01
  have HRES := Lib.hid hres
  have HXL := Lib.hid hxl
  have HX := Lib.hid hx
  clear hbx hb01 hres hb1 hs1 hx hxl
  go_wp2_with fail
  obtain ⟨W1, hW1⟩ : ∃ W, W = w1.alloc (.cells #[.int .i64 ((shI (K : Int) : Nat) : Int), .int .i64 ((shT (K : Int) : Nat) : Int), .int .i64 ((shM (K : Int) : Nat) : Int), .int .i64 ((shB (K : Int) : Nat) : Int)] 59) := ⟨_, rfl⟩
  have b1 : Below w1.heap.size w1 W1 := by rw [hW1]; exact bput (Below.refl _ w1) _
  have r1 := (b1.block Bx HXL.out).trans HBX.out
  have sh1 : W1.heap[w1.heap.size]? = some (.cells #[.int .i64 ((shI (K : Int) : Nat) : Int), .int .i64 ((shT (K : Int) : Nat) : Int), .int .i64 ((shM (K : Int) : Nat) : Int), .int .i64 ((shB (K : Int) : Nat) : Int)] 59 (0, 0)) := by rw [hW1]; exact heap_alloc_new w1 _
  have rs1 := (b1.block w.heap.size (Nat.lt_of_lt_of_le (Nat.lt_of_succ_le HX.out) (Nat.le_of_lt HXL.out))).trans HRES.out
  have bb1 := bthen HB01.out b1
  have hn1 := p_num_ok (s := ((2 : Int), (0 : Int))) r1 (HR.out.below bb1)
  rw [H1.out] at hn1
  have HN1 := Lib.hid hn1
  rw [← hW1]
  have HF1 := Lib.hid (And.intro sh1 (And.intro rs1 bb1))
  have HSZ1 : Hid (W1.heap.size = w1.heap.size + 1) := Lib.hid (by rw [hW1]; simp)
  clear hn1 b1 r1 sh1 rs1 bb1 hW1 c0 c1 c2 c3 hs1z
  refine HN1.out.mono ?_
  rintro e w2 ⟨rfl, hrd⟩
  obtain ⟨Bs, hBs⟩ : ∃ Bs, Bs = w1.heap.size := ⟨_, rfl⟩
  have hBxs : Bx < Bs := by rw [hBs]; exact HXL.out
  have hwx : w.heap.size < Bx := Nat.lt_of_succ_le HX.out
  obtain ⟨Bq, hBq⟩ : ∃ Bq, Bq = w2.heap.size := ⟨_, rfl⟩
  have hsq : Bs < Bq := by
    have := hrd.grown.size
    rw [HSZ1.out] at this
    omega
  have HG0 : Hid (Gm 77 26 w (w2.alloc (.cells #[.int .i64 (K : Int), .int .i64 V, .int .i64 z1, .string { data := #[] }, .slice none 0 0, .slice none 0 0, .slice none 0 0] 26)) Bx Bq A n c [(w.heap.size, .cells #[.int .i64 0, .int .i64 0, .int .i64 0, .string { data := #[] }, .slice none 0 0, .slice none 0 0, .slice none 0 0] 26 (0, 0)), (Bs, .cells #[.int .i64 ((shI (K : Int) : Nat) : Int), .int .i64 ((shT (K : Int) : Nat) : Int), .int .i64 ((shM (K : Int) : Nat) : Int), .int .i64 ((shB (K : Int) : Nat) : Int)] 59 (0, 0))] s1 #[.int .i64 (K : Int), .int .i64 V, .int .i64 z1, .string { data := #[] }, .slice none 0 0, .slice none 0 0, .slice none 0 0]) := Lib.hid (by
    have hp := bput (Below.refl _ w2) (.cells #[.int .i64 (K : Int), .int .i64 V, .int .i64 z1, .string { data := #[] }, .slice none 0 0, .slice none 0 0, .slice none 0 0] 26)
    have hz := hrd.grown.size
    rw [HSZ1.out, ← hBs] at hz
    have hg := hrd.grown
    refine ⟨(hp.block Bx (by omega)).trans hrd.box, ?_, fun p hpF => ?_, ⟨Nat.le_of_lt hwx, by omega⟩, ?_⟩
    · rw [hBq]; exact heap_alloc_new w2 _
    · simp only [List.mem_cons, List.not_mem_nil, or_false] at hpF
      rcases hpF with rfl | rfl
      · exact ⟨((hp.block w.heap.size (by omega)).trans (hg.block w.heap.size (by rw [HSZ1.out, ← hBs]; omega) (by simp; omega))).trans HF1.out.2.1, by simp only; omega, by simp only; omega⟩
      · exact ⟨((hp.block Bs (by omega)).trans (hg.block Bs (by rw [HSZ1.out, ← hBs]; omega) (by simp; omega))).trans (by rw [hBs]; exact HF1.out.1), by simp only; omega, by simp only; omega⟩
    · exact bput (HF1.out.2.2.trans (below_grown hg (by rw [HSZ1.out, ← hBs]; omega) (fun j hj => by cases hj; omega))) _)
  clear hrd HF1 HSZ1 HXL HX HBX HB01 HRES HB0 HW0 HZ0 HC HN1
  have HO := Lib.hid (And.intro hwx (And.intro hBxs hsq))
  go_upto_if 32 with fail
  rw [← hBs, ← hBq]
  clear hwx hBxs hsq hBs
  obtain ⟨W3, hW3⟩ : ∃ W, W = w2.alloc (.cells #[.int .i64 (K : Int), .int .i64 V, .int .i64 z1, .string { data := #[] }, .slice none 0 0, .slice none 0 0, .slice none 0 0] 26) := ⟨_, rfl⟩
  rw [← hW3] at HG0 ⊢
  clear hW3 hBq
  go_cut [4] (fun s4 wx => s4 = .pointer (some ⟨Bx, 0, none⟩) ∧ Hid (Gm 77 26 w wx Bx Bq A n c [(w.heap.size, .cells #[.int .i64 0, .int .i64 0, .int .i64 0, .string { data := #[] }, .slice none 0 0, .slice none 0 0, .slice none 0 0] 26 (0, 0)), (Bs, .cells #[.int .i64 ((shI (K : Int) : Nat) : Int), .int .i64 ((shT (K : Int) : Nat) : Int), .int .i64 ((shM (K : Int) : Nat) : Int), .int .i64 ((shB (K : Int) : Nat) : Int)] 59 (0, 0))] s2 #[.int .i64 (K : Int), .int .i64 V, .int .i64 z1, (.string (strOf z2)), .slice none 0 0, .slice none 0 0, .slice none 0 0]))
  case first =>
    by_cases hv : 2 ≤ V
    · have t1 : decide (2 ≤ V) = true := by simpa using hv
      have hh2 := H2.out
      rw [t1] at hh2
      have hn2 := p_txt_ok HG0.out.rd (HG0.out.bytes HR.out)
      rw [show rtxt l s1 = (z2, s2) from hh2] at hn2
      have HN2 := Lib.hid hn2
      clear hh2 hn2 hv
      rw [t1]
      go_wp2_with fail
      refine HN2.out.mono ?_
      rintro e w4 ⟨rfl, hrd⟩
      have hg4 := HG0.out.read hrd
      obtain ⟨cc, ff⟩ := hg4.cell 3 _ rfl
      have HG4 := Lib.hid (hg4.set 3 (.string (strOf z2)))
      clear hg4 hrd
      go_wp2_with fail
      go_meet
      exact ⟨rfl, Lib.hid HG4.out⟩
    · have t1 : decide (2 ≤ V) = false := by simpa using hv
      have hh2 := H2.out
      rw [t1] at hh2
      obtain ⟨rfl, rfl⟩ : z2 = [] ∧ s2 = s1 := by
        simp only [opt, ret, Bool.false_eq_true, if_false, Prod.mk.injEq] at hh2
        exact ⟨hh2.1.symm, hh2.2.symm⟩
      clear hh2 hv
      rw [t1]
      go_wp2_with fail
      go_meet
      exact ⟨rfl, Lib.hid HG0.out⟩
  case rest =>
  obtain ⟨rfl, HG⟩ := hcut
  clear HG0
  obtain ⟨w5, hw5⟩ : ∃ x, x = wc := ⟨_, rfl⟩
  subst hw5
  have hsh := of4 ((HG.out.oth (Bs, _) (.tail _ (.head _))).1)
  obtain ⟨c0, c1, c2, c3⟩ := hsh
  have hn3 := p_nums_ok HG.out.rd (HG.out.bytes HR.out) ((shI (K : Int) : Nat) : Int) (.inl (by omega)) (by omega)
  rw [Int.toNat_natCast, H3.out] at hn3
  have HN3 := Lib.hid hn3
  have HLQ := Lib.hid HG.out.ltq
  have HOB := Lib.hid HO.out.2.1
  clear hn3
  go_wp2_with fail
  refine HN3.out.mono ?_
  rintro e w6 ⟨AI, nI, cI, rfl, ho, hrd⟩
  have hg6 := HG.out.read hrd
  obtain ⟨cc, ff⟩ := hg6.cell 4 _ rfl
  have hg7 := hg6.set 4 (.slice AI nI cI)
  have ho7 := ho.set (i := 4) (v := .slice AI nI cI) HLQ.out
  have HG7 : Hid (C2 77 26 w (w6.setCell ⟨Bq, 4, none⟩ (.slice AI nI cI)) Bx Bq A n c [(w.heap.size, .cells #[.int .i64 0, .int .i64 0, .int .i64 0, .string { data := #[] }, .slice none 0 0, .slice none 0 0, .slice none 0 0] 26 (0, 0)), (Bs, .cells #[.int .i64 ((shI (K : Int) : Nat) : Int), .int .i64 ((shT (K : Int) : Nat) : Int), .int .i64 ((shM (K : Int) : Nat) : Int), .int .i64 ((shB (K : Int) : Nat) : Int)] 59 (0, 0))] s3 #[.int .i64 (K : Int), .int .i64 V, .int .i64 z1, (.string (strOf z2)), .slice AI nI cI, .slice none 0 0, .slice none 0 0] w5.heap.size AI nI cI z3) := Lib.hid ⟨hg7, ho7, HLQ.out⟩
  obtain ⟨c0, c1, c2, c3⟩ := of4 ((hg6.oth (Bs, _) (.tail _ (.head _))).1)
  have hne : Bs ≠ Bq := by have := HO.out.2.2; omega
  generalize w5.heap.size = B1 at *
  clear hg6 hg7 ho7 ho hrd HG HN3 HLQ
  go_upto_if 47 with fail
  obtain ⟨w7, hw7⟩ : ∃ W, W = w6.setCell ⟨Bq, 4, none⟩ (.slice AI nI cI) := ⟨_, rfl⟩
  rw [← hw7] at HG7 ⊢
  clear hw7 cc ff c0 c1 c2 c3
  go_cut [10] (fun s10 wx => s10 = .int .i64 z4 ∧ Hid (C2 77 26 w wx Bx Bq A n c [(w.heap.size, .cells #[.int .i64 0, .int .i64 0, .int .i64 0, .string { data := #[] }, .slice none 0 0, .slice none 0 0, .slice none 0 0] 26 (0, 0)), (Bs, .cells #[.int .i64 ((shI (K : Int) : Nat) : Int), .int .i64 ((shT (K : Int) : Nat) : Int), .int .i64 ((shM (K : Int) : Nat) : Int), .int .i64 ((shB (K : Int) : Nat) : Int)] 59 (0, 0))] s4 #[.int .i64 (K : Int), .int .i64 V, .int .i64 z1, (.string (strOf z2)), .slice AI nI cI, .slice none 0 0, .slice none 0 0] B1 AI nI cI z3))
  case first =>
    by_cases hv : K = 7
    · have t1 : decide (0 < shM (K : Int)) = true := by rw [HM4.out, if_pos hv]; rfl
      have e3 : shT (K : Int) = 3 := by rw [hv]; rfl
      have e12 : shM (K : Int) = 12 := by rw [HM4.out, if_pos hv]
      have hh4 := H4.out
      rw [show ((K : Nat) : Int) = 7 by omega] at hh4
      obtain ⟨v, a, e, hq⟩ : ∃ v a e, rnum l s3 = (v, (a, e)) := ⟨_, _, _, rfl⟩
      have hn4 := p_num_ok HG7.out.1.rd (HG7.out.1.bytes HR.out)
      rw [hq] at hn4
      have HN4 := Lib.hid hn4
      have hxb1 : Bx < B1 := by have := HG7.out.2.2; have := HG7.out.1.low; omega
      have E3 := Lib.hid e3
      have E12 := Lib.hid e12
      have HH4 := Lib.hid hh4
      clear hn4 hv e3 e12 hh4
      rw [t1]
      go_wp2_with fail
      refine HN4.out.mono ?_
      rintro e0 w8 ⟨rfl, hrd⟩
      have hg8 := HG7.out.1.read hrd
      have ho8 := HG7.out.2.1.read hrd hxb1
      obtain ⟨ce, fe⟩ := hg8.ecell
      obtain ⟨c0, c1, c2, c3⟩ := of4 ((hg8.oth (Bs, _) (.tail _ (.head _))).1)
      by_cases hbad : e = 0 ∧ (v < 3 ∨ 15 < v)
      · have hh4 := HH4.out
        rw [rtn7a hq hbad] at hh4
        simp only [Prod.mk.injEq] at hh4
        obtain ⟨rfl, rfl⟩ := hh4
        clear HH4
        have HG9 : Hid (C2 77 26 w (w8.setCell ⟨Bx, 2, none⟩ (.int .i64 11)) Bx Bq A n c [(w.heap.size, .cells #[.int .i64 0, .int .i64 0, .int .i64 0, .string { data := #[] }, .slice none 0 0, .slice none 0 0, .slice none 0 0] 26 (0, 0)), (Bs, .cells #[.int .i64 ((shI (K : Int) : Nat) : Int), .int .i64 ((shT (K : Int) : Nat) : Int), .int .i64 ((shM (K : Int) : Nat) : Int), .int .i64 ((shB (K : Int) : Nat) : Int)] 59 (0, 0))] (a, 11) #[.int .i64 (K : Int), .int .i64 V, .int .i64 z1, (.string (strOf z2)), .slice AI nI cI, .slice none 0 0, .slice none 0 0] B1 AI nI cI z3) := Lib.hid ⟨hg8.setE 11, ho8.set hxb1, HG7.out.2.2⟩
        clear hg8 ho8 hrd HN4 hq HG7
        obtain ⟨rfl, hr3⟩ := hbad
        by_cases hv3 : v < 3
        · have t2 : decide (v < ((shT (K : Int) : Nat) : Int)) = true := by rw [E3.out]; simpa using hv3
          clear hr3 hv3 E3 E12
          go_wp2_with fail
          go_meet
          exact ⟨rfl, HG9⟩
        · have t2 : decide (v < ((shT (K : Int) : Nat) : Int)) = false := by rw [E3.out]; simpa using hv3
          have t3 : decide (((shT (K : Int) : Nat) : Int) + ((shM (K : Int) : Nat) : Int) < v) = true := by rw [E3.out, E12.out]; simp only [decide_eq_true_eq]; omega
          clear hr3 hv3 E3 E12
          go_wp2_with fail
          go_meet
          exact ⟨rfl, HG9⟩
      · have hh4 := HH4.out
        rw [rtn7b hq hbad] at hh4
        simp only [Prod.mk.injEq] at hh4
        obtain ⟨rfl, rfl⟩ := hh4
        clear HH4
        have HG9 : Hid (C2 77 26 w w8 Bx Bq A n c [(w.heap.size, .cells #[.int .i64 0, .int .i64 0, .int .i64 0, .string { data := #[] }, .slice none 0 0, .slice none 0 0, .slice none 0 0] 26 (0, 0)), (Bs, .cells #[.int .i64 ((shI (K : Int) : Nat) : Int), .int .i64 ((shT (K : Int) : Nat) : Int), .int .i64 ((shM (K : Int) : Nat) : Int), .int .i64 ((shB (K : Int) : Nat) : Int)] 59 (0, 0))] (a, e) #[.int .i64 (K : Int), .int .i64 V, .int .i64 z1, (.string (strOf z2)), .slice AI nI cI, .slice none 0 0, .slice none 0 0] B1 AI nI cI z3) := Lib.hid ⟨hg8, ho8, HG7.out.2.2⟩
        clear hg8 ho8 hrd HN4 hq HG7
        by_cases he : e = 0
        · subst he
          have t2 : decide (v < ((shT (K : Int) : Nat) : Int)) = false := by rw [E3.out]; simp only [decide_eq_false_iff_not]; omega
          have t3 : decide (((shT (K : Int) : Nat) : Int) + ((shM (K : Int) : Nat) : Int) < v) = false := by rw [E3.out, E12.out]; simp only [decide_eq_false_iff_not]; omega
          clear hbad E3 E12
          go_wp2_with fail
          go_meet
          exact ⟨rfl, HG9⟩
        · have t2 : (e == 0) = false := by simpa using he
          clear hbad E3 E12 he
          go_wp2_with fail
          go_meet
          exact ⟨rfl, HG9⟩
    · have t1 : decide (0 < shM (K : Int)) = false := by rw [HM4.out, if_neg hv]; rfl
      have hh4 := H4.out
      rw [rtnN (by omega)] at hh4
      simp only [Prod.mk.injEq] at hh4
      obtain ⟨rfl, rfl⟩ := hh4
      clear hv
      rw [t1]
      go_wp2_with fail
      go_meet
      exact ⟨rfl, HG7⟩
  case rest =>
  obtain ⟨rfl, HG⟩ := hcut
  clear HG7
  obtain ⟨w10, hw10⟩ : ∃ x, x = wc := ⟨_, rfl⟩
  subst hw10
  obtain ⟨a4, e4⟩ := s4
  obtain ⟨ce, fe⟩ := HG.out.1.ecell
  go_upto_if 77 with fail
  clear ce fe
  go_cut [4] (fun s4' wx => s4' = .pointer (some ⟨Bx, 0, none⟩) ∧ Hid (C3 77 26 w wx Bx Bq A n c [(w.heap.size, .cells #[.int .i64 0, .int .i64 0, .int .i64 0, .string { data := #[] }, .slice none 0 0, .slice none 0 0, .slice none 0 0] 26 (0, 0)), (Bs, .cells #[.int .i64 ((shI (K : Int) : Nat) : Int), .int .i64 ((shT (K : Int) : Nat) : Int), .int .i64 ((shM (K : Int) : Nat) : Int), .int .i64 ((shB (K : Int) : Nat) : Int)] 59 (0, 0))] s5 (fun AT nT cT => #[.int .i64 (K : Int), .int .i64 V, .int .i64 z1, (.string (strOf z2)), .slice AI nI cI, .slice AT nT cT, .slice none 0 0]) B1 AI nI cI z3 z5))
  case first =>
    have hxb1 : Bx < B1 := by have := HG.out.2.2; have := HG.out.1.low; omega
    by_cases he : e4 = 0
    · subst he
      have hle := rtn_le HK13.out H4.out
      have hn5 := p_txts_ok HG.out.1.rd (HG.out.1.bytes HR.out) z4 (.inl (by omega)) (by omega)
      rw [H5.out] at hn5
      have HN5 := Lib.hid hn5
      have HLQ := Lib.hid HG.out.1.ltq
      clear hn5 hle
      go_wp2_with fail
      refine HN5.out.mono ?_
      rintro e0 w11 ⟨AT, nT, cT, rfl, ho, hrd⟩
      have hg11 := HG.out.1.read hrd
      have ho1 := HG.out.2.1.read hrd hxb1
      obtain ⟨cc, ff⟩ := hg11.cell 5 _ rfl
      have HG12 : Hid (C3 77 26 w (w11.setCell ⟨Bq, 5, none⟩ (.slice AT nT cT)) Bx Bq A n c [(w.heap.size, .cells #[.int .i64 0, .int .i64 0, .int .i64 0, .string { data := #[] }, .slice none 0 0, .slice none 0 0, .slice none 0 0] 26 (0, 0)), (Bs, .cells #[.int .i64 ((shI (K : Int) : Nat) : Int), .int .i64 ((shT (K : Int) : Nat) : Int), .int .i64 ((shM (K : Int) : Nat) : Int), .int .i64 ((shB (K : Int) : Nat) : Int)] 59 (0, 0))] s5 (fun AT nT cT => #[.int .i64 (K : Int), .int .i64 V, .int .i64 z1, (.string (strOf z2)), .slice AI nI cI, .slice AT nT cT, .slice none 0 0]) B1 AI nI cI z3 z5) := Lib.hid ⟨AT, nT, cT, _, hg11.set 5 _, ho1.set HG.out.2.2, ho.set HLQ.out, HG.out.2.2, HLQ.out⟩
      clear hg11 ho1 ho hrd HN5 HLQ
      go_wp2_with fail
      go_meet
      exact ⟨rfl, HG12⟩
    · have t1 : (e4 == 0) = false := by simpa using he
      have hh5 := H5.out
      rw [rmany_stuck _ _ _ he] at hh5
      simp only [Prod.mk.injEq] at hh5
      obtain ⟨rfl, rfl⟩ := hh5
      have HG12 : Hid (C3 77 26 w w10 Bx Bq A n c [(w.heap.size, .cells #[.int .i64 0, .int .i64 0, .int .i64 0, .string { data := #[] }, .slice none 0 0, .slice none 0 0, .slice none 0 0] 26 (0, 0)), (Bs, .cells #[.int .i64 ((shI (K : Int) : Nat) : Int), .int .i64 ((shT (K : Int) : Nat) : Int), .int .i64 ((shM (K : Int) : Nat) : Int), .int .i64 ((shB (K : Int) : Nat) : Int)] 59 (0, 0))] (a4, e4) (fun AT nT cT => #[.int .i64 (K : Int), .int .i64 V, .int .i64 z1, (.string (strOf z2)), .slice AI nI cI, .slice AT nT cT, .slice none 0 0]) B1 AI nI cI z3 []) := Lib.hid ⟨none, 0, 0, B1, HG.out.1, HG.out.2.1, Ow.nil _ _ _, HG.out.2.2, HG.out.2.2⟩
      clear he
      rw [t1]
      go_wp2_with fail
      go_meet
      exact ⟨rfl, HG12⟩
  case rest =>
  obtain ⟨rfl, HG3⟩ := hcut
  clear HG
  obtain ⟨w12, hw12⟩ : ∃ x, x = wc := ⟨_, rfl⟩
  subst hw12
  obtain ⟨AT, nT, cT, B2, hg, hoI, hoT, hq1, hq2⟩ := HG3.out
  obtain ⟨c0, c1, c2, c3⟩ := of4 ((hg.oth (Bs, _) (.tail _ (.head _))).1)
  have HG := Lib.hid hg
  have HOI := Lib.hid hoI
  have HOT := Lib.hid hoT
  have HQ1 := Lib.hid hq1
  have HQ2 := Lib.hid hq2
  clear HG3 hg hoI hoT hq1 hq2
  go_upto_if 86 with fail
  go_cut [4] (fun s4' wx => s4' = .pointer (some ⟨Bx, 0, none⟩) ∧ Hid (C4 77 26 w wx Bx Bq A n c [(w.heap.size, .cells #[.int .i64 0, .int .i64 0, .int .i64 0, .string { data := #[] }, .slice none 0 0, .slice none 0 0, .slice none 0 0] 26 (0, 0)), (Bs, .cells #[.int .i64 ((shI (K : Int) : Nat) : Int), .int .i64 ((shT (K : Int) : Nat) : Int), .int .i64 ((shM (K : Int) : Nat) : Int), .int .i64 ((shB (K : Int) : Nat) : Int)] 59 (0, 0))] s6 (fun AB nB cB => #[.int .i64 (K : Int), .int .i64 V, .int .i64 z1, (.string (strOf z2)), .slice AI nI cI, .slice AT nT cT, .slice AB nB cB]) B1 AI nI cI z3 B2 AT nT cT z5 z6))
  case first =>
    have hlow := HG.out.low
    have hxb1 : Bx < B1 := by have := HQ1.out; omega
    have hxb2 : Bx < B2 := by have := HQ2.out; omega
    by_cases hv : K = 2
    · have t1 : decide (0 < shB (K : Int)) = true := by rw [HB4.out, if_pos hv]; rfl
      have e3 : shB (K : Int) = 2048 := by rw [HB4.out, if_pos hv]
      have hn6 := p_blb_ok HG.out.rd (HG.out.bytes HR.out) ((shB (K : Int) : Nat) : Int) (by omega)
      have hh6 := H6.out
      rw [show decide ((K : Int) = 2) = true by simp only [decide_eq_true_eq]; omega] at hh6
      rw [show rblb ((shB (K : Int) : Nat) : Int) l s5 = (z6, s6) by rw [e3]; exact hh6] at hn6
      have HN6 := Lib.hid hn6
      have HLQ := Lib.hid HG.out.ltq
      clear hn6 hh6 hv e3
      rw [t1]
      go_wp2_with fail
      refine HN6.out.mono ?_
      rintro e0 w13 ⟨AB, nB, cB, rfl, ho, hrd⟩
      have hg13 := HG.out.read hrd
      obtain ⟨cc, ff⟩ := hg13.cell 6 _ rfl
      have HG14 : Hid (C4 77 26 w (w13.setCell ⟨Bq, 6, none⟩ (.slice AB nB cB)) Bx Bq A n c [(w.heap.size, .cells #[.int .i64 0, .int .i64 0, .int .i64 0, .string { data := #[] }, .slice none 0 0, .slice none 0 0, .slice none 0 0] 26 (0, 0)), (Bs, .cells #[.int .i64 ((shI (K : Int) : Nat) : Int), .int .i64 ((shT (K : Int) : Nat) : Int), .int .i64 ((shM (K : Int) : Nat) : Int), .int .i64 ((shB (K : Int) : Nat) : Int)] 59 (0, 0))] s6 (fun AB nB cB => #[.int .i64 (K : Int), .int .i64 V, .int .i64 z1, (.string (strOf z2)), .slice AI nI cI, .slice AT nT cT, .slice AB nB cB]) B1 AI nI cI z3 B2 AT nT cT z5 z6) :=
        Lib.hid ⟨AB, nB, cB, _, hg13.set 6 _, (HOI.out.read hrd hxb1).set HQ1.out, (HOT.out.read hrd hxb2).set HQ2.out, ho.keptLow (grown_set _ Bq 6 _) HLQ.out, HQ1.out, HQ2.out, HLQ.out⟩
      clear hg13 ho hrd HN6 HLQ
      go_wp2_with fail
      go_meet
      exact ⟨rfl, HG14⟩
    · have t1 : decide (0 < shB (K : Int)) = false := by rw [HB4.out, if_neg hv]; rfl
      have hh6 := H6.out
      rw [show decide ((K : Int) = 2) = false by simp only [decide_eq_false_iff_not]; omega] at hh6
      obtain ⟨rfl, rfl⟩ : z6 = [] ∧ s6 = s5 := by
        simp only [opt, ret, Bool.false_eq_true, if_false, Prod.mk.injEq] at hh6
        exact ⟨hh6.1.symm, hh6.2.symm⟩
      have HG14 : Hid (C4 77 26 w w12 Bx Bq A n c [(w.heap.size, .cells #[.int .i64 0, .int .i64 0, .int .i64 0, .string { data := #[] }, .slice none 0 0, .slice none 0 0, .slice none 0 0] 26 (0, 0)), (Bs, .cells #[.int .i64 ((shI (K : Int) : Nat) : Int), .int .i64 ((shT (K : Int) : Nat) : Int), .int .i64 ((shM (K : Int) : Nat) : Int), .int .i64 ((shB (K : Int) : Nat) : Int)] 59 (0, 0))] s6 (fun AB nB cB => #[.int .i64 (K : Int), .int .i64 V, .int .i64 z1, (.string (strOf z2)), .slice AI nI cI, .slice AT nT cT, .slice AB nB cB]) B1 AI nI cI z3 B2 AT nT cT z5 []) :=
        Lib.hid ⟨none, 0, 0, B1, HG.out, HOI.out, HOT.out, Ob.nil _ _ _, HQ1.out, HQ2.out, HQ1.out⟩
      clear hv hh6
      rw [t1]
      go_wp2_with fail
      go_meet
      exact ⟨rfl, HG14⟩
  case rest =>
  obtain ⟨rfl, HG4⟩ := hcut
  clear HG HOI HOT HQ1 HQ2 c0 c1 c2 c3
  obtain ⟨w14, hw14⟩ : ∃ x, x = wc := ⟨_, rfl⟩
  subst hw14
  obtain ⟨AB, nB, cB, B3, hg, hoI, hoT, hoB, hq1, hq2, hq3⟩ := HG4.out
  have hlow := hg.low
  have hend := p_endQ_ok hg.rd (hg.bytes HR.out) (Bq := Bq) (ck := chkQ ⟨(K : Int), V, z1, z2, z3, z5, z6⟩)
    (fun w' hb => p_clQ_ok ((HS.out.on hg.below).on hb) (K : Int) V z1 z2 ((hb.block Bq hg.ltq).trans hg.x) (B := w14.heap.size) ⟨hoI.rx.below hb, hoT.rx.below hb, hoB.rd.below hb⟩ hb.size HWL.out)
  generalize endE l s6 (chkQ ⟨(K : Int), V, z1, z2, z3, z5, z6⟩) = E at *
  have HEN := Lib.hid hend
  have HG := Lib.hid hg
  have HOI := Lib.hid hoI
  have HOT := Lib.hid hoT
  have HOB := Lib.hid hoB
  have HBR : Hid (w.heap.size < B1 ∧ w.heap.size < B2 ∧ w.heap.size < B3) := Lib.hid ⟨by omega, by omega, by omega⟩
  clear HG4 hg hoI hoT hoB hq1 hq2 hq3 hlow hend
  go_wp2_with fail
  refine HEN.out.mono ?_
  rintro e0 w15 ⟨rfl, hb15⟩
  have hres : w15.heap[w.heap.size]? = some (.cells #[.int .i64 0, .int .i64 0, .int .i64 0, .string { data := #[] }, .slice none 0 0, .slice none 0 0, .slice none 0 0] 26 (0, 0)) := (hb15.block w.heap.size (by have := HG.out.ltx; have := HO.out.1; omega)).trans (HG.out.oth (w.heap.size, _) (.head _)).1
  have hxx := (hb15.block Bq HG.out.ltq).trans HG.out.x
  obtain ⟨⟨d0, d1, d2, d3, d4, d5, d6⟩, hf⟩ := of7 hres
  obtain ⟨⟨x0, x1, x2, x3, x4, x5, x6⟩, -⟩ := of7 hxx
  have f0 := hf 0
  have f1 := hf 1
  have f2 := hf 2
  have f3 := hf 3
  have f4 := hf 4
  have f5 := hf 5
  have f6 := hf 6
  have HBB := Lib.hid (HG.out.below.trans (hb15.mono HG.out.below.size))
  have HRS := Lib.hid hres
  have HOI15 := Lib.hid (HOI.out.step hb15)
  have HOT15 := Lib.hid (HOT.out.step hb15)
  have HOB15 := Lib.hid (HOB.out.step hb15)
  clear hb15 hres hf hxx
  by_cases hE : E ≠ 0
  · have t1 : (E != 0) = true := by simpa using hE
    have HDE : Hid (D = (zeroQ, E)) := Lib.hid (by rw [HD.out, if_pos hE])
    clear hE HD x0 x1 x2 x3 x4 x5 x6 HOI15 HOT15 HOB15
    go_wp2_with fail
    change bodyPost _ _ _ _ _ (set7 w15 w.heap.size (.int .i64 0) (.int .i64 0) (.int .i64 0) (.string { data := #[] }) (.slice none 0 0) (.slice none 0 0) (.slice none 0 0))
    have hs := set7_heap (a0 := .int .i64 0) (a1 := .int .i64 0) (a2 := .int .i64 0) (a3 := .string { data := #[] }) (a4 := .slice none 0 0) (a5 := .slice none 0 0) (a6 := .slice none 0 0) HRS.out
    have hg := set7_grown w15 w.heap.size (.int .i64 0) (.int .i64 0) (.int .i64 0) (.string { data := #[] }) (.slice none 0 0) (.slice none 0 0) (.slice none 0 0)
    clear d0 d1 d2 d3 d4 d5 d6
    generalize set7 w15 w.heap.size (.int .i64 0) (.int .i64 0) (.int .i64 0) (.string { data := #[] }) (.slice none 0 0) (.slice none 0 0) (.slice none 0 0) = WF at *
    obtain ⟨⟨d0, d1, d2, d3, d4, d5, d6⟩, -⟩ := of7 hs
    refine bodyPost_ret (v := .tuple #[.agg #[.int .i64 0, .int .i64 0, .int .i64 0, .string { data := #[] }, .slice none 0 0, .slice none 0 0, .slice none 0 0], .int .i64 E]) (by simp [results, Tryd.results16, go_sem, d0, d1, d2, d3, d4, d5, d6]) rfl ?_
    exact GotQ.zero HDE.out (HBB.out.trans (below_grown hg HBB.out.size (fun k hk => by cases hk; exact Nat.le_refl _)))
  · have t1 : (E != 0) = false := by simpa using hE
    have HDE : Hid (D = (⟨(K : Int), V, z1, z2, z3, z5, z6⟩, 0)) := Lib.hid (by rw [HD.out, if_neg hE])
    clear hE HD
    go_wp2_with fail
    change bodyPost _ _ _ _ _ (set7 w15 w.heap.size (.int .i64 (K : Int)) (.int .i64 V) (.int .i64 z1) (.string (strOf z2)) (.slice AI nI cI) (.slice AT nT cT) (.slice AB nB cB))
    have hs := set7_heap (a0 := .int .i64 (K : Int)) (a1 := .int .i64 V) (a2 := .int .i64 z1) (a3 := .string (strOf z2)) (a4 := .slice AI nI cI) (a5 := .slice AT nT cT) (a6 := .slice AB nB cB) HRS.out
    have hg := set7_grown w15 w.heap.size (.int .i64 (K : Int)) (.int .i64 V) (.int .i64 z1) (.string (strOf z2)) (.slice AI nI cI) (.slice AT nT cT) (.slice AB nB cB)
    clear d0 d1 d2 d3 d4 d5 d6 x0 x1 x2 x3 x4 x5 x6
    generalize set7 w15 w.heap.size (.int .i64 (K : Int)) (.int .i64 V) (.int .i64 z1) (.string (strOf z2)) (.slice AI nI cI) (.slice AT nT cT) (.slice AB nB cB) = WF at *
    obtain ⟨⟨d0, d1, d2, d3, d4, d5, d6⟩, -⟩ := of7 hs
    refine bodyPost_ret (v := .tuple #[.agg #[.int .i64 (K : Int), .int .i64 V, .int .i64 z1, .string (strOf z2), .slice AI nI cI, .slice AT nT cT, .slice AB nB cB], .int .i64 0]) (by simp [results, Tryd.results16, go_sem, d0, d1, d2, d3, d4, d5, d6]) rfl ?_
    rw [HDE.out]
    have hk1 := HOI15.out.kept hg (fun k hk => by cases hk; exact HBR.out.1)
    have hk2 := HOT15.out.kept hg (fun k hk => by cases hk; exact HBR.out.2.1)
    have hk3 := HOB15.out.keptLow hg HBR.out.2.2
    exact ⟨AI, nI, cI, AT, nT, cT, AB, nB, cB, rfl, ⟨hk1.rx, hk2.rx, hk3.rd⟩, HBB.out.trans (below_grown hg HBB.out.size (fun k hk => by cases hk; exact Nat.le_refl _))⟩

theorem p_getQ_ok {w : World} (hs : Shp w) {A : Option Addr} {n c : Nat} {l : List UInt8} (h : Rd w w.heap.size A n c l) : Calls Tryd.prog 16 #[.slice A n c] w (GotQ w (decQ l)) := by
  by_cases h2 : l.length < 2
  · exact p_getQ_short h h2
  · by_cases hk : knownE (kindOf l) (verOf l) = 0
    · exact p_getQ_main hs h h2 hk
    · exact p_getQ_known h h2 hk
end Go.Proofs.YtlijagbklopipaaDoor
