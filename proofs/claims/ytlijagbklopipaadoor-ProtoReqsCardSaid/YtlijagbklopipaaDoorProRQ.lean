/-
  Contract of the document's PutReq. Conditions: those that it states.
-/
import Derived.Deep.DeepCutAuto
import Derived.Test.YtlijagbklopipaaDoorProRP
import Derived.Test.YtlijagbklopipaaDoorProV
import Derived.Test.YtlijagbklopipaaDoorProRL
namespace Go.Proofs.YtlijagbklopipaaDoor
open Go.RowKit
set_option linter.unusedVariables false

/-- Answers bytes that can be read, and an error. -/
def PatsQ (w : World) (r : List UInt8 × Int) (e : Ending) (w' : World) : Prop := ∃ A n c, e = .returned (.tuple #[.slice A n c, .int .i64 r.2]) ∧ Rd w' w'.heap.size A n c r.1 ∧ Below w.heap.size w w'

set_option maxRecDepth 100000 in
set_option maxHeartbeats 16000000 in
theorem r_putQ_ok {w : World} (k v id : Int) (who : List UInt8) {Ai At Ab : Option Addr} {ni ci nt ct nb cb : Nat} {zs ts bs} (h : Rq w w.heap.size Ai ni ci At nt ct Ab nb cb zs ts bs) (hw : who.length ≤ 9223372036854775807) :
    Calls Tryd.prog 15 #[.agg #[.int .i64 k, .int .i64 v, .int .i64 id, .string (strOf who), .slice Ai ni ci, .slice At nt ct, .slice Ab nb cb]] w (PatsQ w (putQ ⟨k, v, id, who, zs, ts, bs⟩)) := by
  obtain ⟨W, hW⟩ : ∃ W, W = w.alloc (.cells #[.int .i64 k, .int .i64 v, .int .i64 id, .string (strOf who), .slice Ai ni ci, .slice At nt ct, .slice Ab nb cb] 26) := ⟨_, rfl⟩
  have b1 : Below w.heap.size w W := by rw [hW]; exact bput (Below.refl _ w) _
  have g1 : W.heap[w.heap.size]? = some (.cells #[.int .i64 k, .int .i64 v, .int .i64 id, .string (strOf who), .slice Ai ni ci, .slice At nt ct, .slice Ab nb cb] 26 (0, 0)) := by rw [hW]; exact heap_alloc_new w _
  have HK : Hid (∀ w', Below W.heap.size W w' → w'.cell? ⟨w.heap.size, 0, none⟩ = some (.int .i64 k) ∧ w'.cell? ⟨w.heap.size, 1, none⟩ = some (.int .i64 v) ∧ w'.cell? ⟨w.heap.size, 2, none⟩ = some (.int .i64 id) ∧ w'.cell? ⟨w.heap.size, 3, none⟩ = some (.string (strOf who)) ∧ w'.cell? ⟨w.heap.size, 4, none⟩ = some (.slice Ai ni ci) ∧ w'.cell? ⟨w.heap.size, 5, none⟩ = some (.slice At nt ct) ∧ w'.cell? ⟨w.heap.size, 6, none⟩ = some (.slice Ab nb cb)) := Lib.hid fun w' hb =>
    (of7 ((hb.block _ (Array.getElem?_eq_some_iff.1 g1).1).trans g1)).1
  have HQ : Hid (∀ w', Below W.heap.size W w' → Rq w' w'.heap.size Ai ni ci At nt ct Ab nb cb zs ts bs) := Lib.hid fun w' hb =>
    (h.step (bthen b1 hb) (Nat.le_refl _)).more (bthen b1 hb).size
  have HB1 := Lib.hid b1
  have hck := r_chkQ_ok k v id who (HQ.out W (Below.refl _ W)) hw
  by_cases hk : chkQ ⟨k, v, id, who, zs, ts, bs⟩ = 0
  case neg =>
    rw [putQ_bad hk]
    have t1 : (chkQ ⟨k, v, id, who, zs, ts, bs⟩ != 0) = true := by simpa using hk
    have HC := Lib.hid hck
    generalize chkQ ⟨k, v, id, who, zs, ts, bs⟩ = E at *
    obtain ⟨k0, k1, k2, k3, k4, k5, k6⟩ := HK.out W (Below.refl _ W)
    clear hk h hck b1 g1
    go_enter Tryd.func15, Tryd.ntmps15
    go_wp2_with fail
    rw [← hW]
    clear hW
    refine HC.out.mono ?_
    rintro e1 w1 ⟨rfl, hb1⟩
    have HBB := Lib.hid (bthen HB1.out hb1)
    clear hb1 k0 k1 k2 k3 k4 k5 k6
    go_wp2
    go_ret2
    exact ⟨none, 0, 0, rfl, Rd.nil _ _, HBB.out⟩
  rw [putQ_good hk]
  rw [hk] at hck
  obtain ⟨hkn, ⟨q1, q2⟩, ⟨q3, q4⟩, ⟨q5, q6⟩, ⟨q7, q8, q9⟩, q10⟩ := chkQ_ok.1 hk
  simp only at hkn q1 q2 q3 q4 q5 q6 q7 q8 q9 q10
  obtain ⟨i1, i2, i3, i4⟩ := known_ok hkn
  obtain ⟨K, rfl⟩ := Int.eq_ofNat_of_zero_le (show 0 ≤ k by omega)
  have hsm := sh_small ⟨K, by omega⟩
  simp only at hsm
  have h12 : shM (K : Int) ≤ 12 := by unfold shM; split <;> omega
  have h20 : shB (K : Int) ≤ 2048 := by unfold shB; split <;> omega
  have e1 := byte_is (n := (K : Int)) (by omega) (by omega)
  have e2 := byte_is (n := v) (by omega) (by omega)
  have hni := h.ints.len
  rw [iv_len] at hni
  have hnt := h.texts.len
  rw [sv_len] at hnt
  have hnb := h.blob.len
  have m1 := h.ints.cap
  have m2 := h.ints.top
  have m3 := h.texts.cap
  have m4 := h.texts.top
  have m5 := h.blob.cap
  have m6 := h.blob.top
  have HTI := Lib.hid (flat_len encI (m := 10) (l := zs) (fun x hx => encI_len (by have := q6 x hx; omega) (by have := q6 x hx; omega)))
  have HTT := Lib.hid (flat_len putT (m := 74) (l := ts) (fun x hx => putT_len' (q9 x hx)))
  have HZL : Hid (zs.length ≤ 5) := Lib.hid (by omega)
  have HTL : Hid (ts.length ≤ 15) := Lib.hid (by omega)
  have HBL : Hid (bs.length ≤ 2048) := Lib.hid (by omega)
  have HTX := Lib.hid (putT_len' q3)
  have HBK : Hid ((K : Int) ≠ 2 → bs.length = 0) := Lib.hid (fun hne => by have : shB (K : Int) = 0 := (by unfold shB; rw [if_neg hne]); omega)
  have Q6 : Hid (∀ x ∈ zs, -9223372036854775808 ≤ x ∧ x ≤ 9223372036854775807) := Lib.hid (fun x hx => ⟨by have := q6 x hx; omega, by have := q6 x hx; omega⟩)
  have Q9 := Lib.hid q9
  clear q5 q6 q7 q8 q9 q10 q4 hsm h12 h20 hkn
  have HC := Lib.hid hck
  have HNI := Lib.hid hni
  have HNT := Lib.hid hnt
  have HNB := Lib.hid hnb
  have HE1 := Lib.hid e1
  have HE2 := Lib.hid e2
  clear hck hk b1 g1 h hni hnt hnb e1 e2
  obtain ⟨k0, k1, k2, k3, k4, k5, k6⟩ := HK.out W (Below.refl _ W)
  by_cases hv : v = 2
  case pos =>
    have tv : (v == 2) = true := by simpa using hv
    have HV : Hid (2 ≤ v) := Lib.hid (by omega)
    clear hv
    by_cases h7 : K = 7
    case pos =>
      have t7 : ((K : Int) == 7) = true := by simp; omega
      have t2 : ((K : Int) == 2) = false := by simp; omega
      have H7 : Hid ((K : Int) = 7) := Lib.hid (by omega)
      have H2 : Hid (¬ (K : Int) = 2) := Lib.hid (by omega)
      clear h7
      go_enter Tryd.func15, Tryd.ntmps15
      go_wp2_with fail
      rw [← hW]
      clear hW
      refine HC.out.mono ?_
      rintro e1 w1 ⟨rfl, hb1⟩
      have B1 := Lib.hid hb1
      clear hb1 k0 k1 k2 k3 k4 k5 k6 HC
      obtain ⟨k0, k1, k2, k3, k4, k5, k6⟩ := HK.out w1 B1.out
      have e1 := HE1.out
      have e2 := HE2.out
      go_upto_region 5 with fail
      clear e1 e2 k0 k1 k2 k3 k4 k5 k6
      obtain ⟨w2, hw2⟩ : ∃ x, x = w1.alloc (.cells #[.int .u8 ((byteOf (K : Int)).toNat : Int), .int .u8 ((byteOf v).toNat : Int)] 5) := ⟨_, rfl⟩
      have B2 : Hid (Below W.heap.size W w2) := Lib.hid (by rw [hw2]; exact bthen B1.out (bput (Below.refl _ w1) _))
      have R2 : Hid (Rd w2 w2.heap.size (some ⟨w1.heap.size, 0, none⟩) 2 2 [byteOf (K : Int), byteOf v]) := Lib.hid (by
        have h1 := Rd.lit w1 5 [.int .u8 ((byteOf (K : Int)).toNat : Int), .int .u8 ((byteOf v).toNat : Int)] [byteOf (K : Int), byteOf v] rfl (by simp)
        rw [hw2]
        exact h1.more (by simp))
      rw [← hw2]
      clear hw2
      obtain ⟨L2, hL2⟩ : ∃ L, L = [byteOf (K : Int), byteOf v] := ⟨_, rfl⟩
      rw [← hL2] at R2
      have N2 : Hid (L2.length ≤ 2) := Lib.hid (by rw [hL2]; simp)
      have E2 := Lib.hid hL2
      clear hL2
      have HN := Lib.hid (rPutVar_ok R2.out (by have := N2.out; have := R2.out.len; omega) id (by omega) (by omega))
      obtain ⟨k0, k1, k2, k3, k4, k5, k6⟩ := HK.out w2 B2.out
      go_wp2_with fail
      clear k0 k1 k2 k3 k4 k5 k6
      refine HN.out.mono ?_
      rintro e1 w3 ⟨A3, n3, c3, rfl, ho, hb⟩
      clear HN
      have B3 := Lib.hid (bthen B2.out hb)
      obtain ⟨L3, hL3⟩ : ∃ L, L = L2 ++ enc (zig id) := ⟨_, rfl⟩
      rw [← hL3] at ho
      have N3 : Hid (L3.length ≤ 12) := Lib.hid (by have := N2.out; rw [hL3, List.length_append]; have : (enc (zig id)).length ≤ 10 := encI_len (m := id) (by omega) (by omega); omega)
      have E3 := Lib.hid hL3
      clear hL3
      have O3 := Lib.hid ho
      have HBW3 := Lib.hid hb
      have R3 := Lib.hid ho.rd
      clear ho hb
      have HN := Lib.hid (rPutText_ok R3.out (strOf who) (by rw [strOf_size]; have := N3.out; have := R3.out.len; omega))
      obtain ⟨k0, k1, k2, k3, k4, k5, k6⟩ := HK.out w3 B3.out
      go_wp2_with fail
      clear k0 k1 k2 k3 k4 k5 k6
      refine HN.out.mono ?_
      rintro e1 w4 ⟨A4, n4, c4, rfl, ho, hb⟩
      clear HN
      have B4 := Lib.hid (bthen B3.out hb)
      rw [strOf_data] at ho
      obtain ⟨L4, hL4⟩ : ∃ L, L = L3 ++ putT who := ⟨_, rfl⟩
      rw [← hL4] at ho
      have N4 : Hid (L4.length ≤ 86) := Lib.hid (by have := N3.out; rw [hL4, List.length_append]; have := HTX.out; omega)
      have E4 := Lib.hid hL4
      clear hL4
      have O4 := Lib.hid ho
      have HBW4 := Lib.hid hb
      have R4 := Lib.hid ho.rd
      clear ho hb
      have HN := Lib.hid (rputAll_ok R4.out (HQ.out w4 B4.out).ints Q6.out (by have := N4.out; have := HZL.out; omega))
      obtain ⟨k0, k1, k2, k3, k4, k5, k6⟩ := HK.out w4 B4.out
      go_wp2_with fail
      clear k0 k1 k2 k3 k4 k5 k6
      refine HN.out.mono ?_
      rintro e1 w5 ⟨A5, n5, c5, rfl, ho, hb⟩
      clear HN
      have B5 := Lib.hid (bthen B4.out hb)
      obtain ⟨L5, hL5⟩ : ∃ L, L = L4 ++ ((zs.map encI).flatten) := ⟨_, rfl⟩
      rw [← hL5] at ho
      have N5 : Hid (L5.length ≤ 136) := Lib.hid (by have := N4.out; rw [hL5, List.length_append]; have := HTI.out; have := HZL.out; omega)
      have E5 := Lib.hid hL5
      clear hL5
      have R5 := Lib.hid ho
      clear ho hb
      have HN := Lib.hid (rPutVar_ok R5.out (by have := N5.out; have := R5.out.len; omega) (nt : Int) (by omega) (by omega))
      obtain ⟨k0, k1, k2, k3, k4, k5, k6⟩ := HK.out w5 B5.out
      go_wp2_with fail
      clear k0 k1 k2 k3 k4 k5 k6
      refine HN.out.mono ?_
      rintro e1 w6 ⟨A6, n6, c6, rfl, ho, hb⟩
      clear HN
      have B6 := Lib.hid (bthen B5.out hb)
      obtain ⟨L6, hL6⟩ : ∃ L, L = L5 ++ enc (zig (nt : Int)) := ⟨_, rfl⟩
      rw [← hL6] at ho
      have N6 : Hid (L6.length ≤ 146) := Lib.hid (by have := N5.out; rw [hL6, List.length_append]; have : (enc (zig (nt : Int))).length ≤ 10 := encI_len (m := (nt : Int)) (by omega) (by omega); omega)
      have E6 := Lib.hid hL6
      clear hL6
      have O6 := Lib.hid ho
      have HBW6 := Lib.hid hb
      have R6 := Lib.hid ho.rd
      clear ho hb
      have HN := Lib.hid (rputTexts_ok R6.out (HQ.out w6 B6.out).texts Q9.out (by have := N6.out; have := HTL.out; omega))
      obtain ⟨k0, k1, k2, k3, k4, k5, k6⟩ := HK.out w6 B6.out
      go_wp2_with fail
      clear k0 k1 k2 k3 k4 k5 k6
      refine HN.out.mono ?_
      rintro e1 w7 ⟨A7, n7, c7, rfl, ho, hb⟩
      clear HN
      have B7 := Lib.hid (bthen B6.out hb)
      obtain ⟨L7, hL7⟩ : ∃ L, L = L6 ++ ((ts.map putT).flatten) := ⟨_, rfl⟩
      rw [← hL7] at ho
      have N7 : Hid (L7.length ≤ 1256) := Lib.hid (by have := N6.out; rw [hL7, List.length_append]; have := HTT.out; have := HTL.out; omega)
      have E7 := Lib.hid hL7
      clear hL7
      have R7 := Lib.hid ho
      clear ho hb
      have HFIN : Hid (L7 = encQ ⟨(K : Int), v, id, who, zs, ts, bs⟩) := Lib.hid (by
        rw [E7.out, E6.out, E5.out, E4.out, E3.out, E2.out]
        simp only [encQ, bodyQ, encI]
        rw [if_pos (by have := HV.out; omega), if_pos H7.out, if_neg H2.out]
        rw [HNT.out]
        simp only [List.append_assoc, List.cons_append, List.nil_append, List.append_nil])
      have HRD := R7.out
      rw [HFIN.out] at HRD
      have HRR := Lib.hid HRD
      clear HRD
      obtain ⟨k0, k1, k2, k3, k4, k5, k6⟩ := HK.out w7 B7.out
      go_wp2
      go_ret2
      exact ⟨_, _, _, rfl, HRR.out, bthen HB1.out B7.out⟩
    case neg =>
      by_cases h2 : K = 2
      case pos =>
        have t7 : ((K : Int) == 7) = false := by simp; omega
        have t2 : ((K : Int) == 2) = true := by simp; omega
        have H7 : Hid (¬ (K : Int) = 7) := Lib.hid (by omega)
        have H2 : Hid ((K : Int) = 2) := Lib.hid (by omega)
        clear h7 h2
        go_enter Tryd.func15, Tryd.ntmps15
        go_wp2_with fail
        rw [← hW]
        clear hW
        refine HC.out.mono ?_
        rintro e1 w1 ⟨rfl, hb1⟩
        have B1 := Lib.hid hb1
        clear hb1 k0 k1 k2 k3 k4 k5 k6 HC
        obtain ⟨k0, k1, k2, k3, k4, k5, k6⟩ := HK.out w1 B1.out
        have e1 := HE1.out
        have e2 := HE2.out
        go_upto_region 5 with fail
        clear e1 e2 k0 k1 k2 k3 k4 k5 k6
        obtain ⟨w2, hw2⟩ : ∃ x, x = w1.alloc (.cells #[.int .u8 ((byteOf (K : Int)).toNat : Int), .int .u8 ((byteOf v).toNat : Int)] 5) := ⟨_, rfl⟩
        have B2 : Hid (Below W.heap.size W w2) := Lib.hid (by rw [hw2]; exact bthen B1.out (bput (Below.refl _ w1) _))
        have R2 : Hid (Rd w2 w2.heap.size (some ⟨w1.heap.size, 0, none⟩) 2 2 [byteOf (K : Int), byteOf v]) := Lib.hid (by
          have h1 := Rd.lit w1 5 [.int .u8 ((byteOf (K : Int)).toNat : Int), .int .u8 ((byteOf v).toNat : Int)] [byteOf (K : Int), byteOf v] rfl (by simp)
          rw [hw2]
          exact h1.more (by simp))
        rw [← hw2]
        clear hw2
        obtain ⟨L2, hL2⟩ : ∃ L, L = [byteOf (K : Int), byteOf v] := ⟨_, rfl⟩
        rw [← hL2] at R2
        have N2 : Hid (L2.length ≤ 2) := Lib.hid (by rw [hL2]; simp)
        have E2 := Lib.hid hL2
        clear hL2
        have HN := Lib.hid (rPutVar_ok R2.out (by have := N2.out; have := R2.out.len; omega) id (by omega) (by omega))
        obtain ⟨k0, k1, k2, k3, k4, k5, k6⟩ := HK.out w2 B2.out
        go_wp2_with fail
        clear k0 k1 k2 k3 k4 k5 k6
        refine HN.out.mono ?_
        rintro e1 w3 ⟨A3, n3, c3, rfl, ho, hb⟩
        clear HN
        have B3 := Lib.hid (bthen B2.out hb)
        obtain ⟨L3, hL3⟩ : ∃ L, L = L2 ++ enc (zig id) := ⟨_, rfl⟩
        rw [← hL3] at ho
        have N3 : Hid (L3.length ≤ 12) := Lib.hid (by have := N2.out; rw [hL3, List.length_append]; have : (enc (zig id)).length ≤ 10 := encI_len (m := id) (by omega) (by omega); omega)
        have E3 := Lib.hid hL3
        clear hL3
        have O3 := Lib.hid ho
        have HBW3 := Lib.hid hb
        have R3 := Lib.hid ho.rd
        clear ho hb
        have HN := Lib.hid (rPutText_ok R3.out (strOf who) (by rw [strOf_size]; have := N3.out; have := R3.out.len; omega))
        obtain ⟨k0, k1, k2, k3, k4, k5, k6⟩ := HK.out w3 B3.out
        go_wp2_with fail
        clear k0 k1 k2 k3 k4 k5 k6
        refine HN.out.mono ?_
        rintro e1 w4 ⟨A4, n4, c4, rfl, ho, hb⟩
        clear HN
        have B4 := Lib.hid (bthen B3.out hb)
        rw [strOf_data] at ho
        obtain ⟨L4, hL4⟩ : ∃ L, L = L3 ++ putT who := ⟨_, rfl⟩
        rw [← hL4] at ho
        have N4 : Hid (L4.length ≤ 86) := Lib.hid (by have := N3.out; rw [hL4, List.length_append]; have := HTX.out; omega)
        have E4 := Lib.hid hL4
        clear hL4
        have O4 := Lib.hid ho
        have HBW4 := Lib.hid hb
        have R4 := Lib.hid ho.rd
        clear ho hb
        have HN := Lib.hid (rputAll_ok R4.out (HQ.out w4 B4.out).ints Q6.out (by have := N4.out; have := HZL.out; omega))
        obtain ⟨k0, k1, k2, k3, k4, k5, k6⟩ := HK.out w4 B4.out
        go_wp2_with fail
        clear k0 k1 k2 k3 k4 k5 k6
        refine HN.out.mono ?_
        rintro e1 w5 ⟨A5, n5, c5, rfl, ho, hb⟩
        clear HN
        have B5 := Lib.hid (bthen B4.out hb)
        obtain ⟨L5, hL5⟩ : ∃ L, L = L4 ++ ((zs.map encI).flatten) := ⟨_, rfl⟩
        rw [← hL5] at ho
        have N5 : Hid (L5.length ≤ 136) := Lib.hid (by have := N4.out; rw [hL5, List.length_append]; have := HTI.out; have := HZL.out; omega)
        have E5 := Lib.hid hL5
        clear hL5
        have R5 := Lib.hid ho
        clear ho hb
        have HN := Lib.hid (rputTexts_ok R5.out (HQ.out w5 B5.out).texts Q9.out (by have := N5.out; have := HTL.out; omega))
        obtain ⟨k0, k1, k2, k3, k4, k5, k6⟩ := HK.out w5 B5.out
        go_wp2_with fail
        clear k0 k1 k2 k3 k4 k5 k6
        refine HN.out.mono ?_
        rintro e1 w6 ⟨A6, n6, c6, rfl, ho, hb⟩
        clear HN
        have B6 := Lib.hid (bthen B5.out hb)
        obtain ⟨L6, hL6⟩ : ∃ L, L = L5 ++ ((ts.map putT).flatten) := ⟨_, rfl⟩
        rw [← hL6] at ho
        have N6 : Hid (L6.length ≤ 1246) := Lib.hid (by have := N5.out; rw [hL6, List.length_append]; have := HTT.out; have := HTL.out; omega)
        have E6 := Lib.hid hL6
        clear hL6
        have R6 := Lib.hid ho
        clear ho hb
        have HN := Lib.hid (rPutVar_ok R6.out (by have := N6.out; have := R6.out.len; omega) (nb : Int) (by omega) (by omega))
        obtain ⟨k0, k1, k2, k3, k4, k5, k6⟩ := HK.out w6 B6.out
        go_wp2_with fail
        clear k0 k1 k2 k3 k4 k5 k6
        refine HN.out.mono ?_
        rintro e1 w7 ⟨A7, n7, c7, rfl, ho, hb⟩
        clear HN
        have B7 := Lib.hid (bthen B6.out hb)
        obtain ⟨L7, hL7⟩ : ∃ L, L = L6 ++ enc (zig (nb : Int)) := ⟨_, rfl⟩
        rw [← hL7] at ho
        have N7 : Hid (L7.length ≤ 1256) := Lib.hid (by have := N6.out; rw [hL7, List.length_append]; have : (enc (zig (nb : Int))).length ≤ 10 := encI_len (m := (nb : Int)) (by omega) (by omega); omega)
        have E7 := Lib.hid hL7
        clear hL7
        have O7 := Lib.hid ho
        have HBW7 := Lib.hid hb
        have R7 := Lib.hid ho.rd
        clear ho hb
        have HNB2 := Lib.hid (show n7 + nb ≤ 140737488355328 by have := N7.out; have := R7.out.len; have := HBL.out; have := HNB.out; omega)
        have HZ := Lib.hid (show w6.heap.size ≤ w7.heap.size from HBW7.out.size)
        have HRB := Lib.hid ((HQ.out w7 B7.out).blob)
        obtain ⟨k0, k1, k2, k3, k4, k5, k6⟩ := HK.out w7 B7.out
        go_wp2_with (at_builtin; go_must (refine wpList_app rfl (.tmp 53) (.tmp 55) rfl Tryd.underlying24 byteInfo rfl O7.out rfl HRB.out HNB2.out HZ.out ?_))
        intro A8 c8 w8 ho hb
        clear k0 k1 k2 k3 k4 k5 k6
        have B8 : Hid (Below W.heap.size W w8) := Lib.hid (bthen B6.out (HBW7.out.trans hb))
        obtain ⟨L8, hL8⟩ : ∃ L, L = L7 ++ bs := ⟨_, rfl⟩
        rw [← hL8] at ho
        have E8 := Lib.hid hL8
        have R8 := Lib.hid ho.rd
        clear hL8 ho hb
        have HFIN : Hid (L8 = encQ ⟨(K : Int), v, id, who, zs, ts, bs⟩) := Lib.hid (by
          rw [E8.out, E7.out, E6.out, E5.out, E4.out, E3.out, E2.out]
          simp only [encQ, bodyQ, encI]
          rw [if_pos (by have := HV.out; omega), if_neg H7.out, if_pos H2.out]
          simp only [putT]
          rw [HNB.out]
          simp only [List.append_assoc, List.cons_append, List.nil_append])
        have HRD := R8.out
        rw [HFIN.out] at HRD
        have HRR := Lib.hid HRD
        clear HRD
        obtain ⟨k0, k1, k2, k3, k4, k5, k6⟩ := HK.out w8 B8.out
        go_wp2
        go_ret2
        exact ⟨_, _, _, rfl, HRR.out, bthen HB1.out B8.out⟩
      case neg =>
        have t7 : ((K : Int) == 7) = false := by simp; omega
        have t2 : ((K : Int) == 2) = false := by simp; omega
        have H7 : Hid (¬ (K : Int) = 7) := Lib.hid (by omega)
        have H2 : Hid (¬ (K : Int) = 2) := Lib.hid (by omega)
        clear h7 h2
        go_enter Tryd.func15, Tryd.ntmps15
        go_wp2_with fail
        rw [← hW]
        clear hW
        refine HC.out.mono ?_
        rintro e1 w1 ⟨rfl, hb1⟩
        have B1 := Lib.hid hb1
        clear hb1 k0 k1 k2 k3 k4 k5 k6 HC
        obtain ⟨k0, k1, k2, k3, k4, k5, k6⟩ := HK.out w1 B1.out
        have e1 := HE1.out
        have e2 := HE2.out
        go_upto_region 5 with fail
        clear e1 e2 k0 k1 k2 k3 k4 k5 k6
        obtain ⟨w2, hw2⟩ : ∃ x, x = w1.alloc (.cells #[.int .u8 ((byteOf (K : Int)).toNat : Int), .int .u8 ((byteOf v).toNat : Int)] 5) := ⟨_, rfl⟩
        have B2 : Hid (Below W.heap.size W w2) := Lib.hid (by rw [hw2]; exact bthen B1.out (bput (Below.refl _ w1) _))
        have R2 : Hid (Rd w2 w2.heap.size (some ⟨w1.heap.size, 0, none⟩) 2 2 [byteOf (K : Int), byteOf v]) := Lib.hid (by
          have h1 := Rd.lit w1 5 [.int .u8 ((byteOf (K : Int)).toNat : Int), .int .u8 ((byteOf v).toNat : Int)] [byteOf (K : Int), byteOf v] rfl (by simp)
          rw [hw2]
          exact h1.more (by simp))
        rw [← hw2]
        clear hw2
        obtain ⟨L2, hL2⟩ : ∃ L, L = [byteOf (K : Int), byteOf v] := ⟨_, rfl⟩
        rw [← hL2] at R2
        have N2 : Hid (L2.length ≤ 2) := Lib.hid (by rw [hL2]; simp)
        have E2 := Lib.hid hL2
        clear hL2
        have HN := Lib.hid (rPutVar_ok R2.out (by have := N2.out; have := R2.out.len; omega) id (by omega) (by omega))
        obtain ⟨k0, k1, k2, k3, k4, k5, k6⟩ := HK.out w2 B2.out
        go_wp2_with fail
        clear k0 k1 k2 k3 k4 k5 k6
        refine HN.out.mono ?_
        rintro e1 w3 ⟨A3, n3, c3, rfl, ho, hb⟩
        clear HN
        have B3 := Lib.hid (bthen B2.out hb)
        obtain ⟨L3, hL3⟩ : ∃ L, L = L2 ++ enc (zig id) := ⟨_, rfl⟩
        rw [← hL3] at ho
        have N3 : Hid (L3.length ≤ 12) := Lib.hid (by have := N2.out; rw [hL3, List.length_append]; have : (enc (zig id)).length ≤ 10 := encI_len (m := id) (by omega) (by omega); omega)
        have E3 := Lib.hid hL3
        clear hL3
        have O3 := Lib.hid ho
        have HBW3 := Lib.hid hb
        have R3 := Lib.hid ho.rd
        clear ho hb
        have HN := Lib.hid (rPutText_ok R3.out (strOf who) (by rw [strOf_size]; have := N3.out; have := R3.out.len; omega))
        obtain ⟨k0, k1, k2, k3, k4, k5, k6⟩ := HK.out w3 B3.out
        go_wp2_with fail
        clear k0 k1 k2 k3 k4 k5 k6
        refine HN.out.mono ?_
        rintro e1 w4 ⟨A4, n4, c4, rfl, ho, hb⟩
        clear HN
        have B4 := Lib.hid (bthen B3.out hb)
        rw [strOf_data] at ho
        obtain ⟨L4, hL4⟩ : ∃ L, L = L3 ++ putT who := ⟨_, rfl⟩
        rw [← hL4] at ho
        have N4 : Hid (L4.length ≤ 86) := Lib.hid (by have := N3.out; rw [hL4, List.length_append]; have := HTX.out; omega)
        have E4 := Lib.hid hL4
        clear hL4
        have O4 := Lib.hid ho
        have HBW4 := Lib.hid hb
        have R4 := Lib.hid ho.rd
        clear ho hb
        have HN := Lib.hid (rputAll_ok R4.out (HQ.out w4 B4.out).ints Q6.out (by have := N4.out; have := HZL.out; omega))
        obtain ⟨k0, k1, k2, k3, k4, k5, k6⟩ := HK.out w4 B4.out
        go_wp2_with fail
        clear k0 k1 k2 k3 k4 k5 k6
        refine HN.out.mono ?_
        rintro e1 w5 ⟨A5, n5, c5, rfl, ho, hb⟩
        clear HN
        have B5 := Lib.hid (bthen B4.out hb)
        obtain ⟨L5, hL5⟩ : ∃ L, L = L4 ++ ((zs.map encI).flatten) := ⟨_, rfl⟩
        rw [← hL5] at ho
        have N5 : Hid (L5.length ≤ 136) := Lib.hid (by have := N4.out; rw [hL5, List.length_append]; have := HTI.out; have := HZL.out; omega)
        have E5 := Lib.hid hL5
        clear hL5
        have R5 := Lib.hid ho
        clear ho hb
        have HN := Lib.hid (rputTexts_ok R5.out (HQ.out w5 B5.out).texts Q9.out (by have := N5.out; have := HTL.out; omega))
        obtain ⟨k0, k1, k2, k3, k4, k5, k6⟩ := HK.out w5 B5.out
        go_wp2_with fail
        clear k0 k1 k2 k3 k4 k5 k6
        refine HN.out.mono ?_
        rintro e1 w6 ⟨A6, n6, c6, rfl, ho, hb⟩
        clear HN
        have B6 := Lib.hid (bthen B5.out hb)
        obtain ⟨L6, hL6⟩ : ∃ L, L = L5 ++ ((ts.map putT).flatten) := ⟨_, rfl⟩
        rw [← hL6] at ho
        have N6 : Hid (L6.length ≤ 1246) := Lib.hid (by have := N5.out; rw [hL6, List.length_append]; have := HTT.out; have := HTL.out; omega)
        have E6 := Lib.hid hL6
        clear hL6
        have R6 := Lib.hid ho
        clear ho hb
        have HFIN : Hid (L6 = encQ ⟨(K : Int), v, id, who, zs, ts, bs⟩) := Lib.hid (by
          rw [E6.out, E5.out, E4.out, E3.out, E2.out]
          simp only [encQ, bodyQ, encI]
          rw [if_pos (by have := HV.out; omega), if_neg H7.out, if_neg H2.out]
          simp only [List.append_assoc, List.cons_append, List.nil_append, List.append_nil])
        have HRD := R6.out
        rw [HFIN.out] at HRD
        have HRR := Lib.hid HRD
        clear HRD
        obtain ⟨k0, k1, k2, k3, k4, k5, k6⟩ := HK.out w6 B6.out
        go_wp2
        go_ret2
        exact ⟨_, _, _, rfl, HRR.out, bthen HB1.out B6.out⟩
  case neg =>
    have tv : (v == 2) = false := by simpa using hv
    have HV : Hid (¬ 2 ≤ v) := Lib.hid (by omega)
    clear hv
    by_cases h7 : K = 7
    case pos =>
      have t7 : ((K : Int) == 7) = true := by simp; omega
      have t2 : ((K : Int) == 2) = false := by simp; omega
      have H7 : Hid ((K : Int) = 7) := Lib.hid (by omega)
      have H2 : Hid (¬ (K : Int) = 2) := Lib.hid (by omega)
      clear h7
      go_enter Tryd.func15, Tryd.ntmps15
      go_wp2_with fail
      rw [← hW]
      clear hW
      refine HC.out.mono ?_
      rintro e1 w1 ⟨rfl, hb1⟩
      have B1 := Lib.hid hb1
      clear hb1 k0 k1 k2 k3 k4 k5 k6 HC
      obtain ⟨k0, k1, k2, k3, k4, k5, k6⟩ := HK.out w1 B1.out
      have e1 := HE1.out
      have e2 := HE2.out
      go_upto_region 5 with fail
      clear e1 e2 k0 k1 k2 k3 k4 k5 k6
      obtain ⟨w2, hw2⟩ : ∃ x, x = w1.alloc (.cells #[.int .u8 ((byteOf (K : Int)).toNat : Int), .int .u8 ((byteOf v).toNat : Int)] 5) := ⟨_, rfl⟩
      have B2 : Hid (Below W.heap.size W w2) := Lib.hid (by rw [hw2]; exact bthen B1.out (bput (Below.refl _ w1) _))
      have R2 : Hid (Rd w2 w2.heap.size (some ⟨w1.heap.size, 0, none⟩) 2 2 [byteOf (K : Int), byteOf v]) := Lib.hid (by
        have h1 := Rd.lit w1 5 [.int .u8 ((byteOf (K : Int)).toNat : Int), .int .u8 ((byteOf v).toNat : Int)] [byteOf (K : Int), byteOf v] rfl (by simp)
        rw [hw2]
        exact h1.more (by simp))
      rw [← hw2]
      clear hw2
      obtain ⟨L2, hL2⟩ : ∃ L, L = [byteOf (K : Int), byteOf v] := ⟨_, rfl⟩
      rw [← hL2] at R2
      have N2 : Hid (L2.length ≤ 2) := Lib.hid (by rw [hL2]; simp)
      have E2 := Lib.hid hL2
      clear hL2
      have HN := Lib.hid (rPutVar_ok R2.out (by have := N2.out; have := R2.out.len; omega) id (by omega) (by omega))
      obtain ⟨k0, k1, k2, k3, k4, k5, k6⟩ := HK.out w2 B2.out
      go_wp2_with fail
      clear k0 k1 k2 k3 k4 k5 k6
      refine HN.out.mono ?_
      rintro e1 w3 ⟨A3, n3, c3, rfl, ho, hb⟩
      clear HN
      have B3 := Lib.hid (bthen B2.out hb)
      obtain ⟨L3, hL3⟩ : ∃ L, L = L2 ++ enc (zig id) := ⟨_, rfl⟩
      rw [← hL3] at ho
      have N3 : Hid (L3.length ≤ 12) := Lib.hid (by have := N2.out; rw [hL3, List.length_append]; have : (enc (zig id)).length ≤ 10 := encI_len (m := id) (by omega) (by omega); omega)
      have E3 := Lib.hid hL3
      clear hL3
      have O3 := Lib.hid ho
      have HBW3 := Lib.hid hb
      have R3 := Lib.hid ho.rd
      clear ho hb
      have HN := Lib.hid (rputAll_ok R3.out (HQ.out w3 B3.out).ints Q6.out (by have := N3.out; have := HZL.out; omega))
      obtain ⟨k0, k1, k2, k3, k4, k5, k6⟩ := HK.out w3 B3.out
      go_wp2_with fail
      clear k0 k1 k2 k3 k4 k5 k6
      refine HN.out.mono ?_
      rintro e1 w4 ⟨A4, n4, c4, rfl, ho, hb⟩
      clear HN
      have B4 := Lib.hid (bthen B3.out hb)
      obtain ⟨L4, hL4⟩ : ∃ L, L = L3 ++ ((zs.map encI).flatten) := ⟨_, rfl⟩
      rw [← hL4] at ho
      have N4 : Hid (L4.length ≤ 62) := Lib.hid (by have := N3.out; rw [hL4, List.length_append]; have := HTI.out; have := HZL.out; omega)
      have E4 := Lib.hid hL4
      clear hL4
      have R4 := Lib.hid ho
      clear ho hb
      have HN := Lib.hid (rPutVar_ok R4.out (by have := N4.out; have := R4.out.len; omega) (nt : Int) (by omega) (by omega))
      obtain ⟨k0, k1, k2, k3, k4, k5, k6⟩ := HK.out w4 B4.out
      go_wp2_with fail
      clear k0 k1 k2 k3 k4 k5 k6
      refine HN.out.mono ?_
      rintro e1 w5 ⟨A5, n5, c5, rfl, ho, hb⟩
      clear HN
      have B5 := Lib.hid (bthen B4.out hb)
      obtain ⟨L5, hL5⟩ : ∃ L, L = L4 ++ enc (zig (nt : Int)) := ⟨_, rfl⟩
      rw [← hL5] at ho
      have N5 : Hid (L5.length ≤ 72) := Lib.hid (by have := N4.out; rw [hL5, List.length_append]; have : (enc (zig (nt : Int))).length ≤ 10 := encI_len (m := (nt : Int)) (by omega) (by omega); omega)
      have E5 := Lib.hid hL5
      clear hL5
      have O5 := Lib.hid ho
      have HBW5 := Lib.hid hb
      have R5 := Lib.hid ho.rd
      clear ho hb
      have HN := Lib.hid (rputTexts_ok R5.out (HQ.out w5 B5.out).texts Q9.out (by have := N5.out; have := HTL.out; omega))
      obtain ⟨k0, k1, k2, k3, k4, k5, k6⟩ := HK.out w5 B5.out
      go_wp2_with fail
      clear k0 k1 k2 k3 k4 k5 k6
      refine HN.out.mono ?_
      rintro e1 w6 ⟨A6, n6, c6, rfl, ho, hb⟩
      clear HN
      have B6 := Lib.hid (bthen B5.out hb)
      obtain ⟨L6, hL6⟩ : ∃ L, L = L5 ++ ((ts.map putT).flatten) := ⟨_, rfl⟩
      rw [← hL6] at ho
      have N6 : Hid (L6.length ≤ 1182) := Lib.hid (by have := N5.out; rw [hL6, List.length_append]; have := HTT.out; have := HTL.out; omega)
      have E6 := Lib.hid hL6
      clear hL6
      have R6 := Lib.hid ho
      clear ho hb
      have HFIN : Hid (L6 = encQ ⟨(K : Int), v, id, who, zs, ts, bs⟩) := Lib.hid (by
        rw [E6.out, E5.out, E4.out, E3.out, E2.out]
        simp only [encQ, bodyQ, encI]
        rw [if_neg (by have := HV.out; omega), if_pos H7.out, if_neg H2.out]
        rw [HNT.out]
        simp only [List.append_assoc, List.cons_append, List.nil_append, List.append_nil])
      have HRD := R6.out
      rw [HFIN.out] at HRD
      have HRR := Lib.hid HRD
      clear HRD
      obtain ⟨k0, k1, k2, k3, k4, k5, k6⟩ := HK.out w6 B6.out
      go_wp2
      go_ret2
      exact ⟨_, _, _, rfl, HRR.out, bthen HB1.out B6.out⟩
    case neg =>
      by_cases h2 : K = 2
      case pos =>
        have t7 : ((K : Int) == 7) = false := by simp; omega
        have t2 : ((K : Int) == 2) = true := by simp; omega
        have H7 : Hid (¬ (K : Int) = 7) := Lib.hid (by omega)
        have H2 : Hid ((K : Int) = 2) := Lib.hid (by omega)
        clear h7 h2
        go_enter Tryd.func15, Tryd.ntmps15
        go_wp2_with fail
        rw [← hW]
        clear hW
        refine HC.out.mono ?_
        rintro e1 w1 ⟨rfl, hb1⟩
        have B1 := Lib.hid hb1
        clear hb1 k0 k1 k2 k3 k4 k5 k6 HC
        obtain ⟨k0, k1, k2, k3, k4, k5, k6⟩ := HK.out w1 B1.out
        have e1 := HE1.out
        have e2 := HE2.out
        go_upto_region 5 with fail
        clear e1 e2 k0 k1 k2 k3 k4 k5 k6
        obtain ⟨w2, hw2⟩ : ∃ x, x = w1.alloc (.cells #[.int .u8 ((byteOf (K : Int)).toNat : Int), .int .u8 ((byteOf v).toNat : Int)] 5) := ⟨_, rfl⟩
        have B2 : Hid (Below W.heap.size W w2) := Lib.hid (by rw [hw2]; exact bthen B1.out (bput (Below.refl _ w1) _))
        have R2 : Hid (Rd w2 w2.heap.size (some ⟨w1.heap.size, 0, none⟩) 2 2 [byteOf (K : Int), byteOf v]) := Lib.hid (by
          have h1 := Rd.lit w1 5 [.int .u8 ((byteOf (K : Int)).toNat : Int), .int .u8 ((byteOf v).toNat : Int)] [byteOf (K : Int), byteOf v] rfl (by simp)
          rw [hw2]
          exact h1.more (by simp))
        rw [← hw2]
        clear hw2
        obtain ⟨L2, hL2⟩ : ∃ L, L = [byteOf (K : Int), byteOf v] := ⟨_, rfl⟩
        rw [← hL2] at R2
        have N2 : Hid (L2.length ≤ 2) := Lib.hid (by rw [hL2]; simp)
        have E2 := Lib.hid hL2
        clear hL2
        have HN := Lib.hid (rPutVar_ok R2.out (by have := N2.out; have := R2.out.len; omega) id (by omega) (by omega))
        obtain ⟨k0, k1, k2, k3, k4, k5, k6⟩ := HK.out w2 B2.out
        go_wp2_with fail
        clear k0 k1 k2 k3 k4 k5 k6
        refine HN.out.mono ?_
        rintro e1 w3 ⟨A3, n3, c3, rfl, ho, hb⟩
        clear HN
        have B3 := Lib.hid (bthen B2.out hb)
        obtain ⟨L3, hL3⟩ : ∃ L, L = L2 ++ enc (zig id) := ⟨_, rfl⟩
        rw [← hL3] at ho
        have N3 : Hid (L3.length ≤ 12) := Lib.hid (by have := N2.out; rw [hL3, List.length_append]; have : (enc (zig id)).length ≤ 10 := encI_len (m := id) (by omega) (by omega); omega)
        have E3 := Lib.hid hL3
        clear hL3
        have O3 := Lib.hid ho
        have HBW3 := Lib.hid hb
        have R3 := Lib.hid ho.rd
        clear ho hb
        have HN := Lib.hid (rputAll_ok R3.out (HQ.out w3 B3.out).ints Q6.out (by have := N3.out; have := HZL.out; omega))
        obtain ⟨k0, k1, k2, k3, k4, k5, k6⟩ := HK.out w3 B3.out
        go_wp2_with fail
        clear k0 k1 k2 k3 k4 k5 k6
        refine HN.out.mono ?_
        rintro e1 w4 ⟨A4, n4, c4, rfl, ho, hb⟩
        clear HN
        have B4 := Lib.hid (bthen B3.out hb)
        obtain ⟨L4, hL4⟩ : ∃ L, L = L3 ++ ((zs.map encI).flatten) := ⟨_, rfl⟩
        rw [← hL4] at ho
        have N4 : Hid (L4.length ≤ 62) := Lib.hid (by have := N3.out; rw [hL4, List.length_append]; have := HTI.out; have := HZL.out; omega)
        have E4 := Lib.hid hL4
        clear hL4
        have R4 := Lib.hid ho
        clear ho hb
        have HN := Lib.hid (rputTexts_ok R4.out (HQ.out w4 B4.out).texts Q9.out (by have := N4.out; have := HTL.out; omega))
        obtain ⟨k0, k1, k2, k3, k4, k5, k6⟩ := HK.out w4 B4.out
        go_wp2_with fail
        clear k0 k1 k2 k3 k4 k5 k6
        refine HN.out.mono ?_
        rintro e1 w5 ⟨A5, n5, c5, rfl, ho, hb⟩
        clear HN
        have B5 := Lib.hid (bthen B4.out hb)
        obtain ⟨L5, hL5⟩ : ∃ L, L = L4 ++ ((ts.map putT).flatten) := ⟨_, rfl⟩
        rw [← hL5] at ho
        have N5 : Hid (L5.length ≤ 1172) := Lib.hid (by have := N4.out; rw [hL5, List.length_append]; have := HTT.out; have := HTL.out; omega)
        have E5 := Lib.hid hL5
        clear hL5
        have R5 := Lib.hid ho
        clear ho hb
        have HN := Lib.hid (rPutVar_ok R5.out (by have := N5.out; have := R5.out.len; omega) (nb : Int) (by omega) (by omega))
        obtain ⟨k0, k1, k2, k3, k4, k5, k6⟩ := HK.out w5 B5.out
        go_wp2_with fail
        clear k0 k1 k2 k3 k4 k5 k6
        refine HN.out.mono ?_
        rintro e1 w6 ⟨A6, n6, c6, rfl, ho, hb⟩
        clear HN
        have B6 := Lib.hid (bthen B5.out hb)
        obtain ⟨L6, hL6⟩ : ∃ L, L = L5 ++ enc (zig (nb : Int)) := ⟨_, rfl⟩
        rw [← hL6] at ho
        have N6 : Hid (L6.length ≤ 1182) := Lib.hid (by have := N5.out; rw [hL6, List.length_append]; have : (enc (zig (nb : Int))).length ≤ 10 := encI_len (m := (nb : Int)) (by omega) (by omega); omega)
        have E6 := Lib.hid hL6
        clear hL6
        have O6 := Lib.hid ho
        have HBW6 := Lib.hid hb
        have R6 := Lib.hid ho.rd
        clear ho hb
        have HNB2 := Lib.hid (show n6 + nb ≤ 140737488355328 by have := N6.out; have := R6.out.len; have := HBL.out; have := HNB.out; omega)
        have HZ := Lib.hid (show w5.heap.size ≤ w6.heap.size from HBW6.out.size)
        have HRB := Lib.hid ((HQ.out w6 B6.out).blob)
        obtain ⟨k0, k1, k2, k3, k4, k5, k6⟩ := HK.out w6 B6.out
        go_wp2_with (at_builtin; go_must (refine wpList_app rfl (.tmp 53) (.tmp 55) rfl Tryd.underlying24 byteInfo rfl O6.out rfl HRB.out HNB2.out HZ.out ?_))
        intro A7 c7 w7 ho hb
        clear k0 k1 k2 k3 k4 k5 k6
        have B7 : Hid (Below W.heap.size W w7) := Lib.hid (bthen B5.out (HBW6.out.trans hb))
        obtain ⟨L7, hL7⟩ : ∃ L, L = L6 ++ bs := ⟨_, rfl⟩
        rw [← hL7] at ho
        have E7 := Lib.hid hL7
        have R7 := Lib.hid ho.rd
        clear hL7 ho hb
        have HFIN : Hid (L7 = encQ ⟨(K : Int), v, id, who, zs, ts, bs⟩) := Lib.hid (by
          rw [E7.out, E6.out, E5.out, E4.out, E3.out, E2.out]
          simp only [encQ, bodyQ, encI]
          rw [if_neg (by have := HV.out; omega), if_neg H7.out, if_pos H2.out]
          simp only [putT]
          rw [HNB.out]
          simp only [List.append_assoc, List.cons_append, List.nil_append])
        have HRD := R7.out
        rw [HFIN.out] at HRD
        have HRR := Lib.hid HRD
        clear HRD
        obtain ⟨k0, k1, k2, k3, k4, k5, k6⟩ := HK.out w7 B7.out
        go_wp2
        go_ret2
        exact ⟨_, _, _, rfl, HRR.out, bthen HB1.out B7.out⟩
      case neg =>
        have t7 : ((K : Int) == 7) = false := by simp; omega
        have t2 : ((K : Int) == 2) = false := by simp; omega
        have H7 : Hid (¬ (K : Int) = 7) := Lib.hid (by omega)
        have H2 : Hid (¬ (K : Int) = 2) := Lib.hid (by omega)
        clear h7 h2
        go_enter Tryd.func15, Tryd.ntmps15
        go_wp2_with fail
        rw [← hW]
        clear hW
        refine HC.out.mono ?_
        rintro e1 w1 ⟨rfl, hb1⟩
        have B1 := Lib.hid hb1
        clear hb1 k0 k1 k2 k3 k4 k5 k6 HC
        obtain ⟨k0, k1, k2, k3, k4, k5, k6⟩ := HK.out w1 B1.out
        have e1 := HE1.out
        have e2 := HE2.out
        go_upto_region 5 with fail
        clear e1 e2 k0 k1 k2 k3 k4 k5 k6
        obtain ⟨w2, hw2⟩ : ∃ x, x = w1.alloc (.cells #[.int .u8 ((byteOf (K : Int)).toNat : Int), .int .u8 ((byteOf v).toNat : Int)] 5) := ⟨_, rfl⟩
        have B2 : Hid (Below W.heap.size W w2) := Lib.hid (by rw [hw2]; exact bthen B1.out (bput (Below.refl _ w1) _))
        have R2 : Hid (Rd w2 w2.heap.size (some ⟨w1.heap.size, 0, none⟩) 2 2 [byteOf (K : Int), byteOf v]) := Lib.hid (by
          have h1 := Rd.lit w1 5 [.int .u8 ((byteOf (K : Int)).toNat : Int), .int .u8 ((byteOf v).toNat : Int)] [byteOf (K : Int), byteOf v] rfl (by simp)
          rw [hw2]
          exact h1.more (by simp))
        rw [← hw2]
        clear hw2
        obtain ⟨L2, hL2⟩ : ∃ L, L = [byteOf (K : Int), byteOf v] := ⟨_, rfl⟩
        rw [← hL2] at R2
        have N2 : Hid (L2.length ≤ 2) := Lib.hid (by rw [hL2]; simp)
        have E2 := Lib.hid hL2
        clear hL2
        have HN := Lib.hid (rPutVar_ok R2.out (by have := N2.out; have := R2.out.len; omega) id (by omega) (by omega))
        obtain ⟨k0, k1, k2, k3, k4, k5, k6⟩ := HK.out w2 B2.out
        go_wp2_with fail
        clear k0 k1 k2 k3 k4 k5 k6
        refine HN.out.mono ?_
        rintro e1 w3 ⟨A3, n3, c3, rfl, ho, hb⟩
        clear HN
        have B3 := Lib.hid (bthen B2.out hb)
        obtain ⟨L3, hL3⟩ : ∃ L, L = L2 ++ enc (zig id) := ⟨_, rfl⟩
        rw [← hL3] at ho
        have N3 : Hid (L3.length ≤ 12) := Lib.hid (by have := N2.out; rw [hL3, List.length_append]; have : (enc (zig id)).length ≤ 10 := encI_len (m := id) (by omega) (by omega); omega)
        have E3 := Lib.hid hL3
        clear hL3
        have O3 := Lib.hid ho
        have HBW3 := Lib.hid hb
        have R3 := Lib.hid ho.rd
        clear ho hb
        have HN := Lib.hid (rputAll_ok R3.out (HQ.out w3 B3.out).ints Q6.out (by have := N3.out; have := HZL.out; omega))
        obtain ⟨k0, k1, k2, k3, k4, k5, k6⟩ := HK.out w3 B3.out
        go_wp2_with fail
        clear k0 k1 k2 k3 k4 k5 k6
        refine HN.out.mono ?_
        rintro e1 w4 ⟨A4, n4, c4, rfl, ho, hb⟩
        clear HN
        have B4 := Lib.hid (bthen B3.out hb)
        obtain ⟨L4, hL4⟩ : ∃ L, L = L3 ++ ((zs.map encI).flatten) := ⟨_, rfl⟩
        rw [← hL4] at ho
        have N4 : Hid (L4.length ≤ 62) := Lib.hid (by have := N3.out; rw [hL4, List.length_append]; have := HTI.out; have := HZL.out; omega)
        have E4 := Lib.hid hL4
        clear hL4
        have R4 := Lib.hid ho
        clear ho hb
        have HN := Lib.hid (rputTexts_ok R4.out (HQ.out w4 B4.out).texts Q9.out (by have := N4.out; have := HTL.out; omega))
        obtain ⟨k0, k1, k2, k3, k4, k5, k6⟩ := HK.out w4 B4.out
        go_wp2_with fail
        clear k0 k1 k2 k3 k4 k5 k6
        refine HN.out.mono ?_
        rintro e1 w5 ⟨A5, n5, c5, rfl, ho, hb⟩
        clear HN
        have B5 := Lib.hid (bthen B4.out hb)
        obtain ⟨L5, hL5⟩ : ∃ L, L = L4 ++ ((ts.map putT).flatten) := ⟨_, rfl⟩
        rw [← hL5] at ho
        have N5 : Hid (L5.length ≤ 1172) := Lib.hid (by have := N4.out; rw [hL5, List.length_append]; have := HTT.out; have := HTL.out; omega)
        have E5 := Lib.hid hL5
        clear hL5
        have R5 := Lib.hid ho
        clear ho hb
        have HFIN : Hid (L5 = encQ ⟨(K : Int), v, id, who, zs, ts, bs⟩) := Lib.hid (by
          rw [E5.out, E4.out, E3.out, E2.out]
          simp only [encQ, bodyQ, encI]
          rw [if_neg (by have := HV.out; omega), if_neg H7.out, if_neg H2.out]
          simp only [List.append_assoc, List.cons_append, List.nil_append, List.append_nil])
        have HRD := R5.out
        rw [HFIN.out] at HRD
        have HRR := Lib.hid HRD
        clear HRD
        obtain ⟨k0, k1, k2, k3, k4, k5, k6⟩ := HK.out w5 B5.out
        go_wp2
        go_ret2
        exact ⟨_, _, _, rfl, HRR.out, bthen HB1.out B5.out⟩
end Go.Proofs.YtlijagbklopipaaDoor
