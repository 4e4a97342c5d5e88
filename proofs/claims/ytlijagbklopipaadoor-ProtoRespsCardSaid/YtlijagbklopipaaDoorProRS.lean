/-
  Contract of the document's PutResp. Conditions: those that it states.
-/
import Derived.Deep.DeepCutAuto
import Derived.Test.YtlijagbklopipaaDoorProRP
import Derived.Test.YtlijagbklopipaaDoorProV
import Derived.Test.YtlijagbklopipaaDoorProRM
namespace Go.Proofs.YtlijagbklopipaaDoor
open Go.RowKit
set_option linter.unusedVariables false

/-- Answers bytes that can be read, and an error. -/
def PatsS (w : World) (r : List UInt8 × Int) (e : Ending) (w' : World) : Prop := ∃ A n c, e = .returned (.tuple #[.slice A n c, .int .i64 r.2]) ∧ Rd w' w'.heap.size A n c r.1 ∧ Below w.heap.size w w'

set_option maxRecDepth 100000 in
set_option maxHeartbeats 16000000 in
theorem r_putS_ok {w : World} (k v id er wa : Int) {Ai At Ab : Option Addr} {ni ci nt ct nb cb : Nat} {zs ts bs} (h : Rq w w.heap.size Ai ni ci At nt ct Ab nb cb zs ts bs) :
    Calls Tryd.prog 23 #[.agg #[.int .i64 k, .int .i64 v, .int .i64 id, .int .i64 er, .int .i64 wa, .slice Ai ni ci, .slice At nt ct, .slice Ab nb cb]] w (PatsS w (putS ⟨k, v, id, er, wa, zs, ts, bs⟩)) := by
  obtain ⟨W, hW⟩ : ∃ W, W = w.alloc (.cells #[.int .i64 k, .int .i64 v, .int .i64 id, .int .i64 er, .int .i64 wa, .slice Ai ni ci, .slice At nt ct, .slice Ab nb cb] 38) := ⟨_, rfl⟩
  have b1 : Below w.heap.size w W := by rw [hW]; exact bput (Below.refl _ w) _
  have g1 : W.heap[w.heap.size]? = some (.cells #[.int .i64 k, .int .i64 v, .int .i64 id, .int .i64 er, .int .i64 wa, .slice Ai ni ci, .slice At nt ct, .slice Ab nb cb] 38 (0, 0)) := by rw [hW]; exact heap_alloc_new w _
  have HK : Hid (∀ w', Below W.heap.size W w' → w'.cell? ⟨w.heap.size, 0, none⟩ = some (.int .i64 k) ∧ w'.cell? ⟨w.heap.size, 1, none⟩ = some (.int .i64 v) ∧ w'.cell? ⟨w.heap.size, 2, none⟩ = some (.int .i64 id) ∧ w'.cell? ⟨w.heap.size, 3, none⟩ = some (.int .i64 er) ∧ w'.cell? ⟨w.heap.size, 4, none⟩ = some (.int .i64 wa) ∧ w'.cell? ⟨w.heap.size, 5, none⟩ = some (.slice Ai ni ci) ∧ w'.cell? ⟨w.heap.size, 6, none⟩ = some (.slice At nt ct) ∧ w'.cell? ⟨w.heap.size, 7, none⟩ = some (.slice Ab nb cb)) := Lib.hid fun w' hb =>
    (of8 ((hb.block _ (Array.getElem?_eq_some_iff.1 g1).1).trans g1)).1
  have HQ : Hid (∀ w', Below W.heap.size W w' → Rq w' w'.heap.size Ai ni ci At nt ct Ab nb cb zs ts bs) := Lib.hid fun w' hb =>
    (h.step (bthen b1 hb) (Nat.le_refl _)).more (bthen b1 hb).size
  have HB1 := Lib.hid b1
  have hck := r_chkS_ok k v id er wa (HQ.out W (Below.refl _ W))
  by_cases hk : chkS ⟨k, v, id, er, wa, zs, ts, bs⟩ = 0
  case neg =>
    rw [putS_bad hk]
    have t1 : (chkS ⟨k, v, id, er, wa, zs, ts, bs⟩ != 0) = true := by simpa using hk
    have HC := Lib.hid hck
    generalize chkS ⟨k, v, id, er, wa, zs, ts, bs⟩ = E at *
    obtain ⟨k0, k1, k2, k3, k4, k5, k6, k7⟩ := HK.out W (Below.refl _ W)
    clear hk h hck b1 g1
    go_enter Tryd.func23, Tryd.ntmps23
    go_wp2_with fail
    rw [← hW]
    clear hW
    refine HC.out.mono ?_
    rintro e1 w1 ⟨rfl, hb1⟩
    have HBB := Lib.hid (bthen HB1.out hb1)
    clear hb1 k0 k1 k2 k3 k4 k5 k6 k7
    go_wp2
    go_ret2
    exact ⟨none, 0, 0, rfl, Rd.nil _ _, HBB.out⟩
  rw [putS_good hk]
  rw [hk] at hck
  obtain ⟨hkn, ⟨q1, q2⟩, ⟨⟨q3, q3'⟩, q4⟩, ⟨q5, q5'⟩, ⟨q6, q7⟩, ⟨q8, q9⟩, q10⟩ := chkS_ok.1 hk
  simp only at hkn q1 q2 q3 q3' q4 q5 q5' q6 q7 q8 q9 q10
  obtain ⟨i1, i2, i3, i4⟩ := known_ok hkn
  have e1 := byte_is (n := k) (by omega) (by omega)
  have e2 := byte_is (n := v) (by omega) (by omega)
  have hni := h.ints.len
  rw [iv_len] at hni
  have hnt := h.texts.len
  rw [sv_len] at hnt
  have hnb := h.blob.len
  have m1 := h.ints.cap
  have m2 := h.ints.top
  have m3 := h.texts.cap
  have m4 := h.texts.top
  have m5 := h.blob.cap
  have m6 := h.blob.top
  have HTI := Lib.hid (flat_len encI (m := 10) (l := zs) (fun x hx => encI_len (by have := q7 x hx; omega) (by have := q7 x hx; omega)))
  have HTT := Lib.hid (flat_len putT (m := 74) (l := ts) (fun x hx => putT_len' (q9 x hx)))
  have HZL : Hid (zs.length ≤ 64) := Lib.hid q6
  have HTL : Hid (ts.length ≤ 16) := Lib.hid q8
  have HBL : Hid (bs.length ≤ 4096) := Lib.hid q10
  have Q6 : Hid (∀ x ∈ zs, -9223372036854775808 ≤ x ∧ x ≤ 9223372036854775807) := Lib.hid (fun x hx => ⟨by have := q7 x hx; omega, by have := q7 x hx; omega⟩)
  have Q9 := Lib.hid q9
  clear q7 q6 q8 q9 q10 q4 hkn
  have HC := Lib.hid hck
  have HNI := Lib.hid hni
  have HNT := Lib.hid hnt
  have HNB := Lib.hid hnb
  have HE1 := Lib.hid e1
  have HE2 := Lib.hid e2
  clear hck hk b1 g1 h hni hnt hnb e1 e2
  obtain ⟨k0, k1, k2, k3, k4, k5, k6, k7⟩ := HK.out W (Below.refl _ W)
  by_cases hv : 1 ≤ v
  case pos =>
    have tv : decide (1 ≤ v) = true := by simpa using hv
    have HV : Hid (1 ≤ v) := Lib.hid (by omega)
    clear hv
    go_enter Tryd.func23, Tryd.ntmps23
    go_wp2_with fail
    rw [← hW]
    clear hW
    refine HC.out.mono ?_
    rintro e1 w1 ⟨rfl, hb1⟩
    have B1 := Lib.hid hb1
    clear hb1 k0 k1 k2 k3 k4 k5 k6 k7 HC
    obtain ⟨k0, k1, k2, k3, k4, k5, k6, k7⟩ := HK.out w1 B1.out
    have e1 := HE1.out
    have e2 := HE2.out
    go_upto_region 5 with fail
    clear e1 e2 k0 k1 k2 k3 k4 k5 k6 k7
    obtain ⟨w2, hw2⟩ : ∃ x, x = w1.alloc (.cells #[.int .u8 ((byteOf k).toNat : Int), .int .u8 ((byteOf v).toNat : Int)] 5) := ⟨_, rfl⟩
    have B2 : Hid (Below W.heap.size W w2) := Lib.hid (by rw [hw2]; exact bthen B1.out (bput (Below.refl _ w1) _))
    have R2 : Hid (Rd w2 w2.heap.size (some ⟨w1.heap.size, 0, none⟩) 2 2 [byteOf k, byteOf v]) := Lib.hid (by
      have h1 := Rd.lit w1 5 [.int .u8 ((byteOf k).toNat : Int), .int .u8 ((byteOf v).toNat : Int)] [byteOf k, byteOf v] rfl (by simp)
      rw [hw2]
      exact h1.more (by simp))
    rw [← hw2]
    clear hw2
    obtain ⟨L2, hL2⟩ : ∃ L, L = [byteOf k, byteOf v] := ⟨_, rfl⟩
    rw [← hL2] at R2
    have N2 : Hid (L2.length ≤ 2) := Lib.hid (by rw [hL2]; simp)
    have E2 := Lib.hid hL2
    clear hL2
    have HN := Lib.hid (rPutVar_ok R2.out (by have := N2.out; have := R2.out.len; omega) id (by omega) (by omega))
    obtain ⟨k0, k1, k2, k3, k4, k5, k6, k7⟩ := HK.out w2 B2.out
    go_wp2_with fail
    clear k0 k1 k2 k3 k4 k5 k6 k7
    refine HN.out.mono ?_
    rintro e1 w3 ⟨A3, n3, c3, rfl, ho, hb⟩
    clear HN
    have B3 := Lib.hid (bthen B2.out hb)
    obtain ⟨L3, hL3⟩ : ∃ L, L = L2 ++ enc (zig id) := ⟨_, rfl⟩
    rw [← hL3] at ho
    have N3 : Hid (L3.length ≤ 12) := Lib.hid (by have := N2.out; rw [hL3, List.length_append]; have : (enc (zig id)).length ≤ 10 := encI_len (m := id) (by omega) (by omega); omega)
    have E3 := Lib.hid hL3
    clear hL3
    have O3 := Lib.hid ho
    have HBW3 := Lib.hid hb
    have R3 := Lib.hid ho.rd
    clear ho hb
    have HN := Lib.hid (rPutVar_ok R3.out (by have := N3.out; have := R3.out.len; omega) er (by omega) (by omega))
    obtain ⟨k0, k1, k2, k3, k4, k5, k6, k7⟩ := HK.out w3 B3.out
    go_wp2_with fail
    clear k0 k1 k2 k3 k4 k5 k6 k7
    refine HN.out.mono ?_
    rintro e1 w4 ⟨A4, n4, c4, rfl, ho, hb⟩
    clear HN
    have B4 := Lib.hid (bthen B3.out hb)
    obtain ⟨L4, hL4⟩ : ∃ L, L = L3 ++ enc (zig er) := ⟨_, rfl⟩
    rw [← hL4] at ho
    have N4 : Hid (L4.length ≤ 22) := Lib.hid (by have := N3.out; rw [hL4, List.length_append]; have : (enc (zig er)).length ≤ 10 := encI_len (m := er) (by omega) (by omega); omega)
    have E4 := Lib.hid hL4
    clear hL4
    have O4 := Lib.hid ho
    have HBW4 := Lib.hid hb
    have R4 := Lib.hid ho.rd
    clear ho hb
    have HN := Lib.hid (rPutVar_ok R4.out (by have := N4.out; have := R4.out.len; omega) wa (by omega) (by omega))
    obtain ⟨k0, k1, k2, k3, k4, k5, k6, k7⟩ := HK.out w4 B4.out
    go_wp2_with fail
    clear k0 k1 k2 k3 k4 k5 k6 k7
    refine HN.out.mono ?_
    rintro e1 w5 ⟨A5, n5, c5, rfl, ho, hb⟩
    clear HN
    have B5 := Lib.hid (bthen B4.out hb)
    obtain ⟨L5, hL5⟩ : ∃ L, L = L4 ++ enc (zig wa) := ⟨_, rfl⟩
    rw [← hL5] at ho
    have N5 : Hid (L5.length ≤ 32) := Lib.hid (by have := N4.out; rw [hL5, List.length_append]; have : (enc (zig wa)).length ≤ 10 := encI_len (m := wa) (by omega) (by omega); omega)
    have E5 := Lib.hid hL5
    clear hL5
    have O5 := Lib.hid ho
    have HBW5 := Lib.hid hb
    have R5 := Lib.hid ho.rd
    clear ho hb
    have HN := Lib.hid (fun (w' : World) (hb : Below w5.heap.size w5 w') => rPutVar_ok ((R5.out.step hb (Nat.le_refl _)).more hb.size) (by have := N5.out; have := R5.out.len; omega) (ni : Int) (by omega) (by omega))
    have HKX : Hid (∀ w', Below w5.heap.size w5 w' → w'.cell? ⟨w.heap.size, 5, none⟩ = some (.slice Ai ni ci)) := Lib.hid fun w' hb => (HK.out w' (bthen B5.out hb)).2.2.2.2.2.1
    obtain ⟨k0, k1, k2, k3, k4, k5, k6, k7⟩ := HK.out w5 B5.out
    go_wp2_with fail
    clear k0 k1 k2 k3 k4 k5 k6 k7
    have z0 := (Below.refl w5.heap.size w5).drew
    go_region_held3 (fun w' => w'.cell? ⟨w.heap.size, 5, none⟩ = some (.slice Ai ni ci)) (first | exact HKX.out _ z0 | exact HKX.out _ z1 | exact HKX.out _ z2 | fail) (first
      | (go_at_call 40; refine (HN.out _ z0).mono ?_; rintro e1 w6 ⟨A6, n6, c6, rfl, ho, hb⟩; have z1 := bthen z0 hb)
      | (go_at_call 42; refine (rputAll_ok ho.rd (HQ.out w6 (bthen B5.out z1)).ints Q6.out (by have := N5.out; have := HZL.out; have : (enc (zig (ni : Int))).length ≤ 10 := encI_len (m := (ni : Int)) (by omega) (by omega); rw [List.length_append]; omega)).mono ?_; rintro e2 w7 ⟨A7, n7, c7, rfl, ho2, hb2⟩; have z2 := bthen z1 hb2)
      | fail)
    clear HN HKX ho hb hb2
    have B7 := Lib.hid (bthen B5.out z2)
    obtain ⟨L7, hL7⟩ : ∃ L, L = L5 ++ enc (zig (ni : Int)) ++ ((zs.map encI).flatten) := ⟨_, rfl⟩
    rw [← hL7] at ho2
    have N7 : Hid (L7.length ≤ 682) := Lib.hid (by have := N5.out; rw [hL7, List.length_append, List.length_append]; have := HTI.out; have := HZL.out; have : (enc (zig (ni : Int))).length ≤ 10 := encI_len (m := (ni : Int)) (by omega) (by omega); omega)
    have E7 := Lib.hid hL7
    have R7 := Lib.hid ho2
    clear hL7 ho2 z0 z1 z2
    have HN := Lib.hid (fun (w' : World) (hb : Below w7.heap.size w7 w') => rPutVar_ok ((R7.out.step hb (Nat.le_refl _)).more hb.size) (by have := N7.out; have := R7.out.len; omega) (nt : Int) (by omega) (by omega))
    have HKX : Hid (∀ w', Below w7.heap.size w7 w' → w'.cell? ⟨w.heap.size, 6, none⟩ = some (.slice At nt ct)) := Lib.hid fun w' hb => (HK.out w' (bthen B7.out hb)).2.2.2.2.2.2.1
    obtain ⟨k0, k1, k2, k3, k4, k5, k6, k7⟩ := HK.out w7 B7.out
    go_wp2_with fail
    clear k0 k1 k2 k3 k4 k5 k6 k7
    have z0 := (Below.refl w7.heap.size w7).drew
    go_region_held3 (fun w' => w'.cell? ⟨w.heap.size, 6, none⟩ = some (.slice At nt ct)) (first | exact HKX.out _ z0 | exact HKX.out _ z1 | exact HKX.out _ z2 | fail) (first
      | (go_at_call 40; refine (HN.out _ z0).mono ?_; rintro e1 w8 ⟨A8, n8, c8, rfl, ho, hb⟩; have z1 := bthen z0 hb)
      | (go_at_call 43; refine (rputTexts_ok ho.rd (HQ.out w8 (bthen B7.out z1)).texts Q9.out (by have := N7.out; have := HTL.out; have : (enc (zig (nt : Int))).length ≤ 10 := encI_len (m := (nt : Int)) (by omega) (by omega); rw [List.length_append]; omega)).mono ?_; rintro e2 w9 ⟨A9, n9, c9, rfl, ho2, hb2⟩; have z2 := bthen z1 hb2)
      | fail)
    clear HN HKX ho hb hb2
    have B9 := Lib.hid (bthen B7.out z2)
    obtain ⟨L9, hL9⟩ : ∃ L, L = L7 ++ enc (zig (nt : Int)) ++ ((ts.map putT).flatten) := ⟨_, rfl⟩
    rw [← hL9] at ho2
    have N9 : Hid (L9.length ≤ 1876) := Lib.hid (by have := N7.out; rw [hL9, List.length_append, List.length_append]; have := HTT.out; have := HTL.out; have : (enc (zig (nt : Int))).length ≤ 10 := encI_len (m := (nt : Int)) (by omega) (by omega); omega)
    have E9 := Lib.hid hL9
    have R9 := Lib.hid ho2
    clear hL9 ho2 z0 z1 z2
    have HN := Lib.hid (rPutVar_ok R9.out (by have := N9.out; have := R9.out.len; omega) (nb : Int) (by omega) (by omega))
    obtain ⟨k0, k1, k2, k3, k4, k5, k6, k7⟩ := HK.out w9 B9.out
    go_wp2_with fail
    clear k0 k1 k2 k3 k4 k5 k6 k7
    refine HN.out.mono ?_
    rintro e1 w10 ⟨A10, n10, c10, rfl, ho, hb⟩
    clear HN
    have B10 := Lib.hid (bthen B9.out hb)
    obtain ⟨L10, hL10⟩ : ∃ L, L = L9 ++ enc (zig (nb : Int)) := ⟨_, rfl⟩
    rw [← hL10] at ho
    have N10 : Hid (L10.length ≤ 1886) := Lib.hid (by have := N9.out; rw [hL10, List.length_append]; have : (enc (zig (nb : Int))).length ≤ 10 := encI_len (m := (nb : Int)) (by omega) (by omega); omega)
    have E10 := Lib.hid hL10
    clear hL10
    have O10 := Lib.hid ho
    have HBW10 := Lib.hid hb
    have R10 := Lib.hid ho.rd
    clear ho hb
    have HNB2 := Lib.hid (show n10 + nb ≤ 140737488355328 by have := N10.out; have := R10.out.len; have := HBL.out; have := HNB.out; omega)
    have HZ := Lib.hid (show w9.heap.size ≤ w10.heap.size from HBW10.out.size)
    have HRB := Lib.hid ((HQ.out w10 B10.out).blob)
    obtain ⟨k0, k1, k2, k3, k4, k5, k6, k7⟩ := HK.out w10 B10.out
    go_wp2_with (at_builtin; go_must (refine wpList_app rfl (.tmp 54) (.tmp 56) rfl Tryd.underlying24 byteInfo rfl O10.out rfl HRB.out HNB2.out HZ.out ?_))
    intro A11 c11 w11 ho hb
    clear k0 k1 k2 k3 k4 k5 k6 k7
    have B11 : Hid (Below W.heap.size W w11) := Lib.hid (bthen B9.out (HBW10.out.trans hb))
    obtain ⟨L11, hL11⟩ : ∃ L, L = L10 ++ bs := ⟨_, rfl⟩
    rw [← hL11] at ho
    have E11 := Lib.hid hL11
    have R11 := Lib.hid ho.rd
    clear hL11 ho hb
    have HFIN : Hid (L11 = encS ⟨k, v, id, er, wa, zs, ts, bs⟩) := Lib.hid (by
      rw [E11.out, E10.out, E9.out, E7.out, E5.out, E4.out, E3.out, E2.out]
      simp only [encS, bodyS, encI]
      rw [if_pos (by have := HV.out; omega)]
      rw [HNI.out, HNT.out]
      simp only [putT]
      rw [HNB.out]
      simp only [List.append_assoc, List.cons_append, List.nil_append])
    have HRD := R11.out
    rw [HFIN.out] at HRD
    have HRR := Lib.hid HRD
    clear HRD
    obtain ⟨k0, k1, k2, k3, k4, k5, k6, k7⟩ := HK.out w11 B11.out
    go_wp2
    go_ret2
    exact ⟨_, _, _, rfl, HRR.out, bthen HB1.out B11.out⟩
  case neg =>
    have tv : decide (1 ≤ v) = false := by simpa using hv
    have HV : Hid (v < 1) := Lib.hid (by omega)
    clear hv
    go_enter Tryd.func23, Tryd.ntmps23
    go_wp2_with fail
    rw [← hW]
    clear hW
    refine HC.out.mono ?_
    rintro e1 w1 ⟨rfl, hb1⟩
    have B1 := Lib.hid hb1
    clear hb1 k0 k1 k2 k3 k4 k5 k6 k7 HC
    obtain ⟨k0, k1, k2, k3, k4, k5, k6, k7⟩ := HK.out w1 B1.out
    have e1 := HE1.out
    have e2 := HE2.out
    go_upto_region 5 with fail
    clear e1 e2 k0 k1 k2 k3 k4 k5 k6 k7
    obtain ⟨w2, hw2⟩ : ∃ x, x = w1.alloc (.cells #[.int .u8 ((byteOf k).toNat : Int), .int .u8 ((byteOf v).toNat : Int)] 5) := ⟨_, rfl⟩
    have B2 : Hid (Below W.heap.size W w2) := Lib.hid (by rw [hw2]; exact bthen B1.out (bput (Below.refl _ w1) _))
    have R2 : Hid (Rd w2 w2.heap.size (some ⟨w1.heap.size, 0, none⟩) 2 2 [byteOf k, byteOf v]) := Lib.hid (by
      have h1 := Rd.lit w1 5 [.int .u8 ((byteOf k).toNat : Int), .int .u8 ((byteOf v).toNat : Int)] [byteOf k, byteOf v] rfl (by simp)
      rw [hw2]
      exact h1.more (by simp))
    rw [← hw2]
    clear hw2
    obtain ⟨L2, hL2⟩ : ∃ L, L = [byteOf k, byteOf v] := ⟨_, rfl⟩
    rw [← hL2] at R2
    have N2 : Hid (L2.length ≤ 2) := Lib.hid (by rw [hL2]; simp)
    have E2 := Lib.hid hL2
    clear hL2
    have HN := Lib.hid (rPutVar_ok R2.out (by have := N2.out; have := R2.out.len; omega) id (by omega) (by omega))
    obtain ⟨k0, k1, k2, k3, k4, k5, k6, k7⟩ := HK.out w2 B2.out
    go_wp2_with fail
    clear k0 k1 k2 k3 k4 k5 k6 k7
    refine HN.out.mono ?_
    rintro e1 w3 ⟨A3, n3, c3, rfl, ho, hb⟩
    clear HN
    have B3 := Lib.hid (bthen B2.out hb)
    obtain ⟨L3, hL3⟩ : ∃ L, L = L2 ++ enc (zig id) := ⟨_, rfl⟩
    rw [← hL3] at ho
    have N3 : Hid (L3.length ≤ 12) := Lib.hid (by have := N2.out; rw [hL3, List.length_append]; have : (enc (zig id)).length ≤ 10 := encI_len (m := id) (by omega) (by omega); omega)
    have E3 := Lib.hid hL3
    clear hL3
    have O3 := Lib.hid ho
    have HBW3 := Lib.hid hb
    have R3 := Lib.hid ho.rd
    clear ho hb
    have HN := Lib.hid (rPutVar_ok R3.out (by have := N3.out; have := R3.out.len; omega) er (by omega) (by omega))
    obtain ⟨k0, k1, k2, k3, k4, k5, k6, k7⟩ := HK.out w3 B3.out
    go_wp2_with fail
    clear k0 k1 k2 k3 k4 k5 k6 k7
    refine HN.out.mono ?_
    rintro e1 w4 ⟨A4, n4, c4, rfl, ho, hb⟩
    clear HN
    have B4 := Lib.hid (bthen B3.out hb)
    obtain ⟨L4, hL4⟩ : ∃ L, L = L3 ++ enc (zig er) := ⟨_, rfl⟩
    rw [← hL4] at ho
    have N4 : Hid (L4.length ≤ 22) := Lib.hid (by have := N3.out; rw [hL4, List.length_append]; have : (enc (zig er)).length ≤ 10 := encI_len (m := er) (by omega) (by omega); omega)
    have E4 := Lib.hid hL4
    clear hL4
    have O4 := Lib.hid ho
    have HBW4 := Lib.hid hb
    have R4 := Lib.hid ho.rd
    clear ho hb
    have HN := Lib.hid (fun (w' : World) (hb : Below w4.heap.size w4 w') => rPutVar_ok ((R4.out.step hb (Nat.le_refl _)).more hb.size) (by have := N4.out; have := R4.out.len; omega) (ni : Int) (by omega) (by omega))
    have HKX : Hid (∀ w', Below w4.heap.size w4 w' → w'.cell? ⟨w.heap.size, 5, none⟩ = some (.slice Ai ni ci)) := Lib.hid fun w' hb => (HK.out w' (bthen B4.out hb)).2.2.2.2.2.1
    obtain ⟨k0, k1, k2, k3, k4, k5, k6, k7⟩ := HK.out w4 B4.out
    go_wp2_with fail
    clear k0 k1 k2 k3 k4 k5 k6 k7
    have z0 := (Below.refl w4.heap.size w4).drew
    go_region_held3 (fun w' => w'.cell? ⟨w.heap.size, 5, none⟩ = some (.slice Ai ni ci)) (first | exact HKX.out _ z0 | exact HKX.out _ z1 | exact HKX.out _ z2 | fail) (first
      | (go_at_call 40; refine (HN.out _ z0).mono ?_; rintro e1 w5 ⟨A5, n5, c5, rfl, ho, hb⟩; have z1 := bthen z0 hb)
      | (go_at_call 42; refine (rputAll_ok ho.rd (HQ.out w5 (bthen B4.out z1)).ints Q6.out (by have := N4.out; have := HZL.out; have : (enc (zig (ni : Int))).length ≤ 10 := encI_len (m := (ni : Int)) (by omega) (by omega); rw [List.length_append]; omega)).mono ?_; rintro e2 w6 ⟨A6, n6, c6, rfl, ho2, hb2⟩; have z2 := bthen z1 hb2)
      | fail)
    clear HN HKX ho hb hb2
    have B6 := Lib.hid (bthen B4.out z2)
    obtain ⟨L6, hL6⟩ : ∃ L, L = L4 ++ enc (zig (ni : Int)) ++ ((zs.map encI).flatten) := ⟨_, rfl⟩
    rw [← hL6] at ho2
    have N6 : Hid (L6.length ≤ 672) := Lib.hid (by have := N4.out; rw [hL6, List.length_append, List.length_append]; have := HTI.out; have := HZL.out; have : (enc (zig (ni : Int))).length ≤ 10 := encI_len (m := (ni : Int)) (by omega) (by omega); omega)
    have E6 := Lib.hid hL6
    have R6 := Lib.hid ho2
    clear hL6 ho2 z0 z1 z2
    have HN := Lib.hid (fun (w' : World) (hb : Below w6.heap.size w6 w') => rPutVar_ok ((R6.out.step hb (Nat.le_refl _)).more hb.size) (by have := N6.out; have := R6.out.len; omega) (nt : Int) (by omega) (by omega))
    have HKX : Hid (∀ w', Below w6.heap.size w6 w' → w'.cell? ⟨w.heap.size, 6, none⟩ = some (.slice At nt ct)) := Lib.hid fun w' hb => (HK.out w' (bthen B6.out hb)).2.2.2.2.2.2.1
    obtain ⟨k0, k1, k2, k3, k4, k5, k6, k7⟩ := HK.out w6 B6.out
    go_wp2_with fail
    clear k0 k1 k2 k3 k4 k5 k6 k7
    have z0 := (Below.refl w6.heap.size w6).drew
    go_region_held3 (fun w' => w'.cell? ⟨w.heap.size, 6, none⟩ = some (.slice At nt ct)) (first | exact HKX.out _ z0 | exact HKX.out _ z1 | exact HKX.out _ z2 | fail) (first
      | (go_at_call 40; refine (HN.out _ z0).mono ?_; rintro e1 w7 ⟨A7, n7, c7, rfl, ho, hb⟩; have z1 := bthen z0 hb)
      | (go_at_call 43; refine (rputTexts_ok ho.rd (HQ.out w7 (bthen B6.out z1)).texts Q9.out (by have := N6.out; have := HTL.out; have : (enc (zig (nt : Int))).length ≤ 10 := encI_len (m := (nt : Int)) (by omega) (by omega); rw [List.length_append]; omega)).mono ?_; rintro e2 w8 ⟨A8, n8, c8, rfl, ho2, hb2⟩; have z2 := bthen z1 hb2)
      | fail)
    clear HN HKX ho hb hb2
    have B8 := Lib.hid (bthen B6.out z2)
    obtain ⟨L8, hL8⟩ : ∃ L, L = L6 ++ enc (zig (nt : Int)) ++ ((ts.map putT).flatten) := ⟨_, rfl⟩
    rw [← hL8] at ho2
    have N8 : Hid (L8.length ≤ 1866) := Lib.hid (by have := N6.out; rw [hL8, List.length_append, List.length_append]; have := HTT.out; have := HTL.out; have : (enc (zig (nt : Int))).length ≤ 10 := encI_len (m := (nt : Int)) (by omega) (by omega); omega)
    have E8 := Lib.hid hL8
    have R8 := Lib.hid ho2
    clear hL8 ho2 z0 z1 z2
    have HN := Lib.hid (rPutVar_ok R8.out (by have := N8.out; have := R8.out.len; omega) (nb : Int) (by omega) (by omega))
    obtain ⟨k0, k1, k2, k3, k4, k5, k6, k7⟩ := HK.out w8 B8.out
    go_wp2_with fail
    clear k0 k1 k2 k3 k4 k5 k6 k7
    refine HN.out.mono ?_
    rintro e1 w9 ⟨A9, n9, c9, rfl, ho, hb⟩
    clear HN
    have B9 := Lib.hid (bthen B8.out hb)
    obtain ⟨L9, hL9⟩ : ∃ L, L = L8 ++ enc (zig (nb : Int)) := ⟨_, rfl⟩
    rw [← hL9] at ho
    have N9 : Hid (L9.length ≤ 1876) := Lib.hid (by have := N8.out; rw [hL9, List.length_append]; have : (enc (zig (nb : Int))).length ≤ 10 := encI_len (m := (nb : Int)) (by omega) (by omega); omega)
    have E9 := Lib.hid hL9
    clear hL9
    have O9 := Lib.hid ho
    have HBW9 := Lib.hid hb
    have R9 := Lib.hid ho.rd
    clear ho hb
    have HNB2 := Lib.hid (show n9 + nb ≤ 140737488355328 by have := N9.out; have := R9.out.len; have := HBL.out; have := HNB.out; omega)
    have HZ := Lib.hid (show w8.heap.size ≤ w9.heap.size from HBW9.out.size)
    have HRB := Lib.hid ((HQ.out w9 B9.out).blob)
    obtain ⟨k0, k1, k2, k3, k4, k5, k6, k7⟩ := HK.out w9 B9.out
    go_wp2_with (at_builtin; go_must (refine wpList_app rfl (.tmp 54) (.tmp 56) rfl Tryd.underlying24 byteInfo rfl O9.out rfl HRB.out HNB2.out HZ.out ?_))
    intro A10 c10 w10 ho hb
    clear k0 k1 k2 k3 k4 k5 k6 k7
    have B10 : Hid (Below W.heap.size W w10) := Lib.hid (bthen B8.out (HBW9.out.trans hb))
    obtain ⟨L10, hL10⟩ : ∃ L, L = L9 ++ bs := ⟨_, rfl⟩
    rw [← hL10] at ho
    have E10 := Lib.hid hL10
    have R10 := Lib.hid ho.rd
    clear hL10 ho hb
    have HFIN : Hid (L10 = encS ⟨k, v, id, er, wa, zs, ts, bs⟩) := Lib.hid (by
      rw [E10.out, E9.out, E8.out, E6.out, E4.out, E3.out, E2.out]
      simp only [encS, bodyS, encI]
      rw [if_neg (by have := HV.out; omega)]
      rw [HNI.out, HNT.out]
      simp only [putT]
      rw [HNB.out]
      simp only [List.append_assoc, List.cons_append, List.nil_append])
    have HRD := R10.out
    rw [HFIN.out] at HRD
    have HRR := Lib.hid HRD
    clear HRD
    obtain ⟨k0, k1, k2, k3, k4, k5, k6, k7⟩ := HK.out w10 B10.out
    go_wp2
    go_ret2
    exact ⟨_, _, _, rfl, HRR.out, bthen HB1.out B10.out⟩
end Go.Proofs.YtlijagbklopipaaDoor
