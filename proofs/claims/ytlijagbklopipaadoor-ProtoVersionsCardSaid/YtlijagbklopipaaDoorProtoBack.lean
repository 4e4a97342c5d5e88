/-
  The walk of ProtoBack. Conditions: those that it states.
-/
import Derived.Deep.DeepCutAuto
import Derived.Test.YtlijagbklopipaaDoorAlone
import Derived.Test.YtlijagbklopipaaDoorProtoOnly
namespace Go.Proofs.YtlijagbklopipaaDoor
open Go.RowKit
set_option linter.unusedVariables false

/-- What stands behind the request's half: its bytes, and an error. -/
def HalfB (w wx : World) (s10 s11 : Value) : Prop := ∃ (A : Option Addr) (n c : Nat) (E : Int), s10 = .slice A n c ∧ s11 = .int .i64 E ∧ (E = 0 ∨ n = 0 ∧ E ≠ 0) ∧ Below w.heap.size w wx
theorem bodyQ_len {r : RQ} (h : chkQ r = 0) : 2 ≤ (encQ r).length ∧ (encQ r).length ≤ 1000000 := by
  obtain ⟨hk, ⟨q1, q2⟩, ⟨q3, q4⟩, ⟨q5, q6⟩, ⟨q7, q8, q9⟩, q10⟩ := chkQ_ok.1 h
  obtain ⟨i1, i2, i3, i4⟩ := known_ok hk
  obtain ⟨K, hK⟩ := Int.eq_ofNat_of_zero_le (show 0 ≤ r.kind by omega)
  have hsm := sh_small ⟨K, by omega⟩
  simp only at hsm
  rw [hK] at q5 q7 q8 q10
  have h12 : shM (K : Int) ≤ 12 := by unfold shM; split <;> omega
  have h20 : shB (K : Int) ≤ 2048 := by unfold shB; split <;> omega
  have hti := flat_len encI (m := 10) (l := r.ints) (fun x hx => encI_len (by have := q6 x hx; omega) (by have := q6 x hx; omega))
  have htt := flat_len putT (m := 74) (l := r.texts) (fun x hx => putT_len' (q9 x hx))
  have e1 := encI_len (m := r.id) (by omega) (by omega)
  have e2 := encI_len (m := (r.texts.length : Int)) (by omega) (by omega)
  have e3 := putT_len' q3
  have e4 := encI_len (m := (r.blob.length : Int)) (by omega) (by omega)
  have e5 : (putT r.blob).length ≤ 10 + r.blob.length := by
    have : putT r.blob = encI (r.blob.length : Int) ++ r.blob := rfl
    rw [this, List.length_append]; omega
  have e6 : (if 2 ≤ r.ver then putT r.who else []).length ≤ 74 := by split <;> first | omega | exact Nat.zero_le _
  have e7 : (if r.kind = 7 then encI (r.texts.length : Int) else []).length ≤ 10 := by split <;> first | omega | exact Nat.zero_le _
  have e8 : (if r.kind = 2 then putT r.blob else []).length ≤ 10 + r.blob.length := by split <;> first | omega | exact Nat.zero_le _
  simp only [encQ, bodyQ, List.length_cons, List.length_append]
  omega
theorem bodyS_len {r : RS} (h : chkS r = 0) : 2 ≤ (encS r).length ∧ (encS r).length ≤ 1000000 := by
  obtain ⟨hk, ⟨q1, q2⟩, ⟨⟨q3, q3'⟩, q4⟩, ⟨q5, q5'⟩, ⟨q6, q7⟩, ⟨q8, q9⟩, q10⟩ := chkS_ok.1 h
  have hti := flat_len encI (m := 10) (l := r.ints) (fun x hx => encI_len (by have := q7 x hx; omega) (by have := q7 x hx; omega))
  have htt := flat_len putT (m := 74) (l := r.texts) (fun x hx => putT_len' (q9 x hx))
  have e1 := encI_len (m := r.id) (by omega) (by omega)
  have e2 := encI_len (m := r.er) (by omega) (by omega)
  have e3 := encI_len (m := r.wait) (by omega) (by omega)
  have e4 := encI_len (m := (r.ints.length : Int)) (by omega) (by omega)
  have e5 := encI_len (m := (r.texts.length : Int)) (by omega) (by omega)
  have e6 := encI_len (m := (r.blob.length : Int)) (by omega) (by omega)
  have e7 : (putT r.blob).length ≤ 10 + r.blob.length := by
    have : putT r.blob = encI (r.blob.length : Int) ++ r.blob := rfl
    rw [this, List.length_append]; omega
  have e8 : (if 1 ≤ r.ver then encI r.wait else []).length ≤ 10 := by split <;> first | omega | exact Nat.zero_le _
  simp only [encS, bodyS, List.length_cons, List.length_append]
  omega

set_option maxRecDepth 100000 in
set_option maxHeartbeats 8000000 in
theorem protoBack_walk {w : World} (hs : Shp w) (k v id : Int) (who : List UInt8) {Ai At Ab : Option Addr} {ni ci nt ct nb cb : Nat} {zs ts bs} (hw : who.length ≤ 9223372036854775807) (h : Rq w w.heap.size Ai ni ci At nt ct Ab nb cb zs ts bs)
    (k' v' id' er wa : Int) {Ai' At' Ab' : Option Addr} {ni' ci' nt' ct' nb' cb' : Nat} {zs' ts' bs'} (h' : Rq w w.heap.size Ai' ni' ci' At' nt' ct' Ab' nb' cb' zs' ts' bs') (cut : Int) (y : UInt8) :
    Calls Tryd.prog 6 #[.agg #[.int .i64 k, .int .i64 v, .int .i64 id, .string (strOf who), .slice Ai ni ci, .slice At nt ct, .slice Ab nb cb], .agg #[.int .i64 k', .int .i64 v', .int .i64 id', .int .i64 er, .int .i64 wa, .slice Ai' ni' ci', .slice At' nt' ct', .slice Ab' nb' cb'], .int .i64 cut, .int .u8 (y.toNat : Int)] w (Says w (.bool true)) := by
  obtain ⟨W1, hW1⟩ : ∃ W, W = ((w.alloc (.cells #[.int .i64 k, .int .i64 v, .int .i64 id, .string (strOf who), .slice Ai ni ci, .slice At nt ct, .slice Ab nb cb] 26)).alloc (.cells #[.int .i64 k', .int .i64 v', .int .i64 id', .int .i64 er, .int .i64 wa, .slice Ai' ni' ci', .slice At' nt' ct', .slice Ab' nb' cb'] 38)) := ⟨_, rfl⟩
  have b1 : Below w.heap.size w W1 := by rw [hW1]; exact bput (bput (Below.refl _ w) _) _
  have hz1 : W1.heap.size = w.heap.size + 1 + 1 := by rw [hW1]; simp
  have g1 : W1.heap[w.heap.size]? = some (.cells #[.int .i64 k, .int .i64 v, .int .i64 id, .string (strOf who), .slice Ai ni ci, .slice At nt ct, .slice Ab nb cb] 26 (0, 0)) := by
    rw [hW1, (bput (Below.refl _ _) _).block w.heap.size (by simp)]
    exact heap_alloc_new w _
  have g2 : W1.heap[w.heap.size + 1]? = some (.cells #[.int .i64 k', .int .i64 v', .int .i64 id', .int .i64 er, .int .i64 wa, .slice Ai' ni' ci', .slice At' nt' ct', .slice Ab' nb' cb'] 38 (0, 0)) := by
    have h1 := heap_alloc_new (w.alloc (.cells #[.int .i64 k, .int .i64 v, .int .i64 id, .string (strOf who), .slice Ai ni ci, .slice At nt ct, .slice Ab nb cb] 26)) (.cells #[.int .i64 k', .int .i64 v', .int .i64 id', .int .i64 er, .int .i64 wa, .slice Ai' ni' ci', .slice At' nt' ct', .slice Ab' nb' cb'] 38)
    rw [World.size_alloc] at h1
    rw [hW1]
    exact h1
  have HF : Hid (∀ w', Below W1.heap.size W1 w' → w'.heap[w.heap.size]? = some (.cells #[.int .i64 k, .int .i64 v, .int .i64 id, .string (strOf who), .slice Ai ni ci, .slice At nt ct, .slice Ab nb cb] 26 (0, 0)) ∧ w'.heap[w.heap.size + 1]? = some (.cells #[.int .i64 k', .int .i64 v', .int .i64 id', .int .i64 er, .int .i64 wa, .slice Ai' ni' ci', .slice At' nt' ct', .slice Ab' nb' cb'] 38 (0, 0))) := Lib.hid fun w' hb =>
    ⟨(hb.block _ (Array.getElem?_eq_some_iff.1 g1).1).trans g1, (hb.block _ (Array.getElem?_eq_some_iff.1 g2).1).trans g2⟩
  have HQ : Hid (∀ w', Below W1.heap.size W1 w' → Rq w' w'.heap.size Ai ni ci At nt ct Ab nb cb zs ts bs ∧ Rq w' w'.heap.size Ai' ni' ci' At' nt' ct' Ab' nb' cb' zs' ts' bs' ∧ Shp w') := Lib.hid fun w' hb =>
    ⟨(h.step (bthen b1 hb) (Nat.le_refl _)).more (bthen b1 hb).size, (h'.step (bthen b1 hb) (Nat.le_refl _)).more (bthen b1 hb).size, hs.on (bthen b1 hb)⟩
  have HB1 := Lib.hid b1
  have hL := live_ok W1 (HQ.out W1 (Below.refl _ _)).2.2
  have HL := Lib.hid hL
  have HWW := Lib.hid hw
  clear b1 hz1 g1 g2 h h' hs hL hw
  go_enter Tryd.func6, Tryd.ntmps6
  go_wp2_with fail
  rw [← hW1]
  clear hW1
  refine HL.out.mono ?_
  rintro e w2 ⟨rfl, b2⟩
  have B2 := Lib.hid b2
  clear b2
  obtain ⟨⟨a0, a1, a2, a3, a4, a5, a6⟩, -⟩ := of7 (HF.out w2 B2.out).1
  go_wp2_with fail
  refine (fewQ_ok k v id who (HQ.out w2 B2.out).1 (Nat.le_refl _)).mono ?_
  rintro e w3 ⟨b, rfl, b3⟩
  have B3 := Lib.hid (bthen B2.out b3)
  clear a0 a1 a2 a3 a4 a5 a6 b3
  cases b with
  | false =>
    go_wp2
    go_ret
    exact ⟨rfl, bthen HB1.out B3.out⟩
  | true =>
  obtain ⟨⟨a0, a1, a2, a3, a4, a5, a6, a7⟩, -⟩ := of8 (HF.out w3 B3.out).2
  go_wp2_with fail
  refine (fewS_ok k' v' id' er wa (HQ.out w3 B3.out).2.1 (Nat.le_refl _)).mono ?_
  rintro e w4 ⟨b, rfl, b4⟩
  have B4 := Lib.hid (bthen B3.out b4)
  clear a0 a1 a2 a3 a4 a5 a6 a7 b4
  cases b with
  | false =>
    go_wp2
    go_ret
    exact ⟨rfl, bthen HB1.out B4.out⟩
  | true =>
  obtain ⟨⟨a0, a1, a2, a3, a4, a5, a6⟩, -⟩ := of7 (HF.out w4 B4.out).1
  have HP := Lib.hid (p_putQ_ok (HQ.out w4 B4.out).2.2 k v id who (HQ.out w4 B4.out).1 HWW.out)
  go_wp2_with fail
  refine HP.out.mono ?_
  rintro e w5 ⟨A5, n5, c5, rfl, ho5, b5⟩
  have B5 := Lib.hid (bthen B4.out b5)
  have HO5 := Lib.hid ho5
  have HG5 := Lib.hid (p_getQ_ok (HQ.out w5 B5.out).2.2 ho5.rd)
  clear a0 a1 a2 a3 a4 a5 a6 b5 ho5 HP
  go_upto_region 5 with fail
  go_wp2_with fail
  refine HG5.out.mono ?_
  rintro e w6 ⟨Bi, mi, di, Bt, mt, dt, Bb, mb, db, rfl, hx6, b6⟩
  obtain ⟨W7, hW7⟩ : ∃ W, W = w6.alloc (.cells #[.int .i64 (decQ (putQ ⟨k, v, id, who, zs, ts, bs⟩).1).1.kind, .int .i64 (decQ (putQ ⟨k, v, id, who, zs, ts, bs⟩).1).1.ver, .int .i64 (decQ (putQ ⟨k, v, id, who, zs, ts, bs⟩).1).1.id, .string (strOf (decQ (putQ ⟨k, v, id, who, zs, ts, bs⟩).1).1.who), .slice Bi mi di, .slice Bt mt dt, .slice Bb mb db] 26) := ⟨_, rfl⟩
  have b7 : Below w6.heap.size w6 W7 := by rw [hW7]; exact bput (Below.refl _ w6) _
  have g7 : W7.heap[w6.heap.size]? = some (.cells #[.int .i64 (decQ (putQ ⟨k, v, id, who, zs, ts, bs⟩).1).1.kind, .int .i64 (decQ (putQ ⟨k, v, id, who, zs, ts, bs⟩).1).1.ver, .int .i64 (decQ (putQ ⟨k, v, id, who, zs, ts, bs⟩).1).1.id, .string (strOf (decQ (putQ ⟨k, v, id, who, zs, ts, bs⟩).1).1.who), .slice Bi mi di, .slice Bt mt dt, .slice Bb mb db] 26 (0, 0)) := by rw [hW7]; exact heap_alloc_new w6 _
  have x7 := (hx6.step b7 (Nat.le_refl _)).more b7.size
  have B7 := Lib.hid (bthen (bthen B5.out b6) b7)
  have B57 := Lib.hid (bthen b6 b7)
  have HX7 := Lib.hid x7
  have HG7 := Lib.hid g7
  clear b6 b7 g7 x7 hx6 HG5
  go_upto_region 6 with fail
  rw [← hW7]
  clear hW7
  go_cut [11, 13, 56] (fun s11 s13 s56 wx => s56 = .bool false ∧ s11 = .int .i64 (putQ ⟨k, v, id, who, zs, ts, bs⟩).2 ∧ s13 = .int .i64 (decQ (putQ ⟨k, v, id, who, zs, ts, bs⟩).1).2 ∧ Hid (Below W1.heap.size W1 wx))
  case first =>
    by_cases hq : chkQ ⟨k, v, id, who, zs, ts, bs⟩ = 0
    · have hp := putQ_good hq
      have HHQ := Lib.hid hq
      have hlen := bodyQ_len hq
      have hx7 : Rq W7 W7.heap.size Bi mi di Bt mt dt Bb mb db zs ts bs := by
        have := HX7.out
        rw [hp, decQ_back hq] at this
        exact this
      have hg7 : W7.heap[w6.heap.size]? = some (.cells #[.int .i64 k, .int .i64 v, .int .i64 id, .string (strOf who), .slice Bi mi di, .slice Bt mt dt, .slice Bb mb db] 26 (0, 0)) := by
        have := HG7.out
        rw [hp, decQ_back hq] at this
        exact this
      have ho5 : Own w5 w4.heap.size A5 n5 c5 (encQ ⟨k, v, id, who, zs, ts, bs⟩) := by
        have := HO5.out
        rw [hp] at this
        exact this
      have hn5 := ho5.1
      have al := aloneQ_ok (y := y) (HQ.out W7 B7.out).2.2 ((ho5.step B57.out).rd) (Nat.le_refl _) cut (by omega) (by omega) (fun c hc => by rw [decQ_short hq hc]) (by rw [decQ_long hq])
      have HAL := Lib.hid (fun w' (hb : Below W7.heap.size W7 w') => aloneQ_ok (y := y) (HQ.out w' (bthen B7.out hb)).2.2 (((ho5.step B57.out).step hb).rd) (Nat.le_refl _) cut (by omega) (by omega) (fun c hc => by rw [decQ_short hq hc]) (by rw [decQ_long hq]))
      have HSA := Lib.hid (sameQ_ok k v id who hx7 (HQ.out W7 B7.out).1 (Nat.le_refl _))
      rw [hp, decQ_back hq]
      obtain ⟨⟨a0, a1, a2, a3, a4, a5, a6⟩, -⟩ := of7 (HF.out W7 B7.out).1
      obtain ⟨⟨x0, x1, x2, x3, x4, x5, x6⟩, -⟩ := of7 hg7
      clear hp hq hlen hx7 hg7 ho5 hn5 al HX7 HG7 HO5
      go_wp2_with fail
      refine HSA.out.mono ?_
      rintro e w8 ⟨rfl, b8⟩
      have HAL8 := Lib.hid (HAL.out w8 b8)
      have B8 := Lib.hid (bthen B7.out b8)
      clear a0 a1 a2 a3 a4 a5 a6 x0 x1 x2 x3 x4 x5 x6 b8 HAL HSA
      go_wp2_with fail
      refine HAL8.out.mono ?_
      rintro e w9 ⟨rfl, b9⟩
      have B9 := Lib.hid (bthen B8.out b9)
      clear b9
      go_wp2_with fail
      go_meet
      exact ⟨rfl, by rw [putQ_good HHQ.out], by rw [putQ_good HHQ.out, decQ_back HHQ.out], B9⟩
    · have hp := putQ_bad hq
      have HHP := Lib.hid hp
      have t1 : (chkQ ⟨k, v, id, who, zs, ts, bs⟩ == 0) = false := by simpa using hq
      rw [hp]
      clear hp hq HX7 HG7
      go_wp2_with fail
      go_meet
      exact ⟨rfl, by rw [HHP.out], by rw [HHP.out], B7⟩
  case rest =>
  obtain ⟨rfl, rfl, rfl, HBC⟩ := hcut
  have hE : (putQ ⟨k, v, id, who, zs, ts, bs⟩).2 = 0 ∨ n5 = 0 ∧ (putQ ⟨k, v, id, who, zs, ts, bs⟩).2 ≠ 0 := by
    by_cases hq : chkQ ⟨k, v, id, who, zs, ts, bs⟩ = 0
    · exact .inl (by rw [putQ_good hq])
    · refine .inr ⟨?_, by rw [putQ_bad hq]; exact hq⟩
      have := HO5.out.1
      rw [putQ_bad hq] at this
      exact this.symm
  have HE := Lib.hid hE
  clear hE HX7 HG7 B57
  generalize (putQ ⟨k, v, id, who, zs, ts, bs⟩).2 = E at *
  obtain ⟨⟨a0, a1, a2, a3, a4, a5, a6, a7⟩, -⟩ := of8 (HF.out wc HBC.out).2
  have HP := Lib.hid (p_putS_ok k' v' id' er wa (HQ.out wc HBC.out).2.1)
  go_wp2_with fail
  refine HP.out.mono ?_
  rintro e w10 ⟨A6, n6, c6, rfl, ho10, b10⟩
  have B10 := Lib.hid (bthen HBC.out b10)
  have HO10 := Lib.hid ho10
  have HG10 := Lib.hid (p_getS_ok ho10.rd)
  clear a0 a1 a2 a3 a4 a5 a6 a7 b10 ho10 HP
  go_wp2_with fail
  refine HG10.out.mono ?_
  rintro e w11 ⟨Ci, mi2, di2, Ct, mt2, dt2, Cb, mb2, db2, rfl, hx11, b11⟩
  obtain ⟨W12, hW12⟩ : ∃ W, W = w11.alloc (.cells #[.int .i64 (decS (putS ⟨k', v', id', er, wa, zs', ts', bs'⟩).1).1.kind, .int .i64 (decS (putS ⟨k', v', id', er, wa, zs', ts', bs'⟩).1).1.ver, .int .i64 (decS (putS ⟨k', v', id', er, wa, zs', ts', bs'⟩).1).1.id, .int .i64 (decS (putS ⟨k', v', id', er, wa, zs', ts', bs'⟩).1).1.er, .int .i64 (decS (putS ⟨k', v', id', er, wa, zs', ts', bs'⟩).1).1.wait, .slice Ci mi2 di2, .slice Ct mt2 dt2, .slice Cb mb2 db2] 38) := ⟨_, rfl⟩
  have b12 : Below w11.heap.size w11 W12 := by rw [hW12]; exact bput (Below.refl _ w11) _
  have g12 : W12.heap[w11.heap.size]? = some (.cells #[.int .i64 (decS (putS ⟨k', v', id', er, wa, zs', ts', bs'⟩).1).1.kind, .int .i64 (decS (putS ⟨k', v', id', er, wa, zs', ts', bs'⟩).1).1.ver, .int .i64 (decS (putS ⟨k', v', id', er, wa, zs', ts', bs'⟩).1).1.id, .int .i64 (decS (putS ⟨k', v', id', er, wa, zs', ts', bs'⟩).1).1.er, .int .i64 (decS (putS ⟨k', v', id', er, wa, zs', ts', bs'⟩).1).1.wait, .slice Ci mi2 di2, .slice Ct mt2 dt2, .slice Cb mb2 db2] 38 (0, 0)) := by rw [hW12]; exact heap_alloc_new w11 _
  have x12 := (hx11.step b12 (Nat.le_refl _)).more b12.size
  have B12 := Lib.hid (bthen (bthen B10.out b11) b12)
  have B1012 := Lib.hid (bthen b11 b12)
  have HX12 := Lib.hid x12
  have HG12 := Lib.hid g12
  clear b11 b12 g12 x12 hx11 HG10
  go_upto_region 10 with fail
  rw [← hW12]
  clear hW12
  go_cut [15, 17, 85] (fun s15 s17 s85 wx => s85 = .bool false ∧ s15 = .int .i64 (putS ⟨k', v', id', er, wa, zs', ts', bs'⟩).2 ∧ s17 = .int .i64 (decS (putS ⟨k', v', id', er, wa, zs', ts', bs'⟩).1).2 ∧ Hid (Below W1.heap.size W1 wx))
  case first =>
    by_cases hq : chkS ⟨k', v', id', er, wa, zs', ts', bs'⟩ = 0
    · have hp := putS_good hq
      have HHQ := Lib.hid hq
      have hlen := bodyS_len hq
      have hx12 : Rq W12 W12.heap.size Ci mi2 di2 Ct mt2 dt2 Cb mb2 db2 zs' ts' bs' := by
        have := HX12.out
        rw [hp, decS_back hq] at this
        exact this
      have hg12 : W12.heap[w11.heap.size]? = some (.cells #[.int .i64 k', .int .i64 v', .int .i64 id', .int .i64 er, .int .i64 wa, .slice Ci mi2 di2, .slice Ct mt2 dt2, .slice Cb mb2 db2] 38 (0, 0)) := by
        have := HG12.out
        rw [hp, decS_back hq] at this
        exact this
      have ho10 : Own w10 wc.heap.size A6 n6 c6 (encS ⟨k', v', id', er, wa, zs', ts', bs'⟩) := by
        have := HO10.out
        rw [hp] at this
        exact this
      have hn6 := ho10.1
      have HAL := Lib.hid (fun w' (hb : Below W12.heap.size W12 w') => aloneS_ok (y := y) (HQ.out w' (bthen B12.out hb)).2.2 (((ho10.step B1012.out).step hb).rd) (Nat.le_refl _) cut (by omega) (by omega) (fun c hc => by rw [decS_short hq hc]) (by rw [decS_long hq]))
      have HSA := Lib.hid (sameS_ok k' v' id' er wa hx12 (HQ.out W12 B12.out).2.1 (Nat.le_refl _))
      rw [hp, decS_back hq]
      obtain ⟨⟨a0, a1, a2, a3, a4, a5, a6, a7⟩, -⟩ := of8 (HF.out W12 B12.out).2
      obtain ⟨⟨x0, x1, x2, x3, x4, x5, x6, x7⟩, -⟩ := of8 hg12
      clear hp hq hlen hx12 hg12 ho10 hn6 HX12 HG12 HO10
      go_wp2_with fail
      refine HSA.out.mono ?_
      rintro e w13 ⟨rfl, b13⟩
      have HAL13 := Lib.hid (HAL.out w13 b13)
      have B13 := Lib.hid (bthen B12.out b13)
      clear a0 a1 a2 a3 a4 a5 a6 a7 x0 x1 x2 x3 x4 x5 x6 x7 b13 HAL HSA
      go_wp2_with fail
      refine HAL13.out.mono ?_
      rintro e w14 ⟨rfl, b14⟩
      have B14 := Lib.hid (bthen B13.out b14)
      clear b14
      go_wp2_with fail
      go_meet
      exact ⟨rfl, by rw [putS_good HHQ.out], by rw [putS_good HHQ.out, decS_back HHQ.out], B14⟩
    · have hp := putS_bad hq
      have HHP := Lib.hid hp
      have t1 : (chkS ⟨k', v', id', er, wa, zs', ts', bs'⟩ == 0) = false := by simpa using hq
      rw [hp]
      clear hp hq HX12 HG12
      go_wp2_with fail
      go_meet
      exact ⟨rfl, by rw [HHP.out], by rw [HHP.out], B12⟩
  case rest =>
  obtain ⟨rfl, rfl, rfl, HBD⟩ := hcut
  have hE2 : (putS ⟨k', v', id', er, wa, zs', ts', bs'⟩).2 = 0 ∨ n6 = 0 ∧ (putS ⟨k', v', id', er, wa, zs', ts', bs'⟩).2 ≠ 0 := by
    by_cases hq : chkS ⟨k', v', id', er, wa, zs', ts', bs'⟩ = 0
    · exact .inl (by rw [putS_good hq])
    · refine .inr ⟨?_, by rw [putS_bad hq]; exact hq⟩
      have := HO10.out.1
      rw [putS_bad hq] at this
      exact this.symm
  generalize (putS ⟨k', v', id', er, wa, zs', ts', bs'⟩).2 = E2 at *
  have HBF := Lib.hid (bthen HB1.out HBD.out)
  have hE := HE.out
  clear HO10 HO5 HX12 HG12 B1012
  rcases hE with rfl | ⟨rfl, hE⟩ <;> rcases hE2 with rfl | ⟨rfl, hE2⟩
  · go_wp2
    go_ret
    exact ⟨rfl, HBF.out⟩
  · have t2 : (E2 == 0) = false := by simpa using hE2
    clear hE2
    go_wp2
    go_ret
    exact ⟨rfl, HBF.out⟩
  · have t1 : (E == 0) = false := by simpa using hE
    clear hE
    go_wp2
    go_ret
    exact ⟨rfl, HBF.out⟩
  · have t1 : (E == 0) = false := by simpa using hE
    have t2 : (E2 == 0) = false := by simpa using hE2
    clear hE hE2
    go_wp2
    go_ret
    exact ⟨rfl, HBF.out⟩
end Go.Proofs.YtlijagbklopipaaDoor
