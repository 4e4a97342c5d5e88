/-
  Contract of proto.PutResp. Conditions: those that it states.
-/
import Derived.Deep.DeepCutAuto
import Derived.Test.YtlijagbklopipaaDoorProO
namespace Go.Proofs.YtlijagbklopipaaDoor
open Go.RowKit
set_option linter.unusedVariables false

set_option maxHeartbeats 4000000 in
theorem p_putS_ok {w : World} (k v id er wa : Int) {Ai At Ab : Option Addr} {ni ci nt ct nb cb : Nat} {zs ts bs} (h : Rq w w.heap.size Ai ni ci At nt ct Ab nb cb zs ts bs) :
    Calls Tryd.prog 22 #[.agg #[.int .i64 k, .int .i64 v, .int .i64 id, .int .i64 er, .int .i64 wa, .slice Ai ni ci, .slice At nt ct, .slice Ab nb cb]] w (Puts w (putS ⟨k, v, id, er, wa, zs, ts, bs⟩)) := by
  have hb0 := bput (Below.refl _ w) (.cells #[.int .i64 k, .int .i64 v, .int .i64 id, .int .i64 er, .int .i64 wa, .slice Ai ni ci, .slice At nt ct, .slice Ab nb cb] 38)
  have hck := p_chkS_ok k v id er wa ((h.step hb0 (Nat.le_refl _)).more hb0.size)
  by_cases hk : chkS ⟨k, v, id, er, wa, zs, ts, bs⟩ = 0
  case neg =>
    rw [putS_bad hk]
    have t1 : (chkS ⟨k, v, id, er, wa, zs, ts, bs⟩ != 0) = true := by simpa using hk
    have HC := Lib.hid hck
    generalize chkS ⟨k, v, id, er, wa, zs, ts, bs⟩ = E at *
    have HB := Lib.hid hb0
    clear hk h hb0 hck
    go_enter Tryd.func22, Tryd.ntmps22
    go_wp2_with fail
    refine HC.out.mono ?_
    rintro e1 w1 ⟨rfl, hb1⟩
    go_wp2
    go_ret2
    exact ⟨none, 0, 0, rfl, Ob.nil _ _ _, bthen HB.out hb1⟩
  rw [putS_good hk]
  rw [hk] at hck
  obtain ⟨hkn, ⟨q1, q2⟩, ⟨⟨q3, q3'⟩, q4⟩, ⟨q5, q5'⟩, ⟨q6, q7⟩, ⟨q8, q9⟩, q10⟩ := chkS_ok.1 hk
  simp only at hkn q1 q2 q3 q3' q4 q5 q5' q6 q7 q8 q9 q10
  obtain ⟨i1, i2, i3, i4⟩ := known_ok hkn
  obtain ⟨K, rfl⟩ := Int.eq_ofNat_of_zero_le (show 0 ≤ k by omega)
  have e1 := byte_is (n := (K : Int)) (by omega) (by omega)
  have e2 := byte_is (n := v) (by omega) (by omega)
  have HC := Lib.hid hck
  have hz0 : (w.alloc (.cells #[.int .i64 K, .int .i64 v, .int .i64 id, .int .i64 er, .int .i64 wa, .slice Ai ni ci, .slice At nt ct, .slice Ab nb cb] 38)).heap.size = w.heap.size + 1 := by simp
  have HBX := Lib.hid (fun (w' : World) => boxed8 w 38 (.int .i64 K) (.int .i64 v) (.int .i64 id) (.int .i64 er) (.int .i64 wa) (.slice Ai ni ci) (.slice At nt ct) (.slice Ab nb cb) (w' := w'))
  have HB0 := Lib.hid hb0
  have HQ := Lib.hid h
  clear hb0 hck h hk hkn
  go_enter Tryd.func22, Tryd.ntmps22
  go_wp2_with fail
  refine HC.out.mono ?_
  rintro e1 w1 ⟨rfl, hb1⟩
  have hb01 := bthen HB0.out hb1
  have hz1 : w.heap.size + 1 ≤ w1.heap.size := by have := hb1.size; rw [hz0] at this; exact this
  obtain ⟨k0, k1, k2, k3, k4, k5, k6, k7⟩ := HBX.out w1 (by rw [← hz0]; exact hb1)
  have hlt1 : w.heap.size < w1.heap.size := hz1
  have hlt2 : w.heap.size < w1.heap.size + 1 := Nat.lt_succ_of_lt hz1
  clear hz0
  go_wp2_with fail
  obtain ⟨W2, hW2⟩ : ∃ W, W = (w1.alloc (.cells #[.int .u8 ((byteOf (K : Int)).toNat : Int), .int .u8 ((byteOf v).toNat : Int)] 5)).alloc (.cells #[.slice (some ⟨w1.heap.size, 0, none⟩) 2 2] 57) := ⟨_, rfl⟩
  have hz2 : W2.heap.size = w1.heap.size + 2 := by rw [hW2]; simp
  have hb2 : Below w1.heap.size w1 W2 := by rw [hW2]; exact bput (bput (Below.refl _ w1) _) _
  have hbx : W2.heap[(w1.heap.size + 1)]? = some (.cells #[.slice (some ⟨w1.heap.size, 0, none⟩) 2 2] 57 (0, 0)) := by
    have h1 := heap_alloc_new (w1.alloc (.cells #[.int .u8 ((byteOf (K : Int)).toNat : Int), .int .u8 ((byteOf v).toNat : Int)] 5)) (.cells #[.slice (some ⟨w1.heap.size, 0, none⟩) 2 2] 57)
    rw [World.size_alloc] at h1
    rw [hW2]
    exact h1
  have hrd : Rd W2 W2.heap.size (some ⟨w1.heap.size, 0, none⟩) 2 2 [byteOf K, byteOf v] := by
    have h1 := Rd.lit w1 5 [.int .u8 ((byteOf (K : Int)).toNat : Int), .int .u8 ((byteOf v).toNat : Int)] [byteOf K, byteOf v] rfl (by simp)
    have h2 := h1.size (bput (Below.refl _ _) (.cells #[.slice (some ⟨w1.heap.size, 0, none⟩) 2 2] 57)) (by simp)
    rw [← hW2] at h2
    exact h2
  have HK2 : Hid (∀ w', W2.grownBy w' (some (w1.heap.size + 1)) → (w'.cell? ⟨w.heap.size, 0, none⟩ = some (.int .i64 (K : Int)) ∧ w'.cell? ⟨w.heap.size, 1, none⟩ = some (.int .i64 v) ∧ w'.cell? ⟨w.heap.size, 2, none⟩ = some (.int .i64 id) ∧ w'.cell? ⟨w.heap.size, 3, none⟩ = some (.int .i64 er) ∧ w'.cell? ⟨w.heap.size, 4, none⟩ = some (.int .i64 wa) ∧ w'.cell? ⟨w.heap.size, 5, none⟩ = some (.slice Ai ni ci) ∧ w'.cell? ⟨w.heap.size, 6, none⟩ = some (.slice At nt ct) ∧ w'.cell? ⟨w.heap.size, 7, none⟩ = some (.slice Ab nb cb)) ∧ Rq w' (w1.heap.size + 1) Ai ni ci At nt ct Ab nb cb zs ts bs) := Lib.hid fun w' hg => by
    have hx : ∀ j x, w1.cell? ⟨w.heap.size, j, none⟩ = some x → w'.cell? ⟨w.heap.size, j, none⟩ = some x := fun j x hc => grown_cell hg ((hb2.cell (p := ⟨w.heap.size, j, none⟩) hlt1).trans hc) (by omega)
    refine ⟨⟨hx _ _ k0, hx _ _ k1, hx _ _ k2, hx _ _ k3, hx _ _ k4, hx _ _ k5, hx _ _ k6, hx _ _ k7⟩, ?_⟩
    have hq1 := ((HQ.out.step hb01 (Nat.le_refl _)).more (B' := w1.heap.size) (by omega)).below hb2
    exact (hq1.more (B' := (w1.heap.size + 1)) (by omega)).below (below_grown hg (by omega) (fun k hk => by cases hk; exact Nat.le_refl _))
  have HBF : Hid (∀ w', W2.grownBy w' (some (w1.heap.size + 1)) → Below w.heap.size w w') := Lib.hid fun w' hg => (bthen hb01 hb2).trans (below_grown hg (by omega) (fun k hk => by cases hk; omega))
  have HZW : Hid (w.heap.size < w1.heap.size) := Lib.hid hlt1
  have HN0 := Lib.hid (w_num0_ok hbx hrd (by simp) id (by omega) (by omega))
  have HLN := Lib.hid (encI_len (m := id) (by omega) (by omega))
  have hni := HQ.out.ints.len
  rw [iv_len] at hni
  have hnt := HQ.out.texts.len
  rw [sv_len] at hnt
  have hnb := HQ.out.blob.len
  have m1 := HQ.out.ints.cap
  have m2 := HQ.out.ints.top
  have m3 := HQ.out.texts.cap
  have m4 := HQ.out.texts.top
  have m5 := HQ.out.blob.cap
  have m6 := HQ.out.blob.top
  have hti := flat_len encI (m := 10) (l := zs) (fun x hx => encI_len (by have := q7 x hx; omega) (by have := q7 x hx; omega))
  have htt := flat_len putT (m := 74) (l := ts) (fun x hx => putT_len' (q9 x hx))
  have HTI : Hid (((zs.map encI).flatten).length ≤ 640) := Lib.hid (by omega)
  have HTT : Hid (((ts.map putT).flatten).length ≤ 1184) := Lib.hid (by omega)
  have HZL : Hid (zs.length ≤ 64) := Lib.hid (by omega)
  have HTL : Hid (ts.length ≤ 16) := Lib.hid (by omega)
  have HBL : Hid (bs.length ≤ 4096) := Lib.hid (by omega)
  have Q7 := Lib.hid q7
  have Q9 := Lib.hid q9
  have HNI := Lib.hid hni
  have HNT := Lib.hid hnt
  have hst0 : (encS ⟨(K : Int), v, id, er, wa, zs, ts, bs⟩) = [byteOf K, byteOf v] ++ (encI id ++ (encI er ++ ((if 1 ≤ v then encI wa else []) ++ (encI (zs.length : Int) ++ (((zs.map encI).flatten) ++ (encI (ts.length : Int) ++ (((ts.map putT).flatten) ++ (putT bs)))))))) := rfl
  have HT0 := Lib.hid hst0
  generalize (encS ⟨(K : Int), v, id, er, wa, zs, ts, bs⟩) = TOT at *
  rw [← hW2]
  have r1 : (-9223372036854775808 : Int) ≤ er ∧ er ≤ 9223372036854775807 := ⟨by omega, by omega⟩
  have r2 : (-9223372036854775808 : Int) ≤ wa ∧ wa ≤ 9223372036854775807 := ⟨by omega, by omega⟩
  have r3 : (-9223372036854775808 : Int) ≤ (ni : Int) ∧ (ni : Int) ≤ 9223372036854775807 := ⟨by omega, by omega⟩
  have r4 : (-9223372036854775808 : Int) ≤ (nt : Int) ∧ (nt : Int) ≤ 9223372036854775807 := ⟨by omega, by omega⟩
  have QR1 := Lib.hid r1
  have QR2 := Lib.hid r2
  have QR3 := Lib.hid r3
  have QR4 := Lib.hid r4
  clear hW2 hst0 q5 q5' q6 q7 q8 q9 q10 hti htt hbx hrd hb2 k0 k1 k2 k3 k4 k5 k6 k7 hb1 hb01 hz1 hlt1 hlt2 hz2 q3 q3' q4 e2 r1 r2 r3 r4 hni hnt hnb
  refine HN0.out.mono ?_
  rintro e1 w2 ⟨v1, rfl, hg, hwb⟩
  have HST : Hid (Wst W2 w2 (w1.heap.size + 1) 12 (encI er ++ ((if 1 ≤ v then encI wa else []) ++ (encI (zs.length : Int) ++ (((zs.map encI).flatten) ++ (encI (ts.length : Int) ++ (((ts.map putT).flatten) ++ (putT bs))))))) TOT) := Lib.hid (Wst.on (N := 2) (l := [byteOf K, byteOf v]) (by rw [HT0.out]) (grown_refl' W2 _) (by simp) (by have := HLN.out; omega) hg hwb)
  clear hg hwb HN0 HLN HT0
  obtain ⟨l, hwb, hg, hn, he⟩ := HST.out
  obtain ⟨⟨k0, k1, k2, k3, k4, k5, k6, k7⟩, hrq⟩ := HK2.out _ hg
  have HRQ := Lib.hid hrq
  have HG := Lib.hid hg
  have HE := Lib.hid he
  have HNN := Lib.hid hn
  have HN := Lib.hid (w_num_ok hwb (by omega) er QR1.out.1 QR1.out.2)
  have HLN := Lib.hid (encI_len (m := er) QR1.out.1 QR1.out.2)
  clear hwb hg hn he HST hrq
  go_wp2_with fail
  refine HN.out.mono ?_
  rintro e1 w3 ⟨v1, rfl, hg, hwb⟩
  have HST := Lib.hid (Wst.on (N := 12) (M := 22) HE.out HG.out HNN.out (by have := HLN.out; omega) hg hwb)
  clear hg hwb HE HG HNN HN HLN HRQ k0 k1 k2 k3 k4 k5 k6 k7

  obtain ⟨⟨k0, k1, k2, k3, k4, k5, k6, k7⟩, hrq⟩ := HK2.out _ (HST.out.choose_spec.2.1)
  clear hrq
  go_upto_if 29 with fail
  go_cut [5] (fun s5 wx => s5 = .pointer (some ⟨w1.heap.size + 1, 0, none⟩) ∧ Hid (Wst W2 wx (w1.heap.size + 1) 32 (encI (zs.length : Int) ++ (((zs.map encI).flatten) ++ (encI (ts.length : Int) ++ (((ts.map putT).flatten) ++ (putT bs))))) TOT))
  case first =>
    by_cases hv : 1 ≤ v
    · have t1 : decide (1 ≤ v) = true := by simpa using hv
      rw [if_pos hv] at HST
      obtain ⟨l, hwb, hg, hn, he⟩ := HST.out
      have HN := Lib.hid (w_num_ok hwb (by omega) wa QR2.out.1 QR2.out.2)
      have HX := Lib.hid (And.intro hg (And.intro he hn))
      clear HST hwb hg hn he hv
      rw [t1]
      go_wp2_with fail
      refine HN.out.mono ?_
      rintro e1 w4 ⟨v1, rfl, hg, hwb⟩
      have HST := Lib.hid (Wst.on (M := 32) HX.out.2.1 HX.out.1 HX.out.2.2 (by have := encI_len QR2.out.1 QR2.out.2; omega) hg hwb)
      clear hg hwb HX HN
      go_wp2_with fail
      go_meet
      exact ⟨rfl, HST⟩
    · have t1 : decide (1 ≤ v) = false := by simpa using hv
      rw [if_neg hv] at HST
      obtain ⟨l, hwb, hg, hn, he⟩ := HST.out
      have HST2 : Hid (Wst W2 w3 (w1.heap.size + 1) 32 (encI (zs.length : Int) ++ (((zs.map encI).flatten) ++ (encI (ts.length : Int) ++ (((ts.map putT).flatten) ++ (putT bs))))) TOT) := Lib.hid ⟨l, hwb, hg, by omega, by simpa using he⟩
      clear HST hwb hg hn he hv
      rw [t1]
      go_wp2_with fail
      go_meet
      exact ⟨rfl, HST2⟩
  case rest =>
  obtain ⟨rfl, HST⟩ := hcut
  clear k0 k1 k2 k3 k4 k5 k6 k7
  obtain ⟨l, hwb, hg, hn, he⟩ := HST.out
  obtain ⟨⟨k0, k1, k2, k3, k4, k5, k6, k7⟩, hrq⟩ := HK2.out _ hg
  have HRQ := Lib.hid hrq
  have HG := Lib.hid hg
  have HE := Lib.hid he
  have HNN := Lib.hid hn
  have HN := Lib.hid (w_num_ok hwb (by omega) (ni : Int) QR3.out.1 QR3.out.2)
  have HLN := Lib.hid (encI_len (m := (ni : Int)) QR3.out.1 QR3.out.2)
  clear hwb hg hn he HST hrq
  go_wp2_with fail
  refine HN.out.mono ?_
  rintro e1 w4 ⟨v1, rfl, hg, hwb⟩
  rw [← HNI.out] at hwb HLN
  have HST := Lib.hid (Wst.on (N := 32) (M := 42) HE.out HG.out HNN.out (by have := HLN.out; omega) hg hwb)
  clear hg hwb HE HG HNN HN HLN HRQ k0 k1 k2 k3 k4 k5 k6 k7

  obtain ⟨l, hwb, hg, hn, he⟩ := HST.out
  obtain ⟨⟨k0, k1, k2, k3, k4, k5, k6, k7⟩, hrq⟩ := HK2.out _ hg
  have HRQ := Lib.hid hrq
  have HG := Lib.hid hg
  have HE := Lib.hid he
  have HNN := Lib.hid hn
  have HN := Lib.hid (w_nums_ok hwb (hrq.ints) (fun x hx => ⟨by have := Q7.out x hx; omega, by have := Q7.out x hx; omega⟩) (by have := HZL.out; omega))
  have HLN := Lib.hid (show ((zs.map encI).flatten).length ≤ 640 from HTI.out)
  clear hwb hg hn he HST hrq
  go_wp2_with fail
  refine HN.out.mono ?_
  rintro e1 w5 ⟨v1, rfl, hg, hwb⟩
  have HST := Lib.hid (Wst.on (N := 42) (M := 682) HE.out HG.out HNN.out (by have := HLN.out; omega) hg hwb)
  clear hg hwb HE HG HNN HN HLN HRQ k0 k1 k2 k3 k4 k5 k6 k7

  obtain ⟨l, hwb, hg, hn, he⟩ := HST.out
  obtain ⟨⟨k0, k1, k2, k3, k4, k5, k6, k7⟩, hrq⟩ := HK2.out _ hg
  have HRQ := Lib.hid hrq
  have HG := Lib.hid hg
  have HE := Lib.hid he
  have HNN := Lib.hid hn
  have HN := Lib.hid (w_num_ok hwb (by omega) (nt : Int) QR4.out.1 QR4.out.2)
  have HLN := Lib.hid (encI_len (m := (nt : Int)) QR4.out.1 QR4.out.2)
  clear hwb hg hn he HST hrq
  go_wp2_with fail
  refine HN.out.mono ?_
  rintro e1 w6 ⟨v1, rfl, hg, hwb⟩
  rw [← HNT.out] at hwb HLN
  have HST := Lib.hid (Wst.on (N := 682) (M := 692) HE.out HG.out HNN.out (by have := HLN.out; omega) hg hwb)
  clear hg hwb HE HG HNN HN HLN HRQ k0 k1 k2 k3 k4 k5 k6 k7

  obtain ⟨l, hwb, hg, hn, he⟩ := HST.out
  obtain ⟨⟨k0, k1, k2, k3, k4, k5, k6, k7⟩, hrq⟩ := HK2.out _ hg
  have HRQ := Lib.hid hrq
  have HG := Lib.hid hg
  have HE := Lib.hid he
  have HNN := Lib.hid hn
  have HN := Lib.hid (w_txts_ok hwb (hrq.texts) Q9.out (by have := HTL.out; omega))
  have HLN := Lib.hid (show ((ts.map putT).flatten).length ≤ 1184 from HTT.out)
  clear hwb hg hn he HST hrq
  go_wp2_with fail
  refine HN.out.mono ?_
  rintro e1 w7 ⟨v1, rfl, hg, hwb⟩
  have HST := Lib.hid (Wst.on (N := 692) (M := 1876) HE.out HG.out HNN.out (by have := HLN.out; omega) hg hwb)
  clear hg hwb HE HG HNN HN HLN HRQ k0 k1 k2 k3 k4 k5 k6 k7

  obtain ⟨l, hwb, hg, hn, he⟩ := HST.out
  obtain ⟨⟨k0, k1, k2, k3, k4, k5, k6, k7⟩, hrq⟩ := HK2.out _ hg
  have HN := Lib.hid (w_blb_ok hwb (by omega) hrq.blob (by have := HBL.out; omega))
  have HX := Lib.hid (And.intro hg he)
  clear HST hwb hg hn he hrq
  go_wp2_with fail
  refine HN.out.mono ?_
  rintro e1 w8 ⟨v1, rfl, hb6, A, n, c, hbx, ho⟩
  have hc : w8.cell? ⟨w1.heap.size + 1, 0, none⟩ = some (.slice A n c) := by rw [cell_of_row _ _ 0 _ _ _ hbx]; rfl
  rw [HX.out.2] at ho
  have HB6 := Lib.hid ((HBF.out _ HX.out.1).trans (hb6.mono (by have := HZW.out; omega)))
  have HO := Lib.hid (ho.less (B' := w.heap.size) (by have := HZW.out; omega))
  clear hb6 hbx ho HX HN k0 k1 k2 k3 k4 k5 k6 k7
  go_wp2
  go_ret2
  exact ⟨_, _, _, rfl, HO.out, HB6.out⟩
end Go.Proofs.YtlijagbklopipaaDoor
