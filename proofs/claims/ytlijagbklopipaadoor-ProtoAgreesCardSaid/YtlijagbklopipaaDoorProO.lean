/-
  Contract of proto.PutReq. Conditions: those that it states.
-/
import Derived.Deep.DeepCutAuto
import Derived.Test.YtlijagbklopipaaDoorProL
import Derived.Test.YtlijagbklopipaaDoorProN
namespace Go.Proofs.YtlijagbklopipaaDoor
open Go.RowKit
set_option linter.unusedVariables false

/-- What a call answers that puts: bytes and an error. -/
def Puts (w : World) (r : List UInt8 × Int) (e : Ending) (w' : World) : Prop :=
  ∃ A n c, e = .returned (.tuple #[.slice A n c, .int .i64 r.2]) ∧ Own w' w.heap.size A n c r.1 ∧ Below w.heap.size w w'
def putQ (r : RQ) : List UInt8 × Int := if chkQ r = 0 then (encQ r, 0) else ([], chkQ r)
def putS (r : RS) : List UInt8 × Int := if chkS r = 0 then (encS r, 0) else ([], chkS r)
theorem putQ_bad {r : RQ} (h : chkQ r ≠ 0) : putQ r = ([], chkQ r) := by unfold putQ; rw [if_neg h]
theorem putQ_good {r : RQ} (h : chkQ r = 0) : putQ r = (encQ r, 0) := by unfold putQ; rw [if_pos h]
theorem putS_bad {r : RS} (h : chkS r ≠ 0) : putS r = ([], chkS r) := by unfold putS; rw [if_neg h]
theorem putS_good {r : RS} (h : chkS r = 0) : putS r = (encS r, 0) := by unfold putS; rw [if_pos h]
theorem grown_cell {w w' : World} {Bw b j : Nat} {x : Value} (h : w.grownBy w' (some Bw)) (hc : w.cell? ⟨b, j, none⟩ = some x) (hne : b ≠ Bw) : w'.cell? ⟨b, j, none⟩ = some x := by
  have hlt := block_lt_of_cell hc
  unfold World.cell? at hc ⊢
  simp only at hc ⊢ hlt
  rw [h.block b hlt (by simpa using hne)]
  exact hc
theorem byte_is {n : Int} (h1 : 0 ≤ n) (h2 : n ≤ 255) : IntKind.u8.wrap n = ((byteOf n).toNat : Int) := by rw [byteOf_back h1 h2, IntKind.wrap_u8']; omega

set_option maxHeartbeats 4000000 in
theorem p_putQ_ok {w : World} (hs : Shp w) (k v id : Int) (who : List UInt8) {Ai At Ab : Option Addr} {ni ci nt ct nb cb : Nat} {zs ts bs} (h : Rq w w.heap.size Ai ni ci At nt ct Ab nb cb zs ts bs) (hw : who.length ≤ 9223372036854775807) :
    Calls Tryd.prog 14 #[.agg #[.int .i64 k, .int .i64 v, .int .i64 id, .string (strOf who), .slice Ai ni ci, .slice At nt ct, .slice Ab nb cb]] w (Puts w (putQ ⟨k, v, id, who, zs, ts, bs⟩)) := by
  have hb0 := bput (Below.refl _ w) (.cells #[.int .i64 k, .int .i64 v, .int .i64 id, .string (strOf who), .slice Ai ni ci, .slice At nt ct, .slice Ab nb cb] 26)
  have hck := p_chkQ_ok (hs.on hb0) k v id who ((h.step hb0 (Nat.le_refl _)).more hb0.size) hw
  by_cases hk : chkQ ⟨k, v, id, who, zs, ts, bs⟩ = 0
  case neg =>
    rw [putQ_bad hk]
    have t1 : (chkQ ⟨k, v, id, who, zs, ts, bs⟩ != 0) = true := by simpa using hk
    have HC := Lib.hid hck
    generalize chkQ ⟨k, v, id, who, zs, ts, bs⟩ = E at *
    have HB := Lib.hid hb0
    clear hk h hs hw hb0 hck
    go_enter Tryd.func14, Tryd.ntmps14
    go_wp2_with fail
    refine HC.out.mono ?_
    rintro e1 w1 ⟨rfl, hb1⟩
    go_wp2
    go_ret2
    exact ⟨none, 0, 0, rfl, Ob.nil _ _ _, bthen HB.out hb1⟩
  rw [putQ_good hk]
  rw [hk] at hck
  obtain ⟨hkn, ⟨q1, q2⟩, ⟨q3, q4⟩, ⟨q5, q6⟩, ⟨q7, q8, q9⟩, q10⟩ := chkQ_ok.1 hk
  simp only at hkn q1 q2 q3 q4 q5 q6 q7 q8 q9 q10
  obtain ⟨i1, i2, i3, i4⟩ := known_ok hkn
  obtain ⟨K, rfl⟩ := Int.eq_ofNat_of_zero_le (show 0 ≤ k by omega)
  have e1 := byte_is (n := (K : Int)) (by omega) (by omega)
  have e2 := byte_is (n := v) (by omega) (by omega)
  have hsm := sh_small ⟨K, by omega⟩
  simp only at hsm
  have HC := Lib.hid hck
  have hz0 : (w.alloc (.cells #[.int .i64 K, .int .i64 v, .int .i64 id, .string (strOf who), .slice Ai ni ci, .slice At nt ct, .slice Ab nb cb] 26)).heap.size = w.heap.size + 1 := by simp
  have HBX := Lib.hid (fun (w' : World) => boxed7 w 26 (.int .i64 K) (.int .i64 v) (.int .i64 id) (.string (strOf who)) (.slice Ai ni ci) (.slice At nt ct) (.slice Ab nb cb) (w' := w'))
  have HB0 := Lib.hid hb0
  have HS := Lib.hid hs
  have HQ := Lib.hid h
  clear hb0 hck hs h hk hkn
  go_enter Tryd.func14, Tryd.ntmps14
  go_wp2_with fail
  refine HC.out.mono ?_
  rintro e1 w1 ⟨rfl, hb1⟩
  have hb01 := bthen HB0.out hb1
  have hz1 : w.heap.size + 1 ≤ w1.heap.size := by have := hb1.size; rw [hz0] at this; exact this
  obtain ⟨k0, k1, k2, k3, k4, k5, k6⟩ := HBX.out w1 (by rw [← hz0]; exact hb1)
  have hs1 := HS.out.on hb01
  obtain ⟨s0, s1, s2, s3⟩ := hs1.at (k := K) (by omega)
  have hs1z := hs1.1
  have j1 : (0 : Int) ≤ (K : Int) := by omega
  have j2 : (K : Int) < 13 := by omega
  have hlt1 : w.heap.size < w1.heap.size := hz1
  have hlt2 : w.heap.size < w1.heap.size + 1 := Nat.lt_succ_of_lt hz1
  clear hz0 hs1
  go_wp2_with fail
  obtain ⟨W2, hW2⟩ : ∃ W, W = ((w1.alloc (.cells #[.int .u8 ((byteOf (K : Int)).toNat : Int), .int .u8 ((byteOf v).toNat : Int)] 5)).alloc (.cells #[.slice (some ⟨w1.heap.size, 0, none⟩) 2 2] 57)).alloc (.cells #[.int .i64 ((shI (K : Int) : Nat) : Int), .int .i64 ((shT (K : Int) : Nat) : Int), .int .i64 ((shM (K : Int) : Nat) : Int), .int .i64 ((shB (K : Int) : Nat) : Int)] 59) := ⟨_, rfl⟩
  have hz2 : W2.heap.size = w1.heap.size + 3 := by rw [hW2]; simp
  have hb2 : Below w1.heap.size w1 W2 := by rw [hW2]; exact bput (bput (bput (Below.refl _ w1) _) _) _
  have hbx : W2.heap[(w1.heap.size + 1)]? = some (.cells #[.slice (some ⟨w1.heap.size, 0, none⟩) 2 2] 57 (0, 0)) := by
    have h1 := heap_alloc_new (w1.alloc (.cells #[.int .u8 ((byteOf (K : Int)).toNat : Int), .int .u8 ((byteOf v).toNat : Int)] 5)) (.cells #[.slice (some ⟨w1.heap.size, 0, none⟩) 2 2] 57)
    rw [World.size_alloc] at h1
    rw [hW2, (bput (Below.refl _ _) _).block (w1.heap.size + 1) (by simp)]
    exact h1
  have hrd : Rd W2 W2.heap.size (some ⟨w1.heap.size, 0, none⟩) 2 2 [byteOf K, byteOf v] := by
    have h1 := Rd.lit w1 5 [.int .u8 ((byteOf (K : Int)).toNat : Int), .int .u8 ((byteOf v).toNat : Int)] [byteOf K, byteOf v] rfl (by simp)
    have h2 := (h1.size (bput (Below.refl _ _) (.cells #[.slice (some ⟨w1.heap.size, 0, none⟩) 2 2] 57)) (by simp)).size (bput (Below.refl _ _) (.cells #[.int .i64 ((shI (K : Int) : Nat) : Int), .int .i64 ((shT (K : Int) : Nat) : Int), .int .i64 ((shM (K : Int) : Nat) : Int), .int .i64 ((shB (K : Int) : Nat) : Int)] 59)) (Nat.le_refl _)
    rw [← hW2] at h2
    exact h2
  have hsh2 : W2.heap[w1.heap.size + 2]? = some (.cells #[.int .i64 ((shI (K : Int) : Nat) : Int), .int .i64 ((shT (K : Int) : Nat) : Int), .int .i64 ((shM (K : Int) : Nat) : Int), .int .i64 ((shB (K : Int) : Nat) : Int)] 59 (0, 0)) := by
    have h1 := heap_alloc_new ((w1.alloc (.cells #[.int .u8 ((byteOf (K : Int)).toNat : Int), .int .u8 ((byteOf v).toNat : Int)] 5)).alloc (.cells #[.slice (some ⟨w1.heap.size, 0, none⟩) 2 2] 57)) (.cells #[.int .i64 ((shI (K : Int) : Nat) : Int), .int .i64 ((shT (K : Int) : Nat) : Int), .int .i64 ((shM (K : Int) : Nat) : Int), .int .i64 ((shB (K : Int) : Nat) : Int)] 59)
    rw [World.size_alloc, World.size_alloc] at h1
    rw [hW2]
    exact h1
  have HK2 : Hid (∀ w', W2.grownBy w' (some (w1.heap.size + 1)) → (w'.cell? ⟨w.heap.size, 0, none⟩ = some (.int .i64 (K : Int)) ∧ w'.cell? ⟨w.heap.size, 1, none⟩ = some (.int .i64 v) ∧ w'.cell? ⟨w.heap.size, 2, none⟩ = some (.int .i64 id) ∧ w'.cell? ⟨w.heap.size, 3, none⟩ = some (.string (strOf who)) ∧ w'.cell? ⟨w.heap.size, 4, none⟩ = some (.slice Ai ni ci) ∧ w'.cell? ⟨w.heap.size, 5, none⟩ = some (.slice At nt ct) ∧ w'.cell? ⟨w.heap.size, 6, none⟩ = some (.slice Ab nb cb)) ∧
      (w'.cell? ⟨w1.heap.size + 1 + 1, 0, none⟩ = some (.int .i64 ((shI (K : Int) : Nat) : Int)) ∧ w'.cell? ⟨w1.heap.size + 1 + 1, 1, none⟩ = some (.int .i64 ((shT (K : Int) : Nat) : Int)) ∧ w'.cell? ⟨w1.heap.size + 1 + 1, 2, none⟩ = some (.int .i64 ((shM (K : Int) : Nat) : Int)) ∧ w'.cell? ⟨w1.heap.size + 1 + 1, 3, none⟩ = some (.int .i64 ((shB (K : Int) : Nat) : Int))) ∧ Rq w' (w1.heap.size + 1) Ai ni ci At nt ct Ab nb cb zs ts bs) := Lib.hid fun w' hg => by
    have hx : ∀ j x, w1.cell? ⟨w.heap.size, j, none⟩ = some x → w'.cell? ⟨w.heap.size, j, none⟩ = some x := fun j x hc => grown_cell hg ((hb2.cell (p := ⟨w.heap.size, j, none⟩) hlt1).trans hc) (by omega)
    have hsh3 : w'.heap[w1.heap.size + 1 + 1]? = _ := (hg.block (w1.heap.size + 1 + 1) (by omega) (by simp)).trans hsh2
    refine ⟨⟨hx _ _ k0, hx _ _ k1, hx _ _ k2, hx _ _ k3, hx _ _ k4, hx _ _ k5, hx _ _ k6⟩, of4 hsh3, ?_⟩
    have hq1 := ((HQ.out.step hb01 (Nat.le_refl _)).more (B' := w1.heap.size) (by omega)).below hb2
    exact (hq1.more (B' := (w1.heap.size + 1)) (by omega)).below (below_grown hg (by omega) (fun k hk => by cases hk; exact Nat.le_refl _))
  have HBF : Hid (∀ w', W2.grownBy w' (some (w1.heap.size + 1)) → Below w.heap.size w w') := Lib.hid fun w' hg => (bthen hb01 hb2).trans (below_grown hg (by omega) (fun k hk => by cases hk; omega))
  have HZ2 := Lib.hid hz2
  have HZW : Hid (w.heap.size < w1.heap.size) := Lib.hid hlt1
  have HN0 := Lib.hid (w_num0_ok hbx hrd (by simp) id (by omega) (by omega))
  have HLN := Lib.hid (encI_len (m := id) (by omega) (by omega))
  have hni := HQ.out.ints.len
  rw [iv_len] at hni
  have hnt := HQ.out.texts.len
  rw [sv_len] at hnt
  have hnb := HQ.out.blob.len
  have m1 := HQ.out.ints.cap
  have m2 := HQ.out.ints.top
  have m3 := HQ.out.texts.cap
  have m4 := HQ.out.texts.top
  have m5 := HQ.out.blob.cap
  have m6 := HQ.out.blob.top
  have hti := flat_len encI (m := 10) (l := zs) (fun x hx => encI_len (by have := q6 x hx; omega) (by have := q6 x hx; omega))
  have htt := flat_len putT (m := 74) (l := ts) (fun x hx => putT_len' (q9 x hx))
  have hsm4 : shM (K : Int) = if K = 7 then 12 else 0 := by unfold shM; split <;> split <;> omega
  have hsb4 : shB (K : Int) = if K = 2 then 2048 else 0 := by unfold shB; split <;> split <;> omega
  have hs12 : shM (K : Int) ≤ 12 := by rw [hsm4]; split <;> omega
  have HM4 := Lib.hid hsm4
  have HB4 := Lib.hid hsb4
  have HTI : Hid (((zs.map encI).flatten).length ≤ 50) := Lib.hid (by omega)
  have HTT : Hid (((ts.map putT).flatten).length ≤ 1110) := Lib.hid (by omega)
  have HZL : Hid (zs.length ≤ 5) := Lib.hid (by omega)
  have HTL : Hid (ts.length ≤ 15) := Lib.hid (by omega)
  have HBL : Hid (bs.length ≤ 2048) := Lib.hid (by rw [hsb4] at q10; split at q10 <;> omega)
  have Q6 := Lib.hid q6
  have Q9 := Lib.hid q9
  have Q10 := Lib.hid q10
  have hst0 : (encQ ⟨(K : Int), v, id, who, zs, ts, bs⟩) = [byteOf K, byteOf v] ++ (encI id ++ ((if 2 ≤ v then putT who else []) ++ (((zs.map encI).flatten) ++ ((if (K : Int) = 7 then encI (ts.length : Int) else []) ++ (((ts.map putT).flatten) ++ (if (K : Int) = 2 then putT bs else [])))))) := rfl
  have HT0 := Lib.hid hst0
  generalize (encQ ⟨(K : Int), v, id, who, zs, ts, bs⟩) = TOT at *
  rw [← hW2]
  clear hW2 hsm4 hsb4 hst0 q5 q6 q7 q8 q9 q10 hti htt hbx hrd hsh2 hb2 hs1z s0 s1 s2 s3 k0 k1 k2 k3 k4 k5 k6 hb1 hb01 hz1 hlt1 hlt2 hz2 q4 e2 hsm
  refine HN0.out.mono ?_
  rintro e1 w2 ⟨v1, rfl, hg, hwb⟩
  have HST : Hid (Wst W2 w2 (w1.heap.size + 1) 12 ((if 2 ≤ v then putT who else []) ++ (((zs.map encI).flatten) ++ ((if (K : Int) = 7 then encI (ts.length : Int) else []) ++ (((ts.map putT).flatten) ++ (if (K : Int) = 2 then putT bs else []))))) TOT) := Lib.hid (Wst.on (N := 2) (l := [byteOf K, byteOf v]) (by rw [HT0.out]) (grown_refl' W2 _) (by simp) (by have := HLN.out; omega) hg hwb)
  clear hg hwb HN0 HLN HT0
  obtain ⟨⟨k0, k1, k2, k3, k4, k5, k6⟩, ⟨c0, c1, c2, c3⟩, hrq⟩ := HK2.out _ (HST.out.choose_spec.2.1)
  clear hrq
  go_upto_if 30 with fail
  go_cut [5] (fun s5 wx => s5 = .pointer (some ⟨w1.heap.size + 1, 0, none⟩) ∧ Hid (Wst W2 wx (w1.heap.size + 1) 86 (((zs.map encI).flatten) ++ ((if (K : Int) = 7 then encI (ts.length : Int) else []) ++ (((ts.map putT).flatten) ++ (if (K : Int) = 2 then putT bs else [])))) TOT))
  case first =>
    by_cases hv : 2 ≤ v
    · have t1 : decide (2 ≤ v) = true := by simpa using hv
      rw [if_pos hv] at HST
      obtain ⟨l, hwb, hg, hn, he⟩ := HST.out
      have HN := Lib.hid (w_txt_ok hwb (by omega) who (by omega))
      have HX := Lib.hid (And.intro hg (And.intro he hn))
      clear HST hwb hg hn he hv
      rw [t1]
      go_wp2_with fail
      refine HN.out.mono ?_
      rintro e1 w3 ⟨v1, rfl, hg, hwb⟩
      have HST := Lib.hid (Wst.on (M := 86) HX.out.2.1 HX.out.1 HX.out.2.2 (by have := putT_len' q3; omega) hg hwb)
      clear hg hwb HX HN
      go_wp2_with fail
      go_meet
      exact ⟨rfl, HST⟩
    · have t1 : decide (2 ≤ v) = false := by simpa using hv
      rw [if_neg hv] at HST
      obtain ⟨l, hwb, hg, hn, he⟩ := HST.out
      have HST2 : Hid (Wst W2 w2 (w1.heap.size + 1) 86 (((zs.map encI).flatten) ++ ((if (K : Int) = 7 then encI (ts.length : Int) else []) ++ (((ts.map putT).flatten) ++ (if (K : Int) = 2 then putT bs else [])))) TOT) := Lib.hid ⟨l, hwb, hg, by omega, by simpa using he⟩
      clear HST hwb hg hn he hv
      rw [t1]
      go_wp2_with fail
      go_meet
      exact ⟨rfl, HST2⟩
  case rest =>
  obtain ⟨rfl, HST⟩ := hcut
  clear k0 k1 k2 k3 k4 k5 k6 c0 c1 c2 c3
  obtain ⟨l, hwb, hg, hn, he⟩ := HST.out
  obtain ⟨⟨k0, k1, k2, k3, k4, k5, k6⟩, ⟨c0, c1, c2, c3⟩, hrq⟩ := HK2.out _ hg
  have HRQ := Lib.hid hrq
  have HG := Lib.hid hg
  have HE := Lib.hid he
  have HNN := Lib.hid hn
  have HN := Lib.hid (w_nums_ok hwb (hrq.ints) (fun x hx => ⟨by have := Q6.out x hx; omega, by have := Q6.out x hx; omega⟩) (by have := HZL.out; omega))
  have HLN := Lib.hid (show ((zs.map encI).flatten).length ≤ 50 from HTI.out)
  clear hwb hg hn he HST hrq
  go_wp2_with fail
  refine HN.out.mono ?_
  rintro e1 w3 ⟨v1, rfl, hg, hwb⟩
  have HST := Lib.hid (Wst.on (N := 86) (M := 136) HE.out HG.out HNN.out (by have := HLN.out; omega) hg hwb)
  clear hg hwb HE HG HNN HN HLN HRQ k0 k1 k2 k3 k4 k5 k6 c0 c1 c2 c3

  obtain ⟨⟨k0, k1, k2, k3, k4, k5, k6⟩, ⟨c0, c1, c2, c3⟩, hrq⟩ := HK2.out _ (HST.out.choose_spec.2.1)
  clear hrq
  go_upto_if 42 with fail
  go_cut [5] (fun s5 wx => s5 = .pointer (some ⟨w1.heap.size + 1, 0, none⟩) ∧ Hid (Wst W2 wx (w1.heap.size + 1) 146 (((ts.map putT).flatten) ++ (if (K : Int) = 2 then putT bs else [])) TOT))
  case first =>
    by_cases hv : K = 7
    · have t1 : decide (0 < shM (K : Int)) = true := by rw [HM4.out, if_pos hv]; rfl
      rw [if_pos (show (K : Int) = 7 by omega)] at HST
      obtain ⟨l, hwb, hg, hn, he⟩ := HST.out
      have HN := Lib.hid (w_num_ok hwb (by omega) (nt : Int) (by omega) (by omega))
      have HX := Lib.hid (And.intro hg (And.intro he hn))
      have HLT := Lib.hid (encI_len (m := (nt : Int)) (by omega) (by omega))
      have HNT := Lib.hid hnt
      clear HST hwb hg hn he hv hnt
      rw [t1]
      go_wp2_with fail
      refine HN.out.mono ?_
      rintro e1 w4 ⟨v1, rfl, hg, hwb⟩
      rw [← HNT.out] at hwb
      have HST := Lib.hid (Wst.on (M := 146) HX.out.2.1 HX.out.1 HX.out.2.2 (by have := HLT.out; rw [← HNT.out] at this; omega) hg hwb)
      clear hg hwb HX HN
      go_wp2_with fail
      go_meet
      exact ⟨rfl, HST⟩
    · have t1 : decide (0 < shM (K : Int)) = false := by rw [HM4.out, if_neg hv]; rfl
      rw [if_neg (show ¬ (K : Int) = 7 by omega)] at HST
      obtain ⟨l, hwb, hg, hn, he⟩ := HST.out
      have HST2 : Hid (Wst W2 w3 (w1.heap.size + 1) 146 (((ts.map putT).flatten) ++ (if (K : Int) = 2 then putT bs else [])) TOT) := Lib.hid ⟨l, hwb, hg, by omega, by simpa using he⟩
      clear HST hwb hg hn he hv
      rw [t1]
      go_wp2_with fail
      go_meet
      exact ⟨rfl, HST2⟩
  case rest =>
  obtain ⟨rfl, HST⟩ := hcut
  clear k0 k1 k2 k3 k4 k5 k6 c0 c1 c2 c3
  obtain ⟨l, hwb, hg, hn, he⟩ := HST.out
  obtain ⟨⟨k0, k1, k2, k3, k4, k5, k6⟩, ⟨c0, c1, c2, c3⟩, hrq⟩ := HK2.out _ hg
  have HRQ := Lib.hid hrq
  have HG := Lib.hid hg
  have HE := Lib.hid he
  have HNN := Lib.hid hn
  have HN := Lib.hid (w_txts_ok hwb (hrq.texts) Q9.out (by have := HTL.out; omega))
  have HLN := Lib.hid (show ((ts.map putT).flatten).length ≤ 1110 from HTT.out)
  clear hwb hg hn he HST hrq
  go_wp2_with fail
  refine HN.out.mono ?_
  rintro e1 w5 ⟨v1, rfl, hg, hwb⟩
  have HST := Lib.hid (Wst.on (N := 146) (M := 1256) HE.out HG.out HNN.out (by have := HLN.out; omega) hg hwb)
  clear hg hwb HE HG HNN HN HLN HRQ k0 k1 k2 k3 k4 k5 k6 c0 c1 c2 c3

  obtain ⟨⟨k0, k1, k2, k3, k4, k5, k6⟩, ⟨c0, c1, c2, c3⟩, hrq⟩ := HK2.out _ (HST.out.choose_spec.2.1)
  have HRQ := Lib.hid hrq
  clear hrq
  by_cases hv : K = 2
  · have t1 : decide (0 < shB (K : Int)) = true := by rw [HB4.out, if_pos hv]; rfl
    rw [if_pos (show (K : Int) = 2 by omega)] at HST
    obtain ⟨l, hwb, hg, hn, he⟩ := HST.out
    have HN := Lib.hid (w_blb_ok hwb (by omega) HRQ.out.blob (by have := HBL.out; omega))
    have HX := Lib.hid (And.intro hg he)
    clear HST hwb hg hn he hv
    go_wp2_with fail
    refine HN.out.mono ?_
    rintro e1 w6 ⟨v1, rfl, hb6, A, n, c, hbx, ho⟩
    have hc : w6.cell? ⟨w1.heap.size + 1, 0, none⟩ = some (.slice A n c) := by rw [cell_of_row _ _ 0 _ _ _ hbx]; rfl
    rw [HX.out.2] at ho
    have HB6 := Lib.hid ((HBF.out _ HX.out.1).trans (hb6.mono (by have := HZW.out; omega)))
    have HO := Lib.hid (ho.less (B' := w.heap.size) (by have := HZW.out; omega))
    clear hb6 hbx ho HX HN k0 k1 k2 k3 k4 k5 k6 c0 c1 c2 c3
    go_wp2
    go_ret2
    exact ⟨_, _, _, rfl, HO.out, HB6.out⟩
  · have t1 : decide (0 < shB (K : Int)) = false := by rw [HB4.out, if_neg hv]; rfl
    rw [if_neg (show ¬ (K : Int) = 2 by omega)] at HST
    obtain ⟨l, ⟨A, n, c, hbx, ho⟩, hg, hn, he⟩ := HST.out
    have hc : w5.cell? ⟨w1.heap.size + 1, 0, none⟩ = some (.slice A n c) := by rw [cell_of_row _ _ 0 _ _ _ hbx]; rfl
    rw [List.append_nil] at he
    subst he
    have HB6 := Lib.hid (HBF.out _ hg)
    have HO := Lib.hid (ho.less (B' := w.heap.size) (by have := HZW.out; omega))
    clear hbx ho hg hn hv HST
    go_wp2
    go_ret2
    exact ⟨_, _, _, rfl, HO.out, HB6.out⟩
end Go.Proofs.YtlijagbklopipaaDoor
