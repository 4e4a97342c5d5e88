/-
  Contract of the document's CheckReq. Conditions: those that it states.
-/
import Derived.Deep.DeepCutAuto
import Derived.Test.YtlijagbklopipaaDoorProI
import Derived.Test.YtlijagbklopipaaDoorLow
namespace Go.Proofs.YtlijagbklopipaaDoor
open Go.RowKit
set_option linter.unusedVariables false

set_option maxRecDepth 100000 in
set_option maxHeartbeats 8000000 in
theorem r_chkQ_ok {w : World} (k v id : Int) (who : List UInt8) {Ai At Ab : Option Addr} {ni ci nt ct nb cb : Nat} {zs ts bs} (h : Rq w w.heap.size Ai ni ci At nt ct Ab nb cb zs ts bs) (hw : who.length ≤ 9223372036854775807) :
    Calls Tryd.prog 19 #[.agg #[.int .i64 k, .int .i64 v, .int .i64 id, .string (strOf who), .slice Ai ni ci, .slice At nt ct, .slice Ab nb cb]] w (Says w (.int .i64 (chkQ ⟨k, v, id, who, zs, ts, bs⟩))) := by
  have hsz := strOf_size who
  by_cases hk : knownE k v = 0
  case neg =>
    rw [chkQ_known (r := ⟨k, v, id, who, zs, ts, bs⟩) hk]
    have t1 : (knownE k v != 0) = true := by simpa using hk
    have HKC := Lib.hid (rknown_is (w := w.alloc (.cells #[.int .i64 k, .int .i64 v, .int .i64 id, .string (strOf who), .slice Ai ni ci, .slice At nt ct, .slice Ab nb cb] 26)) k v)
    generalize knownE k v = E at *
    have HB := Lib.hid (bput (Below.refl _ w) (.cells #[.int .i64 k, .int .i64 v, .int .i64 id, .string (strOf who), .slice Ai ni ci, .slice At nt ct, .slice Ab nb cb] 26))
    clear hk h hsz hw
    go_enter Tryd.func19, Tryd.ntmps19
    go_wp2_with fail
    refine HKC.out.mono ?_
    rintro e1 w1 ⟨rfl, rfl⟩
    go_wp2
    go_ret
    exact ⟨rfl, HB.out⟩
  obtain ⟨i1, i2, i3, i4⟩ := known_ok hk
  obtain ⟨K, rfl⟩ := Int.eq_ofNat_of_zero_le (show 0 ≤ k by omega)
  obtain ⟨a, b, c, d, e, f, g, hh, i, L⟩ : ∃ a b c d e f g h i, Looks ⟨(K : Int), v, id, who, zs, ts, bs⟩ a b c d e f g h i := ⟨_, _, _, _, _, _, _, _, _, rfl, rfl, rfl, rfl, rfl, rfl, rfl, rfl, rfl⟩
  have HC := Lib.hid (chkQ_is L hk)
  generalize chkQ ⟨(K : Int), v, id, who, zs, ts, bs⟩ = C at *
  have HKN := Lib.hid hk
  have HBX := Lib.hid (fun (w' : World) => boxed7 w 26 (.int .i64 K) (.int .i64 v) (.int .i64 id) (.string (strOf who)) (.slice Ai ni ci) (.slice At nt ct) (.slice Ab nb cb) (w' := w'))
  have HL := Lib.hid L
  have HH := Lib.hid h
  clear hk L h
  obtain ⟨W, hW⟩ : ∃ W, W = w.alloc (.cells #[.int .i64 K, .int .i64 v, .int .i64 id, .string (strOf who), .slice Ai ni ci, .slice At nt ct, .slice Ab nb cb] 26) := ⟨_, rfl⟩
  have hWz : W.heap.size = w.heap.size + 1 := by rw [hW]; simp
  have HK : Hid (∀ w', Below W.heap.size W w' → (w'.cell? ⟨w.heap.size, 0, none⟩ = some (.int .i64 (K : Int)) ∧ w'.cell? ⟨w.heap.size, 1, none⟩ = some (.int .i64 v) ∧ w'.cell? ⟨w.heap.size, 2, none⟩ = some (.int .i64 id) ∧ w'.cell? ⟨w.heap.size, 3, none⟩ = some (.string (strOf who)) ∧ w'.cell? ⟨w.heap.size, 4, none⟩ = some (.slice Ai ni ci) ∧ w'.cell? ⟨w.heap.size, 5, none⟩ = some (.slice At nt ct) ∧ w'.cell? ⟨w.heap.size, 6, none⟩ = some (.slice Ab nb cb))) := Lib.hid fun w' hb => HBX.out w' (by rw [← hW, ← hWz]; exact hb)
  have HB : Hid (∀ w', Below W.heap.size W w' → Below w.heap.size w w') := Lib.hid fun w' hb => by
    have h1 := bput (Below.refl _ w) (.cells #[.int .i64 K, .int .i64 v, .int .i64 id, .string (strOf who), .slice Ai ni ci, .slice At nt ct, .slice Ab nb cb] 26)
    rw [← hW] at h1
    exact bthen h1 hb
  have HQ := Lib.hid (HH.out.step (HB.out _ (Below.refl _ W)) (Nat.le_refl _))
  have hni := HQ.out.ints.len
  rw [iv_len] at hni
  have hnt := HQ.out.texts.len
  rw [sv_len] at hnt
  have hnb := HQ.out.blob.len
  have hwz : w.heap.size ≤ W.heap.size := by rw [hWz]; exact Nat.le_succ _
  have hsh := (sh_small ⟨K, by omega⟩).2
  simp only at hsh
  have hsm : shM (K : Int) ≤ 12 := by unfold shM; split <;> omega
  go_enter Tryd.func19, Tryd.ntmps19
  go_wp2_with fail
  refine (rknown_is _ _).mono ?_
  rintro e1 w1 ⟨rfl, rfl⟩
  have hk0 := HKN.out
  rw [hk0, ← hW]
  clear hk0
  have HW := Lib.hid hW
  clear hW
  obtain ⟨k0, k1, k2, k3, k4, k5, k6⟩ := HK.out W (Below.refl _ W)
  have h7 : shM (K : Int) = if K = 7 then 12 else 0 := by unfold shM; split <;> split <;> omega
  have h2 : shB (K : Int) = if K = 2 then 2048 else 0 := by unfold shB; split <;> split <;> omega
  have H7 := Lib.hid h7
  have H2 := Lib.hid h2
  clear h7 h2
  go_upto_if 20 with fail
  go_cut [5] (fun s5 wx => s5 = .int .i64 ((shM (K : Int) : Nat) : Int) ∧ W = wx)
  case first =>
    by_cases hK : K = 7
    · subst hK
      go_wp2_with fail
      go_meet
      exact ⟨by rw [H7.out]; rfl, rfl⟩
    · have t1 : ((K : Int) == 7) = false := by simp; omega
      go_wp2_with fail
      go_meet
      exact ⟨by rw [H7.out, if_neg hK]; rfl, rfl⟩
  case rest =>
  obtain ⟨rfl, rfl⟩ := hcut
  go_upto_if 23 with fail
  go_cut [6] (fun s6 wx => s6 = .int .i64 ((shB (K : Int) : Nat) : Int) ∧ W = wx)
  case first =>
    by_cases hK : K = 2
    · subst hK
      go_wp2_with fail
      go_meet
      exact ⟨by rw [H2.out]; rfl, rfl⟩
    · have t1 : ((K : Int) == 2) = false := by simp; omega
      go_wp2_with fail
      go_meet
      exact ⟨by rw [H2.out, if_neg hK]; rfl, rfl⟩
  case rest =>
  obtain ⟨rfl, rfl⟩ := hcut
  have ha := HL.out.a
  have hb := HL.out.b
  have hc := HL.out.c
  have hd := HL.out.d
  have hf := HL.out.f
  have hg := HL.out.g
  have hi := HL.out.i
  have HQI : Hid (∀ n : Lows W, Rx n.w w.heap.size Ai ni ci (iv zs)) := Lib.hid fun n => (HQ.out.step n.b hwz).ints
  have HQT : Hid (∀ n : Lows W, Rx n.w w.heap.size At nt ct (sv ts)) := Lib.hid fun n => (HQ.out.step n.b hwz).texts
  have HE := Lib.hid HL.out.e
  have HH8 := Lib.hid HL.out.h
  have x1 : IntKind.i64.wrap (((shT (K : Int) : Nat) : Int) + ((shM (K : Int) : Nat) : Int)) = ((shT (K : Int) : Nat) : Int) + ((shM (K : Int) : Nat) : Int) := IntWalk.i64_in _ (by omega)
  clear k0 k1 k2 k3 k4 k5 k6
  have k0 : ∀ n : Lows W, n.w.cell? ⟨w.heap.size, 0, none⟩ = some (.int .i64 (K : Int)) := fun n => (HK.out n.w n.b).1
  have k1 : ∀ n : Lows W, n.w.cell? ⟨w.heap.size, 1, none⟩ = some (.int .i64 v) := fun n => (HK.out n.w n.b).2.1
  have k2 : ∀ n : Lows W, n.w.cell? ⟨w.heap.size, 2, none⟩ = some (.int .i64 id) := fun n => (HK.out n.w n.b).2.2.1
  have k3 : ∀ n : Lows W, n.w.cell? ⟨w.heap.size, 3, none⟩ = some (.string (strOf who)) := fun n => (HK.out n.w n.b).2.2.2.1
  have k4 : ∀ n : Lows W, n.w.cell? ⟨w.heap.size, 4, none⟩ = some (.slice Ai ni ci) := fun n => (HK.out n.w n.b).2.2.2.2.1
  have k5 : ∀ n : Lows W, n.w.cell? ⟨w.heap.size, 5, none⟩ = some (.slice At nt ct) := fun n => (HK.out n.w n.b).2.2.2.2.2.1
  have k6 : ∀ n : Lows W, n.w.cell? ⟨w.heap.size, 6, none⟩ = some (.slice Ab nb cb) := fun n => (HK.out n.w n.b).2.2.2.2.2.2
  have HKB : Hid ((K : Int) < 13) := Lib.hid (by omega)
  have HBW := Lib.hid (HB.out _ (Below.refl _ W))
  clear hsh
  cases a with
  | true =>
    by_cases hid : id < 0
    · have ta1 : decide (id < 0) = true := by simpa using hid
      clear ha hb hc hd hf hg hi hni hnt hnb hsm hid
      go_wp2_with fail
      refine wp_region_low (W := W) (by kernel_rfl) (by kernel_rfl) (Below.refl _ _) ?_
      repeat (first | go_big_quiet_step ((first
          | (go_at_call 56; exact low_says (rints_is K (by have := HKB.out; omega)))
          | (go_at_call 67; first | exact low_tells (rin_yes (HQI.out _) HE.out) | exact low_tells (rin_no (HQI.out _) HE.out))
          | (go_at_call 57; exact low_says (rtexts_is K (by have := HKB.out; omega)))
          | (go_at_call 68; first | exact low_tells (rshort_yes (HQT.out _) HH8.out) | exact low_tells (rshort_no (HQT.out _) HH8.out)))) | quiet_step ((first
          | (go_at_call 56; exact low_says (rints_is K (by have := HKB.out; omega)))
          | (go_at_call 67; first | exact low_tells (rin_yes (HQI.out _) HE.out) | exact low_tells (rin_no (HQI.out _) HE.out))
          | (go_at_call 57; exact low_says (rtexts_is K (by have := HKB.out; omega)))
          | (go_at_call 68; first | exact low_tells (rshort_yes (HQT.out _) HH8.out) | exact low_tells (rshort_no (HQT.out _) HH8.out)))))
      refine wpQuiet_nil ?_
      intro _ hw'
      obtain ⟨nq, hw''⟩ := hw'
      subst hw''
      go_wp2
      go_ret
      exact badI (by have := HC.out; simpa using this) (bthen HBW.out nq.b)
    · have ta1 : decide (id < 0) = false := by simpa using hid
      have ta2 : decide (1099511627776 < id) = true := by simpa [ta1] using ha
      clear ha hb hc hd hf hg hi hni hnt hnb hsm hid
      go_wp2_with fail
      refine wp_region_low (W := W) (by kernel_rfl) (by kernel_rfl) (Below.refl _ _) ?_
      repeat (first | go_big_quiet_step ((first
          | (go_at_call 56; exact low_says (rints_is K (by have := HKB.out; omega)))
          | (go_at_call 67; first | exact low_tells (rin_yes (HQI.out _) HE.out) | exact low_tells (rin_no (HQI.out _) HE.out))
          | (go_at_call 57; exact low_says (rtexts_is K (by have := HKB.out; omega)))
          | (go_at_call 68; first | exact low_tells (rshort_yes (HQT.out _) HH8.out) | exact low_tells (rshort_no (HQT.out _) HH8.out)))) | quiet_step ((first
          | (go_at_call 56; exact low_says (rints_is K (by have := HKB.out; omega)))
          | (go_at_call 67; first | exact low_tells (rin_yes (HQI.out _) HE.out) | exact low_tells (rin_no (HQI.out _) HE.out))
          | (go_at_call 57; exact low_says (rtexts_is K (by have := HKB.out; omega)))
          | (go_at_call 68; first | exact low_tells (rshort_yes (HQT.out _) HH8.out) | exact low_tells (rshort_no (HQT.out _) HH8.out)))))
      refine wpQuiet_nil ?_
      intro _ hw'
      obtain ⟨nq, hw''⟩ := hw'
      subst hw''
      go_wp2
      go_ret
      exact badI (by have := HC.out; simpa using this) (bthen HBW.out nq.b)
  | false =>
  have ta1 : decide (id < 0) = false := by simp only [Bool.or_eq_false_iff, decide_eq_false_iff_not] at ha ⊢; exact ha.1
  have ta2 : decide (1099511627776 < id) = false := by simp only [Bool.or_eq_false_iff, decide_eq_false_iff_not] at ha ⊢; exact ha.2
  cases b with
  | true =>
    have tb : decide ((64 : Int) < (who.length : Int)) = true := by simp only [decide_eq_true_eq] at hb ⊢; omega
    clear ha hb hc hd hf hg hi hni hnt hnb hsm
    go_wp2_with fail
    refine wp_region_low (W := W) (by kernel_rfl) (by kernel_rfl) (Below.refl _ _) ?_
    repeat (first | go_big_quiet_step ((first
        | (go_at_call 56; exact low_says (rints_is K (by have := HKB.out; omega)))
        | (go_at_call 67; first | exact low_tells (rin_yes (HQI.out _) HE.out) | exact low_tells (rin_no (HQI.out _) HE.out))
        | (go_at_call 57; exact low_says (rtexts_is K (by have := HKB.out; omega)))
        | (go_at_call 68; first | exact low_tells (rshort_yes (HQT.out _) HH8.out) | exact low_tells (rshort_no (HQT.out _) HH8.out)))) | quiet_step ((first
        | (go_at_call 56; exact low_says (rints_is K (by have := HKB.out; omega)))
        | (go_at_call 67; first | exact low_tells (rin_yes (HQI.out _) HE.out) | exact low_tells (rin_no (HQI.out _) HE.out))
        | (go_at_call 57; exact low_says (rtexts_is K (by have := HKB.out; omega)))
        | (go_at_call 68; first | exact low_tells (rshort_yes (HQT.out _) HH8.out) | exact low_tells (rshort_no (HQT.out _) HH8.out)))))
    refine wpQuiet_nil ?_
    intro _ hw'
    obtain ⟨nq, hw''⟩ := hw'
    subst hw''
    go_wp2
    go_ret
    exact badI (by have := HC.out; simpa using this) (bthen HBW.out nq.b)
  | false =>
  have tb : decide ((64 : Int) < (who.length : Int)) = false := by simp only [decide_eq_false_iff_not] at hb ⊢; omega
  by_cases hv : v < 2
  case pos =>
    have t2 : decide (v < 2) = true := by simpa using hv
    cases c with
    | true =>
      have tw : (!(strOf who).toList.isEmpty) = true := by rw [strOf_toList]; simpa [t2] using hc
      clear ha hb hc hd hf hg hi hni hnt hnb hsm hv
      go_wp2_with fail
      refine wp_region_low (W := W) (by kernel_rfl) (by kernel_rfl) (Below.refl _ _) ?_
      repeat (first | go_big_quiet_step ((first
          | (go_at_call 56; exact low_says (rints_is K (by have := HKB.out; omega)))
          | (go_at_call 67; first | exact low_tells (rin_yes (HQI.out _) HE.out) | exact low_tells (rin_no (HQI.out _) HE.out))
          | (go_at_call 57; exact low_says (rtexts_is K (by have := HKB.out; omega)))
          | (go_at_call 68; first | exact low_tells (rshort_yes (HQT.out _) HH8.out) | exact low_tells (rshort_no (HQT.out _) HH8.out)))) | quiet_step ((first
          | (go_at_call 56; exact low_says (rints_is K (by have := HKB.out; omega)))
          | (go_at_call 67; first | exact low_tells (rin_yes (HQI.out _) HE.out) | exact low_tells (rin_no (HQI.out _) HE.out))
          | (go_at_call 57; exact low_says (rtexts_is K (by have := HKB.out; omega)))
          | (go_at_call 68; first | exact low_tells (rshort_yes (HQT.out _) HH8.out) | exact low_tells (rshort_no (HQT.out _) HH8.out)))))
      refine wpQuiet_nil ?_
      intro _ hw'
      obtain ⟨nq, hw''⟩ := hw'
      subst hw''
      go_wp2
      go_ret
      exact badI (by have := HC.out; simpa using this) (bthen HBW.out nq.b)
    | false =>
    have tw0 : (strOf who).toList = [] := by rw [strOf_toList]; simpa [t2] using hc
    have tw : (!(strOf who).toList.isEmpty) = false := by rw [tw0]; rfl
    clear hv
    cases d with
    | true =>
      have td : ((ni : Int) != ((shI (K : Int) : Nat) : Int)) = true := by
        simp only [decide_eq_true_eq] at hd
        simp only [bne_iff_ne, ne_eq]
        omega
      clear ha hb hc hd hf hg hi hni hnt hnb hsm
      go_wp2_with fail
      refine wp_region_low (W := W) (by kernel_rfl) (by kernel_rfl) (Below.refl _ _) ?_
      repeat (first | go_big_quiet_step ((first
          | (go_at_call 56; exact low_says (rints_is K (by have := HKB.out; omega)))
          | (go_at_call 67; first | exact low_tells (rin_yes (HQI.out _) HE.out) | exact low_tells (rin_no (HQI.out _) HE.out))
          | (go_at_call 57; exact low_says (rtexts_is K (by have := HKB.out; omega)))
          | (go_at_call 68; first | exact low_tells (rshort_yes (HQT.out _) HH8.out) | exact low_tells (rshort_no (HQT.out _) HH8.out)))) | quiet_step ((first
          | (go_at_call 56; exact low_says (rints_is K (by have := HKB.out; omega)))
          | (go_at_call 67; first | exact low_tells (rin_yes (HQI.out _) HE.out) | exact low_tells (rin_no (HQI.out _) HE.out))
          | (go_at_call 57; exact low_says (rtexts_is K (by have := HKB.out; omega)))
          | (go_at_call 68; first | exact low_tells (rshort_yes (HQT.out _) HH8.out) | exact low_tells (rshort_no (HQT.out _) HH8.out)))))
      refine wpQuiet_nil ?_
      intro _ hw'
      obtain ⟨nq, hw''⟩ := hw'
      subst hw''
      go_wp2
      go_ret
      exact badI (by have := HC.out; simpa using this) (bthen HBW.out nq.b)
    | false =>
    have td : ((ni : Int) != ((shI (K : Int) : Nat) : Int)) = false := by
      simp only [decide_eq_false_iff_not] at hd
      simp only [bne_eq_false_iff_eq]
      omega
    cases e with
    | true =>
      clear ha hb hc hd hf hg hi hni hnt hnb hsm
      go_wp2_with fail
      refine wp_region_low (W := W) (by kernel_rfl) (by kernel_rfl) (Below.refl _ _) ?_
      repeat (first | go_big_quiet_step ((first
          | (go_at_call 56; exact low_says (rints_is K (by have := HKB.out; omega)))
          | (go_at_call 67; first | exact low_tells (rin_yes (HQI.out _) HE.out) | exact low_tells (rin_no (HQI.out _) HE.out))
          | (go_at_call 57; exact low_says (rtexts_is K (by have := HKB.out; omega)))
          | (go_at_call 68; first | exact low_tells (rshort_yes (HQT.out _) HH8.out) | exact low_tells (rshort_no (HQT.out _) HH8.out)))) | quiet_step ((first
          | (go_at_call 56; exact low_says (rints_is K (by have := HKB.out; omega)))
          | (go_at_call 67; first | exact low_tells (rin_yes (HQI.out _) HE.out) | exact low_tells (rin_no (HQI.out _) HE.out))
          | (go_at_call 57; exact low_says (rtexts_is K (by have := HKB.out; omega)))
          | (go_at_call 68; first | exact low_tells (rshort_yes (HQT.out _) HH8.out) | exact low_tells (rshort_no (HQT.out _) HH8.out)))))
      refine wpQuiet_nil ?_
      intro _ hw'
      obtain ⟨nq, hw''⟩ := hw'
      subst hw''
      go_wp2
      go_ret
      exact badI (by have := HC.out; simpa using this) (bthen HBW.out nq.b)
    | false =>
    cases f with
    | true =>
      have tf : decide (nt < shT (K : Int)) = true := by
        simp only [decide_eq_true_eq] at hf ⊢
        omega
      clear ha hb hc hd hf hg hi hni hnt hnb hsm
      go_wp2_with fail
      refine wp_region_low (W := W) (by kernel_rfl) (by kernel_rfl) (Below.refl _ _) ?_
      repeat (first | go_big_quiet_step ((first
          | (go_at_call 56; exact low_says (rints_is K (by have := HKB.out; omega)))
          | (go_at_call 67; first | exact low_tells (rin_yes (HQI.out _) HE.out) | exact low_tells (rin_no (HQI.out _) HE.out))
          | (go_at_call 57; exact low_says (rtexts_is K (by have := HKB.out; omega)))
          | (go_at_call 68; first | exact low_tells (rshort_yes (HQT.out _) HH8.out) | exact low_tells (rshort_no (HQT.out _) HH8.out)))) | quiet_step ((first
          | (go_at_call 56; exact low_says (rints_is K (by have := HKB.out; omega)))
          | (go_at_call 67; first | exact low_tells (rin_yes (HQI.out _) HE.out) | exact low_tells (rin_no (HQI.out _) HE.out))
          | (go_at_call 57; exact low_says (rtexts_is K (by have := HKB.out; omega)))
          | (go_at_call 68; first | exact low_tells (rshort_yes (HQT.out _) HH8.out) | exact low_tells (rshort_no (HQT.out _) HH8.out)))))
      refine wpQuiet_nil ?_
      intro _ hw'
      obtain ⟨nq, hw''⟩ := hw'
      subst hw''
      go_wp2
      go_ret
      exact badI (by have := HC.out; simpa using this) (bthen HBW.out nq.b)
    | false =>
    have tf : decide (nt < shT (K : Int)) = false := by
      simp only [decide_eq_false_iff_not] at hf ⊢
      omega
    cases g with
    | true =>
      have tg : decide (((shT (K : Int) : Nat) : Int) + ((shM (K : Int) : Nat) : Int) < (nt : Int)) = true := by
        simp only [decide_eq_true_eq] at hg ⊢
        omega
      clear ha hb hc hd hf hg hi hni hnt hnb hsm
      go_wp2_with fail
      refine wp_region_low (W := W) (by kernel_rfl) (by kernel_rfl) (Below.refl _ _) ?_
      repeat (first | go_big_quiet_step ((first
          | (go_at_call 56; exact low_says (rints_is K (by have := HKB.out; omega)))
          | (go_at_call 67; first | exact low_tells (rin_yes (HQI.out _) HE.out) | exact low_tells (rin_no (HQI.out _) HE.out))
          | (go_at_call 57; exact low_says (rtexts_is K (by have := HKB.out; omega)))
          | (go_at_call 68; first | exact low_tells (rshort_yes (HQT.out _) HH8.out) | exact low_tells (rshort_no (HQT.out _) HH8.out)))) | quiet_step ((first
          | (go_at_call 56; exact low_says (rints_is K (by have := HKB.out; omega)))
          | (go_at_call 67; first | exact low_tells (rin_yes (HQI.out _) HE.out) | exact low_tells (rin_no (HQI.out _) HE.out))
          | (go_at_call 57; exact low_says (rtexts_is K (by have := HKB.out; omega)))
          | (go_at_call 68; first | exact low_tells (rshort_yes (HQT.out _) HH8.out) | exact low_tells (rshort_no (HQT.out _) HH8.out)))))
      refine wpQuiet_nil ?_
      intro _ hw'
      obtain ⟨nq, hw''⟩ := hw'
      subst hw''
      go_wp2
      go_ret
      exact badI (by have := HC.out; simpa using this) (bthen HBW.out nq.b)
    | false =>
    have tg : decide (((shT (K : Int) : Nat) : Int) + ((shM (K : Int) : Nat) : Int) < (nt : Int)) = false := by
      simp only [decide_eq_false_iff_not] at hg ⊢
      omega
    cases hh with
    | true =>
      clear ha hb hc hd hf hg hi hni hnt hnb hsm
      go_wp2_with fail
      refine wp_region_low (W := W) (by kernel_rfl) (by kernel_rfl) (Below.refl _ _) ?_
      repeat (first | go_big_quiet_step ((first
          | (go_at_call 56; exact low_says (rints_is K (by have := HKB.out; omega)))
          | (go_at_call 67; first | exact low_tells (rin_yes (HQI.out _) HE.out) | exact low_tells (rin_no (HQI.out _) HE.out))
          | (go_at_call 57; exact low_says (rtexts_is K (by have := HKB.out; omega)))
          | (go_at_call 68; first | exact low_tells (rshort_yes (HQT.out _) HH8.out) | exact low_tells (rshort_no (HQT.out _) HH8.out)))) | quiet_step ((first
          | (go_at_call 56; exact low_says (rints_is K (by have := HKB.out; omega)))
          | (go_at_call 67; first | exact low_tells (rin_yes (HQI.out _) HE.out) | exact low_tells (rin_no (HQI.out _) HE.out))
          | (go_at_call 57; exact low_says (rtexts_is K (by have := HKB.out; omega)))
          | (go_at_call 68; first | exact low_tells (rshort_yes (HQT.out _) HH8.out) | exact low_tells (rshort_no (HQT.out _) HH8.out)))))
      refine wpQuiet_nil ?_
      intro _ hw'
      obtain ⟨nq, hw''⟩ := hw'
      subst hw''
      go_wp2
      go_ret
      exact badI (by have := HC.out; simpa using this) (bthen HBW.out nq.b)
    | false =>
    cases i with
    | true =>
      have ti : decide (shB (K : Int) < nb) = true := by
        simp only [decide_eq_true_eq] at hi ⊢
        omega
      clear ha hb hc hd hf hg hi hni hnt hnb hsm
      go_wp2_with fail
      refine wp_region_low (W := W) (by kernel_rfl) (by kernel_rfl) (Below.refl _ _) ?_
      repeat (first | go_big_quiet_step ((first
          | (go_at_call 56; exact low_says (rints_is K (by have := HKB.out; omega)))
          | (go_at_call 67; first | exact low_tells (rin_yes (HQI.out _) HE.out) | exact low_tells (rin_no (HQI.out _) HE.out))
          | (go_at_call 57; exact low_says (rtexts_is K (by have := HKB.out; omega)))
          | (go_at_call 68; first | exact low_tells (rshort_yes (HQT.out _) HH8.out) | exact low_tells (rshort_no (HQT.out _) HH8.out)))) | quiet_step ((first
          | (go_at_call 56; exact low_says (rints_is K (by have := HKB.out; omega)))
          | (go_at_call 67; first | exact low_tells (rin_yes (HQI.out _) HE.out) | exact low_tells (rin_no (HQI.out _) HE.out))
          | (go_at_call 57; exact low_says (rtexts_is K (by have := HKB.out; omega)))
          | (go_at_call 68; first | exact low_tells (rshort_yes (HQT.out _) HH8.out) | exact low_tells (rshort_no (HQT.out _) HH8.out)))))
      refine wpQuiet_nil ?_
      intro _ hw'
      obtain ⟨nq, hw''⟩ := hw'
      subst hw''
      go_wp2
      go_ret
      exact badI (by have := HC.out; simpa using this) (bthen HBW.out nq.b)
    | false =>
    have ti : decide (shB (K : Int) < nb) = false := by
      simp only [decide_eq_false_iff_not] at hi ⊢
      omega
    clear ha hb hc hd hf hg hi hni hnt hnb hsm
    go_wp2_with fail
    refine wp_region_low (W := W) (by kernel_rfl) (by kernel_rfl) (Below.refl _ _) ?_
    repeat (first | go_big_quiet_step ((first
        | (go_at_call 56; exact low_says (rints_is K (by have := HKB.out; omega)))
        | (go_at_call 67; first | exact low_tells (rin_yes (HQI.out _) HE.out) | exact low_tells (rin_no (HQI.out _) HE.out))
        | (go_at_call 57; exact low_says (rtexts_is K (by have := HKB.out; omega)))
        | (go_at_call 68; first | exact low_tells (rshort_yes (HQT.out _) HH8.out) | exact low_tells (rshort_no (HQT.out _) HH8.out)))) | quiet_step ((first
        | (go_at_call 56; exact low_says (rints_is K (by have := HKB.out; omega)))
        | (go_at_call 67; first | exact low_tells (rin_yes (HQI.out _) HE.out) | exact low_tells (rin_no (HQI.out _) HE.out))
        | (go_at_call 57; exact low_says (rtexts_is K (by have := HKB.out; omega)))
        | (go_at_call 68; first | exact low_tells (rshort_yes (HQT.out _) HH8.out) | exact low_tells (rshort_no (HQT.out _) HH8.out)))))
    refine wpQuiet_nil ?_
    intro _ hw'
    obtain ⟨nq, hw''⟩ := hw'
    subst hw''
    go_wp2
    go_ret
    exact badI (by have := HC.out; simpa using this) (bthen HBW.out nq.b)
  case neg =>
  have t2 : decide (v < 2) = false := by simpa using hv
  obtain rfl : c = false := by rw [← hc, t2]; rfl
  clear hv
  cases d with
  | true =>
    have td : ((ni : Int) != ((shI (K : Int) : Nat) : Int)) = true := by
      simp only [decide_eq_true_eq] at hd
      simp only [bne_iff_ne, ne_eq]
      omega
    clear ha hb hc hd hf hg hi hni hnt hnb hsm
    go_wp2_with fail
    refine wp_region_low (W := W) (by kernel_rfl) (by kernel_rfl) (Below.refl _ _) ?_
    repeat (first | go_big_quiet_step ((first
        | (go_at_call 56; exact low_says (rints_is K (by have := HKB.out; omega)))
        | (go_at_call 67; first | exact low_tells (rin_yes (HQI.out _) HE.out) | exact low_tells (rin_no (HQI.out _) HE.out))
        | (go_at_call 57; exact low_says (rtexts_is K (by have := HKB.out; omega)))
        | (go_at_call 68; first | exact low_tells (rshort_yes (HQT.out _) HH8.out) | exact low_tells (rshort_no (HQT.out _) HH8.out)))) | quiet_step ((first
        | (go_at_call 56; exact low_says (rints_is K (by have := HKB.out; omega)))
        | (go_at_call 67; first | exact low_tells (rin_yes (HQI.out _) HE.out) | exact low_tells (rin_no (HQI.out _) HE.out))
        | (go_at_call 57; exact low_says (rtexts_is K (by have := HKB.out; omega)))
        | (go_at_call 68; first | exact low_tells (rshort_yes (HQT.out _) HH8.out) | exact low_tells (rshort_no (HQT.out _) HH8.out)))))
    refine wpQuiet_nil ?_
    intro _ hw'
    obtain ⟨nq, hw''⟩ := hw'
    subst hw''
    go_wp2
    go_ret
    exact badI (by have := HC.out; simpa using this) (bthen HBW.out nq.b)
  | false =>
  have td : ((ni : Int) != ((shI (K : Int) : Nat) : Int)) = false := by
    simp only [decide_eq_false_iff_not] at hd
    simp only [bne_eq_false_iff_eq]
    omega
  cases e with
  | true =>
    clear ha hb hc hd hf hg hi hni hnt hnb hsm
    go_wp2_with fail
    refine wp_region_low (W := W) (by kernel_rfl) (by kernel_rfl) (Below.refl _ _) ?_
    repeat (first | go_big_quiet_step ((first
        | (go_at_call 56; exact low_says (rints_is K (by have := HKB.out; omega)))
        | (go_at_call 67; first | exact low_tells (rin_yes (HQI.out _) HE.out) | exact low_tells (rin_no (HQI.out _) HE.out))
        | (go_at_call 57; exact low_says (rtexts_is K (by have := HKB.out; omega)))
        | (go_at_call 68; first | exact low_tells (rshort_yes (HQT.out _) HH8.out) | exact low_tells (rshort_no (HQT.out _) HH8.out)))) | quiet_step ((first
        | (go_at_call 56; exact low_says (rints_is K (by have := HKB.out; omega)))
        | (go_at_call 67; first | exact low_tells (rin_yes (HQI.out _) HE.out) | exact low_tells (rin_no (HQI.out _) HE.out))
        | (go_at_call 57; exact low_says (rtexts_is K (by have := HKB.out; omega)))
        | (go_at_call 68; first | exact low_tells (rshort_yes (HQT.out _) HH8.out) | exact low_tells (rshort_no (HQT.out _) HH8.out)))))
    refine wpQuiet_nil ?_
    intro _ hw'
    obtain ⟨nq, hw''⟩ := hw'
    subst hw''
    go_wp2
    go_ret
    exact badI (by have := HC.out; simpa using this) (bthen HBW.out nq.b)
  | false =>
  cases f with
  | true =>
    have tf : decide (nt < shT (K : Int)) = true := by
      simp only [decide_eq_true_eq] at hf ⊢
      omega
    clear ha hb hc hd hf hg hi hni hnt hnb hsm
    go_wp2_with fail
    refine wp_region_low (W := W) (by kernel_rfl) (by kernel_rfl) (Below.refl _ _) ?_
    repeat (first | go_big_quiet_step ((first
        | (go_at_call 56; exact low_says (rints_is K (by have := HKB.out; omega)))
        | (go_at_call 67; first | exact low_tells (rin_yes (HQI.out _) HE.out) | exact low_tells (rin_no (HQI.out _) HE.out))
        | (go_at_call 57; exact low_says (rtexts_is K (by have := HKB.out; omega)))
        | (go_at_call 68; first | exact low_tells (rshort_yes (HQT.out _) HH8.out) | exact low_tells (rshort_no (HQT.out _) HH8.out)))) | quiet_step ((first
        | (go_at_call 56; exact low_says (rints_is K (by have := HKB.out; omega)))
        | (go_at_call 67; first | exact low_tells (rin_yes (HQI.out _) HE.out) | exact low_tells (rin_no (HQI.out _) HE.out))
        | (go_at_call 57; exact low_says (rtexts_is K (by have := HKB.out; omega)))
        | (go_at_call 68; first | exact low_tells (rshort_yes (HQT.out _) HH8.out) | exact low_tells (rshort_no (HQT.out _) HH8.out)))))
    refine wpQuiet_nil ?_
    intro _ hw'
    obtain ⟨nq, hw''⟩ := hw'
    subst hw''
    go_wp2
    go_ret
    exact badI (by have := HC.out; simpa using this) (bthen HBW.out nq.b)
  | false =>
  have tf : decide (nt < shT (K : Int)) = false := by
    simp only [decide_eq_false_iff_not] at hf ⊢
    omega
  cases g with
  | true =>
    have tg : decide (((shT (K : Int) : Nat) : Int) + ((shM (K : Int) : Nat) : Int) < (nt : Int)) = true := by
      simp only [decide_eq_true_eq] at hg ⊢
      omega
    clear ha hb hc hd hf hg hi hni hnt hnb hsm
    go_wp2_with fail
    refine wp_region_low (W := W) (by kernel_rfl) (by kernel_rfl) (Below.refl _ _) ?_
    repeat (first | go_big_quiet_step ((first
        | (go_at_call 56; exact low_says (rints_is K (by have := HKB.out; omega)))
        | (go_at_call 67; first | exact low_tells (rin_yes (HQI.out _) HE.out) | exact low_tells (rin_no (HQI.out _) HE.out))
        | (go_at_call 57; exact low_says (rtexts_is K (by have := HKB.out; omega)))
        | (go_at_call 68; first | exact low_tells (rshort_yes (HQT.out _) HH8.out) | exact low_tells (rshort_no (HQT.out _) HH8.out)))) | quiet_step ((first
        | (go_at_call 56; exact low_says (rints_is K (by have := HKB.out; omega)))
        | (go_at_call 67; first | exact low_tells (rin_yes (HQI.out _) HE.out) | exact low_tells (rin_no (HQI.out _) HE.out))
        | (go_at_call 57; exact low_says (rtexts_is K (by have := HKB.out; omega)))
        | (go_at_call 68; first | exact low_tells (rshort_yes (HQT.out _) HH8.out) | exact low_tells (rshort_no (HQT.out _) HH8.out)))))
    refine wpQuiet_nil ?_
    intro _ hw'
    obtain ⟨nq, hw''⟩ := hw'
    subst hw''
    go_wp2
    go_ret
    exact badI (by have := HC.out; simpa using this) (bthen HBW.out nq.b)
  | false =>
  have tg : decide (((shT (K : Int) : Nat) : Int) + ((shM (K : Int) : Nat) : Int) < (nt : Int)) = false := by
    simp only [decide_eq_false_iff_not] at hg ⊢
    omega
  cases hh with
  | true =>
    clear ha hb hc hd hf hg hi hni hnt hnb hsm
    go_wp2_with fail
    refine wp_region_low (W := W) (by kernel_rfl) (by kernel_rfl) (Below.refl _ _) ?_
    repeat (first | go_big_quiet_step ((first
        | (go_at_call 56; exact low_says (rints_is K (by have := HKB.out; omega)))
        | (go_at_call 67; first | exact low_tells (rin_yes (HQI.out _) HE.out) | exact low_tells (rin_no (HQI.out _) HE.out))
        | (go_at_call 57; exact low_says (rtexts_is K (by have := HKB.out; omega)))
        | (go_at_call 68; first | exact low_tells (rshort_yes (HQT.out _) HH8.out) | exact low_tells (rshort_no (HQT.out _) HH8.out)))) | quiet_step ((first
        | (go_at_call 56; exact low_says (rints_is K (by have := HKB.out; omega)))
        | (go_at_call 67; first | exact low_tells (rin_yes (HQI.out _) HE.out) | exact low_tells (rin_no (HQI.out _) HE.out))
        | (go_at_call 57; exact low_says (rtexts_is K (by have := HKB.out; omega)))
        | (go_at_call 68; first | exact low_tells (rshort_yes (HQT.out _) HH8.out) | exact low_tells (rshort_no (HQT.out _) HH8.out)))))
    refine wpQuiet_nil ?_
    intro _ hw'
    obtain ⟨nq, hw''⟩ := hw'
    subst hw''
    go_wp2
    go_ret
    exact badI (by have := HC.out; simpa using this) (bthen HBW.out nq.b)
  | false =>
  cases i with
  | true =>
    have ti : decide (shB (K : Int) < nb) = true := by
      simp only [decide_eq_true_eq] at hi ⊢
      omega
    clear ha hb hc hd hf hg hi hni hnt hnb hsm
    go_wp2_with fail
    refine wp_region_low (W := W) (by kernel_rfl) (by kernel_rfl) (Below.refl _ _) ?_
    repeat (first | go_big_quiet_step ((first
        | (go_at_call 56; exact low_says (rints_is K (by have := HKB.out; omega)))
        | (go_at_call 67; first | exact low_tells (rin_yes (HQI.out _) HE.out) | exact low_tells (rin_no (HQI.out _) HE.out))
        | (go_at_call 57; exact low_says (rtexts_is K (by have := HKB.out; omega)))
        | (go_at_call 68; first | exact low_tells (rshort_yes (HQT.out _) HH8.out) | exact low_tells (rshort_no (HQT.out _) HH8.out)))) | quiet_step ((first
        | (go_at_call 56; exact low_says (rints_is K (by have := HKB.out; omega)))
        | (go_at_call 67; first | exact low_tells (rin_yes (HQI.out _) HE.out) | exact low_tells (rin_no (HQI.out _) HE.out))
        | (go_at_call 57; exact low_says (rtexts_is K (by have := HKB.out; omega)))
        | (go_at_call 68; first | exact low_tells (rshort_yes (HQT.out _) HH8.out) | exact low_tells (rshort_no (HQT.out _) HH8.out)))))
    refine wpQuiet_nil ?_
    intro _ hw'
    obtain ⟨nq, hw''⟩ := hw'
    subst hw''
    go_wp2
    go_ret
    exact badI (by have := HC.out; simpa using this) (bthen HBW.out nq.b)
  | false =>
  have ti : decide (shB (K : Int) < nb) = false := by
    simp only [decide_eq_false_iff_not] at hi ⊢
    omega
  clear ha hb hc hd hf hg hi hni hnt hnb hsm
  go_wp2_with fail
  refine wp_region_low (W := W) (by kernel_rfl) (by kernel_rfl) (Below.refl _ _) ?_
  repeat (first | go_big_quiet_step ((first
      | (go_at_call 56; exact low_says (rints_is K (by have := HKB.out; omega)))
      | (go_at_call 67; first | exact low_tells (rin_yes (HQI.out _) HE.out) | exact low_tells (rin_no (HQI.out _) HE.out))
      | (go_at_call 57; exact low_says (rtexts_is K (by have := HKB.out; omega)))
      | (go_at_call 68; first | exact low_tells (rshort_yes (HQT.out _) HH8.out) | exact low_tells (rshort_no (HQT.out _) HH8.out)))) | quiet_step ((first
      | (go_at_call 56; exact low_says (rints_is K (by have := HKB.out; omega)))
      | (go_at_call 67; first | exact low_tells (rin_yes (HQI.out _) HE.out) | exact low_tells (rin_no (HQI.out _) HE.out))
      | (go_at_call 57; exact low_says (rtexts_is K (by have := HKB.out; omega)))
      | (go_at_call 68; first | exact low_tells (rshort_yes (HQT.out _) HH8.out) | exact low_tells (rshort_no (HQT.out _) HH8.out)))))
  refine wpQuiet_nil ?_
  intro _ hw'
  obtain ⟨nq, hw''⟩ := hw'
  subst hw''
  go_wp2
  go_ret
  exact badI (by have := HC.out; simpa using this) (bthen HBW.out nq.b)
end Go.Proofs.YtlijagbklopipaaDoor
