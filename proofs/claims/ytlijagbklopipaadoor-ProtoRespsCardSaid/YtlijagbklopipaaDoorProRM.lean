/-
  Contract of the document's checkResp. Conditions: those that it states.
-/
import Derived.Deep.DeepCutAuto
import Derived.Test.YtlijagbklopipaaDoorProL
import Derived.Test.YtlijagbklopipaaDoorLow
namespace Go.Proofs.YtlijagbklopipaaDoor
open Go.RowKit
set_option linter.unusedVariables false

set_option maxRecDepth 100000 in
set_option maxHeartbeats 16000000 in
theorem r_chkS_ok {w : World} (k v id er wa : Int) {Ai At Ab : Option Addr} {ni ci nt ct nb cb : Nat} {zs ts bs} (h : Rq w w.heap.size Ai ni ci At nt ct Ab nb cb zs ts bs) :
    Calls Tryd.prog 72 #[.agg #[.int .i64 k, .int .i64 v, .int .i64 id, .int .i64 er, .int .i64 wa, .slice Ai ni ci, .slice At nt ct, .slice Ab nb cb]] w (Says w (.int .i64 (chkS ⟨k, v, id, er, wa, zs, ts, bs⟩))) := by
  by_cases hk : knownE k v = 0
  case neg =>
    rw [chkS_known (r := ⟨k, v, id, er, wa, zs, ts, bs⟩) hk]
    have t1 : (knownE k v != 0) = true := by simpa using hk
    have HKC := Lib.hid (rknown_is (w := w.alloc (.cells #[.int .i64 k, .int .i64 v, .int .i64 id, .int .i64 er, .int .i64 wa, .slice Ai ni ci, .slice At nt ct, .slice Ab nb cb] 38)) k v)
    generalize knownE k v = E at *
    have HB := Lib.hid (bput (Below.refl _ w) (.cells #[.int .i64 k, .int .i64 v, .int .i64 id, .int .i64 er, .int .i64 wa, .slice Ai ni ci, .slice At nt ct, .slice Ab nb cb] 38))
    clear hk h
    go_enter Tryd.func72, Tryd.ntmps72
    go_wp2_with fail
    refine HKC.out.mono ?_
    rintro e1 w1 ⟨rfl, rfl⟩
    go_wp2
    go_ret
    exact ⟨rfl, HB.out⟩
  obtain ⟨i1, i2, i3, i4⟩ := known_ok hk
  obtain ⟨a, b, c, d, e, f, g, hh, i, L⟩ : ∃ a b c d e f g h i, LooksS ⟨k, v, id, er, wa, zs, ts, bs⟩ a b c d e f g h i := ⟨_, _, _, _, _, _, _, _, _, rfl, rfl, rfl, rfl, rfl, rfl, rfl, rfl, rfl⟩
  have HC := Lib.hid (chkS_is L hk)
  generalize chkS ⟨k, v, id, er, wa, zs, ts, bs⟩ = C at *
  have HKN := Lib.hid hk
  have HBX := Lib.hid (fun (w' : World) => boxed8 w 38 (.int .i64 k) (.int .i64 v) (.int .i64 id) (.int .i64 er) (.int .i64 wa) (.slice Ai ni ci) (.slice At nt ct) (.slice Ab nb cb) (w' := w'))
  have HL := Lib.hid L
  have HH := Lib.hid h
  clear hk L h
  obtain ⟨W, hW⟩ : ∃ W, W = w.alloc (.cells #[.int .i64 k, .int .i64 v, .int .i64 id, .int .i64 er, .int .i64 wa, .slice Ai ni ci, .slice At nt ct, .slice Ab nb cb] 38) := ⟨_, rfl⟩
  have hWz : W.heap.size = w.heap.size + 1 := by rw [hW]; simp
  have HK : Hid (∀ w', Below W.heap.size W w' → (w'.cell? ⟨w.heap.size, 0, none⟩ = some (.int .i64 k) ∧ w'.cell? ⟨w.heap.size, 1, none⟩ = some (.int .i64 v) ∧ w'.cell? ⟨w.heap.size, 2, none⟩ = some (.int .i64 id) ∧ w'.cell? ⟨w.heap.size, 3, none⟩ = some (.int .i64 er) ∧ w'.cell? ⟨w.heap.size, 4, none⟩ = some (.int .i64 wa) ∧ w'.cell? ⟨w.heap.size, 5, none⟩ = some (.slice Ai ni ci) ∧ w'.cell? ⟨w.heap.size, 6, none⟩ = some (.slice At nt ct) ∧ w'.cell? ⟨w.heap.size, 7, none⟩ = some (.slice Ab nb cb))) := Lib.hid fun w' hb => HBX.out w' (by rw [← hW, ← hWz]; exact hb)
  have HB : Hid (∀ w', Below W.heap.size W w' → Below w.heap.size w w') := Lib.hid fun w' hb => by
    have h1 := bput (Below.refl _ w) (.cells #[.int .i64 k, .int .i64 v, .int .i64 id, .int .i64 er, .int .i64 wa, .slice Ai ni ci, .slice At nt ct, .slice Ab nb cb] 38)
    rw [← hW] at h1
    exact bthen h1 hb
  have HQ := Lib.hid (HH.out.step (HB.out _ (Below.refl _ W)) (Nat.le_refl _))
  have hni := HQ.out.ints.len
  rw [iv_len] at hni
  have hnt := HQ.out.texts.len
  rw [sv_len] at hnt
  have hnb := HQ.out.blob.len
  have hwz : w.heap.size ≤ W.heap.size := by rw [hWz]; exact Nat.le_succ _
  go_enter Tryd.func72, Tryd.ntmps72
  go_wp2_with fail
  refine (rknown_is _ _).mono ?_
  rintro e1 w1 ⟨rfl, rfl⟩
  have hk0 := HKN.out
  rw [hk0, ← hW]
  clear hk0
  have HW := Lib.hid hW
  clear hW
  have ha := HL.out.a
  have hb := HL.out.b
  have hc := HL.out.c
  have hd := HL.out.d
  have he := HL.out.e
  have hg := HL.out.g
  have hi := HL.out.i
  simp only at ha hb hc hd he hg hi
  have HQI : Hid (∀ n : Lows W, Rx n.w w.heap.size Ai ni ci (iv zs)) := Lib.hid fun n => (HQ.out.step n.b hwz).ints
  have HQT : Hid (∀ n : Lows W, Rx n.w w.heap.size At nt ct (sv ts)) := Lib.hid fun n => (HQ.out.step n.b hwz).texts
  have HF := Lib.hid HL.out.f
  have HH8 := Lib.hid HL.out.h
  go_upto_region 4 with fail
  simp only [List.append_eq, List.cons_append, List.nil_append]
  have k0 : ∀ n : Lows W, n.w.cell? ⟨w.heap.size, 0, none⟩ = some (.int .i64 k) := fun n => (HK.out n.w n.b).1
  have k1 : ∀ n : Lows W, n.w.cell? ⟨w.heap.size, 1, none⟩ = some (.int .i64 v) := fun n => (HK.out n.w n.b).2.1
  have k2 : ∀ n : Lows W, n.w.cell? ⟨w.heap.size, 2, none⟩ = some (.int .i64 id) := fun n => (HK.out n.w n.b).2.2.1
  have k3 : ∀ n : Lows W, n.w.cell? ⟨w.heap.size, 3, none⟩ = some (.int .i64 er) := fun n => (HK.out n.w n.b).2.2.2.1
  have k4 : ∀ n : Lows W, n.w.cell? ⟨w.heap.size, 4, none⟩ = some (.int .i64 wa) := fun n => (HK.out n.w n.b).2.2.2.2.1
  have k5 : ∀ n : Lows W, n.w.cell? ⟨w.heap.size, 5, none⟩ = some (.slice Ai ni ci) := fun n => (HK.out n.w n.b).2.2.2.2.2.1
  have k6 : ∀ n : Lows W, n.w.cell? ⟨w.heap.size, 6, none⟩ = some (.slice At nt ct) := fun n => (HK.out n.w n.b).2.2.2.2.2.2.1
  have k7 : ∀ n : Lows W, n.w.cell? ⟨w.heap.size, 7, none⟩ = some (.slice Ab nb cb) := fun n => (HK.out n.w n.b).2.2.2.2.2.2.2
  have HBW := Lib.hid (HB.out _ (Below.refl _ W))
  cases a with
  | true =>
    by_cases hq : id < 0
    · have ta1 : decide (id < 0) = true := by simpa using hq
      clear ha hb hc hd he hg hi hni hnt hnb hq
      refine wp_region_low_plain (W := W) (Below.refl _ _) ?_
      repeat (first | go_big_quiet_step ((first
          | (go_at_call 67; first | exact low_tells (rin_yes (HQI.out _) HF.out) | exact low_tells (rin_no (HQI.out _) HF.out))
          | (go_at_call 68; first | exact low_tells (rshort_yes (HQT.out _) HH8.out) | exact low_tells (rshort_no (HQT.out _) HH8.out)))) | quiet_step ((first
          | (go_at_call 67; first | exact low_tells (rin_yes (HQI.out _) HF.out) | exact low_tells (rin_no (HQI.out _) HF.out))
          | (go_at_call 68; first | exact low_tells (rshort_yes (HQT.out _) HH8.out) | exact low_tells (rshort_no (HQT.out _) HH8.out)))))
      refine wpQuiet_nil ?_
      intro _ hw'
      obtain ⟨nq, hw''⟩ := hw'
      subst hw''
      go_wp2
      go_ret
      exact badI (by have := HC.out; simpa using this) (bthen HBW.out nq.b)
    · have ta1 : decide (id < 0) = false := by simpa using hq
      have ta2 : decide (1099511627776 < id) = true := by simpa [ta1] using ha
      clear ha hb hc hd he hg hi hni hnt hnb hq
      refine wp_region_low_plain (W := W) (Below.refl _ _) ?_
      repeat (first | go_big_quiet_step ((first
          | (go_at_call 67; first | exact low_tells (rin_yes (HQI.out _) HF.out) | exact low_tells (rin_no (HQI.out _) HF.out))
          | (go_at_call 68; first | exact low_tells (rshort_yes (HQT.out _) HH8.out) | exact low_tells (rshort_no (HQT.out _) HH8.out)))) | quiet_step ((first
          | (go_at_call 67; first | exact low_tells (rin_yes (HQI.out _) HF.out) | exact low_tells (rin_no (HQI.out _) HF.out))
          | (go_at_call 68; first | exact low_tells (rshort_yes (HQT.out _) HH8.out) | exact low_tells (rshort_no (HQT.out _) HH8.out)))))
      refine wpQuiet_nil ?_
      intro _ hw'
      obtain ⟨nq, hw''⟩ := hw'
      subst hw''
      go_wp2
      go_ret
      exact badI (by have := HC.out; simpa using this) (bthen HBW.out nq.b)
  | false =>
  have ta1 : decide (id < 0) = false := by simp only [Bool.or_eq_false_iff, decide_eq_false_iff_not] at ha ⊢; exact ha.1
  have ta2 : decide (1099511627776 < id) = false := by simp only [Bool.or_eq_false_iff, decide_eq_false_iff_not] at ha ⊢; exact ha.2
  cases b with
  | true =>
    by_cases hq : wa < 0
    · have tb1 : decide (wa < 0) = true := by simpa using hq
      clear ha hb hc hd he hg hi hni hnt hnb hq
      refine wp_region_low_plain (W := W) (Below.refl _ _) ?_
      repeat (first | go_big_quiet_step ((first
          | (go_at_call 67; first | exact low_tells (rin_yes (HQI.out _) HF.out) | exact low_tells (rin_no (HQI.out _) HF.out))
          | (go_at_call 68; first | exact low_tells (rshort_yes (HQT.out _) HH8.out) | exact low_tells (rshort_no (HQT.out _) HH8.out)))) | quiet_step ((first
          | (go_at_call 67; first | exact low_tells (rin_yes (HQI.out _) HF.out) | exact low_tells (rin_no (HQI.out _) HF.out))
          | (go_at_call 68; first | exact low_tells (rshort_yes (HQT.out _) HH8.out) | exact low_tells (rshort_no (HQT.out _) HH8.out)))))
      refine wpQuiet_nil ?_
      intro _ hw'
      obtain ⟨nq, hw''⟩ := hw'
      subst hw''
      go_wp2
      go_ret
      exact badI (by have := HC.out; simpa using this) (bthen HBW.out nq.b)
    · have tb1 : decide (wa < 0) = false := by simpa using hq
      have tb2 : decide (1099511627776 < wa) = true := by simpa [tb1] using hb
      clear ha hb hc hd he hg hi hni hnt hnb hq
      refine wp_region_low_plain (W := W) (Below.refl _ _) ?_
      repeat (first | go_big_quiet_step ((first
          | (go_at_call 67; first | exact low_tells (rin_yes (HQI.out _) HF.out) | exact low_tells (rin_no (HQI.out _) HF.out))
          | (go_at_call 68; first | exact low_tells (rshort_yes (HQT.out _) HH8.out) | exact low_tells (rshort_no (HQT.out _) HH8.out)))) | quiet_step ((first
          | (go_at_call 67; first | exact low_tells (rin_yes (HQI.out _) HF.out) | exact low_tells (rin_no (HQI.out _) HF.out))
          | (go_at_call 68; first | exact low_tells (rshort_yes (HQT.out _) HH8.out) | exact low_tells (rshort_no (HQT.out _) HH8.out)))))
      refine wpQuiet_nil ?_
      intro _ hw'
      obtain ⟨nq, hw''⟩ := hw'
      subst hw''
      go_wp2
      go_ret
      exact badI (by have := HC.out; simpa using this) (bthen HBW.out nq.b)
  | false =>
  have tb1 : decide (wa < 0) = false := by simp only [Bool.or_eq_false_iff, decide_eq_false_iff_not] at hb ⊢; exact hb.1
  have tb2 : decide (1099511627776 < wa) = false := by simp only [Bool.or_eq_false_iff, decide_eq_false_iff_not] at hb ⊢; exact hb.2
  by_cases hv : v = 0
  case pos =>
    have t2 : (v == 0) = true := by simpa using hv
    have t2' : decide (v < 1) = true := by simp only [decide_eq_true_eq]; omega
    cases c with
    | true =>
      have tw : (wa != 0) = true := by simpa [t2'] using hc
      clear ha hb hc hd he hg hi hni hnt hnb hv
      refine wp_region_low_plain (W := W) (Below.refl _ _) ?_
      repeat (first | go_big_quiet_step ((first
          | (go_at_call 67; first | exact low_tells (rin_yes (HQI.out _) HF.out) | exact low_tells (rin_no (HQI.out _) HF.out))
          | (go_at_call 68; first | exact low_tells (rshort_yes (HQT.out _) HH8.out) | exact low_tells (rshort_no (HQT.out _) HH8.out)))) | quiet_step ((first
          | (go_at_call 67; first | exact low_tells (rin_yes (HQI.out _) HF.out) | exact low_tells (rin_no (HQI.out _) HF.out))
          | (go_at_call 68; first | exact low_tells (rshort_yes (HQT.out _) HH8.out) | exact low_tells (rshort_no (HQT.out _) HH8.out)))))
      refine wpQuiet_nil ?_
      intro _ hw'
      obtain ⟨nq, hw''⟩ := hw'
      subst hw''
      go_wp2
      go_ret
      exact badI (by have := HC.out; simpa using this) (bthen HBW.out nq.b)
    | false =>
    have tw : (wa != 0) = false := by simpa [t2'] using hc
    clear hv
    cases d with
    | true =>
      by_cases hq : er < 0
      · have td1 : decide (er < 0) = true := by simpa using hq
        clear ha hb hc hd he hg hi hni hnt hnb hq
        refine wp_region_low_plain (W := W) (Below.refl _ _) ?_
        repeat (first | go_big_quiet_step ((first
            | (go_at_call 67; first | exact low_tells (rin_yes (HQI.out _) HF.out) | exact low_tells (rin_no (HQI.out _) HF.out))
            | (go_at_call 68; first | exact low_tells (rshort_yes (HQT.out _) HH8.out) | exact low_tells (rshort_no (HQT.out _) HH8.out)))) | quiet_step ((first
            | (go_at_call 67; first | exact low_tells (rin_yes (HQI.out _) HF.out) | exact low_tells (rin_no (HQI.out _) HF.out))
            | (go_at_call 68; first | exact low_tells (rshort_yes (HQT.out _) HH8.out) | exact low_tells (rshort_no (HQT.out _) HH8.out)))))
        refine wpQuiet_nil ?_
        intro _ hw'
        obtain ⟨nq, hw''⟩ := hw'
        subst hw''
        go_wp2
        go_ret
        exact badI (by have := HC.out; simpa using this) (bthen HBW.out nq.b)
      · have td1 : decide (er < 0) = false := by simpa using hq
        have td2 : decide (999 < er) = true := by simpa [td1] using hd
        clear ha hb hc hd he hg hi hni hnt hnb hq
        refine wp_region_low_plain (W := W) (Below.refl _ _) ?_
        repeat (first | go_big_quiet_step ((first
            | (go_at_call 67; first | exact low_tells (rin_yes (HQI.out _) HF.out) | exact low_tells (rin_no (HQI.out _) HF.out))
            | (go_at_call 68; first | exact low_tells (rshort_yes (HQT.out _) HH8.out) | exact low_tells (rshort_no (HQT.out _) HH8.out)))) | quiet_step ((first
            | (go_at_call 67; first | exact low_tells (rin_yes (HQI.out _) HF.out) | exact low_tells (rin_no (HQI.out _) HF.out))
            | (go_at_call 68; first | exact low_tells (rshort_yes (HQT.out _) HH8.out) | exact low_tells (rshort_no (HQT.out _) HH8.out)))))
        refine wpQuiet_nil ?_
        intro _ hw'
        obtain ⟨nq, hw''⟩ := hw'
        subst hw''
        go_wp2
        go_ret
        exact badI (by have := HC.out; simpa using this) (bthen HBW.out nq.b)
    | false =>
    have td1 : decide (er < 0) = false := by simp only [Bool.or_eq_false_iff, decide_eq_false_iff_not] at hd ⊢; exact hd.1
    have td2 : decide (999 < er) = false := by simp only [Bool.or_eq_false_iff, decide_eq_false_iff_not] at hd ⊢; exact hd.2
    cases e with
    | true =>
      have te : decide ((64 : Int) < (ni : Int)) = true := by simp only [decide_eq_true_eq] at he ⊢; omega
      have te' : decide (64 < ni) = true := by simp only [decide_eq_true_eq] at he ⊢; omega
      clear ha hb hc hd he hg hi hni hnt hnb
      refine wp_region_low_plain (W := W) (Below.refl _ _) ?_
      repeat (first | go_big_quiet_step ((first
          | (go_at_call 67; first | exact low_tells (rin_yes (HQI.out _) HF.out) | exact low_tells (rin_no (HQI.out _) HF.out))
          | (go_at_call 68; first | exact low_tells (rshort_yes (HQT.out _) HH8.out) | exact low_tells (rshort_no (HQT.out _) HH8.out)))) | quiet_step ((first
          | (go_at_call 67; first | exact low_tells (rin_yes (HQI.out _) HF.out) | exact low_tells (rin_no (HQI.out _) HF.out))
          | (go_at_call 68; first | exact low_tells (rshort_yes (HQT.out _) HH8.out) | exact low_tells (rshort_no (HQT.out _) HH8.out)))))
      refine wpQuiet_nil ?_
      intro _ hw'
      obtain ⟨nq, hw''⟩ := hw'
      subst hw''
      go_wp2
      go_ret
      exact badI (by have := HC.out; simpa using this) (bthen HBW.out nq.b)
    | false =>
    have te : decide ((64 : Int) < (ni : Int)) = false := by simp only [decide_eq_false_iff_not] at he ⊢; omega
    have te' : decide (64 < ni) = false := by simp only [decide_eq_false_iff_not] at he ⊢; omega
    cases f with
    | true =>
      clear ha hb hc hd he hg hi hni hnt hnb
      refine wp_region_low_plain (W := W) (Below.refl _ _) ?_
      repeat (first | go_big_quiet_step ((first
          | (go_at_call 67; first | exact low_tells (rin_yes (HQI.out _) HF.out) | exact low_tells (rin_no (HQI.out _) HF.out))
          | (go_at_call 68; first | exact low_tells (rshort_yes (HQT.out _) HH8.out) | exact low_tells (rshort_no (HQT.out _) HH8.out)))) | quiet_step ((first
          | (go_at_call 67; first | exact low_tells (rin_yes (HQI.out _) HF.out) | exact low_tells (rin_no (HQI.out _) HF.out))
          | (go_at_call 68; first | exact low_tells (rshort_yes (HQT.out _) HH8.out) | exact low_tells (rshort_no (HQT.out _) HH8.out)))))
      refine wpQuiet_nil ?_
      intro _ hw'
      obtain ⟨nq, hw''⟩ := hw'
      subst hw''
      go_wp2
      go_ret
      exact badI (by have := HC.out; simpa using this) (bthen HBW.out nq.b)
    | false =>
    cases g with
    | true =>
      have tg : decide ((16 : Int) < (nt : Int)) = true := by simp only [decide_eq_true_eq] at hg ⊢; omega
      have tg' : decide (16 < nt) = true := by simp only [decide_eq_true_eq] at hg ⊢; omega
      clear ha hb hc hd he hg hi hni hnt hnb
      refine wp_region_low_plain (W := W) (Below.refl _ _) ?_
      repeat (first | go_big_quiet_step ((first
          | (go_at_call 67; first | exact low_tells (rin_yes (HQI.out _) HF.out) | exact low_tells (rin_no (HQI.out _) HF.out))
          | (go_at_call 68; first | exact low_tells (rshort_yes (HQT.out _) HH8.out) | exact low_tells (rshort_no (HQT.out _) HH8.out)))) | quiet_step ((first
          | (go_at_call 67; first | exact low_tells (rin_yes (HQI.out _) HF.out) | exact low_tells (rin_no (HQI.out _) HF.out))
          | (go_at_call 68; first | exact low_tells (rshort_yes (HQT.out _) HH8.out) | exact low_tells (rshort_no (HQT.out _) HH8.out)))))
      refine wpQuiet_nil ?_
      intro _ hw'
      obtain ⟨nq, hw''⟩ := hw'
      subst hw''
      go_wp2
      go_ret
      exact badI (by have := HC.out; simpa using this) (bthen HBW.out nq.b)
    | false =>
    have tg : decide ((16 : Int) < (nt : Int)) = false := by simp only [decide_eq_false_iff_not] at hg ⊢; omega
    have tg' : decide (16 < nt) = false := by simp only [decide_eq_false_iff_not] at hg ⊢; omega
    cases hh with
    | true =>
      clear ha hb hc hd he hg hi hni hnt hnb
      refine wp_region_low_plain (W := W) (Below.refl _ _) ?_
      repeat (first | go_big_quiet_step ((first
          | (go_at_call 67; first | exact low_tells (rin_yes (HQI.out _) HF.out) | exact low_tells (rin_no (HQI.out _) HF.out))
          | (go_at_call 68; first | exact low_tells (rshort_yes (HQT.out _) HH8.out) | exact low_tells (rshort_no (HQT.out _) HH8.out)))) | quiet_step ((first
          | (go_at_call 67; first | exact low_tells (rin_yes (HQI.out _) HF.out) | exact low_tells (rin_no (HQI.out _) HF.out))
          | (go_at_call 68; first | exact low_tells (rshort_yes (HQT.out _) HH8.out) | exact low_tells (rshort_no (HQT.out _) HH8.out)))))
      refine wpQuiet_nil ?_
      intro _ hw'
      obtain ⟨nq, hw''⟩ := hw'
      subst hw''
      go_wp2
      go_ret
      exact badI (by have := HC.out; simpa using this) (bthen HBW.out nq.b)
    | false =>
    cases i with
    | true =>
      have ti : decide ((4096 : Int) < (nb : Int)) = true := by simp only [decide_eq_true_eq] at hi ⊢; omega
      have ti' : decide (4096 < nb) = true := by simp only [decide_eq_true_eq] at hi ⊢; omega
      clear ha hb hc hd he hg hi hni hnt hnb
      refine wp_region_low_plain (W := W) (Below.refl _ _) ?_
      repeat (first | go_big_quiet_step ((first
          | (go_at_call 67; first | exact low_tells (rin_yes (HQI.out _) HF.out) | exact low_tells (rin_no (HQI.out _) HF.out))
          | (go_at_call 68; first | exact low_tells (rshort_yes (HQT.out _) HH8.out) | exact low_tells (rshort_no (HQT.out _) HH8.out)))) | quiet_step ((first
          | (go_at_call 67; first | exact low_tells (rin_yes (HQI.out _) HF.out) | exact low_tells (rin_no (HQI.out _) HF.out))
          | (go_at_call 68; first | exact low_tells (rshort_yes (HQT.out _) HH8.out) | exact low_tells (rshort_no (HQT.out _) HH8.out)))))
      refine wpQuiet_nil ?_
      intro _ hw'
      obtain ⟨nq, hw''⟩ := hw'
      subst hw''
      go_wp2
      go_ret
      exact badI (by have := HC.out; simpa using this) (bthen HBW.out nq.b)
    | false =>
    have ti : decide ((4096 : Int) < (nb : Int)) = false := by simp only [decide_eq_false_iff_not] at hi ⊢; omega
    have ti' : decide (4096 < nb) = false := by simp only [decide_eq_false_iff_not] at hi ⊢; omega
    clear ha hb hc hd he hg hi hni hnt hnb
    refine wp_region_low_plain (W := W) (Below.refl _ _) ?_
    repeat (first | go_big_quiet_step ((first
        | (go_at_call 67; first | exact low_tells (rin_yes (HQI.out _) HF.out) | exact low_tells (rin_no (HQI.out _) HF.out))
        | (go_at_call 68; first | exact low_tells (rshort_yes (HQT.out _) HH8.out) | exact low_tells (rshort_no (HQT.out _) HH8.out)))) | quiet_step ((first
        | (go_at_call 67; first | exact low_tells (rin_yes (HQI.out _) HF.out) | exact low_tells (rin_no (HQI.out _) HF.out))
        | (go_at_call 68; first | exact low_tells (rshort_yes (HQT.out _) HH8.out) | exact low_tells (rshort_no (HQT.out _) HH8.out)))))
    refine wpQuiet_nil ?_
    intro _ hw'
    obtain ⟨nq, hw''⟩ := hw'
    subst hw''
    go_wp2
    go_ret
    exact badI (by have := HC.out; simpa using this) (bthen HBW.out nq.b)
  case neg =>
  have t2 : (v == 0) = false := by simpa using hv
  have t2' : decide (v < 1) = false := by simp only [decide_eq_false_iff_not]; omega
  obtain rfl : c = false := by rw [← hc, t2']; rfl
  clear hv
  cases d with
  | true =>
    by_cases hq : er < 0
    · have td1 : decide (er < 0) = true := by simpa using hq
      clear ha hb hc hd he hg hi hni hnt hnb hq
      refine wp_region_low_plain (W := W) (Below.refl _ _) ?_
      repeat (first | go_big_quiet_step ((first
          | (go_at_call 67; first | exact low_tells (rin_yes (HQI.out _) HF.out) | exact low_tells (rin_no (HQI.out _) HF.out))
          | (go_at_call 68; first | exact low_tells (rshort_yes (HQT.out _) HH8.out) | exact low_tells (rshort_no (HQT.out _) HH8.out)))) | quiet_step ((first
          | (go_at_call 67; first | exact low_tells (rin_yes (HQI.out _) HF.out) | exact low_tells (rin_no (HQI.out _) HF.out))
          | (go_at_call 68; first | exact low_tells (rshort_yes (HQT.out _) HH8.out) | exact low_tells (rshort_no (HQT.out _) HH8.out)))))
      refine wpQuiet_nil ?_
      intro _ hw'
      obtain ⟨nq, hw''⟩ := hw'
      subst hw''
      go_wp2
      go_ret
      exact badI (by have := HC.out; simpa using this) (bthen HBW.out nq.b)
    · have td1 : decide (er < 0) = false := by simpa using hq
      have td2 : decide (999 < er) = true := by simpa [td1] using hd
      clear ha hb hc hd he hg hi hni hnt hnb hq
      refine wp_region_low_plain (W := W) (Below.refl _ _) ?_
      repeat (first | go_big_quiet_step ((first
          | (go_at_call 67; first | exact low_tells (rin_yes (HQI.out _) HF.out) | exact low_tells (rin_no (HQI.out _) HF.out))
          | (go_at_call 68; first | exact low_tells (rshort_yes (HQT.out _) HH8.out) | exact low_tells (rshort_no (HQT.out _) HH8.out)))) | quiet_step ((first
          | (go_at_call 67; first | exact low_tells (rin_yes (HQI.out _) HF.out) | exact low_tells (rin_no (HQI.out _) HF.out))
          | (go_at_call 68; first | exact low_tells (rshort_yes (HQT.out _) HH8.out) | exact low_tells (rshort_no (HQT.out _) HH8.out)))))
      refine wpQuiet_nil ?_
      intro _ hw'
      obtain ⟨nq, hw''⟩ := hw'
      subst hw''
      go_wp2
      go_ret
      exact badI (by have := HC.out; simpa using this) (bthen HBW.out nq.b)
  | false =>
  have td1 : decide (er < 0) = false := by simp only [Bool.or_eq_false_iff, decide_eq_false_iff_not] at hd ⊢; exact hd.1
  have td2 : decide (999 < er) = false := by simp only [Bool.or_eq_false_iff, decide_eq_false_iff_not] at hd ⊢; exact hd.2
  cases e with
  | true =>
    have te : decide ((64 : Int) < (ni : Int)) = true := by simp only [decide_eq_true_eq] at he ⊢; omega
    have te' : decide (64 < ni) = true := by simp only [decide_eq_true_eq] at he ⊢; omega
    clear ha hb hc hd he hg hi hni hnt hnb
    refine wp_region_low_plain (W := W) (Below.refl _ _) ?_
    repeat (first | go_big_quiet_step ((first
        | (go_at_call 67; first | exact low_tells (rin_yes (HQI.out _) HF.out) | exact low_tells (rin_no (HQI.out _) HF.out))
        | (go_at_call 68; first | exact low_tells (rshort_yes (HQT.out _) HH8.out) | exact low_tells (rshort_no (HQT.out _) HH8.out)))) | quiet_step ((first
        | (go_at_call 67; first | exact low_tells (rin_yes (HQI.out _) HF.out) | exact low_tells (rin_no (HQI.out _) HF.out))
        | (go_at_call 68; first | exact low_tells (rshort_yes (HQT.out _) HH8.out) | exact low_tells (rshort_no (HQT.out _) HH8.out)))))
    refine wpQuiet_nil ?_
    intro _ hw'
    obtain ⟨nq, hw''⟩ := hw'
    subst hw''
    go_wp2
    go_ret
    exact badI (by have := HC.out; simpa using this) (bthen HBW.out nq.b)
  | false =>
  have te : decide ((64 : Int) < (ni : Int)) = false := by simp only [decide_eq_false_iff_not] at he ⊢; omega
  have te' : decide (64 < ni) = false := by simp only [decide_eq_false_iff_not] at he ⊢; omega
  cases f with
  | true =>
    clear ha hb hc hd he hg hi hni hnt hnb
    refine wp_region_low_plain (W := W) (Below.refl _ _) ?_
    repeat (first | go_big_quiet_step ((first
        | (go_at_call 67; first | exact low_tells (rin_yes (HQI.out _) HF.out) | exact low_tells (rin_no (HQI.out _) HF.out))
        | (go_at_call 68; first | exact low_tells (rshort_yes (HQT.out _) HH8.out) | exact low_tells (rshort_no (HQT.out _) HH8.out)))) | quiet_step ((first
        | (go_at_call 67; first | exact low_tells (rin_yes (HQI.out _) HF.out) | exact low_tells (rin_no (HQI.out _) HF.out))
        | (go_at_call 68; first | exact low_tells (rshort_yes (HQT.out _) HH8.out) | exact low_tells (rshort_no (HQT.out _) HH8.out)))))
    refine wpQuiet_nil ?_
    intro _ hw'
    obtain ⟨nq, hw''⟩ := hw'
    subst hw''
    go_wp2
    go_ret
    exact badI (by have := HC.out; simpa using this) (bthen HBW.out nq.b)
  | false =>
  cases g with
  | true =>
    have tg : decide ((16 : Int) < (nt : Int)) = true := by simp only [decide_eq_true_eq] at hg ⊢; omega
    have tg' : decide (16 < nt) = true := by simp only [decide_eq_true_eq] at hg ⊢; omega
    clear ha hb hc hd he hg hi hni hnt hnb
    refine wp_region_low_plain (W := W) (Below.refl _ _) ?_
    repeat (first | go_big_quiet_step ((first
        | (go_at_call 67; first | exact low_tells (rin_yes (HQI.out _) HF.out) | exact low_tells (rin_no (HQI.out _) HF.out))
        | (go_at_call 68; first | exact low_tells (rshort_yes (HQT.out _) HH8.out) | exact low_tells (rshort_no (HQT.out _) HH8.out)))) | quiet_step ((first
        | (go_at_call 67; first | exact low_tells (rin_yes (HQI.out _) HF.out) | exact low_tells (rin_no (HQI.out _) HF.out))
        | (go_at_call 68; first | exact low_tells (rshort_yes (HQT.out _) HH8.out) | exact low_tells (rshort_no (HQT.out _) HH8.out)))))
    refine wpQuiet_nil ?_
    intro _ hw'
    obtain ⟨nq, hw''⟩ := hw'
    subst hw''
    go_wp2
    go_ret
    exact badI (by have := HC.out; simpa using this) (bthen HBW.out nq.b)
  | false =>
  have tg : decide ((16 : Int) < (nt : Int)) = false := by simp only [decide_eq_false_iff_not] at hg ⊢; omega
  have tg' : decide (16 < nt) = false := by simp only [decide_eq_false_iff_not] at hg ⊢; omega
  cases hh with
  | true =>
    clear ha hb hc hd he hg hi hni hnt hnb
    refine wp_region_low_plain (W := W) (Below.refl _ _) ?_
    repeat (first | go_big_quiet_step ((first
        | (go_at_call 67; first | exact low_tells (rin_yes (HQI.out _) HF.out) | exact low_tells (rin_no (HQI.out _) HF.out))
        | (go_at_call 68; first | exact low_tells (rshort_yes (HQT.out _) HH8.out) | exact low_tells (rshort_no (HQT.out _) HH8.out)))) | quiet_step ((first
        | (go_at_call 67; first | exact low_tells (rin_yes (HQI.out _) HF.out) | exact low_tells (rin_no (HQI.out _) HF.out))
        | (go_at_call 68; first | exact low_tells (rshort_yes (HQT.out _) HH8.out) | exact low_tells (rshort_no (HQT.out _) HH8.out)))))
    refine wpQuiet_nil ?_
    intro _ hw'
    obtain ⟨nq, hw''⟩ := hw'
    subst hw''
    go_wp2
    go_ret
    exact badI (by have := HC.out; simpa using this) (bthen HBW.out nq.b)
  | false =>
  cases i with
  | true =>
    have ti : decide ((4096 : Int) < (nb : Int)) = true := by simp only [decide_eq_true_eq] at hi ⊢; omega
    have ti' : decide (4096 < nb) = true := by simp only [decide_eq_true_eq] at hi ⊢; omega
    clear ha hb hc hd he hg hi hni hnt hnb
    refine wp_region_low_plain (W := W) (Below.refl _ _) ?_
    repeat (first | go_big_quiet_step ((first
        | (go_at_call 67; first | exact low_tells (rin_yes (HQI.out _) HF.out) | exact low_tells (rin_no (HQI.out _) HF.out))
        | (go_at_call 68; first | exact low_tells (rshort_yes (HQT.out _) HH8.out) | exact low_tells (rshort_no (HQT.out _) HH8.out)))) | quiet_step ((first
        | (go_at_call 67; first | exact low_tells (rin_yes (HQI.out _) HF.out) | exact low_tells (rin_no (HQI.out _) HF.out))
        | (go_at_call 68; first | exact low_tells (rshort_yes (HQT.out _) HH8.out) | exact low_tells (rshort_no (HQT.out _) HH8.out)))))
    refine wpQuiet_nil ?_
    intro _ hw'
    obtain ⟨nq, hw''⟩ := hw'
    subst hw''
    go_wp2
    go_ret
    exact badI (by have := HC.out; simpa using this) (bthen HBW.out nq.b)
  | false =>
  have ti : decide ((4096 : Int) < (nb : Int)) = false := by simp only [decide_eq_false_iff_not] at hi ⊢; omega
  have ti' : decide (4096 < nb) = false := by simp only [decide_eq_false_iff_not] at hi ⊢; omega
  clear ha hb hc hd he hg hi hni hnt hnb
  refine wp_region_low_plain (W := W) (Below.refl _ _) ?_
  repeat (first | go_big_quiet_step ((first
      | (go_at_call 67; first | exact low_tells (rin_yes (HQI.out _) HF.out) | exact low_tells (rin_no (HQI.out _) HF.out))
      | (go_at_call 68; first | exact low_tells (rshort_yes (HQT.out _) HH8.out) | exact low_tells (rshort_no (HQT.out _) HH8.out)))) | quiet_step ((first
      | (go_at_call 67; first | exact low_tells (rin_yes (HQI.out _) HF.out) | exact low_tells (rin_no (HQI.out _) HF.out))
      | (go_at_call 68; first | exact low_tells (rshort_yes (HQT.out _) HH8.out) | exact low_tells (rshort_no (HQT.out _) HH8.out)))))
  refine wpQuiet_nil ?_
  intro _ hw'
  obtain ⟨nq, hw''⟩ := hw'
  subst hw''
  go_wp2
  go_ret
  exact badI (by have := HC.out; simpa using this) (bthen HBW.out nq.b)
end Go.Proofs.YtlijagbklopipaaDoor
