/-
  The walk of RecSize.
-/
import Derived.Test.YteamnapboophiaaRecBack
namespace Go.Proofs.Yteamnapboophiaa
open Go.RowKit
set_option linter.unusedVariables false

set_option maxRecDepth 100000 in
set_option maxHeartbeats 2000000 in
theorem recSize_walk {w : World} (o : Int) (k v : ByteArray) (d : Bool) (s : Int) (ho : -9223372036854775808 ≤ o ∧ o ≤ 9223372036854775807) (hk : k.size ≤ 9223372036854775807) (hv : v.size ≤ 9223372036854775807) (hs : -9223372036854775808 ≤ s ∧ s ≤ 9223372036854775807) (base : Int) (hbase : -9223372036854775808 ≤ base ∧ base ≤ 9223372036854775807) (st : Int) (hst : -9223372036854775808 ≤ st ∧ st ≤ 9223372036854775807) :
    Calls Try.prog 10 #[.agg #[.int .i64 o, .string k, .string v, .bool d, .int .i64 s], .int .i64 base, .int .i64 st] w (Yes w) := by
  have HBX := Lib.hid (fun (w' : World) (h : Below (w.heap.size + 1) (w.alloc (.cells #[.int .i64 o, .string k, .string v, .bool d, .int .i64 s] 23)) w') => boxed5 w o k v d s h)
  have hsz0 : (w.alloc (.cells #[.int .i64 o, .string k, .string v, .bool d, .int .i64 s] 23)).heap.size = w.heap.size + 1 := by simp
  have b0 := bput (Below.refl _ w) (.cells #[.int .i64 o, .string k, .string v, .bool d, .int .i64 s] 23)
  have HLV := Lib.hid (live_ok (w.alloc (.cells #[.int .i64 o, .string k, .string v, .bool d, .int .i64 s] 23)))
  have HBB := Lib.hid (fun (w' : World) (hb : Below (w.alloc (.cells #[.int .i64 o, .string k, .string v, .bool d, .int .i64 s] 23)).heap.size (w.alloc (.cells #[.int .i64 o, .string k, .string v, .bool d, .int .i64 s] 23)) w') => (show Below (w.heap.size + 1) _ w' by rw [← hsz0]; exact hb))
  have HTH := Lib.hid (fun (w' : World) (hb : Below (w.alloc (.cells #[.int .i64 o, .string k, .string v, .bool d, .int .i64 s] 23)).heap.size (w.alloc (.cells #[.int .i64 o, .string k, .string v, .bool d, .int .i64 s] 23)) w') => bthen b0 hb)
  clear hsz0 b0
  cases hf : (decide (k.size ≤ 300) && decide (v.size ≤ 300)) with
  | false =>
    go_enter Try.func10, Try.ntmps10
    go_wp2_with fail
    refine HLV.out.mono ?_
    rintro e w1 ⟨rfl, b1⟩
    obtain ⟨q0, q1, q2, q3, q4⟩ := HBX.out _ (HBB.out _ b1)
    go_wp2_with fail
    refine (few_is o k v d s hk hv _ hf).mono ?_
    rintro e w2 ⟨rfl, hb2⟩
    have b2 := bthen b1 hb2
    go_wp2
    go_ret
    exact ⟨rfl, HTH.out _ b2⟩
  | true =>
  cases hc : chkN o k.size v.size d s with
  | false =>
    have e1 : errI false = 1 := rfl
    go_enter Try.func10, Try.ntmps10
    go_wp2_with fail
    refine HLV.out.mono ?_
    rintro e w1 ⟨rfl, b1⟩
    obtain ⟨q0, q1, q2, q3, q4⟩ := HBX.out _ (HBB.out _ b1)
    go_wp2_with fail
    refine (few_is o k v d s hk hv _ hf).mono ?_
    rintro e w2 ⟨rfl, hb2⟩
    have b2 := bthen b1 hb2
    obtain ⟨q0, q1, q2, q3, q4⟩ := HBX.out _ (HBB.out _ b2)
    go_wp2_with fail
    refine (check_is hk hv hc).mono ?_
    rintro e w4 ⟨rfl, hb4⟩
    have b4 := bthen b2 hb4
    go_wp2
    go_ret
    exact ⟨rfl, HTH.out _ b4⟩
  | true =>
  have e1 : errI true = 0 := rfl
  cases hm : mayN o k v d s base st with
  | false =>
    have hout : base < 0 ∨ (0 ≤ base ∧ st < 0) ∨ (0 ≤ base ∧ 0 ≤ st ∧ 1099511627776 < base) ∨ (0 ≤ base ∧ 0 ≤ st ∧ base ≤ 1099511627776 ∧ 1099511627776 < st) := by
      simp only [mayN, hc, Bool.true_and, Bool.and_eq_false_iff] at hm
      rcases hm with hm | hm
      · have := inR_false hm; omega
      · have := inR_false hm; omega
    have HT : (decide (base < 0) = true) ∨ (decide (base < 0) = false ∧ decide (st < 0) = true) ∨ (decide (base < 0) = false ∧ decide (st < 0) = false ∧ decide (1099511627776 < base) = true) ∨ (decide (base < 0) = false ∧ decide (st < 0) = false ∧ decide (1099511627776 < base) = false ∧ decide (1099511627776 < st) = true) := by
      simp only [decide_eq_true_eq, decide_eq_false_iff_not]
      omega
    clear hout
    rcases HT with t5 | ⟨t5, t6⟩ | ⟨t5, t6, t7⟩ | ⟨t5, t6, t7, t8⟩
    all_goals
      go_enter Try.func10, Try.ntmps10
      go_wp2_with fail
      refine HLV.out.mono ?_
      rintro e w1 ⟨rfl, b1⟩
      obtain ⟨q0, q1, q2, q3, q4⟩ := HBX.out _ (HBB.out _ b1)
      go_wp2_with fail
      refine (few_is o k v d s hk hv _ hf).mono ?_
      rintro e w2 ⟨rfl, hb2⟩
      have b2 := bthen b1 hb2
      obtain ⟨q0, q1, q2, q3, q4⟩ := HBX.out _ (HBB.out _ b2)
      go_wp2_with fail
      refine (check_is hk hv hc).mono ?_
      rintro e w4 ⟨rfl, hb4⟩
      have b4 := bthen b2 hb4
      go_wp2
      go_ret
      exact ⟨rfl, HTH.out _ b4⟩
  | true =>
    have hm' : mayP (rcS o k v d s) base st = true := (may_rcS o k v d s base st).trans hm
    have hsz := putR_size (rcS o k v d s) base st hm'
    obtain ⟨hmb, hb1, hb2⟩ := bare_size (rcS o k v d s) base st hm'
    obtain ⟨_, _, _, _, _, hba, hst', hk64, hv64⟩ := mayP_parts hm'
    have hmb' : mayN o { data := #[] } { data := #[] } false s base st = true := hmb
    have hkl : (rcS o k v d s).key.length = k.size := size_toList k
    have hvl : (rcS o k v d s).val.length = v.size := size_toList v
    rw [hkl, hvl] at hsz hb1 hb2
    rw [hkl] at hk64
    rw [hvl] at hv64
    obtain ⟨S, hS⟩ : ∃ S, S = (putR (rcS o k v d s) base st).length := ⟨_, rfl⟩
    obtain ⟨S', hS'⟩ : ∃ S', S' = (putR ⟨(rcS o k v d s).off, [], [], false, (rcS o k v d s).stamp⟩ base st).length := ⟨_, rfl⟩
    rw [← hS] at hsz hb1 hb2
    rw [← hS'] at hb1 hb2
    have HP1 : Hid (∀ w1, Calls Try.prog 18 #[.agg #[.int .i64 o, .string k, .string v, .bool d, .int .i64 s], .int .i64 base, .int .i64 st] w1 (SaysI w1 (S : Int))) := Lib.hid fun w1 => size_is hk hv (by rw [hm, hS]; rfl)
    have HP2 : Hid (∀ w1, Calls Try.prog 18 #[.agg #[.int .i64 o, .string { data := #[] }, .string { data := #[] }, .bool false, .int .i64 s], .int .i64 base, .int .i64 st] w1 (SaysI w1 (S' : Int))) := Lib.hid fun w1 => size_is (by decide) (by decide) (by rw [hmb', hS']; rfl)
    have t1 : decide ((5 : Int) ≤ (S : Int)) = true := by simp only [decide_eq_true_eq]; omega
    have t2 : decide ((S : Int) ≤ 145) = true := by simp only [decide_eq_true_eq]; omega
    have t3 : decide ((k.size : Int) + (v.size : Int) + 5 ≤ (S : Int)) = true := by simp only [decide_eq_true_eq]; omega
    have t4 : decide ((S : Int) ≤ (k.size : Int) + (v.size : Int) + 17) = true := by simp only [decide_eq_true_eq]; omega
    have t5 : decide ((k.size : Int) + (v.size : Int) ≤ (S : Int) - (S' : Int)) = true := by simp only [decide_eq_true_eq]; omega
    have t6 : decide ((S : Int) - (S' : Int) ≤ (k.size : Int) + (v.size : Int) + 2) = true := by simp only [decide_eq_true_eq]; omega
    have t7 : decide (base < 0) = false := by simp only [decide_eq_false_iff_not]; omega
    have t8 : decide (st < 0) = false := by simp only [decide_eq_false_iff_not]; omega
    have t9 : decide (1099511627776 < base) = false := by simp only [decide_eq_false_iff_not]; omega
    have ta : decide (1099511627776 < st) = false := by simp only [decide_eq_false_iff_not]; omega
    have hS145 : S ≤ 145 := by omega
    have hS145' : S' ≤ 145 := by omega
    clear hsz hb1 hb2 hm' hmb hmb' hm hkl hvl hS hS' hba hst'
    go_enter Try.func10, Try.ntmps10
    go_wp2_with fail
    refine HLV.out.mono ?_
    rintro e w1 ⟨rfl, b1⟩
    obtain ⟨q0, q1, q2, q3, q4⟩ := HBX.out _ (HBB.out _ b1)
    go_wp2_with fail
    refine (few_is o k v d s hk hv _ hf).mono ?_
    rintro e w2 ⟨rfl, hb2⟩
    have b2 := bthen b1 hb2
    obtain ⟨q0, q1, q2, q3, q4⟩ := HBX.out _ (HBB.out _ b2)
    go_wp2_with fail
    refine (check_is hk hv hc).mono ?_
    rintro e w4 ⟨rfl, hb4⟩
    have b4 := bthen b2 hb4
    obtain ⟨q0, q1, q2, q3, q4⟩ := HBX.out _ (HBB.out _ b4)
    go_wp2_with fail
    refine (HP1.out _).mono ?_
    rintro e w5 ⟨rfl, hb5⟩
    have b5 := bthen b4 hb5
    obtain ⟨q0, q1, q2, q3, q4⟩ := HBX.out _ (HBB.out _ b5)
    go_wp2_with fail
    refine (HP2.out _).mono ?_
    rintro e w6 ⟨rfl, hb6⟩
    have b6 := bthen b5 hb6
    go_wp2
    go_ret
    exact ⟨rfl, HTH.out _ b6⟩
end Go.Proofs.Yteamnapboophiaa
