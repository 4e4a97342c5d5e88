/-
  The walk of RecBack.
-/
import Derived.Test.YteamnapboophiaaRecM
namespace Go.Proofs.Yteamnapboophiaa
open Go.RowKit
set_option linter.unusedVariables false

/-- A record of strings as plain data. -/
def rcS (o : Int) (k v : ByteArray) (d : Bool) (s : Int) : Rc := ⟨o, k.data.toList, v.data.toList, d, s⟩
theorem size_toList (k : ByteArray) : k.data.toList.length = k.size := by rw [Array.length_toList]; rfl
theorem may_rcS (o : Int) (k v : ByteArray) (d : Bool) (s base st : Int) : mayP (rcS o k v d s) base st = mayN o k v d s base st := by
  simp only [mayP, mayN, rcS, chk, size_toList]
theorem put_rcS (o : Int) (k v : ByteArray) (d : Bool) (s base st : Int) : putR (rcS o k v d s) base st = putB o k v d s base st := rfl

set_option maxRecDepth 100000 in
set_option maxHeartbeats 2000000 in
theorem recBack_walk {w : World} (o : Int) (k v : ByteArray) (d : Bool) (s : Int) (ho : -9223372036854775808 ≤ o ∧ o ≤ 9223372036854775807) (hk : k.size ≤ 9223372036854775807) (hv : v.size ≤ 9223372036854775807) (hs : -9223372036854775808 ≤ s ∧ s ≤ 9223372036854775807)
    (base : Int) (hb : -9223372036854775808 ≤ base ∧ base ≤ 9223372036854775807) (st : Int) (hst : -9223372036854775808 ≤ st ∧ st ≤ 9223372036854775807)
    {A : Option Addr} {n c : Nat} {l : List UInt8} (h : Rd w w.heap.size A n c l) {A' : Option Addr} {n' c' : Nat} {l' : List UInt8} (h' : Rd w w.heap.size A' n' c' l') :
    Calls Try.prog 5 #[.agg #[.int .i64 o, .string k, .string v, .bool d, .int .i64 s], .int .i64 base, .int .i64 st, .slice A n c, .slice A' n' c'] w (Yes w) := by
  have htop := h.top
  have hcap := h.cap
  have htop' := h'.top
  have hcap' := h'.cap
  have hlen := h.len
  have hlen' := h'.len
  have HBX := Lib.hid (fun (w' : World) (h : Below (w.heap.size + 1) (w.alloc (.cells #[.int .i64 o, .string k, .string v, .bool d, .int .i64 s] 23)) w') => boxed5 w o k v d s h)
  have hsz0 : (w.alloc (.cells #[.int .i64 o, .string k, .string v, .bool d, .int .i64 s] 23)).heap.size = w.heap.size + 1 := by simp
  have b0 := bput (Below.refl _ w) (.cells #[.int .i64 o, .string k, .string v, .bool d, .int .i64 s] 23)
  have HLV := Lib.hid (live_ok (w.alloc (.cells #[.int .i64 o, .string k, .string v, .bool d, .int .i64 s] 23)))
  have HBB := Lib.hid (fun (w' : World) (hb : Below (w.alloc (.cells #[.int .i64 o, .string k, .string v, .bool d, .int .i64 s] 23)).heap.size (w.alloc (.cells #[.int .i64 o, .string k, .string v, .bool d, .int .i64 s] 23)) w') => (show Below (w.heap.size + 1) _ w' by rw [← hsz0]; exact hb))
  have HTH := Lib.hid (fun (w' : World) (hb : Below (w.alloc (.cells #[.int .i64 o, .string k, .string v, .bool d, .int .i64 s] 23)).heap.size (w.alloc (.cells #[.int .i64 o, .string k, .string v, .bool d, .int .i64 s] 23)) w') => bthen b0 hb)
  clear hsz0 b0
  cases hf : (decide (k.size ≤ 300) && decide (v.size ≤ 300)) with
  | false =>
    go_enter Try.func5, Try.ntmps5
    go_wp2_with fail
    refine HLV.out.mono ?_
    rintro e w1 ⟨rfl, b1⟩
    obtain ⟨q0, q1, q2, q3, q4⟩ := HBX.out _ (HBB.out _ b1)
    go_wp2_with fail
    refine (few_is o k v d s hk hv _ hf).mono ?_
    rintro e w2 ⟨rfl, hb2⟩
    have b2 := bthen b1 hb2
    go_wp2
    go_ret
    exact ⟨rfl, HTH.out _ b2⟩
  | true =>
  by_cases p1 : 200 < n
  · have t1 : decide ((200 : Int) < (n : Int)) = true := by simp only [decide_eq_true_eq]; omega
    go_enter Try.func5, Try.ntmps5
    go_wp2_with fail
    refine HLV.out.mono ?_
    rintro e w1 ⟨rfl, b1⟩
    obtain ⟨q0, q1, q2, q3, q4⟩ := HBX.out _ (HBB.out _ b1)
    go_wp2_with fail
    refine (few_is o k v d s hk hv _ hf).mono ?_
    rintro e w2 ⟨rfl, hb2⟩
    have b2 := bthen b1 hb2
    go_wp2
    go_ret
    exact ⟨rfl, HTH.out _ b2⟩
  have t1 : decide ((200 : Int) < (n : Int)) = false := by simp only [decide_eq_false_iff_not]; omega
  by_cases p2 : 200 < n'
  · have t2 : decide ((200 : Int) < (n' : Int)) = true := by simp only [decide_eq_true_eq]; omega
    go_enter Try.func5, Try.ntmps5
    go_wp2_with fail
    refine HLV.out.mono ?_
    rintro e w1 ⟨rfl, b1⟩
    obtain ⟨q0, q1, q2, q3, q4⟩ := HBX.out _ (HBB.out _ b1)
    go_wp2_with fail
    refine (few_is o k v d s hk hv _ hf).mono ?_
    rintro e w2 ⟨rfl, hb2⟩
    have b2 := bthen b1 hb2
    go_wp2
    go_ret
    exact ⟨rfl, HTH.out _ b2⟩
  have t2 : decide ((200 : Int) < (n' : Int)) = false := by simp only [decide_eq_false_iff_not]; omega
  cases hm : mayN o k v d s base st with
  | false =>
    have HP : Hid (∀ w1, Calls Try.prog 14 #[.agg #[.int .i64 o, .string k, .string v, .bool d, .int .i64 s], .int .i64 base, .int .i64 st] w1 (Both w1 [] 1)) := Lib.hid fun w1 => put_is hk hv (by rw [hm]; rfl) (by rw [hm]; rfl)
    cases hc : chkN o k.size v.size d s with
    | false =>
      have e1 : errI false = 1 := rfl
      go_enter Try.func5, Try.ntmps5
      go_wp2_with fail
      refine HLV.out.mono ?_
      rintro e w1 ⟨rfl, b1⟩
      obtain ⟨q0, q1, q2, q3, q4⟩ := HBX.out _ (HBB.out _ b1)
      go_wp2_with fail
      refine (few_is o k v d s hk hv _ hf).mono ?_
      rintro e w2 ⟨rfl, hb2⟩
      have b2 := bthen b1 hb2
      obtain ⟨q0, q1, q2, q3, q4⟩ := HBX.out _ (HBB.out _ b2)
      go_wp2_with fail
      refine (HP.out _).mono ?_
      rintro e w3 ⟨A3, n3, c3, rfl, ho3, hb3⟩
      obtain rfl : n3 = 0 := ho3.len.symm
      have b3 := bthen b2 hb3
      obtain ⟨q0, q1, q2, q3, q4⟩ := HBX.out _ (HBB.out _ b3)
      go_wp2_with fail
      refine (check_is hk hv hc).mono ?_
      rintro e w4 ⟨rfl, hb4⟩
      have b4 := bthen b3 hb4
      go_wp2
      go_ret
      exact ⟨rfl, HTH.out _ b4⟩
    | true =>
      have hout : base < 0 ∨ (0 ≤ base ∧ st < 0) ∨ (0 ≤ base ∧ 0 ≤ st ∧ 1099511627776 < base) ∨ (0 ≤ base ∧ 0 ≤ st ∧ base ≤ 1099511627776 ∧ 1099511627776 < st) := by
        simp only [mayN, hc, Bool.true_and, Bool.and_eq_false_iff] at hm
        rcases hm with hm | hm
        · have := inR_false hm; omega
        · have := inR_false hm; omega
      have HT : (decide (base < 0) = true) ∨ (decide (base < 0) = false ∧ decide (st < 0) = true) ∨ (decide (base < 0) = false ∧ decide (st < 0) = false ∧ decide (1099511627776 < base) = true) ∨ (decide (base < 0) = false ∧ decide (st < 0) = false ∧ decide (1099511627776 < base) = false ∧ decide (1099511627776 < st) = true) := by
        simp only [decide_eq_true_eq, decide_eq_false_iff_not]
        omega
      clear hout
      have e1 : errI true = 0 := rfl
      rcases HT with t5 | ⟨t5, t6⟩ | ⟨t5, t6, t7⟩ | ⟨t5, t6, t7, t8⟩
      all_goals
        go_enter Try.func5, Try.ntmps5
        go_wp2_with fail
        refine HLV.out.mono ?_
        rintro e w1 ⟨rfl, b1⟩
        obtain ⟨q0, q1, q2, q3, q4⟩ := HBX.out _ (HBB.out _ b1)
        go_wp2_with fail
        refine (few_is o k v d s hk hv _ hf).mono ?_
        rintro e w2 ⟨rfl, hb2⟩
        have b2 := bthen b1 hb2
        obtain ⟨q0, q1, q2, q3, q4⟩ := HBX.out _ (HBB.out _ b2)
        go_wp2_with fail
        refine (HP.out _).mono ?_
        rintro e w3 ⟨A3, n3, c3, rfl, ho3, hb3⟩
        obtain rfl : n3 = 0 := ho3.len.symm
        have b3 := bthen b2 hb3
        obtain ⟨q0, q1, q2, q3, q4⟩ := HBX.out _ (HBB.out _ b3)
        go_wp2_with fail
        refine (check_is hk hv hc).mono ?_
        rintro e w4 ⟨rfl, hb4⟩
        have b4 := bthen b3 hb4
        go_wp2
        go_ret
        exact ⟨rfl, HTH.out _ b4⟩
  | true =>
    have hm' : mayP (rcS o k v d s) base st = true := (may_rcS o k v d s base st).trans hm
    have HP : Hid (∀ w1, Calls Try.prog 14 #[.agg #[.int .i64 o, .string k, .string v, .bool d, .int .i64 s], .int .i64 base, .int .i64 st] w1 (Both w1 (putB o k v d s base st) 0)) := Lib.hid fun w1 => put_is hk hv (by rw [hm]; rfl) (by rw [hm]; rfl)
    have hg := getR_put l l' (rcS o k v d s) base st hm'
    have hsz := putR_size (rcS o k v d s) base st hm'
    obtain ⟨_, _, _, _, _, _, _, hk64, hv64⟩ := mayP_parts hm'
    rw [put_rcS] at hg hsz
    rw [hlen] at hg
    have hpl : (putB o k v d s base st).length ≤ 200 := by omega
    generalize putB o k v d s base st = P at *
    have HG : Hid (∀ (w1 : World) (A1 : Option Addr) (n1 c1 : Nat), Rd w1 w1.heap.size A1 n1 c1 (l ++ (P ++ l')) → Calls Try.prog 20 #[.slice A1 n1 c1, .int .i64 (n : Int), .int .i64 base, .int .i64 st] w1 (Got w1 o k v d s ((n : Int) + (P.length : Int)) 0)) := Lib.hid fun w1 A1 n1 c1 h1 => get_is h1 hg (strOf_self k) (strOf_self v)
    clear hg hsz hk64 hv64 hm' hm
    go_enter Try.func5, Try.ntmps5
    go_wp2_with fail
    refine HLV.out.mono ?_
    rintro e w1 ⟨rfl, b1⟩
    obtain ⟨q0, q1, q2, q3, q4⟩ := HBX.out _ (HBB.out _ b1)
    go_wp2_with fail
    refine (few_is o k v d s hk hv _ hf).mono ?_
    rintro e w2 ⟨rfl, hb2⟩
    have b2 := bthen b1 hb2
    obtain ⟨q0, q1, q2, q3, q4⟩ := HBX.out _ (HBB.out _ b2)
    go_wp2_with fail
    refine (HP.out _).mono ?_
    rintro e w3 ⟨A3, n3, c3, rfl, ho3, hb3⟩
    have b3 := bthen b2 hb3
    have B3 := HTH.out _ b3
    have l3 := ho3.len
    subst l3
    have hm3 := Ob.made (e := 5) w3 (Nat.le_refl _)
    have r3 := (h.below B3).alloc B3.size (.cells #[] 5)
    go_wp2_with (at_builtin; refine wpList_app rfl (.tmp 69) (.tmp 70) rfl Try.underlying26 byteInfo rfl hm3 rfl r3 ?_ ?_ ?_)
    · omega
    · simp
    · intro A4 c4 w4 ho4 hb4
      have z4 : Below w3.heap.size w3 w4 := (bput (Below.refl _ w3) _).trans hb4
      have o4 : Own w4 w3.heap.size A4 n c4 l := by simpa using ho4
      have p4 := (ho3.step z4).rd
      clear ho4
      go_wp2_with (at_builtin; refine wpList_app rfl (.tmp 72) (.tmp 73) rfl Try.underlying26 byteInfo rfl o4 rfl p4 ?_ ?_ ?_)
      · omega
      · exact z4.size
      · intro A5 c5 w5 ho5 hb5
        have z5 := z4.trans hb5
        have r5 := h'.below (B3.trans (z5.mono B3.size))
        go_wp2_with (at_builtin; refine wpList_app rfl (.tmp 75) (.tmp 76) rfl Try.underlying26 byteInfo rfl ho5 rfl r5 ?_ ?_ ?_)
        · omega
        · exact z5.size
        · intro A6 c6 w6 ho6 hb6
          have z6 := z5.trans hb6
          have r6 := ho6.rd
          have HG6 := Lib.hid (HG.out _ _ _ _ r6)
          go_wp2_with fail
          refine HG6.out.mono ?_
          rintro e w7 ⟨rfl, hb7⟩
          have z7 := z6.trans (hb7.mono z6.size)
          have z8 := bput z7 (.cells #[.int .i64 o, .string k, .string v, .bool d, .int .i64 s] 23)
          clear q0 q1 q2 q3 q4
          obtain ⟨q0, q1, q2, q3, q4⟩ := HBX.out _ (HBB.out _ (bthen b3 z8))
          go_wp2
          go_ret
          exact ⟨rfl, HTH.out _ (bthen b3 z8)⟩
end Go.Proofs.Yteamnapboophiaa
