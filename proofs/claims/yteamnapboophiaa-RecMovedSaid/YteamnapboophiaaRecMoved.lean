/-
  The walk of RecMoved.
-/
import Derived.Test.YteamnapboophiaaRecRow
namespace Go.Proofs.Yteamnapboophiaa
open Go.RowKit
set_option linter.unusedVariables false

set_option maxRecDepth 100000 in
set_option maxHeartbeats 8000000 in
theorem recMoved_walk {w : World} (o : Int) (k v : ByteArray) (d : Bool) (s : Int) (ho : -9223372036854775808 ≤ o ∧ o ≤ 9223372036854775807) (hk : k.size ≤ 9223372036854775807) (hv : v.size ≤ 9223372036854775807) (hs : -9223372036854775808 ≤ s ∧ s ≤ 9223372036854775807) (base : Int) (hbase : -9223372036854775808 ≤ base ∧ base ≤ 9223372036854775807) (st : Int) (hst : -9223372036854775808 ≤ st ∧ st ≤ 9223372036854775807) (by_ : Int) (hby_ : -9223372036854775808 ≤ by_ ∧ by_ ≤ 9223372036854775807) (lat : Int) (hlat : -9223372036854775808 ≤ lat ∧ lat ≤ 9223372036854775807) :
    Calls Try.prog 8 #[.agg #[.int .i64 o, .string k, .string v, .bool d, .int .i64 s], .int .i64 base, .int .i64 st, .int .i64 by_, .int .i64 lat] w (Yes w) := by
  have HBX := Lib.hid (fun (w' : World) (h : Below (w.heap.size + 1) (w.alloc (.cells #[.int .i64 o, .string k, .string v, .bool d, .int .i64 s] 23)) w') => boxed5 w o k v d s h)
  have hsz0 : (w.alloc (.cells #[.int .i64 o, .string k, .string v, .bool d, .int .i64 s] 23)).heap.size = w.heap.size + 1 := by simp
  have b0 := bput (Below.refl _ w) (.cells #[.int .i64 o, .string k, .string v, .bool d, .int .i64 s] 23)
  have HLV := Lib.hid (live_ok (w.alloc (.cells #[.int .i64 o, .string k, .string v, .bool d, .int .i64 s] 23)))
  have HBB := Lib.hid (fun (w' : World) (hb : Below (w.alloc (.cells #[.int .i64 o, .string k, .string v, .bool d, .int .i64 s] 23)).heap.size (w.alloc (.cells #[.int .i64 o, .string k, .string v, .bool d, .int .i64 s] 23)) w') => (show Below (w.heap.size + 1) _ w' by rw [← hsz0]; exact hb))
  have HTH := Lib.hid (fun (w' : World) (hb : Below (w.alloc (.cells #[.int .i64 o, .string k, .string v, .bool d, .int .i64 s] 23)).heap.size (w.alloc (.cells #[.int .i64 o, .string k, .string v, .bool d, .int .i64 s] 23)) w') => bthen b0 hb)
  clear hsz0 b0
  cases hf : (decide (k.size ≤ 300) && decide (v.size ≤ 300)) with
  | false =>
    go_enter Try.func8, Try.ntmps8
    go_wp2_with fail
    refine HLV.out.mono ?_
    rintro e w1 ⟨rfl, b1⟩
    obtain ⟨q0, q1, q2, q3, q4⟩ := HBX.out _ (HBB.out _ b1)
    go_wp2_with fail
    refine (few_is o k v d s hk hv _ hf).mono ?_
    rintro e w2 ⟨rfl, hb2⟩
    have b2 := bthen b1 hb2
    go_wp2
    go_ret
    exact ⟨rfl, HTH.out _ b2⟩
  | true =>
  by_cases hb0 : by_ < 0
  · have thb0 : decide (by_ < 0) = true := by simpa using hb0
    go_enter Try.func8, Try.ntmps8
    go_wp2_with fail
    refine HLV.out.mono ?_
    rintro e w1 ⟨rfl, b1⟩
    obtain ⟨q0, q1, q2, q3, q4⟩ := HBX.out _ (HBB.out _ b1)
    go_wp2_with fail
    refine (few_is o k v d s hk hv _ hf).mono ?_
    rintro e w2 ⟨rfl, hb2⟩
    have b2 := bthen b1 hb2
    go_wp2
    go_ret
    exact ⟨rfl, HTH.out _ b2⟩
  have thb0 : decide (by_ < 0) = false := by simpa using hb0
  by_cases hl0 : lat < 0
  · have thl0 : decide (lat < 0) = true := by simpa using hl0
    go_enter Try.func8, Try.ntmps8
    go_wp2_with fail
    refine HLV.out.mono ?_
    rintro e w1 ⟨rfl, b1⟩
    obtain ⟨q0, q1, q2, q3, q4⟩ := HBX.out _ (HBB.out _ b1)
    go_wp2_with fail
    refine (few_is o k v d s hk hv _ hf).mono ?_
    rintro e w2 ⟨rfl, hb2⟩
    have b2 := bthen b1 hb2
    go_wp2
    go_ret
    exact ⟨rfl, HTH.out _ b2⟩
  have thl0 : decide (lat < 0) = false := by simpa using hl0
  by_cases hb1 : 1099511627776 < by_
  · have thb1 : decide (1099511627776 < by_) = true := by simpa using hb1
    go_enter Try.func8, Try.ntmps8
    go_wp2_with fail
    refine HLV.out.mono ?_
    rintro e w1 ⟨rfl, b1⟩
    obtain ⟨q0, q1, q2, q3, q4⟩ := HBX.out _ (HBB.out _ b1)
    go_wp2_with fail
    refine (few_is o k v d s hk hv _ hf).mono ?_
    rintro e w2 ⟨rfl, hb2⟩
    have b2 := bthen b1 hb2
    go_wp2
    go_ret
    exact ⟨rfl, HTH.out _ b2⟩
  have thb1 : decide (1099511627776 < by_) = false := by simpa using hb1
  by_cases hl1 : 1099511627776 < lat
  · have thl1 : decide (1099511627776 < lat) = true := by simpa using hl1
    go_enter Try.func8, Try.ntmps8
    go_wp2_with fail
    refine HLV.out.mono ?_
    rintro e w1 ⟨rfl, b1⟩
    obtain ⟨q0, q1, q2, q3, q4⟩ := HBX.out _ (HBB.out _ b1)
    go_wp2_with fail
    refine (few_is o k v d s hk hv _ hf).mono ?_
    rintro e w2 ⟨rfl, hb2⟩
    have b2 := bthen b1 hb2
    go_wp2
    go_ret
    exact ⟨rfl, HTH.out _ b2⟩
  have thl1 : decide (1099511627776 < lat) = false := by simpa using hl1
  cases hm : mayN o k v d s base st with
  | false =>
    have HP1 : Hid (∀ w1, Calls Try.prog 14 #[.agg #[.int .i64 o, .string k, .string v, .bool d, .int .i64 s], .int .i64 base, .int .i64 st] w1 (Both w1 [] 1)) := Lib.hid fun w1 => put_is hk hv (by rw [hm]; rfl) (by rw [hm]; rfl)
    go_enter Try.func8, Try.ntmps8
    go_wp2_with fail
    refine HLV.out.mono ?_
    rintro e w1 ⟨rfl, b1⟩
    obtain ⟨q0, q1, q2, q3, q4⟩ := HBX.out _ (HBB.out _ b1)
    go_wp2_with fail
    refine (few_is o k v d s hk hv _ hf).mono ?_
    rintro e w2 ⟨rfl, hb2⟩
    have b2 := bthen b1 hb2
    obtain ⟨q0, q1, q2, q3, q4⟩ := HBX.out _ (HBB.out _ b2)
    go_wp2_with fail
    refine (HP1.out _).mono ?_
    rintro e w3 ⟨A3, n3, c3, rfl, ho3, hb3⟩
    have b3 := bthen b2 hb3
    obtain ⟨q0, q1, q2, q3, q4⟩ := HBX.out _ (HBB.out _ b3)
    have hlt3 : w.heap.size < w3.heap.size := by have := b3.size; rw [World.size_alloc] at this; omega
    go_wp2
    go_ret
    exact ⟨rfl, HTH.out _ (bput b3 _)⟩
  | true =>
  have hm' : mayP (rcS o k v d s) base st = true := (may_rcS o k v d s base st).trans hm
  obtain ⟨_, m2, m3, m4, m5, m6, m7, m8, m9⟩ := mayP_parts hm'
  have m4' : 0 ≤ o ∧ o ≤ 1099511627776 := m4
  have m5' : 0 ≤ s ∧ s ≤ 1099511627776 := m5
  have hksz : k.size ≤ 64 := by have := size_toList k; have h : (rcS o k v d s).key.length = k.size := size_toList k; omega
  have hvsz : v.size ≤ 64 := by have h : (rcS o k v d s).val.length = v.size := size_toList v; omega
  have HP1 : Hid (∀ w1, Calls Try.prog 14 #[.agg #[.int .i64 o, .string k, .string v, .bool d, .int .i64 s], .int .i64 base, .int .i64 st] w1 (Both w1 (putB o k v d s base st) 0)) := Lib.hid fun w1 => put_is hk hv (by rw [hm]; rfl) (by rw [hm]; rfl)
  cases hcx : chkN (o + by_) k.size v.size d (s + lat) with
  | false =>
    have e1 : errI false = 1 := rfl
    clear m4 m5 hm' m8 m9
    go_enter Try.func8, Try.ntmps8
    go_wp2_with fail
    refine HLV.out.mono ?_
    rintro e w1 ⟨rfl, b1⟩
    obtain ⟨q0, q1, q2, q3, q4⟩ := HBX.out _ (HBB.out _ b1)
    go_wp2_with fail
    refine (few_is o k v d s hk hv _ hf).mono ?_
    rintro e w2 ⟨rfl, hb2⟩
    have b2 := bthen b1 hb2
    obtain ⟨q0, q1, q2, q3, q4⟩ := HBX.out _ (HBB.out _ b2)
    go_wp2_with fail
    refine (HP1.out _).mono ?_
    rintro e w3 ⟨A3, n3, c3, rfl, ho3, hb3⟩
    have b3 := bthen b2 hb3
    obtain ⟨q0, q1, q2, q3, q4⟩ := HBX.out _ (HBB.out _ b3)
    have hlt3 : w.heap.size < w3.heap.size := by have := b3.size; rw [World.size_alloc] at this; omega
    obtain ⟨q0, q1, q2, q3, q4⟩ := HBX.out _ (HBB.out _ b3)
    go_wp2_with fail
    refine (check_is hk hv hcx).mono ?_
    rintro e w4 ⟨rfl, hb4⟩
    have b4 := bthen (bput b3 (.cells #[.int .i64 (o + by_), .string k, .string v, .bool d, .int .i64 (s + lat)] 23)) hb4
    go_wp2
    go_ret
    exact ⟨rfl, HTH.out _ b4⟩
  | true =>
  have e1 : errI true = 0 := rfl
  by_cases hbb : 1099511627776 < base + by_
  · have tbb : decide (1099511627776 < base + by_) = true := by simpa using hbb
    clear m4 m5 hm' m8 m9
    go_enter Try.func8, Try.ntmps8
    go_wp2_with fail
    refine HLV.out.mono ?_
    rintro e w1 ⟨rfl, b1⟩
    obtain ⟨q0, q1, q2, q3, q4⟩ := HBX.out _ (HBB.out _ b1)
    go_wp2_with fail
    refine (few_is o k v d s hk hv _ hf).mono ?_
    rintro e w2 ⟨rfl, hb2⟩
    have b2 := bthen b1 hb2
    obtain ⟨q0, q1, q2, q3, q4⟩ := HBX.out _ (HBB.out _ b2)
    go_wp2_with fail
    refine (HP1.out _).mono ?_
    rintro e w3 ⟨A3, n3, c3, rfl, ho3, hb3⟩
    have b3 := bthen b2 hb3
    obtain ⟨q0, q1, q2, q3, q4⟩ := HBX.out _ (HBB.out _ b3)
    have hlt3 : w.heap.size < w3.heap.size := by have := b3.size; rw [World.size_alloc] at this; omega
    obtain ⟨q0, q1, q2, q3, q4⟩ := HBX.out _ (HBB.out _ b3)
    go_wp2_with fail
    refine (check_is hk hv hcx).mono ?_
    rintro e w4 ⟨rfl, hb4⟩
    have b4 := bthen (bput b3 (.cells #[.int .i64 (o + by_), .string k, .string v, .bool d, .int .i64 (s + lat)] 23)) hb4
    go_wp2
    go_ret
    exact ⟨rfl, HTH.out _ b4⟩
  have tbb : decide (1099511627776 < base + by_) = false := by simpa using hbb
  by_cases hsb : 1099511627776 < st + lat
  · have tsb : decide (1099511627776 < st + lat) = true := by simpa using hsb
    clear m4 m5 hm' m8 m9
    go_enter Try.func8, Try.ntmps8
    go_wp2_with fail
    refine HLV.out.mono ?_
    rintro e w1 ⟨rfl, b1⟩
    obtain ⟨q0, q1, q2, q3, q4⟩ := HBX.out _ (HBB.out _ b1)
    go_wp2_with fail
    refine (few_is o k v d s hk hv _ hf).mono ?_
    rintro e w2 ⟨rfl, hb2⟩
    have b2 := bthen b1 hb2
    obtain ⟨q0, q1, q2, q3, q4⟩ := HBX.out _ (HBB.out _ b2)
    go_wp2_with fail
    refine (HP1.out _).mono ?_
    rintro e w3 ⟨A3, n3, c3, rfl, ho3, hb3⟩
    have b3 := bthen b2 hb3
    obtain ⟨q0, q1, q2, q3, q4⟩ := HBX.out _ (HBB.out _ b3)
    have hlt3 : w.heap.size < w3.heap.size := by have := b3.size; rw [World.size_alloc] at this; omega
    obtain ⟨q0, q1, q2, q3, q4⟩ := HBX.out _ (HBB.out _ b3)
    go_wp2_with fail
    refine (check_is hk hv hcx).mono ?_
    rintro e w4 ⟨rfl, hb4⟩
    have b4 := bthen (bput b3 (.cells #[.int .i64 (o + by_), .string k, .string v, .bool d, .int .i64 (s + lat)] 23)) hb4
    go_wp2
    go_ret
    exact ⟨rfl, HTH.out _ b4⟩
  have tsb : decide (1099511627776 < st + lat) = false := by simpa using hsb
  have hcc := hcx
  simp only [chkN, Bool.and_eq_true] at hcc
  have k1 := hcc.1.1.1.1
  have k2 := hcc.1.1.1.2
  have hmx : mayN (o + by_) k v d (s + lat) (base + by_) (st + lat) = true := by
    simp only [mayN, hcx, Bool.true_and, Bool.and_eq_true]
    exact ⟨(inR_iff _).2 (by omega), (inR_iff _).2 (by omega)⟩
  have hmy : mayN (o + by_) k v d s base st = true := by
    have h1 := hm
    simp only [mayN, chkN, Bool.and_eq_true] at h1 ⊢
    exact ⟨⟨⟨⟨⟨⟨k1, h1.1.1.1.1.1.2⟩, h1.1.1.1.1.2⟩, h1.1.1.1.2⟩, h1.1.1.2⟩, h1.1.2⟩, h1.2⟩
  have hsame : putB (o + by_) k v d (s + lat) (base + by_) (st + lat) = putB o k v d s base st := putR_moved o s by_ lat base st k.data.toList v.data.toList d
  have HP2 : Hid (∀ w1, Calls Try.prog 14 #[.agg #[.int .i64 (o + by_), .string k, .string v, .bool d, .int .i64 (s + lat)], .int .i64 (base + by_), .int .i64 (st + lat)] w1 (Both w1 (putB o k v d s base st) 0)) := Lib.hid fun w1 => put_is hk hv (by rw [hmx, ← hsame]; rfl) (by rw [hmx]; rfl)
  have HP3 : Hid (∀ w1, Calls Try.prog 14 #[.agg #[.int .i64 (o + by_), .string k, .string v, .bool d, .int .i64 s], .int .i64 base, .int .i64 st] w1 (Both w1 (putB (o + by_) k v d s base st) 0)) := Lib.hid fun w1 => put_is hk hv (by rw [hmy]; rfl) (by rw [hmy]; rfl)
  obtain ⟨sb, hsb2⟩ : ∃ sb, strOf (putB o k v d s base st) = sb := ⟨_, rfl⟩
  obtain ⟨sd, hsd2⟩ : ∃ sd, strOf (putB (o + by_) k v d s base st) = sd := ⟨_, rfl⟩
  have hkey : ((sb.toList == sd.toList) = true ∧ (by_ == 0) = true) ∨ ((sb.toList == sd.toList) = false ∧ (by_ == 0) = false) := by
    by_cases h0 : by_ = 0
    · left
      rw [← hsb2, ← hsd2, h0]
      simp
    · right
      refine ⟨?_, by simpa using h0⟩
      rw [beq_eq_false_iff_ne, ← hsb2, ← hsd2, strOf_toList, strOf_toList]
      intro he
      have := putR_apart hm' ((may_rcS (o + by_) k v d s base st).trans hmy) he
      simp only [rcS, Rc.mk.injEq] at this
      omega
  have HSB := Lib.hid hsb2
  have HSD := Lib.hid hsd2
  clear hsb2 hsd2 hmx hmy hsame k1 k2 hcc hm' m4 m5 m8 m9
  generalize putB o k v d s base st = P at *
  generalize putB (o + by_) k v d s base st = Q at *
  rcases hkey with ⟨j1, j2⟩ | ⟨j1, j2⟩
  all_goals
    go_enter Try.func8, Try.ntmps8
    go_wp2_with fail
    refine HLV.out.mono ?_
    rintro e w1 ⟨rfl, b1⟩
    obtain ⟨q0, q1, q2, q3, q4⟩ := HBX.out _ (HBB.out _ b1)
    go_wp2_with fail
    refine (few_is o k v d s hk hv _ hf).mono ?_
    rintro e w2 ⟨rfl, hb2⟩
    have b2 := bthen b1 hb2
    obtain ⟨q0, q1, q2, q3, q4⟩ := HBX.out _ (HBB.out _ b2)
    go_wp2_with fail
    refine (HP1.out _).mono ?_
    rintro e w3 ⟨A3, n3, c3, rfl, ho3, hb3⟩
    have b3 := bthen b2 hb3
    obtain ⟨q0, q1, q2, q3, q4⟩ := HBX.out _ (HBB.out _ b3)
    have hlt3 : w.heap.size < w3.heap.size := by have := b3.size; rw [World.size_alloc] at this; omega
    obtain ⟨q0, q1, q2, q3, q4⟩ := HBX.out _ (HBB.out _ b3)
    go_wp2_with fail
    refine (check_is hk hv hcx).mono ?_
    rintro e w4 ⟨rfl, hb4⟩
    have b4 := bthen (bput b3 (.cells #[.int .i64 (o + by_), .string k, .string v, .bool d, .int .i64 (s + lat)] 23)) hb4
    have y4 := bthen (bput (Below.refl _ w3) (.cells #[.int .i64 (o + by_), .string k, .string v, .bool d, .int .i64 (s + lat)] 23)) hb4
    have hlt4 : w.heap.size < w4.heap.size := by have := hb4.size; rw [World.size_alloc] at this; omega
    obtain ⟨u0, u1, u2, u3, u4⟩ := boxed5 w3 (o + by_) k v d (s + lat) (hb4.mono (by simp))
    go_wp2_with fail
    refine (HP2.out _).mono ?_
    rintro e w5 ⟨A5, n5, c5, rfl, ho5, hb5⟩
    have b5 := bthen b4 hb5
    have y5 := bthen y4 hb5
    have hlt5 : w.heap.size < w5.heap.size := by have := hb5.size; omega
    clear u0 u1 u2 u3 u4 q0 q1 q2 q3 q4
    obtain ⟨q0, q1, q2, q3, q4⟩ := HBX.out _ (HBB.out _ b5)
    go_wp2_with fail
    refine (HP3.out _).mono ?_
    rintro e w6 ⟨A6, n6, c6, rfl, ho6, hb6⟩
    have b6 := bthen (bput b5 (.cells #[.int .i64 (o + by_), .string k, .string v, .bool d, .int .i64 s] 23)) hb6
    have y6 := bthen (bput (Below.refl _ w5) (.cells #[.int .i64 (o + by_), .string k, .string v, .bool d, .int .i64 s] 23)) hb6
    have s1 := str_eq (ho3.step (bthen y5 y6)).rd HSB.out
    have s2 := str_eq (ho5.step y6).rd HSB.out
    have s3 := str_eq ho6.rd HSD.out
    go_wp2
    go_ret
    exact ⟨rfl, HTH.out _ b6⟩
end Go.Proofs.Yteamnapboophiaa
