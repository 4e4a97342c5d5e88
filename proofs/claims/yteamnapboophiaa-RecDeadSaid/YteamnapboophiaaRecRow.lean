/-
  The walk of RecRow.
-/
import Derived.Test.YteamnapboophiaaRecBack
namespace Go.Proofs.Yteamnapboophiaa
open Go.RowKit
set_option linter.unusedVariables false

theorem boxedAt {W w' : World} {b : Nat} {off : Int} {k v : ByteArray} {dead : Bool} {stamp : Int} (hb : W.heap[b]? = some (.cells #[.int .i64 off, .string k, .string v, .bool dead, .int .i64 stamp] 23 (0, 0))) (h : Below (b + 1) W w') : Boxed5 w' b off k v dead stamp := by
  have key : ∀ j, w'.cell? ⟨b, j, none⟩ = (#[Value.int .i64 off, .string k, .string v, .bool dead, .int .i64 stamp])[j]? := fun j => by
    rw [h.cell (p := ⟨b, j, none⟩) (Nat.lt_succ_self _), cell_of_row _ b j _ _ _ hb]
  exact ⟨key 0, key 1, key 2, key 3, key 4⟩
theorem getR_end (l : List UInt8) (base st : Int) (h2 : inR base = true) (h3 : inR st = true) : getR l (l.length : Int) base st = (zeroR, 0, 10) := by
  refine getR1 (d := 0) (i := 0) ?_ ?_ (by omega)
  · simp only [mayG, h2, h3, Bool.true_and, Bool.and_eq_true, decide_eq_true_eq]; omega
  · unfold getV
    rw [if_neg (by omega), Int.toNat_natCast, List.drop_length]
    rfl

set_option maxRecDepth 100000 in
set_option maxHeartbeats 8000000 in
theorem recRow_walk {w : World} (o : Int) (k v : ByteArray) (d : Bool) (s : Int) (ho : -9223372036854775808 ≤ o ∧ o ≤ 9223372036854775807) (hk : k.size ≤ 9223372036854775807) (hv : v.size ≤ 9223372036854775807) (hs : -9223372036854775808 ≤ s ∧ s ≤ 9223372036854775807) (o2 : Int) (k2 v2 : ByteArray) (d2 : Bool) (s2 : Int) (ho2 : -9223372036854775808 ≤ o2 ∧ o2 ≤ 9223372036854775807) (hk2 : k2.size ≤ 9223372036854775807) (hv2 : v2.size ≤ 9223372036854775807) (hs2 : -9223372036854775808 ≤ s2 ∧ s2 ≤ 9223372036854775807) (base : Int) (hbase : -9223372036854775808 ≤ base ∧ base ≤ 9223372036854775807) (st : Int) (hst : -9223372036854775808 ≤ st ∧ st ≤ 9223372036854775807) :
    Calls Try.prog 9 #[.agg #[.int .i64 o, .string k, .string v, .bool d, .int .i64 s], .agg #[.int .i64 o2, .string k2, .string v2, .bool d2, .int .i64 s2], .int .i64 base, .int .i64 st] w (Yes w) := by
  have hsz0 : (((w.alloc (.cells #[.int .i64 o, .string k, .string v, .bool d, .int .i64 s] 23)).alloc (.cells #[.int .i64 o2, .string k2, .string v2, .bool d2, .int .i64 s2] 23))).heap.size = w.heap.size + 1 + 1 := by simp
  have hx1 : (((w.alloc (.cells #[.int .i64 o, .string k, .string v, .bool d, .int .i64 s] 23)).alloc (.cells #[.int .i64 o2, .string k2, .string v2, .bool d2, .int .i64 s2] 23))).heap[w.heap.size]? = some (.cells #[.int .i64 o, .string k, .string v, .bool d, .int .i64 s] 23 (0, 0)) := (Below.heap_alloc _ _ _ (by simp)).trans (World.alloc_heap_new w _)
  have hx2 : (((w.alloc (.cells #[.int .i64 o, .string k, .string v, .bool d, .int .i64 s] 23)).alloc (.cells #[.int .i64 o2, .string k2, .string v2, .bool d2, .int .i64 s2] 23))).heap[w.heap.size + 1]? = some (.cells #[.int .i64 o2, .string k2, .string v2, .bool d2, .int .i64 s2] 23 (0, 0)) := by
    have := World.alloc_heap_new (w.alloc (.cells #[.int .i64 o, .string k, .string v, .bool d, .int .i64 s] 23)) (.cells #[.int .i64 o2, .string k2, .string v2, .bool d2, .int .i64 s2] 23)
    rwa [World.size_alloc] at this
  have b0 := bput (bput (Below.refl _ w) (.cells #[.int .i64 o, .string k, .string v, .bool d, .int .i64 s] 23)) (.cells #[.int .i64 o2, .string k2, .string v2, .bool d2, .int .i64 s2] 23)
  have HBX : Hid (∀ w', Below (((w.alloc (.cells #[.int .i64 o, .string k, .string v, .bool d, .int .i64 s] 23)).alloc (.cells #[.int .i64 o2, .string k2, .string v2, .bool d2, .int .i64 s2] 23))).heap.size ((w.alloc (.cells #[.int .i64 o, .string k, .string v, .bool d, .int .i64 s] 23)).alloc (.cells #[.int .i64 o2, .string k2, .string v2, .bool d2, .int .i64 s2] 23)) w' → Boxed5 w' w.heap.size o k v d s ∧ Boxed5 w' (w.heap.size + 1) o2 k2 v2 d2 s2 ∧ Below w.heap.size w w') := Lib.hid fun w' hb =>
    ⟨boxedAt hx1 (hb.mono (by rw [hsz0]; omega)), boxedAt hx2 (hb.mono (by rw [hsz0]; omega)), bthen b0 hb⟩
  have HLV := Lib.hid (live_ok ((w.alloc (.cells #[.int .i64 o, .string k, .string v, .bool d, .int .i64 s] 23)).alloc (.cells #[.int .i64 o2, .string k2, .string v2, .bool d2, .int .i64 s2] 23)))
  clear hsz0 b0 hx1 hx2
  cases hf : (decide (k.size ≤ 300) && decide (v.size ≤ 300)) with
  | false =>
    go_enter Try.func9, Try.ntmps9
    go_wp2_with fail
    refine HLV.out.mono ?_
    rintro e w1 ⟨rfl, b1⟩
    obtain ⟨⟨q0, q1, q2, q3, q4⟩, ⟨u0, u1, u2, u3, u4⟩, B1⟩ := HBX.out _ b1
    go_wp2_with fail
    refine (few_is o k v d s hk hv _ hf).mono ?_
    rintro e w2 ⟨rfl, hb2⟩
    have b2 := bthen b1 hb2
    obtain ⟨⟨q0, q1, q2, q3, q4⟩, ⟨u0, u1, u2, u3, u4⟩, B2⟩ := HBX.out _ b2
    go_wp2
    go_ret
    exact ⟨rfl, B2⟩
  | true =>
  cases hf2 : (decide (k2.size ≤ 300) && decide (v2.size ≤ 300)) with
  | false =>
    go_enter Try.func9, Try.ntmps9
    go_wp2_with fail
    refine HLV.out.mono ?_
    rintro e w1 ⟨rfl, b1⟩
    obtain ⟨⟨q0, q1, q2, q3, q4⟩, ⟨u0, u1, u2, u3, u4⟩, B1⟩ := HBX.out _ b1
    go_wp2_with fail
    refine (few_is o k v d s hk hv _ hf).mono ?_
    rintro e w2 ⟨rfl, hb2⟩
    have b2 := bthen b1 hb2
    obtain ⟨⟨q0, q1, q2, q3, q4⟩, ⟨u0, u1, u2, u3, u4⟩, B2⟩ := HBX.out _ b2
    go_wp2_with fail
    refine (few_is o2 k2 v2 d2 s2 hk2 hv2 _ hf2).mono ?_
    rintro e w3 ⟨rfl, hb3⟩
    have b3 := bthen b2 hb3
    obtain ⟨⟨q0, q1, q2, q3, q4⟩, ⟨u0, u1, u2, u3, u4⟩, B3⟩ := HBX.out _ b3
    go_wp2
    go_ret
    exact ⟨rfl, B3⟩
  | true =>
  cases hm : mayN o k v d s base st with
  | false =>
    obtain ⟨L2, hL2⟩ : ∃ L, (if mayN o2 k2 v2 d2 s2 base st then putB o2 k2 v2 d2 s2 base st else []) = L := ⟨_, rfl⟩
    obtain ⟨E2, hE2⟩ : ∃ E, errI (mayN o2 k2 v2 d2 s2 base st) = E := ⟨_, rfl⟩
    have HP1 : Hid (∀ w1, Calls Try.prog 14 #[.agg #[.int .i64 o, .string k, .string v, .bool d, .int .i64 s], .int .i64 base, .int .i64 st] w1 (Both w1 [] 1)) := Lib.hid fun w1 => put_is hk hv (by rw [hm]; rfl) (by rw [hm]; rfl)
    have HP2 : Hid (∀ w1, Calls Try.prog 14 #[.agg #[.int .i64 o2, .string k2, .string v2, .bool d2, .int .i64 s2], .int .i64 base, .int .i64 st] w1 (Both w1 L2 E2)) := Lib.hid fun w1 => put_is hk2 hv2 hL2 hE2
    clear hL2 hE2
    go_enter Try.func9, Try.ntmps9
    go_wp2_with fail
    refine HLV.out.mono ?_
    rintro e w1 ⟨rfl, b1⟩
    obtain ⟨⟨q0, q1, q2, q3, q4⟩, ⟨u0, u1, u2, u3, u4⟩, B1⟩ := HBX.out _ b1
    go_wp2_with fail
    refine (few_is o k v d s hk hv _ hf).mono ?_
    rintro e w2 ⟨rfl, hb2⟩
    have b2 := bthen b1 hb2
    obtain ⟨⟨q0, q1, q2, q3, q4⟩, ⟨u0, u1, u2, u3, u4⟩, B2⟩ := HBX.out _ b2
    go_wp2_with fail
    refine (few_is o2 k2 v2 d2 s2 hk2 hv2 _ hf2).mono ?_
    rintro e w3 ⟨rfl, hb3⟩
    have b3 := bthen b2 hb3
    obtain ⟨⟨q0, q1, q2, q3, q4⟩, ⟨u0, u1, u2, u3, u4⟩, B3⟩ := HBX.out _ b3
    go_wp2_with fail
    refine (HP1.out _).mono ?_
    rintro e w4 ⟨A4, n4, c4, rfl, ho4, hb4⟩
    have b4 := bthen b3 hb4
    obtain ⟨⟨q0, q1, q2, q3, q4⟩, ⟨u0, u1, u2, u3, u4⟩, B4⟩ := HBX.out _ b4
    go_wp2_with fail
    refine (HP2.out _).mono ?_
    rintro e w5 ⟨A5, n5, c5, rfl, ho5, hb5⟩
    have b5 := bthen b4 hb5
    obtain ⟨⟨q0, q1, q2, q3, q4⟩, ⟨u0, u1, u2, u3, u4⟩, B5⟩ := HBX.out _ b5
    go_wp2
    go_ret
    exact ⟨rfl, B5⟩
  | true =>
  have hm' : mayP (rcS o k v d s) base st = true := (may_rcS o k v d s base st).trans hm
  have HP1 : Hid (∀ w1, Calls Try.prog 14 #[.agg #[.int .i64 o, .string k, .string v, .bool d, .int .i64 s], .int .i64 base, .int .i64 st] w1 (Both w1 (putB o k v d s base st) 0)) := Lib.hid fun w1 => put_is hk hv (by rw [hm]; rfl) (by rw [hm]; rfl)
  cases hn : mayN o2 k2 v2 d2 s2 base st with
  | false =>
    have HP2 : Hid (∀ w1, Calls Try.prog 14 #[.agg #[.int .i64 o2, .string k2, .string v2, .bool d2, .int .i64 s2], .int .i64 base, .int .i64 st] w1 (Both w1 [] 1)) := Lib.hid fun w1 => put_is hk2 hv2 (by rw [hn]; rfl) (by rw [hn]; rfl)
    go_enter Try.func9, Try.ntmps9
    go_wp2_with fail
    refine HLV.out.mono ?_
    rintro e w1 ⟨rfl, b1⟩
    obtain ⟨⟨q0, q1, q2, q3, q4⟩, ⟨u0, u1, u2, u3, u4⟩, B1⟩ := HBX.out _ b1
    go_wp2_with fail
    refine (few_is o k v d s hk hv _ hf).mono ?_
    rintro e w2 ⟨rfl, hb2⟩
    have b2 := bthen b1 hb2
    obtain ⟨⟨q0, q1, q2, q3, q4⟩, ⟨u0, u1, u2, u3, u4⟩, B2⟩ := HBX.out _ b2
    go_wp2_with fail
    refine (few_is o2 k2 v2 d2 s2 hk2 hv2 _ hf2).mono ?_
    rintro e w3 ⟨rfl, hb3⟩
    have b3 := bthen b2 hb3
    obtain ⟨⟨q0, q1, q2, q3, q4⟩, ⟨u0, u1, u2, u3, u4⟩, B3⟩ := HBX.out _ b3
    go_wp2_with fail
    refine (HP1.out _).mono ?_
    rintro e w4 ⟨A4, n4, c4, rfl, ho4, hb4⟩
    have b4 := bthen b3 hb4
    obtain ⟨⟨q0, q1, q2, q3, q4⟩, ⟨u0, u1, u2, u3, u4⟩, B4⟩ := HBX.out _ b4
    go_wp2_with fail
    refine (HP2.out _).mono ?_
    rintro e w5 ⟨A5, n5, c5, rfl, ho5, hb5⟩
    have b5 := bthen b4 hb5
    obtain ⟨⟨q0, q1, q2, q3, q4⟩, ⟨u0, u1, u2, u3, u4⟩, B5⟩ := HBX.out _ b5
    go_wp2
    go_ret
    exact ⟨rfl, B5⟩
  | true =>
    have hn' : mayP (rcS o2 k2 v2 d2 s2) base st = true := (may_rcS o2 k2 v2 d2 s2 base st).trans hn
    have HP2 : Hid (∀ w1, Calls Try.prog 14 #[.agg #[.int .i64 o2, .string k2, .string v2, .bool d2, .int .i64 s2], .int .i64 base, .int .i64 st] w1 (Both w1 (putB o2 k2 v2 d2 s2 base st) 0)) := Lib.hid fun w1 => put_is hk2 hv2 (by rw [hn]; rfl) (by rw [hn]; rfl)
    have g1 := getR_put [] (putB o2 k2 v2 d2 s2 base st) (rcS o k v d s) base st hm'
    have g2 := getR_put (putB o k v d s base st) [] (rcS o2 k2 v2 d2 s2) base st hn'
    have g3 := getR_end (putB o k v d s base st ++ putB o2 k2 v2 d2 s2 base st) base st (mayP_parts hm').2.1 (mayP_parts hm').2.2.1
    have hz1 := putR_size (rcS o k v d s) base st hm'
    have hz2 := putR_size (rcS o2 k2 v2 d2 s2) base st hn'
    obtain ⟨_, _, _, _, _, _, _, hk64, hv64⟩ := mayP_parts hm'
    obtain ⟨_, _, _, _, _, _, _, hk642, hv642⟩ := mayP_parts hn'
    rw [put_rcS] at g1 g2 hz1 hz2
    simp only [List.nil_append, List.append_nil, List.length_nil, Int.natCast_zero, Int.zero_add] at g1 g2
    rw [List.length_append, Int.natCast_add] at g3
    have hp1 : (putB o k v d s base st).length ≤ 200 := by omega
    have hp2 : (putB o2 k2 v2 d2 s2 base st).length ≤ 200 := by omega
    generalize putB o k v d s base st = P at *
    generalize putB o2 k2 v2 d2 s2 base st = Q at *
    have HG1 : Hid (∀ (w1 : World) (A1 : Option Addr) (n1 c1 : Nat), Rd w1 w1.heap.size A1 n1 c1 (P ++ Q) → Calls Try.prog 20 #[.slice A1 n1 c1, .int .i64 0, .int .i64 base, .int .i64 st] w1 (Got w1 o k v d s (P.length : Int) 0)) := Lib.hid fun w1 A1 n1 c1 h1 => get_is h1 g1 (strOf_self k) (strOf_self v)
    have HG2 : Hid (∀ (w1 : World) (A1 : Option Addr) (n1 c1 : Nat), Rd w1 w1.heap.size A1 n1 c1 (P ++ Q) → Calls Try.prog 20 #[.slice A1 n1 c1, .int .i64 (P.length : Int), .int .i64 base, .int .i64 st] w1 (Got w1 o2 k2 v2 d2 s2 ((P.length : Int) + (Q.length : Int)) 0)) := Lib.hid fun w1 A1 n1 c1 h1 => get_is h1 g2 (strOf_self k2) (strOf_self v2)
    have HG3 : Hid (∀ (w1 : World) (A1 : Option Addr) (n1 c1 : Nat), Rd w1 w1.heap.size A1 n1 c1 (P ++ Q) → Calls Try.prog 20 #[.slice A1 n1 c1, .int .i64 ((P.length : Int) + (Q.length : Int)), .int .i64 base, .int .i64 st] w1 (Got w1 0 { data := #[] } { data := #[] } false 0 0 10)) := Lib.hid fun w1 A1 n1 c1 h1 => get_is h1 g3 rfl rfl
    clear g1 g2 g3 hz1 hz2 hk64 hv64 hk642 hv642 hm' hn' hm hn
    go_enter Try.func9, Try.ntmps9
    go_wp2_with fail
    refine HLV.out.mono ?_
    rintro e w1 ⟨rfl, b1⟩
    obtain ⟨⟨q0, q1, q2, q3, q4⟩, ⟨u0, u1, u2, u3, u4⟩, B1⟩ := HBX.out _ b1
    go_wp2_with fail
    refine (few_is o k v d s hk hv _ hf).mono ?_
    rintro e w2 ⟨rfl, hb2⟩
    have b2 := bthen b1 hb2
    obtain ⟨⟨q0, q1, q2, q3, q4⟩, ⟨u0, u1, u2, u3, u4⟩, B2⟩ := HBX.out _ b2
    go_wp2_with fail
    refine (few_is o2 k2 v2 d2 s2 hk2 hv2 _ hf2).mono ?_
    rintro e w3 ⟨rfl, hb3⟩
    have b3 := bthen b2 hb3
    obtain ⟨⟨q0, q1, q2, q3, q4⟩, ⟨u0, u1, u2, u3, u4⟩, B3⟩ := HBX.out _ b3
    go_wp2_with fail
    refine (HP1.out _).mono ?_
    rintro e w4 ⟨A4, n4, c4, rfl, ho4, hb4⟩
    have b4 := bthen b3 hb4
    obtain ⟨⟨q0, q1, q2, q3, q4⟩, ⟨u0, u1, u2, u3, u4⟩, B4⟩ := HBX.out _ b4
    go_wp2_with fail
    refine (HP2.out _).mono ?_
    rintro e w5 ⟨A5, n5, c5, rfl, ho5, hb5⟩
    have b5 := bthen b4 hb5
    obtain ⟨⟨q0, q1, q2, q3, q4⟩, ⟨u0, u1, u2, u3, u4⟩, B5⟩ := HBX.out _ b5
    have l4 := ho4.len
    have l5 := ho5.len
    subst l4
    subst l5
    have hm5 := Ob.made (e := 5) w5 (Nat.le_refl _)
    have r4 := ((ho4.step hb5).rd).alloc (Nat.le_refl _) (.cells #[] 5)
    have r5 := ho5.rd
    clear ho4 hb4
    go_wp2_with (at_builtin; refine wpList_app rfl (.tmp 55) (.tmp 56) rfl Try.underlying26 byteInfo rfl hm5 rfl r4 ?_ ?_ ?_)
    · omega
    · simp
    · intro A6 c6 w6 ho6 hb6
      have z6 : Below w5.heap.size w5 w6 := (bput (Below.refl _ w5) _).trans hb6
      have o6 : Own w6 w5.heap.size A6 P.length c6 P := by simpa using ho6
      have r5' := r5.below z6
      clear ho6 r5
      go_wp2_with (at_builtin; refine wpList_app rfl (.tmp 58) (.tmp 59) rfl Try.underlying26 byteInfo rfl o6 rfl r5' ?_ ?_ ?_)
      · omega
      · exact z6.size
      · intro A7 c7 w7 ho7 hb7
        have z7 := z6.trans hb7
        have b7 := bthen b5 z7
        have r7 := ho7.rd
        have x7 := HG1.out _ _ _ _ r7
        have X7 := Lib.hid x7
        clear q0 q1 q2 q3 q4 u0 u1 u2 u3 u4 x7 o6 r5' ho7
        go_wp2_with fail
        refine X7.out.mono ?_
        rintro e w8 ⟨rfl, hb8⟩
        have b8 := bput (bthen b7 hb8) (.cells #[.int .i64 o, .string k, .string v, .bool d, .int .i64 s] 23)
        have y8 := bput hb8 (.cells #[.int .i64 o, .string k, .string v, .bool d, .int .i64 s] 23)
        have X8 := Lib.hid (HG2.out _ _ _ _ ((r7.below y8).more y8.size))
        go_wp2_with fail
        refine X8.out.mono ?_
        rintro e w9 ⟨rfl, hb9⟩
        have b9 := bput (bthen b8 hb9) (.cells #[.int .i64 o2, .string k2, .string v2, .bool d2, .int .i64 s2] 23)
        have y9 := bput hb9 (.cells #[.int .i64 o2, .string k2, .string v2, .bool d2, .int .i64 s2] 23)
        have X9 := Lib.hid (HG3.out _ _ _ _ ((r7.below (bthen y8 y9)).more (Nat.le_trans y8.size y9.size)))
        go_wp2_with fail
        refine X9.out.mono ?_
        rintro e w10 ⟨rfl, hb10⟩
        have y10 := bput hb10 (.cells #[.int .i64 0, .string { data := #[] }, .string { data := #[] }, .bool false, .int .i64 0] 23)
        have b10 := bthen b9 y10
        obtain ⟨⟨q0, q1, q2, q3, q4⟩, ⟨u0, u1, u2, u3, u4⟩, B10⟩ := HBX.out _ b10
        obtain ⟨f0, f1, f2, f3, f4⟩ := boxed5 w8 o k v d s ((bthen y9 y10).mono (by simp))
        obtain ⟨h0, h1, h2, h3, h4⟩ := boxed5 w9 o2 k2 v2 d2 s2 (y10.mono (by simp))
        go_wp2
        go_ret
        exact ⟨rfl, B10⟩
end Go.Proofs.Yteamnapboophiaa
