/-
  The walk of RecShort.
-/
import Derived.Test.YteamnapboophiaaRecBack
namespace Go.Proofs.Yteamnapboophiaa
open Go.RowKit
set_option linter.unusedVariables false

theorem i64_and_ffff (n : Int) : bits .and .i64 n 65535 = n % 65536 := by
  have h127 : (BitVec.ofInt 64 65535).toNat = 2 ^ 16 - 1 := by decide
  have key : (BitVec.ofInt 64 n &&& BitVec.ofInt 64 65535).toNat = (n % ((2 ^ 64 : Nat) : Int)).toNat % 2 ^ 16 := by
    rw [BitVec.toNat_and, BitVec.toNat_ofInt, h127, Nat.and_two_pow_sub_one_eq_mod]
  show IntKind.i64.wrap ((BitVec.ofInt 64 n &&& BitVec.ofInt 64 65535).toNat : Nat) = n % 65536
  rw [key, IntKind.wrap_i64]
  omega

set_option maxRecDepth 100000 in
set_option maxHeartbeats 2000000 in
theorem recShort_walk {w : World} (o : Int) (k v : ByteArray) (d : Bool) (s : Int) (ho : -9223372036854775808 ≤ o ∧ o ≤ 9223372036854775807) (hk : k.size ≤ 9223372036854775807) (hv : v.size ≤ 9223372036854775807) (hs : -9223372036854775808 ≤ s ∧ s ≤ 9223372036854775807) (base : Int) (hbase : -9223372036854775808 ≤ base ∧ base ≤ 9223372036854775807) (st : Int) (hst : -9223372036854775808 ≤ st ∧ st ≤ 9223372036854775807) (cut : Int) (hcut : -9223372036854775808 ≤ cut ∧ cut ≤ 9223372036854775807) :
    Calls Try.prog 7 #[.agg #[.int .i64 o, .string k, .string v, .bool d, .int .i64 s], .int .i64 base, .int .i64 st, .int .i64 cut] w (Yes w) := by
  have HBX := Lib.hid (fun (w' : World) (h : Below (w.heap.size + 1) (w.alloc (.cells #[.int .i64 o, .string k, .string v, .bool d, .int .i64 s] 23)) w') => boxed5 w o k v d s h)
  have hsz0 : (w.alloc (.cells #[.int .i64 o, .string k, .string v, .bool d, .int .i64 s] 23)).heap.size = w.heap.size + 1 := by simp
  have b0 := bput (Below.refl _ w) (.cells #[.int .i64 o, .string k, .string v, .bool d, .int .i64 s] 23)
  have HLV := Lib.hid (live_ok (w.alloc (.cells #[.int .i64 o, .string k, .string v, .bool d, .int .i64 s] 23)))
  have HBB := Lib.hid (fun (w' : World) (hb : Below (w.alloc (.cells #[.int .i64 o, .string k, .string v, .bool d, .int .i64 s] 23)).heap.size (w.alloc (.cells #[.int .i64 o, .string k, .string v, .bool d, .int .i64 s] 23)) w') => (show Below (w.heap.size + 1) _ w' by rw [← hsz0]; exact hb))
  have HTH := Lib.hid (fun (w' : World) (hb : Below (w.alloc (.cells #[.int .i64 o, .string k, .string v, .bool d, .int .i64 s] 23)).heap.size (w.alloc (.cells #[.int .i64 o, .string k, .string v, .bool d, .int .i64 s] 23)) w') => bthen b0 hb)
  clear hsz0 b0
  obtain ⟨x, hx⟩ : ∃ x : Nat, bits .and .i64 cut 65535 = (x : Int) := ⟨(cut % 65536).toNat, by rw [i64_and_ffff]; omega⟩
  have hx2 : x < 65536 := by rw [i64_and_ffff] at hx; omega
  cases hf : (decide (k.size ≤ 300) && decide (v.size ≤ 300)) with
  | false =>
    go_enter Try.func7, Try.ntmps7
    go_wp2_with fail
    refine HLV.out.mono ?_
    rintro e w1 ⟨rfl, b1⟩
    obtain ⟨q0, q1, q2, q3, q4⟩ := HBX.out _ (HBB.out _ b1)
    go_wp2_with fail
    refine (few_is o k v d s hk hv _ hf).mono ?_
    rintro e w2 ⟨rfl, hb2⟩
    have b2 := bthen b1 hb2
    go_wp2
    go_ret
    exact ⟨rfl, HTH.out _ b2⟩
  | true =>
  cases hm : mayN o k v d s base st with
  | false =>
    have HP : Hid (∀ w1, Calls Try.prog 14 #[.agg #[.int .i64 o, .string k, .string v, .bool d, .int .i64 s], .int .i64 base, .int .i64 st] w1 (Both w1 [] 1)) := Lib.hid fun w1 => put_is hk hv (by rw [hm]; rfl) (by rw [hm]; rfl)
    go_enter Try.func7, Try.ntmps7
    go_wp2_with fail
    refine HLV.out.mono ?_
    rintro e w1 ⟨rfl, b1⟩
    obtain ⟨q0, q1, q2, q3, q4⟩ := HBX.out _ (HBB.out _ b1)
    go_wp2_with fail
    refine (few_is o k v d s hk hv _ hf).mono ?_
    rintro e w2 ⟨rfl, hb2⟩
    have b2 := bthen b1 hb2
    obtain ⟨q0, q1, q2, q3, q4⟩ := HBX.out _ (HBB.out _ b2)
    go_wp2_with fail
    refine (HP.out _).mono ?_
    rintro e w3 ⟨A3, n3, c3, rfl, ho3, hb3⟩
    have b3 := bthen b2 hb3
    go_wp2
    go_ret
    exact ⟨rfl, HTH.out _ b3⟩
  | true =>
    have hm' : mayP (rcS o k v d s) base st = true := (may_rcS o k v d s base st).trans hm
    have HP : Hid (∀ w1, Calls Try.prog 14 #[.agg #[.int .i64 o, .string k, .string v, .bool d, .int .i64 s], .int .i64 base, .int .i64 st] w1 (Both w1 (putB o k v d s base st) 0)) := Lib.hid fun w1 => put_is hk hv (by rw [hm]; rfl) (by rw [hm]; rfl)
    have hg := getR_short (rcS o k v d s) base st hm'
    have hsz := putR_size (rcS o k v d s) base st hm'
    obtain ⟨_, _, _, _, _, _, _, hk64, hv64⟩ := mayP_parts hm'
    rw [put_rcS] at hg hsz
    have hpl : (putB o k v d s base st).length ≤ 200 := by omega
    have hpl5 : 5 ≤ (putB o k v d s base st).length := by omega
    generalize putB o k v d s base st = P at *
    have HG : Hid (∀ (w1 : World) (A1 : Option Addr) (c c1 : Nat), c < P.length → Rd w1 w1.heap.size A1 c c1 (P.take c) → Calls Try.prog 20 #[.slice A1 c c1, .int .i64 0, .int .i64 base, .int .i64 st] w1 (Got w1 0 { data := #[] } { data := #[] } false 0 0 10)) := Lib.hid fun w1 A1 c c1 hc h1 => get_is h1 (hg c hc) rfl rfl
    clear hg hsz hk64 hv64 hm' hm
    go_enter Try.func7, Try.ntmps7
    go_wp2_with fail
    refine HLV.out.mono ?_
    rintro e w1 ⟨rfl, b1⟩
    obtain ⟨q0, q1, q2, q3, q4⟩ := HBX.out _ (HBB.out _ b1)
    go_wp2_with fail
    refine (few_is o k v d s hk hv _ hf).mono ?_
    rintro e w2 ⟨rfl, hb2⟩
    have b2 := bthen b1 hb2
    obtain ⟨q0, q1, q2, q3, q4⟩ := HBX.out _ (HBB.out _ b2)
    go_wp2_with fail
    refine (HP.out _).mono ?_
    rintro e w3 ⟨A3, n3, c3, rfl, ho3, hb3⟩
    have b3 := bthen b2 hb3
    have l3 := ho3.len
    subst l3
    have r3 := ho3.rd
    have cc3 := ho3.cap
    have ct3 := ho3.top
    have m3 : x % P.length < P.length := Nat.mod_lt _ (by omega)
    obtain ⟨A6, k6, r6⟩ := run_upto (P := Try.prog) (t := 26) Try.underlying26 byteInfo r3 (x % P.length) (Nat.le_of_lt m3)
    have e6 : (((x % P.length : Nat) : Int)) = (x : Int) % (P.length : Int) := by simp
    rw [e6] at k6
    have e3 : ((P.length : Int) == 0) = false := by simp only [beq_eq_false_iff_ne, ne_eq]; omega
    have HG6 := Lib.hid (HG.out _ _ _ _ m3 r6)
    clear r6 e6 ho3 m3 r3
    generalize hN : P.length = N at *
    clear hN
    go_wp2_with fail
    refine HG6.out.mono ?_
    rintro e w7 ⟨rfl, hb7⟩
    have b7 := bput (bthen b3 hb7) (.cells #[.int .i64 0, .string { data := #[] }, .string { data := #[] }, .bool false, .int .i64 0] 23)
    go_wp2
    go_ret
    exact ⟨rfl, HTH.out _ b7⟩
end Go.Proofs.Yteamnapboophiaa
