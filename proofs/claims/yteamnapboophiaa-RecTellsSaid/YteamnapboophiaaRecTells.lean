/-
  The walk of RecTells.
-/
import Derived.Test.YteamnapboophiaaRecBack
namespace Go.Proofs.Yteamnapboophiaa
open Go.RowKit
set_option linter.unusedVariables false

set_option maxRecDepth 100000 in
set_option maxHeartbeats 8000000 in
theorem recTells_walk {w : World} (o : Int) (k v : ByteArray) (d : Bool) (s : Int) (ho : -9223372036854775808 ≤ o ∧ o ≤ 9223372036854775807) (hk : k.size ≤ 9223372036854775807) (hv : v.size ≤ 9223372036854775807) (hs : -9223372036854775808 ≤ s ∧ s ≤ 9223372036854775807) (base : Int) (hbase : -9223372036854775808 ≤ base ∧ base ≤ 9223372036854775807) (st : Int) (hst : -9223372036854775808 ≤ st ∧ st ≤ 9223372036854775807) :
    Calls Try.prog 3 #[.agg #[.int .i64 o, .string k, .string v, .bool d, .int .i64 s], .int .i64 base, .int .i64 st] w (Yes w) := by
  have HBX := Lib.hid (fun (w' : World) (h : Below (w.heap.size + 1) (w.alloc (.cells #[.int .i64 o, .string k, .string v, .bool d, .int .i64 s] 23)) w') => boxed5 w o k v d s h)
  have hsz0 : (w.alloc (.cells #[.int .i64 o, .string k, .string v, .bool d, .int .i64 s] 23)).heap.size = w.heap.size + 1 := by simp
  have b0 := bput (Below.refl _ w) (.cells #[.int .i64 o, .string k, .string v, .bool d, .int .i64 s] 23)
  have HLV := Lib.hid (live_ok (w.alloc (.cells #[.int .i64 o, .string k, .string v, .bool d, .int .i64 s] 23)))
  have HBB := Lib.hid (fun (w' : World) (hb : Below (w.alloc (.cells #[.int .i64 o, .string k, .string v, .bool d, .int .i64 s] 23)).heap.size (w.alloc (.cells #[.int .i64 o, .string k, .string v, .bool d, .int .i64 s] 23)) w') => (show Below (w.heap.size + 1) _ w' by rw [← hsz0]; exact hb))
  have HTH := Lib.hid (fun (w' : World) (hb : Below (w.alloc (.cells #[.int .i64 o, .string k, .string v, .bool d, .int .i64 s] 23)).heap.size (w.alloc (.cells #[.int .i64 o, .string k, .string v, .bool d, .int .i64 s] 23)) w') => bthen b0 hb)
  clear hsz0 b0
  cases hf : (decide (k.size ≤ 300) && decide (v.size ≤ 300)) with
  | false =>
    go_enter Try.func3, Try.ntmps3
    go_wp2_with fail
    refine HLV.out.mono ?_
    rintro e w1 ⟨rfl, b1⟩
    obtain ⟨q0, q1, q2, q3, q4⟩ := HBX.out _ (HBB.out _ b1)
    go_wp2_with fail
    refine (few_is o k v d s hk hv _ hf).mono ?_
    rintro e w2 ⟨rfl, hb2⟩
    have b2 := bthen b1 hb2
    go_wp2
    go_ret
    exact ⟨rfl, HTH.out _ b2⟩
  | true =>
    obtain ⟨L, hL⟩ : ∃ L, (if mayN o k v d s base st then putB o k v d s base st else []) = L := ⟨_, rfl⟩
    obtain ⟨E, hE⟩ : ∃ E, errI (mayN o k v d s base st) = E := ⟨_, rfl⟩
    obtain ⟨C, hC⟩ : ∃ C, errI (chkN o k.size v.size d s) = C := ⟨_, rfl⟩
    obtain ⟨sx, hsx⟩ : ∃ sx, strOf L = sx := ⟨_, rfl⟩
    obtain ⟨N, hN⟩ : ∃ N : Int, ((L.length : Nat) : Int) = N := ⟨_, rfl⟩
    have HP1 : Hid (∀ w1, Calls Try.prog 14 #[.agg #[.int .i64 o, .string k, .string v, .bool d, .int .i64 s], .int .i64 base, .int .i64 st] w1 (Both w1 L E)) := Lib.hid fun w1 => put_is hk hv hL hE
    have HP2 : Hid (∀ w1, Calls Try.prog 15 #[.agg #[.int .i64 o, .string k, .string v, .bool d, .int .i64 s], .int .i64 base, .int .i64 st] w1 (Both w1 L E)) := Lib.hid fun w1 => rput_is hk hv hL hE
    have HC1 : Hid (∀ w1, Calls Try.prog 16 #[.agg #[.int .i64 o, .string k, .string v, .bool d, .int .i64 s]] w1 (SaysI w1 C)) := Lib.hid fun w1 => by have := check_is (w := w1) (off := o) (dead := d) (stamp := s) hk hv rfl; rw [hC] at this; exact this
    have HC2 : Hid (∀ w1, Calls Try.prog 17 #[.agg #[.int .i64 o, .string k, .string v, .bool d, .int .i64 s]] w1 (SaysI w1 C)) := Lib.hid fun w1 => by have := rcheck_is (w := w1) (off := o) (dead := d) (stamp := s) hk hv rfl; rw [hC] at this; exact this
    have HZ1 : Hid (∀ w1, Calls Try.prog 18 #[.agg #[.int .i64 o, .string k, .string v, .bool d, .int .i64 s], .int .i64 base, .int .i64 st] w1 (SaysI w1 N)) := Lib.hid fun w1 => size_is hk hv (by rw [hL]; exact hN)
    have HZ2 : Hid (∀ w1, Calls Try.prog 19 #[.agg #[.int .i64 o, .string k, .string v, .bool d, .int .i64 s], .int .i64 base, .int .i64 st] w1 (SaysI w1 N)) := Lib.hid fun w1 => rsize_is hk hv (by rw [hL]; exact hN)
    have HX := Lib.hid hsx
    clear hL hE hC hN hsx
    go_enter Try.func3, Try.ntmps3
    go_wp2_with fail
    refine HLV.out.mono ?_
    rintro e w1 ⟨rfl, b1⟩
    obtain ⟨q0, q1, q2, q3, q4⟩ := HBX.out _ (HBB.out _ b1)
    go_wp2_with fail
    refine (few_is o k v d s hk hv _ hf).mono ?_
    rintro e w2 ⟨rfl, hb2⟩
    have b2 := bthen b1 hb2
    obtain ⟨q0, q1, q2, q3, q4⟩ := HBX.out _ (HBB.out _ b2)
    go_wp2_with fail
    refine (HP1.out _).mono ?_
    rintro e w3 ⟨A3, n3, c3, rfl, ho3, hb3⟩
    have b3 := bthen b2 hb3
    obtain ⟨q0, q1, q2, q3, q4⟩ := HBX.out _ (HBB.out _ b3)
    go_wp2_with fail
    refine (HP2.out _).mono ?_
    rintro e w4 ⟨A4, n4, c4, rfl, ho4, hb4⟩
    have b4 := bthen b3 hb4
    have o3 := (ho3.step hb4).rd
    have o4 := ho4.rd
    have HS : Hid (∀ w', Below w4.heap.size w4 w' → w'.cell? ⟨w.heap.size, 0, none⟩ = some (.int .i64 o) ∧ w'.cell? ⟨w.heap.size, 1, none⟩ = some (.string k) ∧ w'.cell? ⟨w.heap.size, 2, none⟩ = some (.string v) ∧ w'.cell? ⟨w.heap.size, 3, none⟩ = some (.bool d) ∧ w'.cell? ⟨w.heap.size, 4, none⟩ = some (.int .i64 s) ∧ (convert 26 9 (.slice A3 n3 c3)).run Try.prog w' = .ok (.string sx) w' ∧ (convert 26 9 (.slice A4 n4 c4)).run Try.prog w' = .ok (.string sx) w') := Lib.hid fun w' hb => by
      obtain ⟨z0, z1, z2, z3, z4⟩ := HBX.out w' (HBB.out _ (bthen b4 hb))
      exact ⟨z0, z1, z2, z3, z4, str_eq (o3.below hb) HX.out, str_eq (o4.below hb) HX.out⟩
    clear q0 q1 q2 q3 q4 ho3 ho4 o3 o4 hb3 hb4
    have z0 := (Below.refl w4.heap.size w4).drew
    go_wp2_with fail
    go_region_held3 (fun w' => w'.cell? ⟨w.heap.size, 0, none⟩ = some (.int .i64 o) ∧ w'.cell? ⟨w.heap.size, 1, none⟩ = some (.string k) ∧ w'.cell? ⟨w.heap.size, 2, none⟩ = some (.string v) ∧ w'.cell? ⟨w.heap.size, 3, none⟩ = some (.bool d) ∧ w'.cell? ⟨w.heap.size, 4, none⟩ = some (.int .i64 s) ∧ (convert 26 9 (.slice A3 n3 c3)).run Try.prog w' = .ok (.string sx) w' ∧ (convert 26 9 (.slice A4 n4 c4)).run Try.prog w' = .ok (.string sx) w') (first | exact HS.out _ z0 | exact HS.out _ z1 | exact HS.out _ z2 | exact HS.out _ z3 | exact HS.out _ z4 | fail) (first
      | (go_at_call 16; (with_reducible refine (HC1.out _).mono ?_); rintro e w5 ⟨rfl, hb5⟩; first | have z2 := bthen z1 hb5 | have z1 := bthen z0 hb5)
      | (go_at_call 17; (with_reducible refine (HC2.out _).mono ?_); rintro e w5 ⟨rfl, hb5⟩; first | have z2 := bthen z1 hb5 | have z1 := bthen z0 hb5)
      | (go_at_call 18; (with_reducible refine (HZ1.out _).mono ?_); rintro e w5 ⟨rfl, hb5⟩; first | have z4 := bthen z3 hb5 | have z3 := bthen z2 hb5)
      | (go_at_call 19; (with_reducible refine (HZ2.out _).mono ?_); rintro e w5 ⟨rfl, hb5⟩; first | have z4 := bthen z3 hb5 | have z3 := bthen z2 hb5)
      | fail)
    all_goals
      go_wp2
      go_ret
      exact ⟨rfl, HTH.out _ (bthen b4 z4)⟩
end Go.Proofs.Yteamnapboophiaa
