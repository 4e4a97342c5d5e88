/-
  The walk of RecDead.
-/
import Derived.Test.YteamnapboophiaaRecRow
namespace Go.Proofs.Yteamnapboophiaa
open Go.RowKit
set_option linter.unusedVariables false

set_option maxRecDepth 100000 in
set_option maxHeartbeats 8000000 in
theorem recDead_walk {w : World} (o : Int) (k v : ByteArray) (d : Bool) (s : Int) (ho : -9223372036854775808 ≤ o ∧ o ≤ 9223372036854775807) (hk : k.size ≤ 9223372036854775807) (hv : v.size ≤ 9223372036854775807) (hs : -9223372036854775808 ≤ s ∧ s ≤ 9223372036854775807) :
    Calls Try.prog 11 #[.agg #[.int .i64 o, .string k, .string v, .bool d, .int .i64 s]] w (Yes w) := by
  have HBX := Lib.hid (fun (w' : World) (h : Below (w.heap.size + 1) (w.alloc (.cells #[.int .i64 o, .string k, .string v, .bool d, .int .i64 s] 23)) w') => boxed5 w o k v d s h)
  have hsz0 : (w.alloc (.cells #[.int .i64 o, .string k, .string v, .bool d, .int .i64 s] 23)).heap.size = w.heap.size + 1 := by simp
  have b0 := bput (Below.refl _ w) (.cells #[.int .i64 o, .string k, .string v, .bool d, .int .i64 s] 23)
  have HLV := Lib.hid (live_ok (w.alloc (.cells #[.int .i64 o, .string k, .string v, .bool d, .int .i64 s] 23)))
  have HBB := Lib.hid (fun (w' : World) (hb : Below (w.alloc (.cells #[.int .i64 o, .string k, .string v, .bool d, .int .i64 s] 23)).heap.size (w.alloc (.cells #[.int .i64 o, .string k, .string v, .bool d, .int .i64 s] 23)) w') => (show Below (w.heap.size + 1) _ w' by rw [← hsz0]; exact hb))
  have HTH := Lib.hid (fun (w' : World) (hb : Below (w.alloc (.cells #[.int .i64 o, .string k, .string v, .bool d, .int .i64 s] 23)).heap.size (w.alloc (.cells #[.int .i64 o, .string k, .string v, .bool d, .int .i64 s] 23)) w') => bthen b0 hb)
  clear hsz0 b0
  cases hf : (decide (k.size ≤ 300) && decide (v.size ≤ 300)) with
  | false =>
    go_enter Try.func11, Try.ntmps11
    go_wp2_with fail
    refine HLV.out.mono ?_
    rintro e w1 ⟨rfl, b1⟩
    obtain ⟨q0, q1, q2, q3, q4⟩ := HBX.out _ (HBB.out _ b1)
    go_wp2_with fail
    refine (few_is o k v d s hk hv _ hf).mono ?_
    rintro e w2 ⟨rfl, hb2⟩
    have b2 := bthen b1 hb2
    go_wp2
    go_ret
    exact ⟨rfl, HTH.out _ b2⟩
  | true =>
  cases hc : chkN o k.size v.size d s with
  | false =>
    have e1 : errI false = 1 := rfl
    go_enter Try.func11, Try.ntmps11
    go_wp2_with fail
    refine HLV.out.mono ?_
    rintro e w1 ⟨rfl, b1⟩
    obtain ⟨q0, q1, q2, q3, q4⟩ := HBX.out _ (HBB.out _ b1)
    go_wp2_with fail
    refine (few_is o k v d s hk hv _ hf).mono ?_
    rintro e w2 ⟨rfl, hb2⟩
    have b2 := bthen b1 hb2
    obtain ⟨q0, q1, q2, q3, q4⟩ := HBX.out _ (HBB.out _ b2)
    go_wp2_with fail
    refine (check_is hk hv hc).mono ?_
    rintro e w4 ⟨rfl, hb4⟩
    have b4 := bthen b2 hb4
    go_wp2
    go_ret
    exact ⟨rfl, HTH.out _ b4⟩
  | true =>
    have e1 : errI true = 0 := rfl
    have hcc := hc
    simp only [chkN, Bool.and_eq_true, decide_eq_true_eq] at hcc
    obtain ⟨⟨⟨⟨g1, g2⟩, g3⟩, g4⟩, _⟩ := hcc
    have r1 := inR_true g1
    have r2 := inR_true g2
    go_enter Try.func11, Try.ntmps11
    go_wp2_with fail
    refine HLV.out.mono ?_
    rintro e w1 ⟨rfl, b1⟩
    obtain ⟨q0, q1, q2, q3, q4⟩ := HBX.out _ (HBB.out _ b1)
    go_wp2_with fail
    refine (few_is o k v d s hk hv _ hf).mono ?_
    rintro e w2 ⟨rfl, hb2⟩
    have b2 := bthen b1 hb2
    obtain ⟨q0, q1, q2, q3, q4⟩ := HBX.out _ (HBB.out _ b2)
    go_wp2_with fail
    refine (check_is hk hv hc).mono ?_
    rintro e w4 ⟨rfl, hb4⟩
    have b4 := bthen b2 hb4
    obtain ⟨q0, q1, q2, q3, q4⟩ := HBX.out _ (HBB.out _ b4)
    have hlt4 : w.heap.size < w4.heap.size := by have := b4.size; rw [World.size_alloc] at this; omega
    have hlt5 : w.heap.size < w4.heap.size + 1 := by omega
    have hlt6 : w.heap.size < w4.heap.size + 1 + 1 := by omega
    go_wp2_with fail
    generalize hy : v ++ { data := #[48, 49, 50, 51, 52, 53, 54, 55, 56, 57, 48, 49, 50, 51, 52, 53, 54, 55, 56, 57, 48, 49, 50, 51, 52, 53, 54, 55, 56, 57, 48, 49, 50, 51, 52, 53, 54, 55, 56, 57, 48, 49, 50, 51, 52, 53, 54, 55, 56, 57, 48, 49, 50, 51, 52, 53, 54, 55, 56, 57, 48, 49, 50, 51, 52, 53, 54, 55, 56, 57] } = y at *
    have hys : y.size = v.size + 70 := by rw [← hy, ByteArray.size_append]; rfl
    have hcy : chkN o k.size y.size d s = false := by
      cases hq : chkN o k.size y.size d s
      · rfl
      · simp only [chkN, Bool.and_eq_true, decide_eq_true_eq] at hq; omega
    have hcz : chkN (o + 1099511627776 + 1) k.size v.size d s = false := by
      cases hq : chkN (o + 1099511627776 + 1) k.size v.size d s
      · rfl
      · simp only [chkN, Bool.and_eq_true] at hq
        have := inR_true hq.1.1.1.1
        omega
    have hyle : y.size ≤ 9223372036854775807 := by omega
    have hsz7 : (((w4.alloc (.cells #[.int .i64 o, .string k, .string v, .bool true, .int .i64 s] 23)).alloc (.cells #[.int .i64 o, .string k, .string y, .bool d, .int .i64 s] 23)).alloc (.cells #[.int .i64 (o + 1099511627776 + 1), .string k, .string v, .bool d, .int .i64 s] 23)).heap.size = w4.heap.size + 1 + 1 + 1 := by simp
    have hX : (((w4.alloc (.cells #[.int .i64 o, .string k, .string v, .bool true, .int .i64 s] 23)).alloc (.cells #[.int .i64 o, .string k, .string y, .bool d, .int .i64 s] 23)).alloc (.cells #[.int .i64 (o + 1099511627776 + 1), .string k, .string v, .bool d, .int .i64 s] 23)).heap[w4.heap.size]? = some (.cells #[.int .i64 o, .string k, .string v, .bool true, .int .i64 s] 23 (0, 0)) := ((Below.heap_alloc _ _ _ (by simp; omega)).trans (Below.heap_alloc _ _ _ (by simp))).trans (World.alloc_heap_new w4 _)
    have hY : (((w4.alloc (.cells #[.int .i64 o, .string k, .string v, .bool true, .int .i64 s] 23)).alloc (.cells #[.int .i64 o, .string k, .string y, .bool d, .int .i64 s] 23)).alloc (.cells #[.int .i64 (o + 1099511627776 + 1), .string k, .string v, .bool d, .int .i64 s] 23)).heap[w4.heap.size + 1]? = some (.cells #[.int .i64 o, .string k, .string y, .bool d, .int .i64 s] 23 (0, 0)) := by
      refine (Below.heap_alloc _ _ _ (by simp)).trans ?_
      have := World.alloc_heap_new (w4.alloc (.cells #[.int .i64 o, .string k, .string v, .bool true, .int .i64 s] 23)) (.cells #[.int .i64 o, .string k, .string y, .bool d, .int .i64 s] 23)
      rwa [World.size_alloc] at this
    have hZ : (((w4.alloc (.cells #[.int .i64 o, .string k, .string v, .bool true, .int .i64 s] 23)).alloc (.cells #[.int .i64 o, .string k, .string y, .bool d, .int .i64 s] 23)).alloc (.cells #[.int .i64 (o + 1099511627776 + 1), .string k, .string v, .bool d, .int .i64 s] 23)).heap[w4.heap.size + 1 + 1]? = some (.cells #[.int .i64 (o + 1099511627776 + 1), .string k, .string v, .bool d, .int .i64 s] 23 (0, 0)) := by
      have := World.alloc_heap_new ((w4.alloc (.cells #[.int .i64 o, .string k, .string v, .bool true, .int .i64 s] 23)).alloc (.cells #[.int .i64 o, .string k, .string y, .bool d, .int .i64 s] 23)) (.cells #[.int .i64 (o + 1099511627776 + 1), .string k, .string v, .bool d, .int .i64 s] 23)
      rwa [World.size_alloc, World.size_alloc] at this
    have z7 := bput (bput (bput (Below.refl _ w4) (.cells #[.int .i64 o, .string k, .string v, .bool true, .int .i64 s] 23)) (.cells #[.int .i64 o, .string k, .string y, .bool d, .int .i64 s] 23)) (.cells #[.int .i64 (o + 1099511627776 + 1), .string k, .string v, .bool d, .int .i64 s] 23)
    have b7 := bthen b4 z7
    generalize ((w4.alloc (.cells #[.int .i64 o, .string k, .string v, .bool true, .int .i64 s] 23)).alloc (.cells #[.int .i64 o, .string k, .string y, .bool d, .int .i64 s] 23)).alloc (.cells #[.int .i64 (o + 1099511627776 + 1), .string k, .string v, .bool d, .int .i64 s] 23) = w7 at *
    have HS : Hid (∀ w', Below w7.heap.size w7 w' → w'.cell? ⟨w4.heap.size, 0, none⟩ = some (.int .i64 o) ∧ w'.cell? ⟨w4.heap.size, 1, none⟩ = some (.string k) ∧ w'.cell? ⟨w4.heap.size, 2, none⟩ = some (.string v) ∧ w'.cell? ⟨w4.heap.size, 3, none⟩ = some (.bool true) ∧ w'.cell? ⟨w4.heap.size, 4, none⟩ = some (.int .i64 s) ∧ w'.cell? ⟨(w4.heap.size + 1), 0, none⟩ = some (.int .i64 o) ∧ w'.cell? ⟨(w4.heap.size + 1), 1, none⟩ = some (.string k) ∧ w'.cell? ⟨(w4.heap.size + 1), 2, none⟩ = some (.string y) ∧ w'.cell? ⟨(w4.heap.size + 1), 3, none⟩ = some (.bool d) ∧ w'.cell? ⟨(w4.heap.size + 1), 4, none⟩ = some (.int .i64 s) ∧ w'.cell? ⟨(w4.heap.size + 1 + 1), 0, none⟩ = some (.int .i64 (o + 1099511627776 + 1)) ∧ w'.cell? ⟨(w4.heap.size + 1 + 1), 1, none⟩ = some (.string k) ∧ w'.cell? ⟨(w4.heap.size + 1 + 1), 2, none⟩ = some (.string v) ∧ w'.cell? ⟨(w4.heap.size + 1 + 1), 3, none⟩ = some (.bool d) ∧ w'.cell? ⟨(w4.heap.size + 1 + 1), 4, none⟩ = some (.int .i64 s) ∧ w'.cell? ⟨w.heap.size, 1, none⟩ = some (.string k) ∧ w'.cell? ⟨w.heap.size, 2, none⟩ = some (.string v)) := Lib.hid fun w' hb => by
      obtain ⟨x0, x1, x2, x3, x4⟩ := boxedAt hX (hb.mono (by omega))
      obtain ⟨y0, y1, y2, y3, y4⟩ := boxedAt hY (hb.mono (by omega))
      obtain ⟨z0, z1, z2, z3, z4⟩ := boxedAt hZ (hb.mono (by omega))
      obtain ⟨_, r1, r2, _, _⟩ := HBX.out w' (HBB.out _ (bthen b7 hb))
      exact ⟨x0, x1, x2, x3, x4, y0, y1, y2, y3, y4, z0, z1, z2, z3, z4, r1, r2⟩
    have z0 := (Below.refl w7.heap.size w7).drew
    have HCY : Hid (∀ w1, Calls Try.prog 16 #[.agg #[.int .i64 o, .string k, .string y, .bool d, .int .i64 s]] w1 (SaysI w1 1)) := Lib.hid fun w1 => check_is hk hyle hcy
    have HCZ : Hid (∀ w1, Calls Try.prog 16 #[.agg #[.int .i64 (o + 1099511627776 + 1), .string k, .string v, .bool d, .int .i64 s]] w1 (SaysI w1 1)) := Lib.hid fun w1 => check_is hk hv hcz
    have key : (∃ X : Int, ((X == 0) = false ∧ X = 1) ∧ (k.toList = [] ∧ errI (chkN o k.size v.size true s) = X)) ∨ (k.toList.isEmpty = false ∧ v.toList = [] ∧ errI (chkN o k.size v.size true s) = 0) ∨ (k.toList.isEmpty = false ∧ v.toList.isEmpty = false ∧ errI (chkN o k.size v.size true s) = 1) := by
      by_cases h6 : k.size = 0
      · exact .inl ⟨1, ⟨rfl, rfl⟩, toList_nil h6, chk_nokey h6⟩
      · by_cases h7 : v.size = 0
        · exact .inr (.inl ⟨toList_not h6, toList_nil h7, chk_gone g1 g2 (by omega) h6 h7⟩)
        · exact .inr (.inr ⟨toList_not h6, toList_not h7, chk_val h7⟩)
    clear q0 q1 q2 q3 q4 hX hY hZ hy hys hcy hcz hyle hsz7 hlt4 hlt5 hlt6 z7 g1 g2 g3 g4 r1 r2
    rcases key with ⟨X, ⟨eX, rX⟩, e6, e7⟩ | ⟨e5, e6, e7⟩ | ⟨e5, e6, e7⟩
    · have HCX : Hid (∀ w1, Calls Try.prog 16 #[.agg #[.int .i64 o, .string k, .string v, .bool true, .int .i64 s]] w1 (SaysI w1 (X))) := Lib.hid fun w1 => by have := check_is (w := w1) (off := o) (dead := true) (stamp := s) hk hv rfl; rw [e7] at this; exact this
      clear e7
      subst rX
      obtain ⟨a0, a1, a2, a3, a4, a5, a6, a7, a8, a9, a10, a11, a12, a13, a14, a15, a16⟩ := HS.out _ (Below.refl _ w7)
      first
      | (go_region_with (first
          | (go_at_call 16; (with_reducible refine (HCX.out _).mono ?_); rintro e w5 ⟨rfl, hb5⟩; have z1 := bthen z0 hb5; obtain ⟨f0, f1, f2, f3, f4, f5, f6, f7, f8, f9, f10, f11, f12, f13, f14, f15, f16⟩ := HS.out _ z1)
          | (go_at_call 16; (with_reducible refine (HCY.out _).mono ?_); rintro e w6 ⟨rfl, hb6⟩; have z2 := bthen z1 hb6; obtain ⟨c0, c1, c2, c3, c4, c5, c6, c7, c8, c9, c10, c11, c12, c13, c14, c15, c16⟩ := HS.out _ z2)
          | (go_at_call 16; (with_reducible refine (HCZ.out _).mono ?_); rintro e w8 ⟨rfl, hb8⟩; have z3 := bthen z2 hb8)
          | fail))
      | fail
      all_goals
        go_wp2
        go_ret
        exact ⟨rfl, HTH.out _ (bthen b7 z3)⟩
    · have HCX : Hid (∀ w1, Calls Try.prog 16 #[.agg #[.int .i64 o, .string k, .string v, .bool true, .int .i64 s]] w1 (SaysI w1 (0))) := Lib.hid fun w1 => by have := check_is (w := w1) (off := o) (dead := true) (stamp := s) hk hv rfl; rw [e7] at this; exact this
      clear e7
      have e5' : (!k.toList.isEmpty) = true := by rw [e5]; rfl
      go_region_held3 (fun w' => w'.cell? ⟨w4.heap.size, 0, none⟩ = some (.int .i64 o) ∧ w'.cell? ⟨w4.heap.size, 1, none⟩ = some (.string k) ∧ w'.cell? ⟨w4.heap.size, 2, none⟩ = some (.string v) ∧ w'.cell? ⟨w4.heap.size, 3, none⟩ = some (.bool true) ∧ w'.cell? ⟨w4.heap.size, 4, none⟩ = some (.int .i64 s) ∧ w'.cell? ⟨(w4.heap.size + 1), 0, none⟩ = some (.int .i64 o) ∧ w'.cell? ⟨(w4.heap.size + 1), 1, none⟩ = some (.string k) ∧ w'.cell? ⟨(w4.heap.size + 1), 2, none⟩ = some (.string y) ∧ w'.cell? ⟨(w4.heap.size + 1), 3, none⟩ = some (.bool d) ∧ w'.cell? ⟨(w4.heap.size + 1), 4, none⟩ = some (.int .i64 s) ∧ w'.cell? ⟨(w4.heap.size + 1 + 1), 0, none⟩ = some (.int .i64 (o + 1099511627776 + 1)) ∧ w'.cell? ⟨(w4.heap.size + 1 + 1), 1, none⟩ = some (.string k) ∧ w'.cell? ⟨(w4.heap.size + 1 + 1), 2, none⟩ = some (.string v) ∧ w'.cell? ⟨(w4.heap.size + 1 + 1), 3, none⟩ = some (.bool d) ∧ w'.cell? ⟨(w4.heap.size + 1 + 1), 4, none⟩ = some (.int .i64 s) ∧ w'.cell? ⟨w.heap.size, 1, none⟩ = some (.string k) ∧ w'.cell? ⟨w.heap.size, 2, none⟩ = some (.string v)) (first | exact HS.out _ z0 | exact HS.out _ z1 | exact HS.out _ z2 | exact HS.out _ z3 | fail) (first
        | (go_at_call 16; (with_reducible refine (HCX.out _).mono ?_); rintro e w5 ⟨rfl, hb5⟩; have z1 := bthen z0 hb5)
        | (go_at_call 16; (with_reducible refine (HCY.out _).mono ?_); rintro e w6 ⟨rfl, hb6⟩; have z2 := bthen z1 hb6)
        | (go_at_call 16; (with_reducible refine (HCZ.out _).mono ?_); rintro e w7 ⟨rfl, hb7⟩; have z3 := bthen z2 hb7)
        | fail)
      all_goals
        go_wp2
        go_ret
        exact ⟨rfl, HTH.out _ (bthen b7 z3)⟩
    · have HCX : Hid (∀ w1, Calls Try.prog 16 #[.agg #[.int .i64 o, .string k, .string v, .bool true, .int .i64 s]] w1 (SaysI w1 (1))) := Lib.hid fun w1 => by have := check_is (w := w1) (off := o) (dead := true) (stamp := s) hk hv rfl; rw [e7] at this; exact this
      clear e7
      have e5' : (!k.toList.isEmpty) = true := by rw [e5]; rfl
      go_region_held3 (fun w' => w'.cell? ⟨w4.heap.size, 0, none⟩ = some (.int .i64 o) ∧ w'.cell? ⟨w4.heap.size, 1, none⟩ = some (.string k) ∧ w'.cell? ⟨w4.heap.size, 2, none⟩ = some (.string v) ∧ w'.cell? ⟨w4.heap.size, 3, none⟩ = some (.bool true) ∧ w'.cell? ⟨w4.heap.size, 4, none⟩ = some (.int .i64 s) ∧ w'.cell? ⟨(w4.heap.size + 1), 0, none⟩ = some (.int .i64 o) ∧ w'.cell? ⟨(w4.heap.size + 1), 1, none⟩ = some (.string k) ∧ w'.cell? ⟨(w4.heap.size + 1), 2, none⟩ = some (.string y) ∧ w'.cell? ⟨(w4.heap.size + 1), 3, none⟩ = some (.bool d) ∧ w'.cell? ⟨(w4.heap.size + 1), 4, none⟩ = some (.int .i64 s) ∧ w'.cell? ⟨(w4.heap.size + 1 + 1), 0, none⟩ = some (.int .i64 (o + 1099511627776 + 1)) ∧ w'.cell? ⟨(w4.heap.size + 1 + 1), 1, none⟩ = some (.string k) ∧ w'.cell? ⟨(w4.heap.size + 1 + 1), 2, none⟩ = some (.string v) ∧ w'.cell? ⟨(w4.heap.size + 1 + 1), 3, none⟩ = some (.bool d) ∧ w'.cell? ⟨(w4.heap.size + 1 + 1), 4, none⟩ = some (.int .i64 s) ∧ w'.cell? ⟨w.heap.size, 1, none⟩ = some (.string k) ∧ w'.cell? ⟨w.heap.size, 2, none⟩ = some (.string v)) (first | exact HS.out _ z0 | exact HS.out _ z1 | exact HS.out _ z2 | exact HS.out _ z3 | fail) (first
        | (go_at_call 16; (with_reducible refine (HCX.out _).mono ?_); rintro e w5 ⟨rfl, hb5⟩; have z1 := bthen z0 hb5)
        | (go_at_call 16; (with_reducible refine (HCY.out _).mono ?_); rintro e w6 ⟨rfl, hb6⟩; have z2 := bthen z1 hb6)
        | (go_at_call 16; (with_reducible refine (HCZ.out _).mono ?_); rintro e w7 ⟨rfl, hb7⟩; have z3 := bthen z2 hb7)
        | fail)
      all_goals
        go_wp2
        go_ret
        exact ⟨rfl, HTH.out _ (bthen b7 z3)⟩
end Go.Proofs.Yteamnapboophiaa
