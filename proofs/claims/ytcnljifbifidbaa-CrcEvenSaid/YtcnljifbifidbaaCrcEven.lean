/-
  CrcEven answers true and leaves what was there as it was, for every input.
-/
import Derived.Laws.BitsAllLaws
import Derived.Test.YtcnljifbifidbaaCrcL
namespace Go.Proofs.Ytcnljifbifidbaa
open Go.RowKit
set_option linter.unusedVariables false
attribute [local go_sem ↓] Go.wp_at_zero Go.wp_at_succ

theorem xor8 (x y : UInt8) : bits BinOp.xor IntKind.u8 (x.toNat : Int) (y.toNat : Int) = (((x ^^^ y).toNat : Nat) : Int) := by
  rw [UInt8.toNat_xor]
  exact u8_xor_nat x.toNat y.toNat (by have := x.toNat_lt; omega) (by have := y.toNat_lt; omega)

/-- append within a region that draws its order. -/
theorem wpH_append {P : Program} {ops : Array Oper} {o : Oper} {a : Act} {w w' : World} {K : Act → World → Prop} {Q : Exit → Act → World → Prop} {V1 V2 v : Value} (s x : Operand) (t : TypeId) (hg : o.guard = none)
    (ho : o.op = .call { callee := .builtin .append, args := #[s, x], argTypes := #[t, t] }) (hs : a.eval s = V1) (hx : a.eval x = V2) (hr : (Builtin.append_ #[t, t] o.type #[V1, V2]).run P w = .ok v w')
    (h : K (a.put o.dst v) w') : if Region.wanted o (yielded ops a.tmps) = true then Oper.wp P o a w K Q else K (a.put o.dst undef) w := by
  simp only [Region.wanted, hg, if_true]
  unfold Oper.wp execOp
  simp only [ho, resolve, invoke, builtin, Sem.run_bind, Sem.run_pure, Result.andThen_ok, List.map_toArray, List.map_cons, List.map_nil, hs, hx, hr]
  exact h

/-- The bytes of three texts put on each other. -/
def tri (a b c : List UInt8) : List UInt8 := List.zipWith (fun x y => x ^^^ y) (List.zipWith (fun x y => x ^^^ y) a b) c
theorem tri_next (a b c : List UInt8) (N j : Nat) (h1 : N ≤ a.length) (h2 : N ≤ b.length) (h3 : N ≤ c.length) (hj : j < N) :
    (tri (a.take N) (b.take N) (c.take N)).take j ++ [a.getD j 0 ^^^ b.getD j 0 ^^^ c.getD j 0] = (tri (a.take N) (b.take N) (c.take N)).take (j + 1) := by
  have hl : (tri (a.take N) (b.take N) (c.take N)).length = N := by simp [tri]; omega
  rw [List.take_succ_eq_append_getElem (by omega)]
  congr 1
  simp only [tri, List.getElem_zipWith, List.getElem_take, List.getD_eq_getElem?_getD, List.getElem?_eq_getElem (show j < a.length by omega), List.getElem?_eq_getElem (show j < b.length by omega), List.getElem?_eq_getElem (show j < c.length by omega), Option.getD_some]
theorem tri_all (a b c : List UInt8) (N : Nat) (h1 : N ≤ a.length) (h2 : N ≤ b.length) (h3 : N ≤ c.length) : (tri (a.take N) (b.take N) (c.take N)).take N = tri (a.take N) (b.take N) (c.take N) := by
  rw [List.take_of_length_le]
  simp [tri]; omega

set_option maxRecDepth 100000 in
set_option maxHeartbeats 8000000 in
theorem crcEven_walk {w : World} {A : Option Addr} {n c : Nat} {l : List UInt8} (h : Rd w w.heap.size A n c l) {A' : Option Addr} {n' c' : Nat} {l' : List UInt8} (h' : Rd w w.heap.size A' n' c' l') {A'' : Option Addr} {n'' c'' : Nat} {l'' : List UInt8} (h'' : Rd w w.heap.size A'' n'' c'' l'') :
    Calls Try.prog 8 #[.slice A n c, .slice A' n' c', .slice A'' n'' c''] w (Yes w) := by
  have hl := h.len
  have hl' := h'.len
  have hl'' := h''.len
  have hc := h.cap
  have hc' := h'.cap
  have hc'' := h''.cap
  by_cases p1 : n' < n
  · by_cases p2 : n'' < n'
    · by_cases hN : n'' ≤ 2000
      · have t1 : decide ((2000 : Int) < (n'' : Int)) = false := by simp only [decide_eq_false_iff_not]; omega
        have HNEXT := Lib.hid (tri_next l l' l'' n'')
        have HALL := Lib.hid (tri_all l l' l'' n'' (by omega) (by omega) (by omega))
        have hev := crc_even (l.take n'') (l'.take n'') (l''.take n'') n'' (by rw [List.length_take]; omega) (by rw [List.length_take]; omega) (by rw [List.length_take]; omega)
        have HEV : Hid (crc (tri (l.take n'') (l'.take n'') (l''.take n'')) = crc (l.take n'') ^^^ crc (l'.take n'') ^^^ crc (l''.take n'')) := hev
        clear hev
        obtain ⟨X, hX⟩ : ∃ X, tri (l.take n'') (l'.take n'') (l''.take n'') = X := ⟨_, rfl⟩
        rw [hX] at HNEXT HALL HEV
        clear hX
        obtain ⟨B1, u1, r1⟩ := run_upto (P := Try.prog) (t := 22) Try.underlying22 byteInfo h n'' (by omega)
        obtain ⟨B2, u2, r2⟩ := run_upto (P := Try.prog) (t := 22) Try.underlying22 byteInfo h' n'' (by omega)
        obtain ⟨B3, u3, r3⟩ := run_upto (P := Try.prog) (t := 22) Try.underlying22 byteInfo h'' n'' (by omega)
        obtain ⟨V1, hV1⟩ : ∃ V, crc (l.take n'') = V := ⟨_, rfl⟩
        obtain ⟨V2, hV2⟩ : ∃ V, crc (l'.take n'') = V := ⟨_, rfl⟩
        obtain ⟨V3, hV3⟩ : ∃ V, crc (l''.take n'') = V := ⟨_, rfl⟩
        have z1 := crc_lt (l.take n'')
        have z2 := crc_lt (l'.take n'')
        have z3 := crc_lt (l''.take n'')
        rw [hV1] at HEV z1
        rw [hV2] at HEV z2
        rw [hV3] at HEV z3
        have x1 := xor_walk V1 V2 z1 z2
        have x2 := xor_walk (V1 ^^^ V2) V3 (Nat.xor_lt_two_pow z1 z2) z3
        have HV1 := Lib.hid hV1
        have HV2 := Lib.hid hV2
        have HV3 := Lib.hid hV3
        clear hV1 hV2 hV3 z1 z2 z3
        go_enter Try.func8, Try.ntmps8
        go_wp2_with fail
        refine (live_ok w).mono ?_
        rintro e w1 ⟨rfl, b1⟩
        go_wp2_with fail
        go_loopw [9, 10] (fun x i wr => ∃ (j : Nat) (Ax : Option Addr) (cx : Nat), j ≤ n'' ∧ i = .int .i64 (j : Int) ∧ x = .slice Ax j cx ∧ Own wr w.heap.size Ax j cx (X.take j) ∧ Below w.heap.size w wr) (fun _ i _ => n'' - (intOf i).toNat)
        case atStart => exact ⟨0, none, 0, by omega, rfl, rfl, by rw [List.take_zero]; exact Ob.nil _ _ _, b1⟩
        case round =>
          obtain ⟨j, Ax, cx, hj, rfl, rfl, hox, bx⟩ := hrel
          by_cases hlt : j < n''
          · have hj1 : j < n := by omega
            have hj2 : j < n' := by omega
            have hj3 : j < n'' := by omega
            have hnx := HNEXT.out j (by omega) (by omega) (by omega) hlt
            obtain ⟨ab, aoff, rfl, ha, hca⟩ := h.cells (by omega)
            obtain ⟨bb, boff, rfl, hb, hcb⟩ := h'.cells (by omega)
            obtain ⟨cb, coff, rfl, hcc, hccc⟩ := h''.cells (by omega)
            have hca1 := hca j hj1
            have hcb1 := hcb j hj2
            have hcc1 := hccc j hj3
            generalize l.getD j 0 = ya at *
            generalize l'.getD j 0 = yb at *
            generalize l''.getD j 0 = yc at *
            have HS : Hid (∀ w', Below w.heap.size w w' → w'.cell? ⟨ab, aoff + j, none⟩ = some (.int .u8 (ya.toNat : Int)) ∧ w'.cell? ⟨bb, boff + j, none⟩ = some (.int .u8 (yb.toNat : Int)) ∧ w'.cell? ⟨cb, coff + j, none⟩ = some (.int .u8 (yc.toNat : Int))) :=
              fun w' b => ⟨(b.cell (p := ⟨ab, aoff + j, none⟩) ha).trans hca1, (b.cell (p := ⟨bb, boff + j, none⟩) hb).trans hcb1, (b.cell (p := ⟨cb, coff + j, none⟩) hcc).trans hcc1⟩
            obtain ⟨T, hT⟩ : ∃ T : Int, (((ya ^^^ yb).toNat : Nat) : Int) = T := ⟨_, rfl⟩
            obtain ⟨U, hU⟩ : ∃ U : Int, (((ya ^^^ yb ^^^ yc).toNat : Nat) : Int) = U := ⟨_, rfl⟩
            have e1 := xor8 ya yb
            have e2 := xor8 (ya ^^^ yb) yc
            rw [hT] at e1 e2
            rw [hU] at e2
            have hlit := Rd.lit wr.drew 5 [.int .u8 U] [ya ^^^ yb ^^^ yc] (by rw [← hU]; rfl) (by simp)
            clear hT hU
            have g1 : IntKind.i64.wrap ((j : Int) + 1) = (j : Int) + 1 := IntWalk.i64_in _ (by omega)
            obtain ⟨A3, c3, w3, k4, ho3, hg3⟩ := run_app (P := Try.prog) (w := wr.drew.alloc (.cells #[.int .u8 U] 5)) (t := 22) (ty := 22) Try.underlying22 byteInfo (hox.drew.alloc _) hlit (by simp; omega) (bput bx.drew _).size
            have b3 := (bput bx.drew (.cells #[.int .u8 U] 5)).trans (below_of_own (hox.drew.alloc _) (bput bx.drew _).size hg3)
            rw [List.length_singleton, hnx] at ho3
            rw [List.length_singleton] at k4
            have K4 := Lib.hid k4
            clear hca hcb hccc ha hb hcc hg3 hnx k4 hlit hca1 hcb1 hcc1
            go_wp2_with fail
            go_region_held3 (fun w' => w'.cell? ⟨ab, aoff + j, none⟩ = some (.int .u8 (ya.toNat : Int)) ∧ w'.cell? ⟨bb, boff + j, none⟩ = some (.int .u8 (yb.toNat : Int)) ∧ w'.cell? ⟨cb, coff + j, none⟩ = some (.int .u8 (yc.toNat : Int))) (first | exact HS.out _ bx.drew | exact HS.out _ (bput bx.drew _) | exact HS.out _ b3) (first
              | (refine wpH_append (.tmp 29) (.tmp 44) 22 rfl rfl rfl rfl K4.out ?_))
            go_wp2
            go_roundw
            case rel => exact ⟨j + 1, A3, c3, by omega, by go_num, rfl, ho3, b3⟩
            case measure => simp [intOf]; omega
          · have hjN : j = n'' := by omega
            subst hjN
            rw [HALL.out] at hox
            go_wp2_with fail
            go_region_held3 (fun w' => Below w.heap.size w w') (first | exact bx.drew | exact b4 | exact b5 | exact b6 | exact b7) (first
              | (go_at_call 13; (with_reducible refine (sum_is hox.drew.rd (Nat.le_refl _) (congrArg Int.ofNat HEV.out)).mono ?_); rintro e w4 ⟨rfl, hb4⟩; have b4 := bthen bx.drew hb4)
              | (go_at_call 13; (with_reducible refine (sum_is (r1.below b4) b4.size (congrArg Int.ofNat HV1.out)).mono ?_); rintro e w5 ⟨rfl, hb5⟩; have b5 := bthen b4 hb5)
              | (go_at_call 13; (with_reducible refine (sum_is (r2.below b5) b5.size (congrArg Int.ofNat HV2.out)).mono ?_); rintro e w6 ⟨rfl, hb6⟩; have b6 := bthen b5 hb6)
              | (go_at_call 13; (with_reducible refine (sum_is (r3.below b6) b6.size (congrArg Int.ofNat HV3.out)).mono ?_); rintro e w7 ⟨rfl, hb7⟩; have b7 := bthen b6 hb7))
            go_wp2
            go_ret
            exact ⟨rfl, b7⟩
      · have t1 : decide ((2000 : Int) < (n'' : Int)) = true := by simp only [decide_eq_true_eq]; omega
        go_enter Try.func8, Try.ntmps8
        go_wp2_with fail
        refine (live_ok w).mono ?_
        rintro e w1 ⟨rfl, b1⟩
        go_wp2
        go_ret
        exact ⟨rfl, b1⟩
    · by_cases hN : n' ≤ 2000
      · have t1 : decide ((2000 : Int) < (n' : Int)) = false := by simp only [decide_eq_false_iff_not]; omega
        have HNEXT := Lib.hid (tri_next l l' l'' n')
        have HALL := Lib.hid (tri_all l l' l'' n' (by omega) (by omega) (by omega))
        have hev := crc_even (l.take n') (l'.take n') (l''.take n') n' (by rw [List.length_take]; omega) (by rw [List.length_take]; omega) (by rw [List.length_take]; omega)
        have HEV : Hid (crc (tri (l.take n') (l'.take n') (l''.take n')) = crc (l.take n') ^^^ crc (l'.take n') ^^^ crc (l''.take n')) := hev
        clear hev
        obtain ⟨X, hX⟩ : ∃ X, tri (l.take n') (l'.take n') (l''.take n') = X := ⟨_, rfl⟩
        rw [hX] at HNEXT HALL HEV
        clear hX
        obtain ⟨B1, u1, r1⟩ := run_upto (P := Try.prog) (t := 22) Try.underlying22 byteInfo h n' (by omega)
        obtain ⟨B2, u2, r2⟩ := run_upto (P := Try.prog) (t := 22) Try.underlying22 byteInfo h' n' (by omega)
        obtain ⟨B3, u3, r3⟩ := run_upto (P := Try.prog) (t := 22) Try.underlying22 byteInfo h'' n' (by omega)
        obtain ⟨V1, hV1⟩ : ∃ V, crc (l.take n') = V := ⟨_, rfl⟩
        obtain ⟨V2, hV2⟩ : ∃ V, crc (l'.take n') = V := ⟨_, rfl⟩
        obtain ⟨V3, hV3⟩ : ∃ V, crc (l''.take n') = V := ⟨_, rfl⟩
        have z1 := crc_lt (l.take n')
        have z2 := crc_lt (l'.take n')
        have z3 := crc_lt (l''.take n')
        rw [hV1] at HEV z1
        rw [hV2] at HEV z2
        rw [hV3] at HEV z3
        have x1 := xor_walk V1 V2 z1 z2
        have x2 := xor_walk (V1 ^^^ V2) V3 (Nat.xor_lt_two_pow z1 z2) z3
        have HV1 := Lib.hid hV1
        have HV2 := Lib.hid hV2
        have HV3 := Lib.hid hV3
        clear hV1 hV2 hV3 z1 z2 z3
        go_enter Try.func8, Try.ntmps8
        go_wp2_with fail
        refine (live_ok w).mono ?_
        rintro e w1 ⟨rfl, b1⟩
        go_wp2_with fail
        go_loopw [9, 10] (fun x i wr => ∃ (j : Nat) (Ax : Option Addr) (cx : Nat), j ≤ n' ∧ i = .int .i64 (j : Int) ∧ x = .slice Ax j cx ∧ Own wr w.heap.size Ax j cx (X.take j) ∧ Below w.heap.size w wr) (fun _ i _ => n' - (intOf i).toNat)
        case atStart => exact ⟨0, none, 0, by omega, rfl, rfl, by rw [List.take_zero]; exact Ob.nil _ _ _, b1⟩
        case round =>
          obtain ⟨j, Ax, cx, hj, rfl, rfl, hox, bx⟩ := hrel
          by_cases hlt : j < n'
          · have hj1 : j < n := by omega
            have hj2 : j < n' := by omega
            have hj3 : j < n'' := by omega
            have hnx := HNEXT.out j (by omega) (by omega) (by omega) hlt
            obtain ⟨ab, aoff, rfl, ha, hca⟩ := h.cells (by omega)
            obtain ⟨bb, boff, rfl, hb, hcb⟩ := h'.cells (by omega)
            obtain ⟨cb, coff, rfl, hcc, hccc⟩ := h''.cells (by omega)
            have hca1 := hca j hj1
            have hcb1 := hcb j hj2
            have hcc1 := hccc j hj3
            generalize l.getD j 0 = ya at *
            generalize l'.getD j 0 = yb at *
            generalize l''.getD j 0 = yc at *
            have HS : Hid (∀ w', Below w.heap.size w w' → w'.cell? ⟨ab, aoff + j, none⟩ = some (.int .u8 (ya.toNat : Int)) ∧ w'.cell? ⟨bb, boff + j, none⟩ = some (.int .u8 (yb.toNat : Int)) ∧ w'.cell? ⟨cb, coff + j, none⟩ = some (.int .u8 (yc.toNat : Int))) :=
              fun w' b => ⟨(b.cell (p := ⟨ab, aoff + j, none⟩) ha).trans hca1, (b.cell (p := ⟨bb, boff + j, none⟩) hb).trans hcb1, (b.cell (p := ⟨cb, coff + j, none⟩) hcc).trans hcc1⟩
            obtain ⟨T, hT⟩ : ∃ T : Int, (((ya ^^^ yb).toNat : Nat) : Int) = T := ⟨_, rfl⟩
            obtain ⟨U, hU⟩ : ∃ U : Int, (((ya ^^^ yb ^^^ yc).toNat : Nat) : Int) = U := ⟨_, rfl⟩
            have e1 := xor8 ya yb
            have e2 := xor8 (ya ^^^ yb) yc
            rw [hT] at e1 e2
            rw [hU] at e2
            have hlit := Rd.lit wr.drew 5 [.int .u8 U] [ya ^^^ yb ^^^ yc] (by rw [← hU]; rfl) (by simp)
            clear hT hU
            have g1 : IntKind.i64.wrap ((j : Int) + 1) = (j : Int) + 1 := IntWalk.i64_in _ (by omega)
            obtain ⟨A3, c3, w3, k4, ho3, hg3⟩ := run_app (P := Try.prog) (w := wr.drew.alloc (.cells #[.int .u8 U] 5)) (t := 22) (ty := 22) Try.underlying22 byteInfo (hox.drew.alloc _) hlit (by simp; omega) (bput bx.drew _).size
            have b3 := (bput bx.drew (.cells #[.int .u8 U] 5)).trans (below_of_own (hox.drew.alloc _) (bput bx.drew _).size hg3)
            rw [List.length_singleton, hnx] at ho3
            rw [List.length_singleton] at k4
            have K4 := Lib.hid k4
            clear hca hcb hccc ha hb hcc hg3 hnx k4 hlit hca1 hcb1 hcc1
            go_wp2_with fail
            go_region_held3 (fun w' => w'.cell? ⟨ab, aoff + j, none⟩ = some (.int .u8 (ya.toNat : Int)) ∧ w'.cell? ⟨bb, boff + j, none⟩ = some (.int .u8 (yb.toNat : Int)) ∧ w'.cell? ⟨cb, coff + j, none⟩ = some (.int .u8 (yc.toNat : Int))) (first | exact HS.out _ bx.drew | exact HS.out _ (bput bx.drew _) | exact HS.out _ b3) (first
              | (refine wpH_append (.tmp 29) (.tmp 44) 22 rfl rfl rfl rfl K4.out ?_))
            go_wp2
            go_roundw
            case rel => exact ⟨j + 1, A3, c3, by omega, by go_num, rfl, ho3, b3⟩
            case measure => simp [intOf]; omega
          · have hjN : j = n' := by omega
            subst hjN
            rw [HALL.out] at hox
            go_wp2_with fail
            go_region_held3 (fun w' => Below w.heap.size w w') (first | exact bx.drew | exact b4 | exact b5 | exact b6 | exact b7) (first
              | (go_at_call 13; (with_reducible refine (sum_is hox.drew.rd (Nat.le_refl _) (congrArg Int.ofNat HEV.out)).mono ?_); rintro e w4 ⟨rfl, hb4⟩; have b4 := bthen bx.drew hb4)
              | (go_at_call 13; (with_reducible refine (sum_is (r1.below b4) b4.size (congrArg Int.ofNat HV1.out)).mono ?_); rintro e w5 ⟨rfl, hb5⟩; have b5 := bthen b4 hb5)
              | (go_at_call 13; (with_reducible refine (sum_is (r2.below b5) b5.size (congrArg Int.ofNat HV2.out)).mono ?_); rintro e w6 ⟨rfl, hb6⟩; have b6 := bthen b5 hb6)
              | (go_at_call 13; (with_reducible refine (sum_is (r3.below b6) b6.size (congrArg Int.ofNat HV3.out)).mono ?_); rintro e w7 ⟨rfl, hb7⟩; have b7 := bthen b6 hb7))
            go_wp2
            go_ret
            exact ⟨rfl, b7⟩
      · have t1 : decide ((2000 : Int) < (n' : Int)) = true := by simp only [decide_eq_true_eq]; omega
        go_enter Try.func8, Try.ntmps8
        go_wp2_with fail
        refine (live_ok w).mono ?_
        rintro e w1 ⟨rfl, b1⟩
        go_wp2
        go_ret
        exact ⟨rfl, b1⟩
  · by_cases p2 : n'' < n
    · by_cases hN : n'' ≤ 2000
      · have t1 : decide ((2000 : Int) < (n'' : Int)) = false := by simp only [decide_eq_false_iff_not]; omega
        have HNEXT := Lib.hid (tri_next l l' l'' n'')
        have HALL := Lib.hid (tri_all l l' l'' n'' (by omega) (by omega) (by omega))
        have hev := crc_even (l.take n'') (l'.take n'') (l''.take n'') n'' (by rw [List.length_take]; omega) (by rw [List.length_take]; omega) (by rw [List.length_take]; omega)
        have HEV : Hid (crc (tri (l.take n'') (l'.take n'') (l''.take n'')) = crc (l.take n'') ^^^ crc (l'.take n'') ^^^ crc (l''.take n'')) := hev
        clear hev
        obtain ⟨X, hX⟩ : ∃ X, tri (l.take n'') (l'.take n'') (l''.take n'') = X := ⟨_, rfl⟩
        rw [hX] at HNEXT HALL HEV
        clear hX
        obtain ⟨B1, u1, r1⟩ := run_upto (P := Try.prog) (t := 22) Try.underlying22 byteInfo h n'' (by omega)
        obtain ⟨B2, u2, r2⟩ := run_upto (P := Try.prog) (t := 22) Try.underlying22 byteInfo h' n'' (by omega)
        obtain ⟨B3, u3, r3⟩ := run_upto (P := Try.prog) (t := 22) Try.underlying22 byteInfo h'' n'' (by omega)
        obtain ⟨V1, hV1⟩ : ∃ V, crc (l.take n'') = V := ⟨_, rfl⟩
        obtain ⟨V2, hV2⟩ : ∃ V, crc (l'.take n'') = V := ⟨_, rfl⟩
        obtain ⟨V3, hV3⟩ : ∃ V, crc (l''.take n'') = V := ⟨_, rfl⟩
        have z1 := crc_lt (l.take n'')
        have z2 := crc_lt (l'.take n'')
        have z3 := crc_lt (l''.take n'')
        rw [hV1] at HEV z1
        rw [hV2] at HEV z2
        rw [hV3] at HEV z3
        have x1 := xor_walk V1 V2 z1 z2
        have x2 := xor_walk (V1 ^^^ V2) V3 (Nat.xor_lt_two_pow z1 z2) z3
        have HV1 := Lib.hid hV1
        have HV2 := Lib.hid hV2
        have HV3 := Lib.hid hV3
        clear hV1 hV2 hV3 z1 z2 z3
        go_enter Try.func8, Try.ntmps8
        go_wp2_with fail
        refine (live_ok w).mono ?_
        rintro e w1 ⟨rfl, b1⟩
        go_wp2_with fail
        go_loopw [9, 10] (fun x i wr => ∃ (j : Nat) (Ax : Option Addr) (cx : Nat), j ≤ n'' ∧ i = .int .i64 (j : Int) ∧ x = .slice Ax j cx ∧ Own wr w.heap.size Ax j cx (X.take j) ∧ Below w.heap.size w wr) (fun _ i _ => n'' - (intOf i).toNat)
        case atStart => exact ⟨0, none, 0, by omega, rfl, rfl, by rw [List.take_zero]; exact Ob.nil _ _ _, b1⟩
        case round =>
          obtain ⟨j, Ax, cx, hj, rfl, rfl, hox, bx⟩ := hrel
          by_cases hlt : j < n''
          · have hj1 : j < n := by omega
            have hj2 : j < n' := by omega
            have hj3 : j < n'' := by omega
            have hnx := HNEXT.out j (by omega) (by omega) (by omega) hlt
            obtain ⟨ab, aoff, rfl, ha, hca⟩ := h.cells (by omega)
            obtain ⟨bb, boff, rfl, hb, hcb⟩ := h'.cells (by omega)
            obtain ⟨cb, coff, rfl, hcc, hccc⟩ := h''.cells (by omega)
            have hca1 := hca j hj1
            have hcb1 := hcb j hj2
            have hcc1 := hccc j hj3
            generalize l.getD j 0 = ya at *
            generalize l'.getD j 0 = yb at *
            generalize l''.getD j 0 = yc at *
            have HS : Hid (∀ w', Below w.heap.size w w' → w'.cell? ⟨ab, aoff + j, none⟩ = some (.int .u8 (ya.toNat : Int)) ∧ w'.cell? ⟨bb, boff + j, none⟩ = some (.int .u8 (yb.toNat : Int)) ∧ w'.cell? ⟨cb, coff + j, none⟩ = some (.int .u8 (yc.toNat : Int))) :=
              fun w' b => ⟨(b.cell (p := ⟨ab, aoff + j, none⟩) ha).trans hca1, (b.cell (p := ⟨bb, boff + j, none⟩) hb).trans hcb1, (b.cell (p := ⟨cb, coff + j, none⟩) hcc).trans hcc1⟩
            obtain ⟨T, hT⟩ : ∃ T : Int, (((ya ^^^ yb).toNat : Nat) : Int) = T := ⟨_, rfl⟩
            obtain ⟨U, hU⟩ : ∃ U : Int, (((ya ^^^ yb ^^^ yc).toNat : Nat) : Int) = U := ⟨_, rfl⟩
            have e1 := xor8 ya yb
            have e2 := xor8 (ya ^^^ yb) yc
            rw [hT] at e1 e2
            rw [hU] at e2
            have hlit := Rd.lit wr.drew 5 [.int .u8 U] [ya ^^^ yb ^^^ yc] (by rw [← hU]; rfl) (by simp)
            clear hT hU
            have g1 : IntKind.i64.wrap ((j : Int) + 1) = (j : Int) + 1 := IntWalk.i64_in _ (by omega)
            obtain ⟨A3, c3, w3, k4, ho3, hg3⟩ := run_app (P := Try.prog) (w := wr.drew.alloc (.cells #[.int .u8 U] 5)) (t := 22) (ty := 22) Try.underlying22 byteInfo (hox.drew.alloc _) hlit (by simp; omega) (bput bx.drew _).size
            have b3 := (bput bx.drew (.cells #[.int .u8 U] 5)).trans (below_of_own (hox.drew.alloc _) (bput bx.drew _).size hg3)
            rw [List.length_singleton, hnx] at ho3
            rw [List.length_singleton] at k4
            have K4 := Lib.hid k4
            clear hca hcb hccc ha hb hcc hg3 hnx k4 hlit hca1 hcb1 hcc1
            go_wp2_with fail
            go_region_held3 (fun w' => w'.cell? ⟨ab, aoff + j, none⟩ = some (.int .u8 (ya.toNat : Int)) ∧ w'.cell? ⟨bb, boff + j, none⟩ = some (.int .u8 (yb.toNat : Int)) ∧ w'.cell? ⟨cb, coff + j, none⟩ = some (.int .u8 (yc.toNat : Int))) (first | exact HS.out _ bx.drew | exact HS.out _ (bput bx.drew _) | exact HS.out _ b3) (first
              | (refine wpH_append (.tmp 29) (.tmp 44) 22 rfl rfl rfl rfl K4.out ?_))
            go_wp2
            go_roundw
            case rel => exact ⟨j + 1, A3, c3, by omega, by go_num, rfl, ho3, b3⟩
            case measure => simp [intOf]; omega
          · have hjN : j = n'' := by omega
            subst hjN
            rw [HALL.out] at hox
            go_wp2_with fail
            go_region_held3 (fun w' => Below w.heap.size w w') (first | exact bx.drew | exact b4 | exact b5 | exact b6 | exact b7) (first
              | (go_at_call 13; (with_reducible refine (sum_is hox.drew.rd (Nat.le_refl _) (congrArg Int.ofNat HEV.out)).mono ?_); rintro e w4 ⟨rfl, hb4⟩; have b4 := bthen bx.drew hb4)
              | (go_at_call 13; (with_reducible refine (sum_is (r1.below b4) b4.size (congrArg Int.ofNat HV1.out)).mono ?_); rintro e w5 ⟨rfl, hb5⟩; have b5 := bthen b4 hb5)
              | (go_at_call 13; (with_reducible refine (sum_is (r2.below b5) b5.size (congrArg Int.ofNat HV2.out)).mono ?_); rintro e w6 ⟨rfl, hb6⟩; have b6 := bthen b5 hb6)
              | (go_at_call 13; (with_reducible refine (sum_is (r3.below b6) b6.size (congrArg Int.ofNat HV3.out)).mono ?_); rintro e w7 ⟨rfl, hb7⟩; have b7 := bthen b6 hb7))
            go_wp2
            go_ret
            exact ⟨rfl, b7⟩
      · have t1 : decide ((2000 : Int) < (n'' : Int)) = true := by simp only [decide_eq_true_eq]; omega
        go_enter Try.func8, Try.ntmps8
        go_wp2_with fail
        refine (live_ok w).mono ?_
        rintro e w1 ⟨rfl, b1⟩
        go_wp2
        go_ret
        exact ⟨rfl, b1⟩
    · by_cases hN : n ≤ 2000
      · have t1 : decide ((2000 : Int) < (n : Int)) = false := by simp only [decide_eq_false_iff_not]; omega
        have HNEXT := Lib.hid (tri_next l l' l'' n)
        have HALL := Lib.hid (tri_all l l' l'' n (by omega) (by omega) (by omega))
        have hev := crc_even (l.take n) (l'.take n) (l''.take n) n (by rw [List.length_take]; omega) (by rw [List.length_take]; omega) (by rw [List.length_take]; omega)
        have HEV : Hid (crc (tri (l.take n) (l'.take n) (l''.take n)) = crc (l.take n) ^^^ crc (l'.take n) ^^^ crc (l''.take n)) := hev
        clear hev
        obtain ⟨X, hX⟩ : ∃ X, tri (l.take n) (l'.take n) (l''.take n) = X := ⟨_, rfl⟩
        rw [hX] at HNEXT HALL HEV
        clear hX
        obtain ⟨B1, u1, r1⟩ := run_upto (P := Try.prog) (t := 22) Try.underlying22 byteInfo h n (by omega)
        obtain ⟨B2, u2, r2⟩ := run_upto (P := Try.prog) (t := 22) Try.underlying22 byteInfo h' n (by omega)
        obtain ⟨B3, u3, r3⟩ := run_upto (P := Try.prog) (t := 22) Try.underlying22 byteInfo h'' n (by omega)
        obtain ⟨V1, hV1⟩ : ∃ V, crc (l.take n) = V := ⟨_, rfl⟩
        obtain ⟨V2, hV2⟩ : ∃ V, crc (l'.take n) = V := ⟨_, rfl⟩
        obtain ⟨V3, hV3⟩ : ∃ V, crc (l''.take n) = V := ⟨_, rfl⟩
        have z1 := crc_lt (l.take n)
        have z2 := crc_lt (l'.take n)
        have z3 := crc_lt (l''.take n)
        rw [hV1] at HEV z1
        rw [hV2] at HEV z2
        rw [hV3] at HEV z3
        have x1 := xor_walk V1 V2 z1 z2
        have x2 := xor_walk (V1 ^^^ V2) V3 (Nat.xor_lt_two_pow z1 z2) z3
        have HV1 := Lib.hid hV1
        have HV2 := Lib.hid hV2
        have HV3 := Lib.hid hV3
        clear hV1 hV2 hV3 z1 z2 z3
        go_enter Try.func8, Try.ntmps8
        go_wp2_with fail
        refine (live_ok w).mono ?_
        rintro e w1 ⟨rfl, b1⟩
        go_wp2_with fail
        go_loopw [9, 10] (fun x i wr => ∃ (j : Nat) (Ax : Option Addr) (cx : Nat), j ≤ n ∧ i = .int .i64 (j : Int) ∧ x = .slice Ax j cx ∧ Own wr w.heap.size Ax j cx (X.take j) ∧ Below w.heap.size w wr) (fun _ i _ => n - (intOf i).toNat)
        case atStart => exact ⟨0, none, 0, by omega, rfl, rfl, by rw [List.take_zero]; exact Ob.nil _ _ _, b1⟩
        case round =>
          obtain ⟨j, Ax, cx, hj, rfl, rfl, hox, bx⟩ := hrel
          by_cases hlt : j < n
          · have hj1 : j < n := by omega
            have hj2 : j < n' := by omega
            have hj3 : j < n'' := by omega
            have hnx := HNEXT.out j (by omega) (by omega) (by omega) hlt
            obtain ⟨ab, aoff, rfl, ha, hca⟩ := h.cells (by omega)
            obtain ⟨bb, boff, rfl, hb, hcb⟩ := h'.cells (by omega)
            obtain ⟨cb, coff, rfl, hcc, hccc⟩ := h''.cells (by omega)
            have hca1 := hca j hj1
            have hcb1 := hcb j hj2
            have hcc1 := hccc j hj3
            generalize l.getD j 0 = ya at *
            generalize l'.getD j 0 = yb at *
            generalize l''.getD j 0 = yc at *
            have HS : Hid (∀ w', Below w.heap.size w w' → w'.cell? ⟨ab, aoff + j, none⟩ = some (.int .u8 (ya.toNat : Int)) ∧ w'.cell? ⟨bb, boff + j, none⟩ = some (.int .u8 (yb.toNat : Int)) ∧ w'.cell? ⟨cb, coff + j, none⟩ = some (.int .u8 (yc.toNat : Int))) :=
              fun w' b => ⟨(b.cell (p := ⟨ab, aoff + j, none⟩) ha).trans hca1, (b.cell (p := ⟨bb, boff + j, none⟩) hb).trans hcb1, (b.cell (p := ⟨cb, coff + j, none⟩) hcc).trans hcc1⟩
            obtain ⟨T, hT⟩ : ∃ T : Int, (((ya ^^^ yb).toNat : Nat) : Int) = T := ⟨_, rfl⟩
            obtain ⟨U, hU⟩ : ∃ U : Int, (((ya ^^^ yb ^^^ yc).toNat : Nat) : Int) = U := ⟨_, rfl⟩
            have e1 := xor8 ya yb
            have e2 := xor8 (ya ^^^ yb) yc
            rw [hT] at e1 e2
            rw [hU] at e2
            have hlit := Rd.lit wr.drew 5 [.int .u8 U] [ya ^^^ yb ^^^ yc] (by rw [← hU]; rfl) (by simp)
            clear hT hU
            have g1 : IntKind.i64.wrap ((j : Int) + 1) = (j : Int) + 1 := IntWalk.i64_in _ (by omega)
            obtain ⟨A3, c3, w3, k4, ho3, hg3⟩ := run_app (P := Try.prog) (w := wr.drew.alloc (.cells #[.int .u8 U] 5)) (t := 22) (ty := 22) Try.underlying22 byteInfo (hox.drew.alloc _) hlit (by simp; omega) (bput bx.drew _).size
            have b3 := (bput bx.drew (.cells #[.int .u8 U] 5)).trans (below_of_own (hox.drew.alloc _) (bput bx.drew _).size hg3)
            rw [List.length_singleton, hnx] at ho3
            rw [List.length_singleton] at k4
            have K4 := Lib.hid k4
            clear hca hcb hccc ha hb hcc hg3 hnx k4 hlit hca1 hcb1 hcc1
            go_wp2_with fail
            go_region_held3 (fun w' => w'.cell? ⟨ab, aoff + j, none⟩ = some (.int .u8 (ya.toNat : Int)) ∧ w'.cell? ⟨bb, boff + j, none⟩ = some (.int .u8 (yb.toNat : Int)) ∧ w'.cell? ⟨cb, coff + j, none⟩ = some (.int .u8 (yc.toNat : Int))) (first | exact HS.out _ bx.drew | exact HS.out _ (bput bx.drew _) | exact HS.out _ b3) (first
              | (refine wpH_append (.tmp 29) (.tmp 44) 22 rfl rfl rfl rfl K4.out ?_))
            go_wp2
            go_roundw
            case rel => exact ⟨j + 1, A3, c3, by omega, by go_num, rfl, ho3, b3⟩
            case measure => simp [intOf]; omega
          · have hjN : j = n := by omega
            subst hjN
            rw [HALL.out] at hox
            go_wp2_with fail
            go_region_held3 (fun w' => Below w.heap.size w w') (first | exact bx.drew | exact b4 | exact b5 | exact b6 | exact b7) (first
              | (go_at_call 13; (with_reducible refine (sum_is hox.drew.rd (Nat.le_refl _) (congrArg Int.ofNat HEV.out)).mono ?_); rintro e w4 ⟨rfl, hb4⟩; have b4 := bthen bx.drew hb4)
              | (go_at_call 13; (with_reducible refine (sum_is (r1.below b4) b4.size (congrArg Int.ofNat HV1.out)).mono ?_); rintro e w5 ⟨rfl, hb5⟩; have b5 := bthen b4 hb5)
              | (go_at_call 13; (with_reducible refine (sum_is (r2.below b5) b5.size (congrArg Int.ofNat HV2.out)).mono ?_); rintro e w6 ⟨rfl, hb6⟩; have b6 := bthen b5 hb6)
              | (go_at_call 13; (with_reducible refine (sum_is (r3.below b6) b6.size (congrArg Int.ofNat HV3.out)).mono ?_); rintro e w7 ⟨rfl, hb7⟩; have b7 := bthen b6 hb7))
            go_wp2
            go_ret
            exact ⟨rfl, b7⟩
      · have t1 : decide ((2000 : Int) < (n : Int)) = true := by simp only [decide_eq_true_eq]; omega
        go_enter Try.func8, Try.ntmps8
        go_wp2_with fail
        refine (live_ok w).mono ?_
        rintro e w1 ⟨rfl, b1⟩
        go_wp2
        go_ret
        exact ⟨rfl, b1⟩
end Go.Proofs.Ytcnljifbifidbaa
