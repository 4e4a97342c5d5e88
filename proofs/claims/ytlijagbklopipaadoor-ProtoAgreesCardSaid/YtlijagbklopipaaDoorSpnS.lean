/-
  Contract of the document's Agree. Conditions: those that each states.
-/
import Derived.Deep.DeepCutAuto
import Derived.Test.YtlijagbklopipaaDoorSpnR
import Derived.Test.YtlijagbklopipaaDoorProRT
namespace Go.Proofs.YtlijagbklopipaaDoor
open Go.RowKit
set_option linter.unusedVariables false

set_option maxHeartbeats 2000000 in
theorem r_agree_bad {w : World} {A : Option Addr} {n c : Nat} {l : List Sp} (h : Rp w w.heap.size A n c l) {A' : Option Addr} {n' c' : Nat} {l' : List Sp} (h' : Rp w w.heap.size A' n' c' l') (hr : (!rightL l || !rightL l') = true) :
    Calls Tryd.prog 28 #[.slice A n c, .slice A' n' c'] w (Agrees w ([], 1)) := by
  have HC := Lib.hid (r_right_ok h (Nat.le_refl _))
  have HC' := Lib.hid (fun w' hb => r_right_ok (h'.below hb) (w := w') hb.size)
  clear h h'
  generalize rightL l = a at *
  generalize rightL l' = b at *
  cases a with
  | false =>
    clear hr
    go_enter Tryd.func28, Tryd.ntmps28
    go_wp2_with fail
    refine HC.out.mono ?_
    rintro e w1 ⟨rfl, hb1⟩
    have HB := Lib.hid hb1
    clear hb1
    go_wp2
    go_ret2
    exact ⟨none, 0, 0, rfl, Osp.nil _ _ _, HB.out⟩
  | true =>
    cases b with
    | true => simp at hr
    | false =>
      clear hr
      go_enter Tryd.func28, Tryd.ntmps28
      go_wp2_with fail
      refine HC.out.mono ?_
      rintro e w1 ⟨rfl, hb1⟩
      go_wp2_with fail
      refine (HC'.out w1 hb1).mono ?_
      rintro e w2 ⟨rfl, hb2⟩
      have HB := Lib.hid (bthen hb1 hb2)
      clear hb1 hb2
      go_wp2
      go_ret2
      exact ⟨none, 0, 0, rfl, Osp.nil _ _ _, HB.out⟩

/-- One block more, with three cells. -/
def Mk3 (w w' : World) (a b c : Int) : Prop := w'.heap[w.heap.size]? = some (.cells #[.int .i64 a, .int .i64 b, .int .i64 c] 54 (0, 0)) ∧ Below w.heap.size w w'

set_option maxRecDepth 100000 in
set_option maxHeartbeats 8000000 in
theorem r_agree_main {w : World} {A : Option Addr} {n c : Nat} {l : List Sp} (h : Rp w w.heap.size A n c l) {A' : Option Addr} {n' c' : Nat} {l' : List Sp} (h' : Rp w w.heap.size A' n' c' l') (hn : n ≤ 300) (hn' : n' ≤ 300) (hr : rightL l = true) (hr' : rightL l' = true) :
    Calls Tryd.prog 28 #[.slice A n c, .slice A' n' c'] w (Agrees w (nest [] l l')) := by
  have HC := Lib.hid (fun w' hb => r_right_ok (h.below hb) (w := w') hb.size)
  have HC' := Lib.hid (fun w' hb => r_right_ok (h'.below hb) (w := w') hb.size)
  rw [hr] at HC
  rw [hr'] at HC'
  have hlen := h.len
  have hlen' := h'.len
  have m1 := h.cap
  have m2 := h.top
  have m3 := h'.cap
  have m4 := h'.top
  obtain ⟨V, hV⟩ : ∃ V, nest [] l l' = V := ⟨_, rfl⟩
  rw [hV]
  have HV := Lib.hid hV
  have HR := Lib.hid h
  have HR' := Lib.hid h'
  have HL := Lib.hid hlen
  have HL' := Lib.hid hlen'
  have HN := Lib.hid hn
  have HN' := Lib.hid hn'
  clear hV h h' hr hr' hlen hlen'
  go_enter Tryd.func28, Tryd.ntmps28
  go_wp2_with fail
  refine (HC.out w (Below.refl _ _)).mono ?_
  rintro e w1 ⟨rfl, hb1⟩
  go_wp2_with fail
  refine (HC'.out w1 hb1).mono ?_
  rintro e w2 ⟨rfl, hb2⟩
  have B2 := Lib.hid (bthen hb1 hb2)
  clear hb1 hb2 HC HC'
  go_wp2_with fail
  go_loopw [6, 7] (fun s6 s7 wr => ∃ (i : Nat) (o : List Sp) (Ao : Option Addr) (no co : Nat), i ≤ n ∧ s7 = .int .i64 i ∧ s6 = .slice Ao no co ∧ Hid (nest o (l.drop i) l' = V ∧ o.length ≤ i * 300 ∧ Osp 54 wr w.heap.size Ao no co o ∧ Below w.heap.size w wr)) (fun _ s7 _ => n - (intOf s7).toNat)
  case atStart => exact ⟨0, [], none, 0, 0, by omega, rfl, rfl, Lib.hid ⟨HV.out, Nat.zero_le _, Osp.nil _ _ _, B2.out⟩⟩
  case round =>
    obtain ⟨i, o, Ao, no, co, hi, rfl, rfl, HX⟩ := hrel
    clear HV B2
    by_cases hlt : i < n
    · obtain ⟨ba, oa, rfl, hba, hca⟩ := HR.out.cells (by omega)
      obtain ⟨a0, a1, a2⟩ := hca i hlt
      have hd := drop_sp (l := l) (j := i) (by rw [HL.out]; exact hlt)
      obtain ⟨a, hs⟩ : ∃ a, a = l.getD i ⟨0, 0, 0⟩ := ⟨_, rfl⟩
      rw [← hs] at a0 a1 a2 hd
      clear hs
      obtain ⟨ak, alo, ahi⟩ := a
      simp only at a0 a1 a2
      have HA : Hid (∀ w', Below w.heap.size w w' → w'.cell? ⟨ba, oa + i * 3, none⟩ = some (.int .i64 ak) ∧ w'.cell? ⟨ba, oa + i * 3 + 1, none⟩ = some (.int .i64 alo) ∧ w'.cell? ⟨ba, oa + i * 3 + 2, none⟩ = some (.int .i64 ahi)) := Lib.hid fun w' hw =>
        ⟨(hw.cell (p := ⟨ba, oa + i * 3, none⟩) hba).trans a0, (hw.cell (p := ⟨ba, oa + i * 3 + 1, none⟩) hba).trans a1, (hw.cell (p := ⟨ba, oa + i * 3 + 2, none⟩) hba).trans a2⟩
      obtain ⟨x1', x2', x3', x4'⟩ := HX.out
      rw [hd, nest_cons] at x1'
      have HI0 : Hid (nin o ⟨ak, alo, ahi⟩ (l'.drop 0) (l.drop (i + 1)) l' = V ∧ o.length ≤ i * 300 + 0 ∧ Osp 54 wr w.heap.size Ao no co o ∧ Below w.heap.size w wr) := Lib.hid ⟨by rw [List.drop_zero]; exact x1', by omega, x3', x4'⟩
      have i1 : (0 : Int) ≤ (i : Int) := by omega
      have i2 : (i : Int) < (n : Int) := by omega
      clear a0 a1 a2 hca hd x1' x2' x3' x4' HX hba
      go_wp2_with fail
      go_loopw [6, 8] (fun s6 s8 wr => ∃ (k : Nat) (o : List Sp) (Ao : Option Addr) (no co : Nat), k ≤ n' ∧ s8 = .int .i64 k ∧ s6 = .slice Ao no co ∧ Hid (nin o ⟨ak, alo, ahi⟩ (l'.drop k) (l.drop (i + 1)) l' = V ∧ o.length ≤ i * 300 + k ∧ Osp 54 wr w.heap.size Ao no co o ∧ Below w.heap.size w wr)) (fun _ s8 _ => n' - (intOf s8).toNat)
      case atStart => exact ⟨0, o, Ao, no, co, by omega, rfl, rfl, HI0⟩
      case round =>
        obtain ⟨k, o, Ao, no, co, hk, rfl, rfl, HX⟩ := hrel
        clear HI0
        by_cases hkt : k < n'
        · obtain ⟨bb, ob, rfl, hbb, hcb⟩ := HR'.out.cells (by omega)
          obtain ⟨b0, b1, b2⟩ := hcb k hkt
          have hd := drop_sp (l := l') (j := k) (by rw [HL'.out]; exact hkt)
          obtain ⟨b, hs⟩ : ∃ b, b = l'.getD k ⟨0, 0, 0⟩ := ⟨_, rfl⟩
          rw [← hs] at b0 b1 b2 hd
          clear hs
          obtain ⟨bk, blo, bhi⟩ := b
          simp only at b0 b1 b2
          have HB : Hid (∀ w', Below w.heap.size w w' → w'.cell? ⟨bb, ob + k * 3, none⟩ = some (.int .i64 bk) ∧ w'.cell? ⟨bb, ob + k * 3 + 1, none⟩ = some (.int .i64 blo) ∧ w'.cell? ⟨bb, ob + k * 3 + 2, none⟩ = some (.int .i64 bhi)) := Lib.hid fun w' hw =>
            ⟨(hw.cell (p := ⟨bb, ob + k * 3, none⟩) hbb).trans b0, (hw.cell (p := ⟨bb, ob + k * 3 + 1, none⟩) hbb).trans b1, (hw.cell (p := ⟨bb, ob + k * 3 + 2, none⟩) hbb).trans b2⟩
          obtain ⟨y1', y2', y3', y4'⟩ := HX.out
          rw [hd] at y1'
          have HY1 := Lib.hid y1'
          have HY2 := Lib.hid y2'
          have HY3 := Lib.hid y3'
          have HY4 := Lib.hid y4'
          have k1 : (0 : Int) ≤ (k : Int) := by omega
          have k2 : (k : Int) < (n' : Int) := by omega
          clear b0 b1 b2 hcb hd y1' y2' y3' y4' HX hbb
          obtain ⟨c0, c1, c2⟩ := HA.out _ HY4.out
          obtain ⟨d0, d1, d2⟩ := HB.out _ HY4.out
          by_cases hne : ak = bk
          case neg =>
            have t1 : (ak != bk) = true := by simpa using hne
            have HI : Hid (nin o ⟨ak, alo, ahi⟩ (l'.drop (k + 1)) (l.drop (i + 1)) l' = V ∧ o.length ≤ i * 300 + (k + 1)) := Lib.hid ⟨by have := HY1.out; rw [nin_ne (by exact hne)] at this; exact this, by have := HY2.out; omega⟩
            clear hne c1 c2 d1 d2
            go_wp2_with fail
            go_quiet (fail)
            go_wp2
            go_roundw
            case rel => exact ⟨k + 1, o, Ao, no, co, by omega, by go_num, rfl, Lib.hid ⟨HI.out.1, HI.out.2, HY3.out.step (bdrewN (Below.refl _ _) _), bdrewN HY4.out _⟩⟩
            case measure => simp only [intOf]; omega
          case pos =>
          have t1 : (ak != bk) = false := by simpa using hne
          obtain ⟨X, hX⟩ : ∃ X, max alo blo = X := ⟨_, rfl⟩
          obtain ⟨Y, hY⟩ : ∃ Y, min ahi bhi = Y := ⟨_, rfl⟩
          have HNE := Lib.hid hne
          have HXX := Lib.hid hX
          have HYY := Lib.hid hY
          clear hne hX hY
          go_upto_region 11 with (first | (go_quiet (fail)) | fail)
          obtain ⟨wd, hwd⟩ : ∃ W, W = wr.drewN nq := ⟨_, rfl⟩
          have HD := Lib.hid (show Below wr.heap.size wr wd by rw [hwd]; exact bdrewN (Below.refl _ _) _)
          rw [← hwd]
          clear hwd c0 c1 c2 d0 d1 d2
          have HB2 := Lib.hid (bthen HY4.out HD.out)
          have HO2 := Lib.hid (HY3.out.step HD.out)
          have HS : Hid (∀ w', Below wd.heap.size wd w' → (w'.cell? ⟨ba, oa + i * 3, none⟩ = some (.int .i64 ak) ∧ w'.cell? ⟨ba, oa + i * 3 + 1, none⟩ = some (.int .i64 alo) ∧ w'.cell? ⟨ba, oa + i * 3 + 2, none⟩ = some (.int .i64 ahi)) ∧ (w'.cell? ⟨bb, ob + k * 3 + 1, none⟩ = some (.int .i64 blo) ∧ w'.cell? ⟨bb, ob + k * 3 + 2, none⟩ = some (.int .i64 bhi))) := Lib.hid fun w' hw =>
            ⟨HA.out _ (bthen HB2.out hw), (HB.out _ (bthen HB2.out hw)).2⟩
          have z0 := (Below.refl wd.heap.size wd).drew
          have HW : Hid (∀ w', w' = (wd.alloc (.cells #[.int .i64 ak, .int .i64 X, .int .i64 Y] 54)).drew → True) := Lib.hid (fun _ _ => trivial)
          go_cut [9] (fun s9 wx => s9 = .pointer (some ⟨wd.heap.size, 0, none⟩) ∧ Hid (Mk3 wd wx ak X Y))
          case first =>
            clear HW
            have hX := HXX.out
            have hY := HYY.out
            rcases Decidable.em (alo < blo) with h1 | h1 <;> rcases Decidable.em (bhi < ahi) with h2 | h2
            · have e1 : blo = X := by omega
              have e2 : bhi = Y := by omega
              subst e1
              subst e2
              clear hX hY HXX HYY
              go_region_held3 (fun w' => (w'.cell? ⟨ba, oa + i * 3, none⟩ = some (.int .i64 ak) ∧ w'.cell? ⟨ba, oa + i * 3 + 1, none⟩ = some (.int .i64 alo) ∧ w'.cell? ⟨ba, oa + i * 3 + 2, none⟩ = some (.int .i64 ahi)) ∧ (w'.cell? ⟨bb, ob + k * 3 + 1, none⟩ = some (.int .i64 blo) ∧ w'.cell? ⟨bb, ob + k * 3 + 2, none⟩ = some (.int .i64 bhi))) (first | exact HS.out _ z0 | exact HS.out _ (bput z0 _) | fail) (fail)
              all_goals
                go_wp2_with fail
                go_meet
                exact ⟨rfl, Lib.hid ⟨heap_drew_new _ _, bput z0 _⟩⟩
            · have e1 : blo = X := by omega
              have e2 : ahi = Y := by omega
              subst e1
              subst e2
              clear hX hY HXX HYY
              go_region_held3 (fun w' => (w'.cell? ⟨ba, oa + i * 3, none⟩ = some (.int .i64 ak) ∧ w'.cell? ⟨ba, oa + i * 3 + 1, none⟩ = some (.int .i64 alo) ∧ w'.cell? ⟨ba, oa + i * 3 + 2, none⟩ = some (.int .i64 ahi)) ∧ (w'.cell? ⟨bb, ob + k * 3 + 1, none⟩ = some (.int .i64 blo) ∧ w'.cell? ⟨bb, ob + k * 3 + 2, none⟩ = some (.int .i64 bhi))) (first | exact HS.out _ z0 | exact HS.out _ (bput z0 _) | fail) (fail)
              all_goals
                go_wp2_with fail
                go_meet
                exact ⟨rfl, Lib.hid ⟨heap_drew_new _ _, bput z0 _⟩⟩
            · have e1 : alo = X := by omega
              have e2 : bhi = Y := by omega
              subst e1
              subst e2
              clear hX hY HXX HYY
              go_region_held3 (fun w' => (w'.cell? ⟨ba, oa + i * 3, none⟩ = some (.int .i64 ak) ∧ w'.cell? ⟨ba, oa + i * 3 + 1, none⟩ = some (.int .i64 alo) ∧ w'.cell? ⟨ba, oa + i * 3 + 2, none⟩ = some (.int .i64 ahi)) ∧ (w'.cell? ⟨bb, ob + k * 3 + 1, none⟩ = some (.int .i64 blo) ∧ w'.cell? ⟨bb, ob + k * 3 + 2, none⟩ = some (.int .i64 bhi))) (first | exact HS.out _ z0 | exact HS.out _ (bput z0 _) | fail) (fail)
              all_goals
                go_wp2_with fail
                go_meet
                exact ⟨rfl, Lib.hid ⟨heap_drew_new _ _, bput z0 _⟩⟩
            · have e1 : alo = X := by omega
              have e2 : ahi = Y := by omega
              subst e1
              subst e2
              clear hX hY HXX HYY
              go_region_held3 (fun w' => (w'.cell? ⟨ba, oa + i * 3, none⟩ = some (.int .i64 ak) ∧ w'.cell? ⟨ba, oa + i * 3 + 1, none⟩ = some (.int .i64 alo) ∧ w'.cell? ⟨ba, oa + i * 3 + 2, none⟩ = some (.int .i64 ahi)) ∧ (w'.cell? ⟨bb, ob + k * 3 + 1, none⟩ = some (.int .i64 blo) ∧ w'.cell? ⟨bb, ob + k * 3 + 2, none⟩ = some (.int .i64 bhi))) (first | exact HS.out _ z0 | exact HS.out _ (bput z0 _) | fail) (fail)
              all_goals
                go_wp2_with fail
                go_meet
                exact ⟨rfl, Lib.hid ⟨heap_drew_new _ _, bput z0 _⟩⟩
          case rest =>
          obtain ⟨rfl, HM⟩ := hcut
          clear HW z0 HS
          have HZ := Lib.hid (bthen HB2.out HM.out.2)
          have HO := Lib.hid (HO2.out.step HM.out.2)
          obtain ⟨f0, f1, f2⟩ := of3 HM.out.1
          by_cases hb : Y < X
          · have t2 : decide (Y < X) = true := by simpa using hb
            have HE : Hid (Agrees w V (.returned (.tuple #[.slice none 0 0, .int .i64 61])) wc) := Lib.hid (by
              have hv := HY1.out
              rw [nin_bad (by exact HNE.out) (by simp only; rw [HXX.out, HYY.out]; exact hb)] at hv
              subst hv
              exact ⟨_, _, _, rfl, Osp.nil _ _ _, HZ.out⟩)
            clear hb
            go_wp2
            go_ret2
            exact HE.out
          · have t2 : decide (Y < X) = false := by simpa using hb
            have HV2 : Hid (nin (o ++ [⟨ak, X, Y⟩]) ⟨ak, alo, ahi⟩ (l'.drop (k + 1)) (l.drop (i + 1)) l' = V ∧ (o ++ [(⟨ak, X, Y⟩ : Sp)]).length ≤ i * 300 + (k + 1)) := Lib.hid ⟨by
              have hv := HY1.out
              rw [nin_eq (by exact HNE.out) (by simp only; rw [HXX.out, HYY.out]; exact hb)] at hv
              simp only [HXX.out, HYY.out] at hv
              exact hv, by have := HY2.out; rw [List.length_append]; simp only [List.length_cons, List.length_nil]; omega⟩
            have HNO : Hid (no ≤ 1000000000000) := Lib.hid (by have := HO.out.1; have := HY2.out; have := HN.out; have := HN'.out; omega)
            clear hb
            go_wp2_with (at_builtin; go_must (refine wpList_appSpH rfl (.tmp 74) (.tmp 76) rfl rfl HO.out ⟨ak, X, Y⟩ wc.heap.size rfl rfl HNO.out HZ.out.size ?_))
            intro A3 c3 w3 ho3 hb3
            have HF : Hid (Osp 54 w3 w.heap.size A3 (no + 1) c3 (o ++ [⟨ak, X, Y⟩]) ∧ Below w.heap.size w w3) := Lib.hid ⟨ho3, HZ.out.trans hb3⟩
            clear ho3 hb3 f0 f1 f2
            go_wp2
            go_roundw
            case rel => exact ⟨k + 1, _, A3, no + 1, c3, by omega, by go_num, rfl, Lib.hid ⟨HV2.out.1, HV2.out.2, HF.out.1, HF.out.2⟩⟩
            case measure => simp only [intOf]; omega
        · have hkn : k = n' := by omega
          have HI : Hid (nest o (l.drop (i + 1)) l' = V ∧ o.length ≤ (i + 1) * 300) := Lib.hid ⟨by
            have := HX.out.1
            rw [List.drop_eq_nil_of_le (by have := HL'.out; omega), nin_nil] at this
            exact this, by have := HX.out.2.1; have := HN'.out; omega⟩
          have HO := Lib.hid HX.out.2.2
          clear HX
          go_wp2
          go_roundw
          case rel => exact ⟨i + 1, o, Ao, no, co, by omega, by go_num, rfl, Lib.hid ⟨HI.out.1, HI.out.2, HO.out.1, HO.out.2⟩⟩
          case measure => simp only [intOf]; omega
    · have hin : i = n := by omega
      have HE : Hid (Agrees w V (.returned (.tuple #[.slice Ao no co, .int .i64 0])) wr) := Lib.hid (by
        obtain ⟨hv, -, ho, hbw⟩ := HX.out
        rw [List.drop_eq_nil_of_le (by have := HL.out; omega), nest_nil] at hv
        subst hv
        exact ⟨_, _, _, rfl, ho, hbw⟩)
      clear HX HR HR'
      go_wp2
      go_ret2
      exact HE.out

theorem r_agree_ok {w : World} {A : Option Addr} {n c : Nat} {l : List Sp} (h : Rp w w.heap.size A n c l) {A' : Option Addr} {n' c' : Nat} {l' : List Sp} (h' : Rp w w.heap.size A' n' c' l') (hn : n ≤ 300) (hn' : n' ≤ 300) :
    Calls Tryd.prog 28 #[.slice A n c, .slice A' n' c'] w (Agrees w (agreeL l l')) := by
  unfold agreeL
  by_cases hr : (!rightL l || !rightL l') = true
  · rw [if_pos hr]
    exact r_agree_bad h h' hr
  · rw [if_neg hr]
    simp only [Bool.or_eq_true, not_or, Bool.not_eq_true, Bool.not_eq_false'] at hr
    rw [← nest_mg _ (-1) [] l l' (Nat.le_refl _) hr.1 hr.2]
    exact r_agree_main h h' hn hn' hr.1 hr.2
end Go.Proofs.YtlijagbklopipaaDoor
