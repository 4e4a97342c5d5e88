/-
  Contract of proto.Agree. Conditions: those that each states.
-/
import Derived.Deep.DeepCutAuto
import Derived.Test.YtlijagbklopipaaDoorSpnB
namespace Go.Proofs.YtlijagbklopipaaDoor
open Go.RowKit
set_option linter.unusedVariables false

theorem mg_nil (out t : List Sp) : mg out [] t = (out, 0) := by rw [mg]
theorem mg_nil2 (out m : List Sp) : mg out m [] = (out, 0) := by cases m <;> rw [mg]
theorem mg_lt {out m t : List Sp} {a b : Sp} (h : a.k < b.k) : mg out (a :: m) (b :: t) = mg out m (b :: t) := by rw [mg, if_pos h]
theorem mg_gt {out m t : List Sp} {a b : Sp} (h : b.k < a.k) : mg out (a :: m) (b :: t) = mg out (a :: m) t := by rw [mg, if_neg (by omega), if_pos h]
theorem mg_bad {out m t : List Sp} {a b : Sp} (h : a.k = b.k) (h2 : min a.hi b.hi < max a.lo b.lo) : mg out (a :: m) (b :: t) = ([], 61) := by rw [mg, if_neg (by omega), if_neg (by omega), if_pos h2]
theorem mg_eq {out m t : List Sp} {a b : Sp} (h : a.k = b.k) (h2 : ¬ min a.hi b.hi < max a.lo b.lo) : mg out (a :: m) (b :: t) = mg (out ++ [⟨a.k, max a.lo b.lo, min a.hi b.hi⟩]) m t := by rw [mg, if_neg (by omega), if_neg (by omega), if_neg h2]

theorem cellsOf_span (W : World) : (sizeOf 54).run Tryd.prog W = .ok 3 W := by
  obtain ⟨i, hi, hz, hs, hb⟩ := info_parts spanInfo
  simp [sizeOf, typeInfo, hi, hs]
theorem run_restSp {A : Option Addr} {n c : Nat} (h1 : 1 ≤ n) (h2 : n ≤ c) (h3 : c ≤ 9223372036854775807) (W : World) : (Instr.sliceAt 45 (.slice A n c) (some (.int .i64 1)) none none).run Tryd.prog W = .ok (.slice (if c = 1 then A else A.map (·.add 3)) (n - 1) (c - 1)) W := by
  have hte : Tryd.prog.underlying 45 = some (.slice (Tryd.prog.elem 45)) := by rw [Tryd.underlying45]; simp [Program.elem, Tryd.underlying45]
  have hee : Tryd.prog.elem 45 = 54 := by simp [Program.elem, Tryd.underlying45]
  rw [run_sliceAt_slice W _ _ _ _ _ hte, run_slice_l W _ A n c hte .i64 1 (by omega) (by omega), hee, cellsOf_span W]
  simp [sliced]
def lenS : Value → Nat | .slice _ n _ => n | _ => 0
/-- The cells of a span at the head of a block. -/
def At3 (w : World) (b : Nat) (s : Sp) : Prop := w.cell? ⟨b, 0, none⟩ = some (.int .i64 s.k) ∧ w.cell? ⟨b, 1, none⟩ = some (.int .i64 s.lo) ∧ w.cell? ⟨b, 2, none⟩ = some (.int .i64 s.hi)
def Two (W wx : World) (a b : Sp) (s7 s8 : Value) : Prop := ∃ b7 b8 : Nat, s7 = .pointer (some ⟨b7, 0, none⟩) ∧ s8 = .pointer (some ⟨b8, 0, none⟩) ∧ At3 wx b7 a ∧ At3 wx b8 b ∧ Below W.heap.size W wx
theorem of3 {w : World} {b : Nat} {T : TypeId} {a0 a1 a2 : Value} (h : w.heap[b]? = some (.cells #[a0, a1, a2] T (0, 0))) :
    w.cell? ⟨b, 0, none⟩ = some a0 ∧ w.cell? ⟨b, 1, none⟩ = some a1 ∧ w.cell? ⟨b, 2, none⟩ = some a2 := by
  have key : ∀ j, w.cell? ⟨b, j, none⟩ = (#[a0, a1, a2])[j]? := fun j => cell_of_row _ b j _ _ _ h
  exact ⟨key 0, key 1, key 2⟩
theorem rest_ex {w : World} {B : Nat} {A : Option Addr} {n c : Nat} {s : Sp} {l : List Sp} (h : Rp w B A n c (s :: l)) : ∃ A', (∀ W, (Instr.sliceAt 45 (.slice A n c) (some (.int .i64 1)) none none).run Tryd.prog W = .ok (.slice A' (n - 1) (c - 1)) W) ∧ Rp w B A' (n - 1) (c - 1) l :=
  ⟨_, fun W => run_restSp (by have := h.len; rw [List.length_cons] at this; omega) h.cap h.top W, h.rest⟩
theorem Two.one {W : World} (a b : Sp) : Two W ((W.alloc (.cells #[.int .i64 a.k, .int .i64 a.lo, .int .i64 a.hi] 54)).alloc (.cells #[.int .i64 b.k, .int .i64 b.lo, .int .i64 b.hi] 54)).drew a b (.pointer (some ⟨W.heap.size, 0, none⟩)) (.pointer (some ⟨W.heap.size + 1, 0, none⟩)) := by
  have hb := bput (bput (Below.refl _ W) (.cells #[.int .i64 a.k, .int .i64 a.lo, .int .i64 a.hi] 54)) (.cells #[.int .i64 b.k, .int .i64 b.lo, .int .i64 b.hi] 54)
  have h1 := of3 ((bput (Below.refl _ (W.alloc (.cells #[.int .i64 a.k, .int .i64 a.lo, .int .i64 a.hi] 54))) (.cells #[.int .i64 b.k, .int .i64 b.lo, .int .i64 b.hi] 54)).block W.heap.size (by simp) |>.trans (heap_alloc_new W _))
  have h2 := of3 (heap_alloc_new (W.alloc (.cells #[.int .i64 a.k, .int .i64 a.lo, .int .i64 a.hi] 54)) (.cells #[.int .i64 b.k, .int .i64 b.lo, .int .i64 b.hi] 54))
  rw [World.size_alloc] at h2
  exact ⟨_, _, rfl, rfl, h1, h2, hb.drew⟩
theorem Two.two {W : World} (a b : Sp) : Two W ((W.alloc (.cells #[.int .i64 b.k, .int .i64 b.lo, .int .i64 b.hi] 54)).alloc (.cells #[.int .i64 a.k, .int .i64 a.lo, .int .i64 a.hi] 54)).drew a b (.pointer (some ⟨W.heap.size + 1, 0, none⟩)) (.pointer (some ⟨W.heap.size, 0, none⟩)) := by
  obtain ⟨x, y, hx, hy, h1, h2, h3⟩ := Two.one (W := W) b a
  cases hx
  cases hy
  exact ⟨_, _, rfl, rfl, h2, h1, h3⟩
/-- What a call answers that agrees. -/
def Agrees (w : World) (r : List Sp × Int) (e : Ending) (w' : World) : Prop := ∃ A n c, e = .returned (.tuple #[.slice A n c, .int .i64 r.2]) ∧ Osp 54 w' w.heap.size A n c r.1 ∧ Below w.heap.size w w'

set_option maxHeartbeats 4000000 in
theorem p_agree_main {w : World} {A : Option Addr} {n c : Nat} {l : List Sp} (h : Rp w w.heap.size A n c l) {A' : Option Addr} {n' c' : Nat} {l' : List Sp} (h' : Rp w w.heap.size A' n' c' l') (hn : n ≤ 1000000) (hr : rightL l = true) (hr' : rightL l' = true) :
    Calls Tryd.prog 27 #[.slice A n c, .slice A' n' c'] w (Agrees w (mg [] l l')) := by
  have HC := Lib.hid (fun w' hb => p_right_ok (h.below hb) (w := w') hb.size)
  have HC' := Lib.hid (fun w' hb => p_right_ok (h'.below hb) (w := w') hb.size)
  rw [hr] at HC
  rw [hr'] at HC'
  clear hr hr'
  generalize hV : mg [] l l' = V
  have hll : l.length ≤ 1000000 := by rw [h.len]; exact hn
  have HV := Lib.hid hV
  have HH := Lib.hid h
  have HH' := Lib.hid h'
  clear hV h h'
  go_enter Tryd.func27, Tryd.ntmps27
  go_wp2_with fail
  refine (HC.out w (Below.refl _ _)).mono ?_
  rintro e w1 ⟨rfl, hb1⟩
  go_wp2_with fail
  refine (HC'.out w1 hb1).mono ?_
  rintro e w2 ⟨rfl, hb2⟩
  have b2 := bthen hb1 hb2
  clear hb1 hb2 HC HC'
  go_wp2_with fail
  go_loopw [0, 1, 6] (fun s0 s1 s6 wr => ∃ (m t o : List Sp) (Am : Option Addr) (nm cm : Nat) (At : Option Addr) (nt ct : Nat) (Ao : Option Addr) (no co : Nat), s0 = .slice Am nm cm ∧ s1 = .slice At nt ct ∧ s6 = .slice Ao no co ∧ Hid (Rp w w.heap.size Am nm cm m ∧ Rp w w.heap.size At nt ct t ∧ Osp 54 wr w.heap.size Ao no co o ∧ Below w.heap.size w wr ∧ mg o m t = V ∧ o.length + m.length ≤ l.length)) (fun s0 s1 _ _ => lenS s0 + lenS s1)
  case atStart => exact ⟨l, l', [], A, n, c, A', n', c', none, 0, 0, rfl, rfl, rfl, HH.out, HH'.out, Osp.nil _ _ _, b2, HV.out, by simp⟩
  case round =>
    obtain ⟨m, t, o, Am, nm, cm, At, nt, ct, Ao, no, co, rfl, rfl, rfl, HX⟩ := hrel
    clear b2
    obtain ⟨hm, ht, ho, hbw, hv, hle⟩ := HX.out
    have m1 := hm.cap
    have m2 := hm.top
    have m3 := ht.cap
    have m4 := ht.top
    cases m with
    | nil =>
      obtain rfl : nm = 0 := hm.len.symm
      rw [mg_nil] at hv
      have HE : Hid (Agrees w V (.returned (.tuple #[.slice Ao no co, .int .i64 0])) wr) := by subst hv; exact ⟨_, _, _, rfl, ho, hbw⟩
      clear hm ht ho hbw hv hle HX
      go_wp2
      go_ret2
      exact HE.out
    | cons a m =>
    have hnm := hm.len
    rw [List.length_cons] at hnm
    have t1 : decide (0 < nm) = true := by simp only [decide_eq_true_eq]; omega
    cases t with
    | nil =>
      obtain rfl : nt = 0 := ht.len.symm
      rw [mg_nil2] at hv
      have HE : Hid (Agrees w V (.returned (.tuple #[.slice Ao no co, .int .i64 0])) wr) := by subst hv; exact ⟨_, _, _, rfl, ho, hbw⟩
      clear hm ht ho hbw hv hle HX hnm
      go_wp2
      go_ret2
      exact HE.out
    | cons b t =>
    have hnt := ht.len
    rw [List.length_cons] at hnt
    have t2 : decide (0 < nt) = true := by simp only [decide_eq_true_eq]; omega
    obtain ⟨ba, oa, rfl, hba, hca⟩ := hm.cells (by omega)
    obtain ⟨bb, ob, rfl, hbb, hcb⟩ := ht.cells (by omega)
    obtain ⟨a0, a1, a2⟩ := hca 0 (by omega)
    obtain ⟨b0, b1, b2⟩ := hcb 0 (by omega)
    have hS : ∀ w', Below wr.heap.size wr w' → (w'.cell? ⟨ba, oa, none⟩ = some (.int .i64 a.k) ∧ w'.cell? ⟨ba, oa + 1, none⟩ = some (.int .i64 a.lo) ∧ w'.cell? ⟨ba, oa + 2, none⟩ = some (.int .i64 a.hi) ∧
        w'.cell? ⟨bb, ob, none⟩ = some (.int .i64 b.k) ∧ w'.cell? ⟨bb, ob + 1, none⟩ = some (.int .i64 b.lo) ∧ w'.cell? ⟨bb, ob + 2, none⟩ = some (.int .i64 b.hi)) := fun w' hb => by
      have hw := bthen hbw hb
      exact ⟨(hw.cell (p := ⟨ba, oa, none⟩) hba).trans a0, (hw.cell (p := ⟨ba, oa + 1, none⟩) hba).trans a1, (hw.cell (p := ⟨ba, oa + 2, none⟩) hba).trans a2,
        (hw.cell (p := ⟨bb, ob, none⟩) hbb).trans b0, (hw.cell (p := ⟨bb, ob + 1, none⟩) hbb).trans b1, (hw.cell (p := ⟨bb, ob + 2, none⟩) hbb).trans b2⟩
    have HS := Lib.hid hS
    have hne1 : (0 : Nat) < nm := by omega
    have hne2 : (0 : Nat) < nt := by omega
    have z0 := (Below.refl wr.heap.size wr).drew
    clear a0 a1 a2 b0 b1 b2 hca hcb hS hm ht ho hbw hv hle
    obtain ⟨ak, alo, ahi⟩ := a
    obtain ⟨bk, blo, bhi⟩ := b
    go_upto_region 5 with fail
    go_cut [7, 8] (fun s7 s8 wx => Two wr wx ⟨ak, alo, ahi⟩ ⟨bk, blo, bhi⟩ s7 s8)
    case first =>
      go_region_held3 (fun w' => (w'.cell? ⟨ba, oa, none⟩ = some (.int .i64 ak) ∧ w'.cell? ⟨ba, oa + 1, none⟩ = some (.int .i64 alo) ∧ w'.cell? ⟨ba, oa + 2, none⟩ = some (.int .i64 ahi) ∧
        w'.cell? ⟨bb, ob, none⟩ = some (.int .i64 bk) ∧ w'.cell? ⟨bb, ob + 1, none⟩ = some (.int .i64 blo) ∧ w'.cell? ⟨bb, ob + 2, none⟩ = some (.int .i64 bhi))) (first | exact HS.out _ z0 | exact HS.out _ (bput z0 _) | exact HS.out _ (bput (bput z0 _) _) | fail) (fail)
      all_goals
        go_wp2_with fail
        go_meet
        first
          | exact Two.one ⟨ak, alo, ahi⟩ ⟨bk, blo, bhi⟩
          | exact Two.two ⟨ak, alo, ahi⟩ ⟨bk, blo, bhi⟩
    case rest =>
    obtain ⟨b7, b8, rfl, rfl, ⟨x0, x1, x2⟩, ⟨y0, y1, y2⟩, z1⟩ := hcut
    simp only at x0 x1 x2 y0 y1 y2
    have z2 := bthen HX.out.2.2.2.1 z1
    have ho2 := HX.out.2.2.1.step z1
    obtain ⟨A1, R1, hm'⟩ := rest_ex HX.out.1
    obtain ⟨A2, R2, ht'⟩ := rest_ex HX.out.2.1
    have hv := HX.out.2.2.2.2.1
    have hle := HX.out.2.2.2.2.2
    rw [List.length_cons] at hle
    have q1 : (1 : Int) ≤ (nm : Int) := by omega
    have q2 : (1 : Int) ≤ (nt : Int) := by omega
    have HNM : Hid (1 ≤ nm ∧ 1 ≤ nt) := ⟨by omega, by omega⟩
    clear z0 z1 m1 m2 m3 m4 hnm hnt hne1 hne2
    by_cases hlt : ak < bk
    · rw [mg_lt hlt] at hv
      have HY : Hid (Rp w w.heap.size A1 (nm - 1) (cm - 1) m ∧ Rp w w.heap.size (some ⟨bb, ob, none⟩) nt ct (⟨bk, blo, bhi⟩ :: t) ∧ Osp 54 wc w.heap.size Ao no co o ∧ Below w.heap.size w wc ∧ mg o m (⟨bk, blo, bhi⟩ :: t) = V ∧ o.length + m.length ≤ l.length) := ⟨hm', HX.out.2.1, ho2, z2, hv, by omega⟩
      have t3 : decide (ak ≤ bk) = true := by simp only [decide_eq_true_eq]; omega
      have t4 : decide (bk ≤ ak) = false := by simp only [decide_eq_false_iff_not]; omega
      have t5 : (ak != bk) = true := by simp only [bne_iff_ne, ne_eq]; omega
      clear hm' ht' ho2 z2 hv hle HX hlt
      go_wp2
      go_roundw
      case rel => exact ⟨m, _, o, _, _, _, _, _, _, _, _, _, rfl, rfl, rfl, HY⟩
      case measure => have := HNM.out; simp only [lenS]; omega
    by_cases hgt : bk < ak
    · rw [mg_gt hgt] at hv
      have HY : Hid (Rp w w.heap.size (some ⟨ba, oa, none⟩) nm cm (⟨ak, alo, ahi⟩ :: m) ∧ Rp w w.heap.size A2 (nt - 1) (ct - 1) t ∧ Osp 54 wc w.heap.size Ao no co o ∧ Below w.heap.size w wc ∧ mg o (⟨ak, alo, ahi⟩ :: m) t = V ∧ o.length + (m.length + 1) ≤ l.length) := ⟨HX.out.1, ht', ho2, z2, hv, hle⟩
      have t3 : decide (ak ≤ bk) = false := by simp only [decide_eq_false_iff_not]; omega
      have t4 : decide (bk ≤ ak) = true := by simp only [decide_eq_true_eq]; omega
      have t5 : (ak != bk) = true := by simp only [bne_iff_ne, ne_eq]; omega
      clear hm' ht' ho2 z2 hv hle HX hlt hgt
      go_wp2
      go_roundw
      case rel => exact ⟨_, t, o, _, _, _, _, _, _, _, _, _, rfl, rfl, rfl, HY⟩
      case measure => have := HNM.out; simp only [lenS]; omega
    obtain rfl : ak = bk := by omega
    have t3 : decide (ak ≤ ak) = true := by simp
    have t5 : (ak != ak) = false := by simp
    have hnol := ho2.1
    obtain ⟨X, hX⟩ : ∃ X, max alo blo = X := ⟨_, rfl⟩
    obtain ⟨Y, hY⟩ : ∃ Y, min ahi bhi = Y := ⟨_, rfl⟩
    by_cases hb : Y < X
    · rw [mg_bad (a := ⟨ak, alo, ahi⟩) (b := ⟨ak, blo, bhi⟩) rfl (by simp only; omega)] at hv
      have HV2 := Lib.hid hv
      clear hm' ht' hv hle HX hlt hgt hnol
      rcases Decidable.em (alo < blo) with h1 | h1 <;> rcases Decidable.em (bhi < ahi) with h2 | h2
      · have e1 : blo = X := by omega
        have e2 : bhi = Y := by omega
        subst e1
        subst e2
        clear hX hY
        go_wp2
        go_ret2
        have hv := HV2.out
        subst hv
        exact ⟨_, _, _, rfl, Osp.nil _ _ _, bput z2 _⟩
      · have e1 : blo = X := by omega
        have e2 : ahi = Y := by omega
        subst e1
        subst e2
        clear hX hY
        go_wp2
        go_ret2
        have hv := HV2.out
        subst hv
        exact ⟨_, _, _, rfl, Osp.nil _ _ _, bput z2 _⟩
      · have e1 : alo = X := by omega
        have e2 : bhi = Y := by omega
        subst e1
        subst e2
        clear hX hY
        go_wp2
        go_ret2
        have hv := HV2.out
        subst hv
        exact ⟨_, _, _, rfl, Osp.nil _ _ _, bput z2 _⟩
      · have e1 : alo = X := by omega
        have e2 : ahi = Y := by omega
        subst e1
        subst e2
        clear hX hY
        go_wp2
        go_ret2
        have hv := HV2.out
        subst hv
        exact ⟨_, _, _, rfl, Osp.nil _ _ _, bput z2 _⟩
    · rw [mg_eq (a := ⟨ak, alo, ahi⟩) (b := ⟨ak, blo, bhi⟩) rfl (by simp only; omega)] at hv
      simp only [hX, hY] at hv
      have hno : no ≤ 1000000000000 := by omega
      have HNO := Lib.hid hno
      have HO := Lib.hid (ho2.alloc (.cells #[.int .i64 ak, .int .i64 X, .int .i64 Y] 54))
      have HZ := Lib.hid (bput z2 (.cells #[.int .i64 ak, .int .i64 X, .int .i64 Y] 54))
      have HHV := Lib.hid hv
      have HM := Lib.hid hm'
      have HT := Lib.hid ht'
      have HLE : Hid (o.length + 1 + m.length ≤ l.length) := Lib.hid (by omega)
      clear hm' ht' ho2 z2 hv hle HX hlt hgt hnol hno
      rcases Decidable.em (alo < blo) with h1 | h1 <;> rcases Decidable.em (bhi < ahi) with h2 | h2
      · have e1 : blo = X := by omega
        have e2 : bhi = Y := by omega
        subst e1
        subst e2
        clear hX hY
        go_wp2_with (at_builtin; go_must (refine wpList_appSpH rfl (.tmp 69) (.tmp 71) rfl rfl HO.out ⟨ak, blo, bhi⟩ (wc.heap.size + 1) (by simp) rfl HNO.out HZ.out.size ?_))
        intro A3 c3 w3 ho3 hb3
        have HY : Hid (Rp w w.heap.size A1 (nm - 1) (cm - 1) m ∧ Rp w w.heap.size A2 (nt - 1) (ct - 1) t ∧ Osp 54 w3 w.heap.size A3 (no + 1) c3 (o ++ [⟨ak, blo, bhi⟩]) ∧ Below w.heap.size w w3 ∧ mg (o ++ [⟨ak, blo, bhi⟩]) m t = V ∧ (o ++ [(⟨ak, blo, bhi⟩ : Sp)]).length + m.length ≤ l.length) := ⟨HM.out, HT.out, ho3, HZ.out.trans hb3, HHV.out, by rw [List.length_append]; exact HLE.out⟩
        clear ho3 hb3 HO HZ HHV HM HT HLE
        go_wp2
        go_roundw
        case rel => exact ⟨m, t, _, _, _, _, _, _, _, _, _, _, rfl, rfl, rfl, HY⟩
        case measure => have := HNM.out; simp only [lenS]; omega
      · have e1 : blo = X := by omega
        have e2 : ahi = Y := by omega
        subst e1
        subst e2
        clear hX hY
        go_wp2_with (at_builtin; go_must (refine wpList_appSpH rfl (.tmp 69) (.tmp 71) rfl rfl HO.out ⟨ak, blo, ahi⟩ (wc.heap.size + 1) (by simp) rfl HNO.out HZ.out.size ?_))
        intro A3 c3 w3 ho3 hb3
        have HY : Hid (Rp w w.heap.size A1 (nm - 1) (cm - 1) m ∧ Rp w w.heap.size A2 (nt - 1) (ct - 1) t ∧ Osp 54 w3 w.heap.size A3 (no + 1) c3 (o ++ [⟨ak, blo, ahi⟩]) ∧ Below w.heap.size w w3 ∧ mg (o ++ [⟨ak, blo, ahi⟩]) m t = V ∧ (o ++ [(⟨ak, blo, ahi⟩ : Sp)]).length + m.length ≤ l.length) := ⟨HM.out, HT.out, ho3, HZ.out.trans hb3, HHV.out, by rw [List.length_append]; exact HLE.out⟩
        clear ho3 hb3 HO HZ HHV HM HT HLE
        go_wp2
        go_roundw
        case rel => exact ⟨m, t, _, _, _, _, _, _, _, _, _, _, rfl, rfl, rfl, HY⟩
        case measure => have := HNM.out; simp only [lenS]; omega
      · have e1 : alo = X := by omega
        have e2 : bhi = Y := by omega
        subst e1
        subst e2
        clear hX hY
        go_wp2_with (at_builtin; go_must (refine wpList_appSpH rfl (.tmp 69) (.tmp 71) rfl rfl HO.out ⟨ak, alo, bhi⟩ (wc.heap.size + 1) (by simp) rfl HNO.out HZ.out.size ?_))
        intro A3 c3 w3 ho3 hb3
        have HY : Hid (Rp w w.heap.size A1 (nm - 1) (cm - 1) m ∧ Rp w w.heap.size A2 (nt - 1) (ct - 1) t ∧ Osp 54 w3 w.heap.size A3 (no + 1) c3 (o ++ [⟨ak, alo, bhi⟩]) ∧ Below w.heap.size w w3 ∧ mg (o ++ [⟨ak, alo, bhi⟩]) m t = V ∧ (o ++ [(⟨ak, alo, bhi⟩ : Sp)]).length + m.length ≤ l.length) := ⟨HM.out, HT.out, ho3, HZ.out.trans hb3, HHV.out, by rw [List.length_append]; exact HLE.out⟩
        clear ho3 hb3 HO HZ HHV HM HT HLE
        go_wp2
        go_roundw
        case rel => exact ⟨m, t, _, _, _, _, _, _, _, _, _, _, rfl, rfl, rfl, HY⟩
        case measure => have := HNM.out; simp only [lenS]; omega
      · have e1 : alo = X := by omega
        have e2 : ahi = Y := by omega
        subst e1
        subst e2
        clear hX hY
        go_wp2_with (at_builtin; go_must (refine wpList_appSpH rfl (.tmp 69) (.tmp 71) rfl rfl HO.out ⟨ak, alo, ahi⟩ (wc.heap.size + 1) (by simp) rfl HNO.out HZ.out.size ?_))
        intro A3 c3 w3 ho3 hb3
        have HY : Hid (Rp w w.heap.size A1 (nm - 1) (cm - 1) m ∧ Rp w w.heap.size A2 (nt - 1) (ct - 1) t ∧ Osp 54 w3 w.heap.size A3 (no + 1) c3 (o ++ [⟨ak, alo, ahi⟩]) ∧ Below w.heap.size w w3 ∧ mg (o ++ [⟨ak, alo, ahi⟩]) m t = V ∧ (o ++ [(⟨ak, alo, ahi⟩ : Sp)]).length + m.length ≤ l.length) := ⟨HM.out, HT.out, ho3, HZ.out.trans hb3, HHV.out, by rw [List.length_append]; exact HLE.out⟩
        clear ho3 hb3 HO HZ HHV HM HT HLE
        go_wp2
        go_roundw
        case rel => exact ⟨m, t, _, _, _, _, _, _, _, _, _, _, rfl, rfl, rfl, HY⟩
        case measure => have := HNM.out; simp only [lenS]; omega
end Go.Proofs.YtlijagbklopipaaDoor
