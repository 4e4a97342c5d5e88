/-
  Contracts of layer 6's document: the reader's bytes of a length.
-/
import Derived.IntWalk
import Derived.BigQuiet
import Derived.Deep.DrawnRows
import Derived.Deep.QuietTactic
import Derived.Deep.RegionHeld3
import Derived.Test.YtlijagbklopipaaDoorProF
namespace Go.Proofs.YtlijagbklopipaaDoor
open Go.RowKit
set_option linter.unusedVariables false

theorem wpH_append {P : Program} {ops : Array Oper} {o : Oper} {a : Act} {w w' : World} {K : Act → World → Prop} {Q : Exit → Act → World → Prop} {V1 V2 v : Value} (s x : Operand) (t : TypeId) (hg : o.guard = none)
    (ho : o.op = .call { callee := .builtin .append, args := #[s, x], argTypes := #[t, t] }) (hs : a.eval s = V1) (hx : a.eval x = V2) (hr : (Builtin.append_ #[t, t] o.type #[V1, V2]).run P w = .ok v w')
    (h : K (a.put o.dst v) w') : if Region.wanted o (yielded ops a.tmps) = true then Oper.wp P o a w K Q else K (a.put o.dst undef) w := by
  simp only [Region.wanted, hg, if_true]
  unfold Oper.wp execOp
  simp only [ho, resolve, invoke, builtin, Sem.run_bind, Sem.run_pure, Result.andThen_ok, List.map_toArray, List.map_cons, List.map_nil, hs, hx, hr]
  exact h

set_option maxHeartbeats 2000000 in
theorem r_blb_ok {w : World} {Bx : Nat} {A : Option Addr} {n c : Nat} {s : Int × Int} {l : List UInt8} (h : w.heap[Bx]? = some (.cells #[.slice A n c, .int .i64 s.1, .int .i64 s.2] 88 (0, 0))) (hr : Rd w Bx A n c l) (most : Int) (hm : most ≤ 1000000) :
    Calls Tryd.prog 59 #[.pointer (some ⟨Bx, 0, none⟩), .int .i64 most] w (Blb 88 w Bx A n c (rblb most l s)) := by
  have hBx : Bx < w.heap.size := (Array.getElem?_eq_some_iff.1 h).1
  have hlen := hr.len
  have htop := hr.top
  have hcap := hr.cap
  have HC := Lib.hid (r_cnt_ok h hr most)
  obtain ⟨v, a, e, hq⟩ : ∃ v a e, rcnt most l s = (v, (a, e)) := ⟨_, _, _, rfl⟩
  rw [hq] at HC
  by_cases he : e ≠ 0
  · have t1 : (e == 0) = false := by simpa using he
    have t2 : (e != 0) = true := by simpa using he
    rw [rblb1 hq he]
    clear h hq he
    go_enter Tryd.func59, Tryd.ntmps59
    go_wp2_with fail
    refine HC.out.mono ?_
    rintro e1 w1 ⟨x, rfl, hrd, -⟩
    obtain ⟨k0, k1, k2, f1, f2⟩ := hrd.cells
    have HRD := Lib.hid hrd
    clear hrd hr
    go_wp2_with fail
    go_region
    all_goals
      go_wp2
      go_ret
      exact ⟨_, _, _, rfl, Ob.nil _ _ _, ⟨grown_trans HRD.out.grown ⟨rfl, rfl, rfl, Nat.le_refl _, fun _ _ _ => rfl⟩, HRD.out.box⟩⟩
  obtain rfl : e = 0 := Decidable.not_not.1 he
  obtain ⟨i1, i2, i3, i4⟩ := rcnt_in hq
  obtain ⟨v, rfl⟩ := Int.eq_ofNat_of_zero_le i1
  obtain ⟨a, rfl⟩ := Int.eq_ofNat_of_zero_le i3
  by_cases h1 : (l.length : Int) - a < v
  · have t1 : decide ((n : Int) - (a : Int) < (v : Int)) = true := by simp only [decide_eq_true_eq]; omega
    rw [rblb2 hq h1]
    clear h hq he h1
    go_enter Tryd.func59, Tryd.ntmps59
    go_wp2_with fail
    refine HC.out.mono ?_
    rintro e1 w1 ⟨x, rfl, hrd, hx⟩
    obtain rfl := hx.1 rfl
    obtain ⟨k0, k1, k2, f1, f2⟩ := hrd.cells
    have HRD := Lib.hid hrd
    have HFE : Hid (Reads 88 w (w1.drew.setCell ⟨Bx, 2, none⟩ (.int .i64 10)) Bx A n c ((a : Int), 10)) := (Reads.trans (w1 := w1.drew) ⟨grown_trans hrd.grown ⟨rfl, rfl, rfl, Nat.le_refl _, fun _ _ _ => rfl⟩, hrd.box⟩ (Reads.putE (w := w1.drew) (s := ((a : Int), 0)) hrd.box 10))
    clear hrd hr hx
    go_wp2_with fail
    go_region
    all_goals
      go_wp2
      go_ret
      exact ⟨_, _, _, rfl, Ob.nil _ _ _, HFE.out⟩
  · have t1 : decide ((n : Int) - (a : Int) < (v : Int)) = false := by simp only [decide_eq_false_iff_not]; omega
    rw [rblb3 hq h1, Int.toNat_natCast, Int.toNat_natCast]
    have hav : a + v ≤ n := by omega
    have hv6 : v ≤ 1000000 := by omega
    clear h hq he h1 i1 i2 i3 i4
    go_enter Tryd.func59, Tryd.ntmps59
    go_wp2_with fail
    refine HC.out.mono ?_
    rintro e1 w1 ⟨x, rfl, hrd, hx⟩
    obtain rfl := hx.1 rfl
    obtain ⟨k0, k1, k2, f1, f2⟩ := hrd.cells
    have hr1 := hr.below (below_grown hrd.grown (Nat.le_of_lt hBx) (fun k hk => by cases hk; exact Nat.le_refl _))
    have hpa := Reads.putA (w := w1) (s := ((a : Int), 0)) hrd.box ((a : Int) + (v : Int))
    have hr2 := hr1.below (below_grown hpa.grown (Nat.le_trans (Nat.le_of_lt hBx) hrd.grown.size) (fun k hk => by cases hk; exact Nat.le_refl _))
    obtain ⟨A2, hrun, hr3⟩ := run_part (P := Tryd.prog) (t := 24) Tryd.underlying24 byteInfo hr2 a v hav
    have hsz : Bx ≤ w1.heap.size := Nat.le_trans (Nat.le_of_lt hBx) hrd.grown.size
    have qw : IntKind.i64.wrap (a : Int) = (a : Int) := IntWalk.i64_in _ (by omega)
    have q1 : (0 : Int) ≤ (a : Int) := by omega
    have q2 : (a : Int) ≤ (a : Int) + (v : Int) := by omega
    have q3 : (a : Int) + (v : Int) ≤ (c : Int) := by omega
    have hp := hpa.grown
    have hs1 := hrd.grown.size
    have hs2 := hp.size
    have hBX : Bx < (w1.setCell ⟨Bx, 1, none⟩ (.int .i64 ((a : Int) + (v : Int)))).heap.size := Nat.lt_of_lt_of_le hBx (Nat.le_trans hs1 hs2)
    have hbox := hpa.box
    obtain ⟨k0', k1', k2', -, -⟩ := hpa.cells
    have HPA := Lib.hid (grown_drew (grown_drew (grown_trans hrd.grown hpa.grown)))
    have hw : w.heap.size ≤ (w1.setCell ⟨Bx, 1, none⟩ (.int .i64 ((a : Int) + (v : Int)))).heap.size := Nat.le_trans hs1 hs2
    have hBW : Bx ≤ (w1.setCell ⟨Bx, 1, none⟩ (.int .i64 ((a : Int) + (v : Int)))).heap.size := Nat.le_of_lt hBX
    clear hrd hpa hp hs1 hs2 hr hx HC
    go_wp2_with fail
    go_region
    all_goals
      go_wp2_with fail
      have hz : (w1.setCell ⟨Bx, 1, none⟩ (.int .i64 ((a : Int) + (v : Int)))).drew.drew.heap.size = (w1.setCell ⟨Bx, 1, none⟩ (.int .i64 ((a : Int) + (v : Int)))).heap.size := rfl
      obtain ⟨W, hW⟩ : ∃ W, W = (w1.setCell ⟨Bx, 1, none⟩ (.int .i64 ((a : Int) + (v : Int)))).drew := ⟨_, rfl⟩
      have g0 : W.cell? ⟨Bx, 0, none⟩ = some (.slice A n c) := by rw [hW]; exact k0'
      have g1 : W.cell? ⟨Bx, 1, none⟩ = some (.int .i64 ((a : Int) + (v : Int))) := by rw [hW]; exact k1'
      have hWs : Bx < W.heap.size := by rw [hW]; exact hBX
      have hWw : w.heap.size ≤ W.heap.size := by rw [hW]; exact hw
      have hWb : W.heap[Bx]? = some (.cells #[.slice A n c, .int .i64 ((a : Int) + (v : Int)), .int .i64 0] 88 (0, 0)) := by rw [hW]; exact hbox
      have hWg : w.grownBy W.drew (some Bx) := by rw [hW]; exact HPA.out
      have hWr : Rd W Bx A2 v (c - a) ((l.drop a).take v) := by rw [hW]; exact hr3.drew
      rw [← hW]
      have HWB := Lib.hid hWb
      clear hbox k0' k1' k2' hz hBX hw hBW hr3 hr2 hr1 hW k0 k1 k2 f1 f2 hWb
      obtain ⟨A4, c4, w4, k4, ho4, hg4⟩ := run_app (P := Tryd.prog) (w := W.drew.alloc (.cells #[] 5)) (t := 24) (ty := 24) Tryd.underlying24 byteInfo (Ob.made W.drew (Nat.le_refl _)) (hWr.drew.alloc (Nat.le_of_lt hWs) _) (by omega) (bput (Below.refl _ W.drew) _).size
      rw [Nat.zero_add] at k4 ho4
      have K4 := Lib.hid k4
      have z4 := (bput (Below.refl _ W.drew) (.cells #[] 5)).trans (below_of_own (Ob.made W.drew (Nat.le_refl _)) (bput (Below.refl _ W.drew) _).size hg4)
      have HS : Hid (∀ w', Below W.drew.heap.size W.drew w' → w'.cell? ⟨Bx, 0, none⟩ = some (.slice A n c) ∧ w'.cell? ⟨Bx, 1, none⟩ = some (.int .i64 ((a : Int) + (v : Int)))) := Lib.hid fun w' h => ⟨(h.cell (p := ⟨Bx, 0, none⟩) hWs).trans g0, (h.cell (p := ⟨Bx, 1, none⟩) hWs).trans g1⟩
      have z0 := Below.refl W.drew.heap.size W.drew
      have z1 := bput z0 (.cells #[] 5)
      clear k4 hg4 g0 g1
      go_region_held3 (fun w' => w'.cell? ⟨Bx, 0, none⟩ = some (.slice A n c) ∧ w'.cell? ⟨Bx, 1, none⟩ = some (.int .i64 ((a : Int) + (v : Int)))) (first | exact HS.out _ z0 | exact HS.out _ z1 | exact HS.out _ z4 | fail) (first
        | (refine wpH_append (.tmp 45) (.tmp 60) 24 rfl rfl rfl rfl K4.out ?_)
        | fail)
      go_wp2
      go_ret
      exact ⟨_, _, _, rfl, ho4.less hWw, ⟨grown_then hWg z4, (z4.block Bx hWs).trans HWB.out⟩⟩
end Go.Proofs.YtlijagbklopipaaDoor
