/-
  Contracts of layer 6's writer: lists of numbers, lists of texts. Conditions: those that each states.
-/
import Derived.Test.YtlijagbklopipaaDoorProM
namespace Go.Proofs.YtlijagbklopipaaDoor
open Go.RowKit
set_option linter.unusedVariables false

theorem flat_snoc {α : Type} (f : α → List UInt8) (d : α) {l : List α} {j : Nat} (h : j < l.length) : ((l.take j).map f).flatten ++ f (l.getD j d) = ((l.take (j + 1)).map f).flatten := by
  have e : l.getD j d = l[j] := by simp [List.getD, h]
  rw [e, List.take_succ_eq_append_getElem h, List.map_append, List.flatten_append, List.map_cons, List.map_nil, List.flatten_cons, List.flatten_nil, List.append_nil]
theorem flat_len {α : Type} (f : α → List UInt8) {m : Nat} {l : List α} (h : ∀ x ∈ l, (f x).length ≤ m) : ((l.map f).flatten).length ≤ m * l.length := by
  induction l with
  | nil => simp
  | cons x r ih =>
    have h1 := h x (by simp)
    have h2 := ih (fun y hy => h y (by simp [hy]))
    simp only [List.map_cons, List.flatten_cons, List.length_append, List.length_cons, Nat.mul_succ]
    omega
theorem getD_mem {α : Type} {l : List α} {j : Nat} (d : α) (h : j < l.length) : l.getD j d ∈ l := by
  simp only [List.getD, List.getElem?_eq_getElem h, Option.getD_some]
  exact List.getElem_mem h
theorem take_mem {α : Type} {l : List α} {j : Nat} {P : α → Prop} (h : ∀ x ∈ l, P x) : ∀ x ∈ l.take j, P x := fun x hx => h x (List.mem_of_mem_take hx)

/-- The writer stands behind some bytes, with at most N of them; behind them is to come rest. -/
def Wst (W2 wx : World) (Bw N : Nat) (rest tot : List UInt8) : Prop := ∃ l, Wb wx Bw l ∧ W2.grownBy wx (some Bw) ∧ l.length ≤ N ∧ l ++ rest = tot
theorem Wst.on {W2 w1 w2 : World} {Bw N M : Nat} {l p rest tot : List UInt8} (he : l ++ (p ++ rest) = tot) (hg : W2.grownBy w1 (some Bw)) (hn : l.length ≤ N) (hm : N + p.length ≤ M) (hg2 : w1.grownBy w2 (some Bw)) (hwb : Wb w2 Bw (l ++ p)) : Wst W2 w2 Bw M rest tot :=
  ⟨_, hwb, grown_trans hg hg2, by rw [List.length_append]; omega, by rw [List.append_assoc]; exact he⟩
theorem putT_len' {s : List UInt8} (h : s.length ≤ 64) : (putT s).length ≤ 74 := by
  have h10 := enc_ten (zig (s.length : Int)) (zig_lt _ (by omega) (by omega))
  unfold putT
  rw [List.length_append]
  omega

set_option maxHeartbeats 1000000 in
theorem w_nums_ok {w : World} {Bw : Nat} {l : List UInt8} (h : Wb w Bw l) {A : Option Addr} {n c : Nat} {xs : List (Int)} (hr : Rx w Bw A n c (iv xs)) (hv : ∀ x ∈ xs, -9223372036854775808 ≤ x ∧ x ≤ 9223372036854775807) (hl : l.length + 10 * xs.length ≤ 900000) :
    Calls Tryd.prog 37 #[.slice A n c, .func (.func 35) #[.pointer (some ⟨Bw, 0, none⟩)] #[]] w (Wrote w Bw (l ++ (xs.map encI).flatten)) := by
  have hB : Bw < w.heap.size := by obtain ⟨A, n, c, hbx, ho⟩ := h; exact (Array.getElem?_eq_some_iff.1 hbx).1
  have hlen := hr.len
  rw [iv_len] at hlen
  have htop := hr.top
  have hcap := hr.cap
  have HW : Hid (Wb w Bw (l ++ ((xs.take 0).map encI).flatten) ∧ w.grownBy w (some Bw)) := ⟨by simpa using h, grown_refl' w _⟩
  have HV := Lib.hid hv
  clear h hv
  go_enter Tryd.func37, Tryd.ntmps37
  go_wp2_with fail
  go_loopw [8] (fun i wr => ∃ j : Nat, j ≤ n ∧ i = .int .i64 j ∧ Hid (Wb wr Bw (l ++ ((xs.take j).map encI).flatten) ∧ w.grownBy wr (some Bw))) (fun i _ => n - (intOf i).toNat)
  case atStart => exact ⟨0, by omega, rfl, HW⟩
  case round =>
    obtain ⟨j, hj, rfl, HX⟩ := hrel
    clear HW
    have hrr := hr.below (below_grown HX.out.2 (Nat.le_of_lt hB) (fun k hk => by cases hk; exact Nat.le_refl _))
    by_cases hlt : j < n
    · obtain ⟨b, off, rfl, hb, hc⟩ := hrr.cells (by omega)
      have hcell := hc j hlt
      rw [iv_at (by omega)] at hcell
      have hfs := flat_snoc encI 0 (l := xs) (j := j) (by omega)
      have hvx := HV.out _ (getD_mem 0 (l := xs) (j := j) (by omega))
      have hft := flat_len encI (m := 10) (l := xs.take j) (fun x hx => by
        have := HV.out x (List.mem_of_mem_take hx)
        exact encI_len this.1 this.2)
      rw [List.length_take, Nat.min_eq_left (by omega)] at hft
      have hmul : 10 * j ≤ 10 * xs.length := Nat.mul_le_mul_left _ (by omega)
      have hll : (l ++ ((xs.take j).map encI).flatten).length ≤ 1000000 := by rw [List.length_append]; omega
      generalize xs.getD j 0 = x at *
      have HN := Lib.hid (w_num_ok HX.out.1 hll x hvx.1 hvx.2)
      have HFS := Lib.hid hfs
      clear hc hrr hr hfs hft hmul hll hvx
      go_wp2_with fail
      refine HN.out.mono ?_
      rintro e w1 ⟨v, rfl, hg, hwb⟩
      rw [List.append_assoc, HFS.out] at hwb
      have HX2 : Hid (Wb w1 Bw (l ++ ((xs.take (j + 1)).map encI).flatten) ∧ w.grownBy w1 (some Bw)) := ⟨hwb, grown_trans HX.out.2 hg⟩
      clear hwb hg HN HX
      go_wp2
      go_roundw
      case rel => exact ⟨j + 1, by omega, by go_num, HX2⟩
      case measure => simp only [intOf]; omega
    · have hjn : j = n := by omega
      have HE : Hid (Wrote w Bw (l ++ (xs.map encI).flatten) (.returned (.tuple #[])) wr) := by
        have := HX.out
        rw [List.take_of_length_le (by omega)] at this
        exact ⟨_, rfl, this.2, this.1⟩
      clear HX
      go_wp2
      go_end0
      exact HE.out

set_option maxHeartbeats 1000000 in
theorem w_txts_ok {w : World} {Bw : Nat} {l : List UInt8} (h : Wb w Bw l) {A : Option Addr} {n c : Nat} {xs : List (List UInt8)} (hr : Rx w Bw A n c (sv xs)) (hv : ∀ x ∈ xs, x.length ≤ 64) (hl : l.length + 74 * xs.length ≤ 900000) :
    Calls Tryd.prog 38 #[.slice A n c, .func (.func 36) #[.pointer (some ⟨Bw, 0, none⟩)] #[]] w (Wrote w Bw (l ++ (xs.map putT).flatten)) := by
  have hB : Bw < w.heap.size := by obtain ⟨A, n, c, hbx, ho⟩ := h; exact (Array.getElem?_eq_some_iff.1 hbx).1
  have hlen := hr.len
  rw [sv_len] at hlen
  have htop := hr.top
  have hcap := hr.cap
  have HW : Hid (Wb w Bw (l ++ ((xs.take 0).map putT).flatten) ∧ w.grownBy w (some Bw)) := ⟨by simpa using h, grown_refl' w _⟩
  have HV := Lib.hid hv
  clear h hv
  go_enter Tryd.func38, Tryd.ntmps38
  go_wp2_with fail
  go_loopw [8] (fun i wr => ∃ j : Nat, j ≤ n ∧ i = .int .i64 j ∧ Hid (Wb wr Bw (l ++ ((xs.take j).map putT).flatten) ∧ w.grownBy wr (some Bw))) (fun i _ => n - (intOf i).toNat)
  case atStart => exact ⟨0, by omega, rfl, HW⟩
  case round =>
    obtain ⟨j, hj, rfl, HX⟩ := hrel
    clear HW
    have hrr := hr.below (below_grown HX.out.2 (Nat.le_of_lt hB) (fun k hk => by cases hk; exact Nat.le_refl _))
    by_cases hlt : j < n
    · obtain ⟨b, off, rfl, hb, hc⟩ := hrr.cells (by omega)
      have hcell := hc j hlt
      rw [sv_at (by omega)] at hcell
      have hfs := flat_snoc putT [] (l := xs) (j := j) (by omega)
      have hvx := HV.out _ (getD_mem [] (l := xs) (j := j) (by omega))
      have hft := flat_len putT (m := 74) (l := xs.take j) (fun x hx => by
        have := HV.out x (List.mem_of_mem_take hx)
        exact putT_len' this)
      rw [List.length_take, Nat.min_eq_left (by omega)] at hft
      have hmul : 74 * j ≤ 74 * xs.length := Nat.mul_le_mul_left _ (by omega)
      have hll : (l ++ ((xs.take j).map putT).flatten).length ≤ 1000000 := by rw [List.length_append]; omega
      generalize xs.getD j [] = x at *
      have HN := Lib.hid (w_txt_ok HX.out.1 hll x (by omega))
      have HFS := Lib.hid hfs
      clear hc hrr hr hfs hft hmul hll hvx
      go_wp2_with fail
      refine HN.out.mono ?_
      rintro e w1 ⟨v, rfl, hg, hwb⟩
      rw [List.append_assoc, HFS.out] at hwb
      have HX2 : Hid (Wb w1 Bw (l ++ ((xs.take (j + 1)).map putT).flatten) ∧ w.grownBy w1 (some Bw)) := ⟨hwb, grown_trans HX.out.2 hg⟩
      clear hwb hg HN HX
      go_wp2
      go_roundw
      case rel => exact ⟨j + 1, by omega, by go_num, HX2⟩
      case measure => simp only [intOf]; omega
    · have hjn : j = n := by omega
      have HE : Hid (Wrote w Bw (l ++ (xs.map putT).flatten) (.returned (.tuple #[])) wr) := by
        have := HX.out
        rw [List.take_of_length_le (by omega)] at this
        exact ⟨_, rfl, this.2, this.1⟩
      clear HX
      go_wp2
      go_end0
      exact HE.out
end Go.Proofs.YtlijagbklopipaaDoor
