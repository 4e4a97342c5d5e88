/-
  Contracts of the program's reader of layer 6: begin, end. Conditions: those that each states.
-/
import Derived.Deep.DeepCutAuto
import Derived.Test.YtlijagbklopipaaDoorProL
import Derived.Test.YtlijagbklopipaaDoorProH
namespace Go.Proofs.YtlijagbklopipaaDoor
open Go.RowKit
set_option linter.unusedVariables false

theorem results_tmp4 {fn : Func} {t u v x : Tmp} (h : fn.results = #[.tmp t, .tmp u, .tmp v, .tmp x]) (tmps : Array Value) (P : Program) (w : World) :
    (results fn tmps).run P w = .ok (.tuple #[tmps.getD t undef, tmps.getD u undef, tmps.getD v undef, tmps.getD x undef]) w := by
  simp [results, h]

theorem p_beg_short {w : World} {B : Nat} {A : Option Addr} {n c : Nat} {l : List UInt8} (h : Rd w B A n c l) (h2 : l.length < 2) :
    Calls Tryd.prog 44 #[.slice A n c] w (Tells w (.tuple #[.pointer none, .int .i64 0, .int .i64 0, .int .i64 10])) := by
  have hlen := h.len
  have hcap := h.cap
  have htop := h.top
  have t1 : decide ((n : Int) < 2) = true := by simp only [decide_eq_true_eq]; omega
  clear h h2
  go_enter Tryd.func44, Tryd.ntmps44
  go_wp2_with fail
  refine bodyPost_ret (results_tmp4 rfl _ _ _) rfl ?_
  exact ⟨rfl, rfl⟩

def Begins (w : World) (A : Option Addr) (n c : Nat) (K V : Int) (e : Ending) (w' : World) : Prop :=
  ∃ Bx, e = .returned (.tuple #[.pointer (some ⟨Bx, 0, none⟩), .int .i64 K, .int .i64 V, .int .i64 (knownE K V)]) ∧ w.heap.size ≤ Bx ∧ w'.heap[Bx]? = some (.cells #[.slice A n c, .int .i64 2, .int .i64 0] 77 (0, 0)) ∧ Below w.heap.size w w'

set_option maxHeartbeats 1000000 in
theorem p_beg_ok {w : World} {B : Nat} {A : Option Addr} {n c : Nat} {l : List UInt8} (h : Rd w B A n c l) (h2 : ¬ l.length < 2) :
    Calls Tryd.prog 44 #[.slice A n c] w (Begins w A n c (kindOf l) (verOf l)) := by
  have hlen := h.len
  have hcap := h.cap
  have htop := h.top
  have t1 : decide ((n : Int) < 2) = false := by simp only [decide_eq_false_iff_not]; omega
  have t2 : (0 : Int) < (n : Int) := by omega
  have t3 : (1 : Int) < (n : Int) := by omega
  have t4 : 0 < n := by omega
  have t5 : 1 < n := by omega
  obtain ⟨b, off, rfl, hb, hc⟩ := h.cells (by omega)
  have c0 := hc 0 (by omega)
  have c1 := hc 1 (by omega)
  rw [Nat.add_zero] at c0
  have hk : ((l.getD 0 0).toNat : Int) = kindOf l := rfl
  have hv : ((l.getD 1 0).toNat : Int) = verOf l := rfl
  have hk1 : 0 ≤ kindOf l ∧ kindOf l ≤ 255 := by rw [← hk]; have := (l.getD 0 0).toNat_lt; omega
  have hv1 : 0 ≤ verOf l ∧ verOf l ≤ 255 := by rw [← hv]; have := (l.getD 1 0).toNat_lt; omega
  rw [hk] at c0
  rw [hv] at c1
  generalize kindOf l = K at *
  generalize verOf l = V at *
  have HS : Hid (∀ w', Below w.heap.size w w' → w'.cell? ⟨b, off, none⟩ = some (.int .u8 K) ∧ w'.cell? ⟨b, off + 1, none⟩ = some (.int .u8 V)) := Lib.hid fun w' hb => by
    have hlt := block_lt_of_cell c0
    exact ⟨(hb.cell (p := ⟨b, off, none⟩) hlt).trans c0, (hb.cell (p := ⟨b, off + 1, none⟩) hlt).trans c1⟩
  have x1 : IntKind.i64.wrap K = K := IntWalk.i64_in _ (by omega)
  have x2 : IntKind.i64.wrap V = V := IntWalk.i64_in _ (by omega)
  have z0 := (Below.refl w.heap.size w).drew
  clear hk hv h hc h2 c0 c1
  go_enter Tryd.func44, Tryd.ntmps44
  go_wp2_with fail
  go_region_held3 (fun w' => w'.cell? ⟨b, off, none⟩ = some (.int .u8 K) ∧ w'.cell? ⟨b, off + 1, none⟩ = some (.int .u8 V)) (first | exact HS.out _ z0 | fail) (fail)
  go_wp2_with fail
  refine (known_is _ _).mono ?_
  rintro e w1 ⟨rfl, rfl⟩
  go_wp2_with fail
  refine bodyPost_ret (results_tmp4 rfl _ _ _) rfl ?_
  exact ⟨_, rfl, by simp, heap_alloc_new _ _, bput z0 _⟩

end Go.Proofs.YtlijagbklopipaaDoor
