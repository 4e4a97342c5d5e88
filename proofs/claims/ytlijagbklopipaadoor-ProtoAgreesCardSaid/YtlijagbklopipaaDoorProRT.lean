/-
  Contracts of the document's reader of layer 6: begin, end. Conditions: those that each states.
-/
import Derived.Deep.DeepCutAuto
import Derived.Test.YtlijagbklopipaaDoorProV
namespace Go.Proofs.YtlijagbklopipaaDoor
open Go.RowKit
set_option linter.unusedVariables false

theorem r_beg_short {w : World} {B : Nat} {A : Option Addr} {n c : Nat} {l : List UInt8} (h : Rd w B A n c l) (h2 : l.length < 2) :
    Calls Tryd.prog 52 #[.slice A n c] w (Tells w (.tuple #[.pointer none, .int .i64 10])) := by
  have hlen := h.len
  have hcap := h.cap
  have htop := h.top
  have t1 : decide ((n : Int) < 2) = true := by simp only [decide_eq_true_eq]; omega
  clear h h2
  go_enter Tryd.func52, Tryd.ntmps52
  go_wp2
  go_ret2
  exact ⟨rfl, rfl⟩

def BeginsR (w : World) (A : Option Addr) (n c : Nat) (K V : Int) (e : Ending) (w' : World) : Prop :=
  ∃ Bx, e = .returned (.tuple #[.pointer (some ⟨Bx, 0, none⟩), .int .i64 (knownE K V)]) ∧ w.heap.size ≤ Bx ∧ w'.heap[Bx]? = some (.cells #[.slice A n c, .int .i64 2, .int .i64 0] 88 (0, 0)) ∧ Below w.heap.size w w'
theorem heap_drew_new (w : World) (o : Obj) : (w.drew.alloc o).heap[w.heap.size]? = some o := heap_alloc_new w.drew o
theorem heap_new_drew (w : World) (o : Obj) : ((w.alloc o).drew).heap[w.heap.size]? = some o := heap_alloc_new w o

set_option maxHeartbeats 2000000 in
theorem r_beg_ok {w : World} {B : Nat} {A : Option Addr} {n c : Nat} {l : List UInt8} (h : Rd w B A n c l) (h2 : ¬ l.length < 2) :
    Calls Tryd.prog 52 #[.slice A n c] w (BeginsR w A n c (kindOf l) (verOf l)) := by
  have hlen := h.len
  have hcap := h.cap
  have htop := h.top
  have t1 : decide ((n : Int) < 2) = false := by simp only [decide_eq_false_iff_not]; omega
  have t2 : (0 : Int) < (n : Int) := by omega
  have t3 : (1 : Int) < (n : Int) := by omega
  have t4 : 0 < n := by omega
  have t5 : 1 < n := by omega
  obtain ⟨b, off, rfl, hb, hc⟩ := h.cells (by omega)
  have c0 := hc 0 (by omega)
  have c1 := hc 1 (by omega)
  rw [Nat.add_zero] at c0
  have hk : ((l.getD 0 0).toNat : Int) = kindOf l := rfl
  have hv : ((l.getD 1 0).toNat : Int) = verOf l := rfl
  have hk1 : 0 ≤ kindOf l ∧ kindOf l ≤ 255 := by rw [← hk]; have := (l.getD 0 0).toNat_lt; omega
  have hv1 : 0 ≤ verOf l ∧ verOf l ≤ 255 := by rw [← hv]; have := (l.getD 1 0).toNat_lt; omega
  rw [hk] at c0
  rw [hv] at c1
  generalize kindOf l = K at *
  generalize verOf l = V at *
  have HS : Hid (∀ w', Below w.heap.size w w' → w'.cell? ⟨b, off, none⟩ = some (.int .u8 K) ∧ w'.cell? ⟨b, off + 1, none⟩ = some (.int .u8 V)) := Lib.hid fun w' hb => by
    have hlt := block_lt_of_cell c0
    exact ⟨(hb.cell (p := ⟨b, off, none⟩) hlt).trans c0, (hb.cell (p := ⟨b, off + 1, none⟩) hlt).trans c1⟩
  have x1 : IntKind.i64.wrap K = K := IntWalk.i64_in _ (by omega)
  have x2 : IntKind.i64.wrap V = V := IntWalk.i64_in _ (by omega)
  have z0 := (Below.refl w.heap.size w).drew
  clear hk hv h hc h2 c0 c1
  go_enter Tryd.func52, Tryd.ntmps52
  go_wp2_with fail
  go_region_held3 (fun w' => w'.cell? ⟨b, off, none⟩ = some (.int .u8 K) ∧ w'.cell? ⟨b, off + 1, none⟩ = some (.int .u8 V)) (first | exact HS.out _ z0 | exact HS.out _ (bput z0 _) | fail) (first
    | (go_at_call 66; (with_reducible refine (rknown_is _ _).mono ?_); rintro e1 w1 ⟨rfl, rfl⟩)
    | fail)
  all_goals
    go_wp2
    go_ret2
    exact ⟨_, rfl, Nat.le_refl _, heap_drew_new _ _, bput z0 _⟩

/-- What the document's end tells. -/
def endR (l : List UInt8) (s : St) : Int := if s.2 = 0 ∧ s.1 ≠ (l.length : Int) then 11 else s.2
theorem endE_R {l : List UInt8} {s : St} {c : Int} (h : s.2 = 0 → s.1 ≤ (l.length : Int)) : endE l s c = if endR l s ≠ 0 then endR l s else if c ≠ 0 then 1 else 0 := by
  by_cases h0 : s.2 = 0
  · have h1 := h h0
    by_cases h2 : s.1 = (l.length : Int)
    · have e : endR l s = 0 := by unfold endR; rw [if_neg (fun hh => hh.2 h2)]; exact h0
      rw [e]
      unfold endE
      rw [if_neg (by omega), if_neg (by omega)]
      simp
    · have e : endR l s = 11 := by unfold endR; rw [if_pos ⟨h0, h2⟩]
      rw [e]
      unfold endE
      rw [if_neg (by omega), if_pos (by omega), if_pos (by omega)]
  · have e : endR l s = s.2 := by unfold endR; rw [if_neg (fun hh => h0 hh.1)]
    rw [e]
    unfold endE
    rw [if_pos h0, if_pos h0]

set_option maxHeartbeats 2000000 in
theorem r_end_ok {w : World} {Bx : Nat} {A : Option Addr} {n c : Nat} {s : St} {l : List UInt8} (h : w.heap[Bx]? = some (.cells #[.slice A n c, .int .i64 s.1, .int .i64 s.2] 88 (0, 0))) {B : Nat} (hr : Rd w B A n c l) :
    Calls Tryd.prog 60 #[.pointer (some ⟨Bx, 0, none⟩)] w (Says w (.int .i64 (endR l s))) := by
  have hlen := hr.len
  have hcap := hr.cap
  have htop := hr.top
  obtain ⟨k0, k1, k2, f1, f2⟩ := Reads.cells (Reads.refl h)
  obtain ⟨a, e⟩ := s
  unfold endR
  by_cases he : e ≠ 0
  · have t1 : (e == 0) = false := by simpa using he
    rw [if_neg (fun hh => he hh.1)]
    clear h hr he f1 f2
    go_enter Tryd.func60, Tryd.ntmps60
    go_wp2_with fail
    go_quiet (fail)
    go_wp2
    go_ret
    exact ⟨rfl, bdrewN (Below.refl _ _) _⟩
  obtain rfl : e = 0 := Decidable.not_not.1 he
  by_cases h1 : a = (l.length : Int)
  · have t1 : (a != (n : Int)) = false := by simp only [bne_eq_false_iff_eq]; omega
    rw [if_neg (fun hh => hh.2 h1)]
    clear h hr he h1 f1 f2
    go_enter Tryd.func60, Tryd.ntmps60
    go_wp2_with fail
    go_quiet (fail)
    go_wp2
    go_ret
    exact ⟨rfl, bdrewN (Below.refl _ _) _⟩
  · have t1 : (a != (n : Int)) = true := by simp only [bne_iff_ne, ne_eq]; omega
    rw [if_pos ⟨rfl, h1⟩]
    clear h hr he h1 f1 f2
    go_enter Tryd.func60, Tryd.ntmps60
    go_wp2_with fail
    go_quiet (fail)
    go_wp2
    go_ret
    exact ⟨rfl, bdrewN (Below.refl _ _) _⟩
end Go.Proofs.YtlijagbklopipaaDoor
