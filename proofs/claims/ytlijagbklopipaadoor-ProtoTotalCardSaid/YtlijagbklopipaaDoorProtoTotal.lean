/-
  The walk of ProtoTotal. Conditions: those that it states.
-/
import Derived.Test.YtlijagbklopipaaDoorLivB
namespace Go.Proofs.YtlijagbklopipaaDoor
open Go.RowKit
set_option linter.unusedVariables false

theorem decQ_err {l : List UInt8} (h2 : ¬ l.length < 2) (hk : knownE (kindOf l) (verOf l) = 0) : 0 ≤ (decQ l).2 ∧ (decQ l).2 ≤ 11 := decG_err cod_bodyQ h2 hk
theorem decS_err {l : List UInt8} (h2 : ¬ l.length < 2) (hk : knownE (kindOf l) (verOf l) = 0) : 0 ≤ (decS l).2 ∧ (decS l).2 ≤ 11 := decG_err (R := fun _ v => rbodyS v) (fun _ v => cod_bodyS v) h2 hk

set_option maxRecDepth 100000 in
set_option maxHeartbeats 4000000 in
theorem protoTotal_walk {w : World} (hs : Shp w) {A : Option Addr} {n c : Nat} {l : List UInt8} (h : Rd w w.heap.size A n c l) :
    Calls Tryd.prog 11 #[.slice A n c] w (Says w (.bool true)) := by
  have HL := Lib.hid (live_ok w hs)
  have HQ := Lib.hid (fun w' (hb : Below w.heap.size w w') => p_getQ_ok (hs.on hb) ((h.step hb (Nat.le_refl _)).more hb.size))
  have HS := Lib.hid (fun w' (hb : Below w.heap.size w w') => p_getS_ok ((h.step hb (Nat.le_refl _)).more hb.size))
  have hlen := h.len
  have hcap := h.cap
  have htop := h.top
  have HR := Lib.hid h
  clear h hs
  by_cases h5 : 5000 < n
  · have t1 : decide ((5000 : Int) < (n : Int)) = true := by simp only [decide_eq_true_eq]; omega
    clear h5
    go_enter Tryd.func11, Tryd.ntmps11
    go_wp2_with fail
    refine HL.out.mono ?_
    rintro e w1 ⟨rfl, b1⟩
    go_wp2
    go_ret
    exact ⟨rfl, b1⟩
  have t1 : decide ((5000 : Int) < (n : Int)) = false := by simp only [decide_eq_false_iff_not]; omega
  obtain ⟨E, hE⟩ : ∃ E, (decQ l).2 = E := ⟨_, rfl⟩
  obtain ⟨E', hE'⟩ : ∃ E, (decS l).2 = E := ⟨_, rfl⟩
  have HE := Lib.hid hE
  have HE' := Lib.hid hE'
  clear h5 hE hE'
  go_enter Tryd.func11, Tryd.ntmps11
  go_wp2_with fail
  refine HL.out.mono ?_
  rintro e w1 ⟨rfl, b1⟩
  have B1 := Lib.hid b1
  clear b1
  go_wp2_with fail
  refine (HQ.out w1 B1.out).mono ?_
  rintro e w2 ⟨Ai, ni, ci, At, nt, ct, Ab, nb, cb, rfl, -, b2⟩
  rw [HE.out]
  have b3 := bput (bthen B1.out b2) (.cells #[.int .i64 (decQ l).1.kind, .int .i64 (decQ l).1.ver, .int .i64 (decQ l).1.id, .string (strOf (decQ l).1.who), .slice Ai ni ci, .slice At nt ct, .slice Ab nb cb] 26)
  have HS3 := Lib.hid (HS.out _ b3)
  have B3 := Lib.hid b3
  clear b2 b3
  go_wp2_with fail
  refine HS3.out.mono ?_
  rintro e w4 ⟨Bi, mi, di, Bt, mt, dt, Bb, mb, db, rfl, -, b4⟩
  rw [HE'.out]
  have b5 := bput (bthen B3.out b4) (.cells #[.int .i64 (decS l).1.kind, .int .i64 (decS l).1.ver, .int .i64 (decS l).1.id, .int .i64 (decS l).1.er, .int .i64 (decS l).1.wait, .slice Bi mi di, .slice Bt mt dt, .slice Bb mb db] 38)
  have B5 := Lib.hid b5
  clear b4 b5
  by_cases h2 : l.length < 2
  · have t2 : decide ((n : Int) < 2) = true := by simp only [decide_eq_true_eq]; omega
    have e1 := HE.out
    have e2 := HE'.out
    rw [decQ_short0 h2] at e1
    rw [decS_short0 h2] at e2
    subst e1
    subst e2
    clear h2
    go_wp2
    go_ret
    exact ⟨rfl, B5.out⟩
  have t2 : decide ((n : Int) < 2) = false := by simp only [decide_eq_false_iff_not]; omega
  obtain ⟨b, off, rfl, hb, hc⟩ := ((HR.out.step B5.out (Nat.le_refl _))).cells (by omega)
  have c0 := hc 0 (by omega)
  have c1 := hc 1 (by omega)
  rw [Nat.add_zero] at c0
  rw [show ((l.getD 0 0).toNat : Int) = kindOf l from rfl] at c0
  rw [show ((l.getD 1 0).toNat : Int) = verOf l from rfl] at c1
  have x1 : (0 : Int) < (n : Int) := by omega
  have x2 : (1 : Int) < (n : Int) := by omega
  have x3 : 0 < n := by omega
  have x4 : 1 < n := by omega
  have hkn : ∀ E0, knownE (kindOf l) (verOf l) = E0 → E0 ≠ 0 → E = E0 ∧ E' = E0 := fun E0 h0 hne => by
    have e1 := HE.out
    have e2 := HE'.out
    rw [decQ_known h2 (by rw [h0]; exact hne)] at e1
    rw [decS_known h2 (by rw [h0]; exact hne)] at e2
    exact ⟨e1.symm.trans h0, e2.symm.trans h0⟩
  have hok : knownE (kindOf l) (verOf l) = 0 → (0 ≤ E ∧ E ≤ 11) ∧ 0 ≤ E' ∧ E' ≤ 11 := fun h0 => by
    have e1 := decQ_err h2 h0
    have e2 := decS_err h2 h0
    rw [HE.out] at e1
    rw [HE'.out] at e2
    exact ⟨e1, e2⟩
  have hv0 : 0 ≤ verOf l := by unfold verOf; omega
  generalize kindOf l = K at *
  generalize verOf l = V at *
  clear h2 hc HE HE' HR
  by_cases k1 : K < 1
  · have t3 : decide (K < 1) = true := by simpa using k1
    obtain ⟨rfl, rfl⟩ := hkn 60 (known_of1 V (.inl k1)) (by omega)
    clear k1 hkn hok
    go_wp2
    go_ret
    exact ⟨rfl, B5.out⟩
  have t3 : decide (K < 1) = false := by simpa using k1
  by_cases k2 : 12 < K
  · have t4 : decide (12 < K) = true := by simpa using k2
    obtain ⟨rfl, rfl⟩ := hkn 60 (known_of1 V (.inr k2)) (by omega)
    clear k1 k2 hkn hok
    go_wp2
    go_ret
    exact ⟨rfl, B5.out⟩
  have t4 : decide (12 < K) = false := by simpa using k2
  by_cases k3 : 2 < V
  · have t5 : decide (2 < V) = true := by simpa using k3
    obtain ⟨rfl, rfl⟩ := hkn 61 (known_of2 (by omega) (.inr k3)) (by omega)
    clear k1 k2 k3 hkn hok
    go_wp2
    go_ret
    exact ⟨rfl, B5.out⟩
  have t5 : decide (2 < V) = false := by simpa using k3
  obtain ⟨⟨o1, o2⟩, o3, o4⟩ := hok (known_of3 (by omega) (by omega))
  have t6 : (E != 60) = true := by simp only [bne_iff_ne, ne_eq]; omega
  have t7 : (E != 61) = true := by simp only [bne_iff_ne, ne_eq]; omega
  have t8 : (E' != 60) = true := by simp only [bne_iff_ne, ne_eq]; omega
  have t9 : (E' != 61) = true := by simp only [bne_iff_ne, ne_eq]; omega
  clear k1 k2 k3 hkn hok o1 o2 o3 o4
  go_wp2
  go_ret
  exact ⟨rfl, B5.out⟩
end Go.Proofs.YtlijagbklopipaaDoor
