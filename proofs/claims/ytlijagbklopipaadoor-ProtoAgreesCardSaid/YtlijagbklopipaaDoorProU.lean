/-
  Contracts of the program's reader of layer 6: end, and the functions handed to it. Conditions: those that each states.
-/
import Derived.Test.YtlijagbklopipaaDoorProT
namespace Go.Proofs.YtlijagbklopipaaDoor
open Go.RowKit
set_option linter.unusedVariables false

theorem endE1 {l : List UInt8} {s : St} {c : Int} (h : s.2 ≠ 0) : endE l s c = s.2 := by unfold endE; rw [if_pos h]
theorem endE2 {l : List UInt8} {s : St} {c : Int} (h : s.2 = 0) (h1 : s.1 < (l.length : Int)) : endE l s c = 11 := by unfold endE; rw [if_neg (by omega), if_pos h1]
theorem endE3 {l : List UInt8} {s : St} {c : Int} (h : s.2 = 0) (h1 : ¬ s.1 < (l.length : Int)) : endE l s c = if c ≠ 0 then 1 else 0 := by unfold endE; rw [if_neg (by omega), if_neg h1]

theorem p_clQ_ok {w : World} (hs : Shp w) {Bq : Nat} (k v id : Int) (who : List UInt8) {Ai At Ab : Option Addr} {ni ci nt ct nb cb : Nat} {zs ts bs} (hq : w.heap[Bq]? = some (.cells #[.int .i64 k, .int .i64 v, .int .i64 id, .string (strOf who), .slice Ai ni ci, .slice At nt ct, .slice Ab nb cb] 26 (0, 0))) {B : Nat} (h : Rq w B Ai ni ci At nt ct Ab nb cb zs ts bs) (hB : B ≤ w.heap.size) (hw : who.length ≤ 9223372036854775807) :
    Calls Tryd.prog 51 #[.pointer (some ⟨Bq, 0, none⟩)] w (Says w (.int .i64 (chkQ ⟨k, v, id, who, zs, ts, bs⟩))) := by
  have hc : ∀ j, w.cell? ⟨Bq, j, none⟩ = (#[.int .i64 k, .int .i64 v, .int .i64 id, .string (strOf who), .slice Ai ni ci, .slice At nt ct, .slice Ab nb cb])[j]? := fun j => cell_of_row _ Bq j _ _ _ hq
  have c0 := hc 0
  have c1 := hc 1
  have c2 := hc 2
  have c3 := hc 3
  have c4 := hc 4
  have c5 := hc 5
  have c6 := hc 6
  have HC := Lib.hid (p_chkQ_ok hs k v id who (h.more hB) hw)
  clear hc hq h hs hw
  simp only [List.getElem?_toArray, List.getElem?_cons_zero, List.getElem?_cons_succ] at c0 c1 c2 c3 c4 c5 c6
  go_enter Tryd.func51, Tryd.ntmps51
  go_wp2_with fail
  refine HC.out.mono ?_
  rintro e w1 ⟨rfl, hb⟩
  have HB := Lib.hid hb
  clear hb
  go_wp2
  go_ret
  exact ⟨rfl, HB.out⟩

theorem p_clS_ok {w : World} {Bq : Nat} (k v id er wa : Int) {Ai At Ab : Option Addr} {ni ci nt ct nb cb : Nat} {zs ts bs} (hq : w.heap[Bq]? = some (.cells #[.int .i64 k, .int .i64 v, .int .i64 id, .int .i64 er, .int .i64 wa, .slice Ai ni ci, .slice At nt ct, .slice Ab nb cb] 38 (0, 0))) {B : Nat} (h : Rq w B Ai ni ci At nt ct Ab nb cb zs ts bs) (hB : B ≤ w.heap.size) :
    Calls Tryd.prog 74 #[.pointer (some ⟨Bq, 0, none⟩)] w (Says w (.int .i64 (chkS ⟨k, v, id, er, wa, zs, ts, bs⟩))) := by
  have hc : ∀ j, w.cell? ⟨Bq, j, none⟩ = (#[.int .i64 k, .int .i64 v, .int .i64 id, .int .i64 er, .int .i64 wa, .slice Ai ni ci, .slice At nt ct, .slice Ab nb cb])[j]? := fun j => cell_of_row _ Bq j _ _ _ hq
  have c0 := hc 0
  have c1 := hc 1
  have c2 := hc 2
  have c3 := hc 3
  have c4 := hc 4
  have c5 := hc 5
  have c6 := hc 6
  have c7 := hc 7
  have HC := Lib.hid (p_chkS_ok k v id er wa (h.more hB))
  clear hc hq h
  simp only [List.getElem?_toArray, List.getElem?_cons_zero, List.getElem?_cons_succ] at c0 c1 c2 c3 c4 c5 c6 c7
  go_enter Tryd.func74, Tryd.ntmps74
  go_wp2_with fail
  refine HC.out.mono ?_
  rintro e w1 ⟨rfl, hb⟩
  have HB := Lib.hid hb
  clear hb
  go_wp2
  go_ret
  exact ⟨rfl, HB.out⟩

set_option maxHeartbeats 1000000 in
theorem p_endQ_ok {w : World} {Bx : Nat} {A : Option Addr} {n c : Nat} {s : St} {l : List UInt8} (h : w.heap[Bx]? = some (.cells #[.slice A n c, .int .i64 s.1, .int .i64 s.2] 77 (0, 0))) {B : Nat} (hr : Rd w B A n c l) {Bq : Nat} {ck : Int}
    (hck : ∀ w', Below w.heap.size w w' → Calls Tryd.prog 51 #[.pointer (some ⟨Bq, 0, none⟩)] w' (Says w' (.int .i64 ck))) :
    Calls Tryd.prog 50 #[.pointer (some ⟨Bx, 0, none⟩), .func (.func 51) #[] #[.pointer (some ⟨Bq, 0, none⟩)]] w (Says w (.int .i64 (endE l s ck))) := by
  have hlen := hr.len
  have hcap := hr.cap
  have htop := hr.top
  obtain ⟨k0, k1, k2, f1, f2⟩ := Reads.cells (Reads.refl h)
  obtain ⟨a, e⟩ := s
  by_cases he : e ≠ 0
  · have t1 : (e != 0) = true := by simpa using he
    rw [endE1 (s := (a, e)) he]
    clear h hr hck he
    go_enter Tryd.func50, Tryd.ntmps50
    go_wp2
    go_ret
    exact ⟨rfl, Below.refl _ _⟩
  obtain rfl : e = 0 := Decidable.not_not.1 he
  have HS : Hid (∀ w', Below w.heap.size w w' → w'.cell? ⟨Bx, 0, none⟩ = some (.slice A n c) ∧ w'.cell? ⟨Bx, 1, none⟩ = some (.int .i64 a)) := Lib.hid fun w' hb => by
    have hlt := block_lt_of_cell k0
    exact ⟨(hb.cell (p := ⟨Bx, 0, none⟩) hlt).trans k0, (hb.cell (p := ⟨Bx, 1, none⟩) hlt).trans k1⟩
  have z0 := (Below.refl w.heap.size w).drew
  by_cases h1 : a < (l.length : Int)
  · have t1 : decide (a < (n : Int)) = true := by simp only [decide_eq_true_eq]; omega
    rw [endE2 (s := (a, 0)) rfl h1]
    clear h hr hck he h1 k0 k1 f1 f2
    go_enter Tryd.func50, Tryd.ntmps50
    go_wp2_with fail
    go_region_held3 (fun w' => w'.cell? ⟨Bx, 0, none⟩ = some (.slice A n c) ∧ w'.cell? ⟨Bx, 1, none⟩ = some (.int .i64 a)) (first | exact HS.out _ z0 | fail) (fail)
    go_wp2
    go_ret
    exact ⟨rfl, z0⟩
  · have t1 : decide (a < (n : Int)) = false := by simp only [decide_eq_false_iff_not]; omega
    rw [endE3 (s := (a, 0)) rfl h1]
    have HC := Lib.hid (hck w.drew z0)
    generalize hZ : (if ck ≠ 0 then (1 : Int) else 0) = Z
    clear h hr hck he h1 k0 k1 f1 f2
    by_cases hk : ck = 0
    · have t2 : (ck != 0) = false := by simpa using hk
      have HE : Hid (Z = 0) := Lib.hid (by rw [← hZ, if_neg (by simpa using hk)])
      clear hk hZ
      go_enter Tryd.func50, Tryd.ntmps50
      go_wp2_with fail
      go_region_held3 (fun w' => w'.cell? ⟨Bx, 0, none⟩ = some (.slice A n c) ∧ w'.cell? ⟨Bx, 1, none⟩ = some (.int .i64 a)) (first | exact HS.out _ z0 | fail) (fail)
      go_wp2_with fail
      refine HC.out.mono ?_
      rintro e w1 ⟨rfl, hb⟩
      have HB := Lib.hid (z0.trans hb)
      clear hb
      go_wp2
      go_ret
      exact badI HE.out HB.out
    · have t2 : (ck != 0) = true := by simpa using hk
      have HE : Hid (Z = 1) := Lib.hid (by rw [← hZ, if_pos hk])
      clear hk hZ
      go_enter Tryd.func50, Tryd.ntmps50
      go_wp2_with fail
      go_region_held3 (fun w' => w'.cell? ⟨Bx, 0, none⟩ = some (.slice A n c) ∧ w'.cell? ⟨Bx, 1, none⟩ = some (.int .i64 a)) (first | exact HS.out _ z0 | fail) (fail)
      go_wp2_with fail
      refine HC.out.mono ?_
      rintro e w1 ⟨rfl, hb⟩
      have HB := Lib.hid (z0.trans hb)
      clear hb
      go_wp2
      go_ret
      exact badI HE.out HB.out

set_option maxHeartbeats 1000000 in
theorem p_endS_ok {w : World} {Bx : Nat} {A : Option Addr} {n c : Nat} {s : St} {l : List UInt8} (h : w.heap[Bx]? = some (.cells #[.slice A n c, .int .i64 s.1, .int .i64 s.2] 77 (0, 0))) {B : Nat} (hr : Rd w B A n c l) {Bq : Nat} {ck : Int}
    (hck : ∀ w', Below w.heap.size w w' → Calls Tryd.prog 74 #[.pointer (some ⟨Bq, 0, none⟩)] w' (Says w' (.int .i64 ck))) :
    Calls Tryd.prog 50 #[.pointer (some ⟨Bx, 0, none⟩), .func (.func 74) #[] #[.pointer (some ⟨Bq, 0, none⟩)]] w (Says w (.int .i64 (endE l s ck))) := by
  have hlen := hr.len
  have hcap := hr.cap
  have htop := hr.top
  obtain ⟨k0, k1, k2, f1, f2⟩ := Reads.cells (Reads.refl h)
  obtain ⟨a, e⟩ := s
  by_cases he : e ≠ 0
  · have t1 : (e != 0) = true := by simpa using he
    rw [endE1 (s := (a, e)) he]
    clear h hr hck he
    go_enter Tryd.func50, Tryd.ntmps50
    go_wp2
    go_ret
    exact ⟨rfl, Below.refl _ _⟩
  obtain rfl : e = 0 := Decidable.not_not.1 he
  have HS : Hid (∀ w', Below w.heap.size w w' → w'.cell? ⟨Bx, 0, none⟩ = some (.slice A n c) ∧ w'.cell? ⟨Bx, 1, none⟩ = some (.int .i64 a)) := Lib.hid fun w' hb => by
    have hlt := block_lt_of_cell k0
    exact ⟨(hb.cell (p := ⟨Bx, 0, none⟩) hlt).trans k0, (hb.cell (p := ⟨Bx, 1, none⟩) hlt).trans k1⟩
  have z0 := (Below.refl w.heap.size w).drew
  by_cases h1 : a < (l.length : Int)
  · have t1 : decide (a < (n : Int)) = true := by simp only [decide_eq_true_eq]; omega
    rw [endE2 (s := (a, 0)) rfl h1]
    clear h hr hck he h1 k0 k1 f1 f2
    go_enter Tryd.func50, Tryd.ntmps50
    go_wp2_with fail
    go_region_held3 (fun w' => w'.cell? ⟨Bx, 0, none⟩ = some (.slice A n c) ∧ w'.cell? ⟨Bx, 1, none⟩ = some (.int .i64 a)) (first | exact HS.out _ z0 | fail) (fail)
    go_wp2
    go_ret
    exact ⟨rfl, z0⟩
  · have t1 : decide (a < (n : Int)) = false := by simp only [decide_eq_false_iff_not]; omega
    rw [endE3 (s := (a, 0)) rfl h1]
    have HC := Lib.hid (hck w.drew z0)
    generalize hZ : (if ck ≠ 0 then (1 : Int) else 0) = Z
    clear h hr hck he h1 k0 k1 f1 f2
    by_cases hk : ck = 0
    · have t2 : (ck != 0) = false := by simpa using hk
      have HE : Hid (Z = 0) := Lib.hid (by rw [← hZ, if_neg (by simpa using hk)])
      clear hk hZ
      go_enter Tryd.func50, Tryd.ntmps50
      go_wp2_with fail
      go_region_held3 (fun w' => w'.cell? ⟨Bx, 0, none⟩ = some (.slice A n c) ∧ w'.cell? ⟨Bx, 1, none⟩ = some (.int .i64 a)) (first | exact HS.out _ z0 | fail) (fail)
      go_wp2_with fail
      refine HC.out.mono ?_
      rintro e w1 ⟨rfl, hb⟩
      have HB := Lib.hid (z0.trans hb)
      clear hb
      go_wp2
      go_ret
      exact badI HE.out HB.out
    · have t2 : (ck != 0) = true := by simpa using hk
      have HE : Hid (Z = 1) := Lib.hid (by rw [← hZ, if_pos hk])
      clear hk hZ
      go_enter Tryd.func50, Tryd.ntmps50
      go_wp2_with fail
      go_region_held3 (fun w' => w'.cell? ⟨Bx, 0, none⟩ = some (.slice A n c) ∧ w'.cell? ⟨Bx, 1, none⟩ = some (.int .i64 a)) (first | exact HS.out _ z0 | fail) (fail)
      go_wp2_with fail
      refine HC.out.mono ?_
      rintro e w1 ⟨rfl, hb⟩
      have HB := Lib.hid (z0.trans hb)
      clear hb
      go_wp2
      go_ret
      exact badI HE.out HB.out
end Go.Proofs.YtlijagbklopipaaDoor
