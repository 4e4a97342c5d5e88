/-
  The walk of the law's within. Conditions: those that it states.
-/
import Derived.Deep.DeepCutAuto
import Derived.Test.YtlijagbklopipaaDoorSpnM
import Derived.Test.YtlijagbklopipaaDoorSpnD
namespace Go.Proofs.YtlijagbklopipaaDoor
open Go.RowKit
set_option linter.unusedVariables false

/-- Does one of the first q spans hold s? -/
def wiB (l : List Sp) (s : Sp) (q : Nat) : Bool := (l.take q).any fun x => decide (x.k = s.k) && (decide (x.lo ≤ s.lo) && decide (s.hi ≤ x.hi))
theorem wiB_zero (l : List Sp) (s : Sp) : wiB l s 0 = false := by simp [wiB]
theorem wiB_succ {l : List Sp} (s : Sp) {q : Nat} (h : q < l.length) : wiB l s (q + 1) = (wiB l s q || (decide ((l.getD q ⟨0, 0, 0⟩).k = s.k) && (decide ((l.getD q ⟨0, 0, 0⟩).lo ≤ s.lo) && decide (s.hi ≤ (l.getD q ⟨0, 0, 0⟩).hi)))) := by
  unfold wiB
  have e : l.getD q ⟨0, 0, 0⟩ = l[q] := by rw [List.getD_eq_getElem?_getD, List.getElem?_eq_getElem h]; rfl
  rw [List.take_succ_eq_append_getElem h, List.any_append, e]
  simp
theorem wiB_all {l : List Sp} {s : Sp} {k : Nat} (hk : k < l.length) (h : (l.getD k ⟨0, 0, 0⟩).k = s.k ∧ (l.getD k ⟨0, 0, 0⟩).lo ≤ s.lo ∧ s.hi ≤ (l.getD k ⟨0, 0, 0⟩).hi) {n : Nat} (hn : l.length = n) : wiB l s n = true := by
  subst hn
  unfold wiB
  rw [List.take_length, List.any_eq_true]
  have e : l.getD k ⟨0, 0, 0⟩ = l[k] := by rw [List.getD_eq_getElem?_getD, List.getElem?_eq_getElem hk]; rfl
  rw [e] at h
  exact ⟨l[k], List.getElem_mem _, by simp [h.1, h.2.1, h.2.2]⟩

set_option maxRecDepth 100000 in
set_option maxHeartbeats 8000000 in
theorem within_ok {w : World} {B : Nat} {A : Option Addr} {n c : Nat} {a l : List Sp} (h : Rp w B A n c a) {A' : Option Addr} {n' c' : Nat} (h' : Rp w B A' n' c' l) (hB : B ≤ w.heap.size) (hw : WiL a l) :
    Calls Tryd.prog 33 #[.slice A n c, .slice A' n' c'] w (Says w (.bool true)) := by
  have hlen := h.len
  have hlen' := h'.len
  have hcap := h.cap
  have htop := h.top
  have hcap' := h'.cap
  have htop' := h'.top
  have HW := Lib.hid hw
  have HL := Lib.hid hlen
  have HL' := Lib.hid hlen'
  have HR := Lib.hid h
  have HR' := Lib.hid h'
  have HBB := Lib.hid hB
  clear hw hlen hlen' h h' hB
  go_enter Tryd.func33, Tryd.ntmps33
  go_wp2_with fail
  go_loopw [5] (fun i wr => ∃ j : Nat, j ≤ n ∧ i = .int .i64 j ∧ Hid (Below w.heap.size w wr)) (fun i _ => n - (intOf i).toNat)
  case atStart => exact ⟨0, by omega, rfl, Below.refl _ w⟩
  case round =>
    obtain ⟨j, hj, rfl, HBW⟩ := hrel
    by_cases hlt : j < n
    · obtain ⟨⟨ks, hks, hk1⟩, hlo, hup⟩ := HW.out j (by rw [HL.out]; exact hlt)
      have HALL := Lib.hid (wiB_all hks hk1 HL'.out)
      obtain ⟨b, off, rfl, hb, hc⟩ := HR.out.cells (by omega)
      have hlb : b < w.heap.size := by have := HBB.out; omega
      obtain ⟨a0, a1, a2⟩ := hc j hlt
      have HUP : Hid (∀ i, j = i + 1 → ∃ pk, w.cell? ⟨b, off + i * 3, none⟩ = some (.int .i64 pk) ∧ pk < (a.getD j ⟨0, 0, 0⟩).k) := Lib.hid fun i hi => by
        have := hup (by omega)
        rw [show j - 1 = i by omega] at this
        exact ⟨_, (hc i (by omega)).1, this⟩
      generalize a.getD j ⟨0, 0, 0⟩ = s at *
      obtain ⟨K, L, U⟩ := s
      simp only at a0 a1 a2 hlo
      have HA : Hid (∀ w', Below w.heap.size w w' → w'.cell? ⟨b, off + j * 3, none⟩ = some (.int .i64 K) ∧ w'.cell? ⟨b, off + j * 3 + 1, none⟩ = some (.int .i64 L) ∧ w'.cell? ⟨b, off + j * 3 + 2, none⟩ = some (.int .i64 U)) := Lib.hid fun w' hb2 =>
        ⟨(hb2.cell (p := ⟨b, off + j * 3, none⟩) hlb).trans a0, (hb2.cell (p := ⟨b, off + j * 3 + 1, none⟩) hlb).trans a1, (hb2.cell (p := ⟨b, off + j * 3 + 2, none⟩) hlb).trans a2⟩
      have HN0 := Lib.hid hlb
      have HLO := Lib.hid hlo
      have HKS := Lib.hid hks
      have HK1 := Lib.hid hk1
      have x1 : (0 : Int) ≤ (j : Int) := by omega
      have x2 : (j : Int) < (n : Int) := by omega
      clear hup hlo hks hk1 a0 a1 a2 hc hlb hb
      go_wp2_with fail
      go_loopw [6, 7] (fun th i wr => ∃ q : Nat, q ≤ n' ∧ i = .int .i64 q ∧ th = .bool (wiB l ⟨K, L, U⟩ q) ∧ Hid (Below w.heap.size w wr)) (fun _ i _ => n' - (intOf i).toNat)
      case atStart => exact ⟨0, by omega, rfl, by rw [wiB_zero], HBW⟩
      case round =>
        obtain ⟨q, hq, rfl, rfl, HBQ⟩ := hrel
        by_cases hqt : q < n'
        · have HS := Lib.hid (wiB_succ (l := l) ⟨K, L, U⟩ (q := q) (by rw [HL'.out]; exact hqt))
          obtain ⟨b', off', rfl, hb', hc'⟩ := HR'.out.cells (by omega)
          have hlb' : b' < w.heap.size := by have := HBB.out; omega
          obtain ⟨b0, b1, b2⟩ := hc' q hqt
          generalize l.getD q ⟨0, 0, 0⟩ = s at *
          obtain ⟨K', L', U'⟩ := s
          simp only at b0 b1 b2
          have d0 := (HBQ.out.cell (p := ⟨b', off' + q * 3, none⟩) hlb').trans b0
          have d1 := (HBQ.out.cell (p := ⟨b', off' + q * 3 + 1, none⟩) hlb').trans b1
          have d2 := (HBQ.out.cell (p := ⟨b', off' + q * 3 + 2, none⟩) hlb').trans b2
          obtain ⟨e0, e1, e2⟩ := HA.out _ HBQ.out
          have y1 : (0 : Int) ≤ (q : Int) := by omega
          have y2 : (q : Int) < (n' : Int) := by omega
          clear b0 b1 b2 hc' hlb' hb'
          generalize wiB l ⟨K, L, U⟩ q = V0 at *
          cases V0 with
          | true =>
            go_wp2_with fail
            go_quiet (fail)
            go_wp2
            go_roundw
            case rel => exact ⟨q + 1, by omega, by go_num, by rw [HS.out]; rfl, Lib.hid (bdrewN HBQ.out _)⟩
            case measure => simp only [intOf]; omega
          | false =>
            by_cases t1 : K' = K
            · have s1 : (K' == K) = true := by simpa using t1
              have T1 := Lib.hid t1
              clear t1
              by_cases t2 : L' ≤ L
              · have s2 : decide (L' ≤ L) = true := by simpa using t2
                have T2 := Lib.hid t2
                clear t2
                by_cases t3 : U ≤ U'
                · have s3 : decide (U ≤ U') = true := by simpa using t3
                  have T3 := Lib.hid t3
                  have s4 : decide (L ≤ U) = true := by simpa using HLO.out
                  clear t3
                  go_wp2_with fail
                  go_quiet (fail)
                  go_wp2
                  go_roundw
                  case rel => exact ⟨q + 1, by omega, by go_num, by rw [HS.out]; simp [T1.out, T2.out, T3.out], Lib.hid (bdrewN HBQ.out _)⟩
                  case measure => simp only [intOf]; omega
                · have s3 : decide (U ≤ U') = false := by simpa using t3
                  have T3 := Lib.hid t3
                  clear t3
                  go_wp2_with fail
                  go_quiet (fail)
                  go_wp2
                  go_roundw
                  case rel => exact ⟨q + 1, by omega, by go_num, by rw [HS.out]; simp [T1.out]; intro _; have := T3.out; omega, Lib.hid (bdrewN HBQ.out _)⟩
                  case measure => simp only [intOf]; omega
              · have s2 : decide (L' ≤ L) = false := by simpa using t2
                have T2 := Lib.hid t2
                clear t2
                go_wp2_with fail
                go_quiet (fail)
                go_wp2
                go_roundw
                case rel => exact ⟨q + 1, by omega, by go_num, by rw [HS.out]; simp [T1.out]; intro hz; have := T2.out; omega, Lib.hid (bdrewN HBQ.out _)⟩
                case measure => simp only [intOf]; omega
            · have s1 : (K' == K) = false := by simpa using t1
              have T1 := Lib.hid t1
              clear t1
              go_wp2_with fail
              go_quiet (fail)
              go_wp2
              go_roundw
              case rel => exact ⟨q + 1, by omega, by go_num, by rw [HS.out]; simp [T1.out], Lib.hid (bdrewN HBQ.out _)⟩
              case measure => simp only [intOf]; omega
        · have hqn : q = n' := by omega
          have HAL := HALL.out
          rw [← hqn] at HAL
          rw [HAL]
          clear hqn HAL
          obtain ⟨e0, e1, e2⟩ := HA.out _ HBQ.out
          rcases j with _ | i
          · go_wp2_with fail
            go_quiet (fail)
            go_wp2
            go_roundw
            case rel => exact ⟨1, by omega, rfl, Lib.hid (bdrewN HBQ.out _)⟩
            case measure => simp only [intOf]; omega
          · obtain ⟨pk, g0, g1⟩ := HUP.out i rfl
            have g2 := (HBQ.out.cell (p := ⟨b, off + i * 3, none⟩) HN0.out).trans g0
            have s1 : decide (K ≤ pk) = false := by simp only [decide_eq_false_iff_not]; omega
            clear g0 g1
            have z1 : (0 : Int) ≤ (i : Int) := by omega
            go_wp2_with fail
            go_quiet (fail)
            go_wp2
            go_roundw
            case rel => exact ⟨i + 1 + 1, by omega, by go_num, Lib.hid (bdrewN HBQ.out _)⟩
            case measure => simp only [intOf]; omega
    · clear HR HR' HW
      go_wp2
      go_ret
      exact ⟨rfl, HBW.out⟩
end Go.Proofs.YtlijagbklopipaaDoor
