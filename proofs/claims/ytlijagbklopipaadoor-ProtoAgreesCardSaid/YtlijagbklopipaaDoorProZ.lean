/-
  Contracts of layer 6's document: requests (answers) that are the same; is one small. Conditions: those that each states.
-/
import Derived.Test.YtlijagbklopipaaDoorProL
import Derived.Test.YtlijagbklopipaaDoorProC
namespace Go.Proofs.YtlijagbklopipaaDoor
open Go.RowKit
set_option linter.unusedVariables false

theorem str_eq6 {w : World} {B : Nat} {A : Option Addr} {n c : Nat} {l : List UInt8} {s : ByteArray} (h : Rd w B A n c l) (hs : strOf l = s) : (convert 24 9 (.slice A n c)).run Tryd.prog w = .ok (.string s) w := by
  rw [run_str (P := Tryd.prog) Tryd.underlying24 (by kernel_rfl) Tryd.underlying9 h, hs]
theorem rints_eq {w : World} {B B' : Nat} {A A' : Option Addr} {n c m c' : Nat} {zs : List Int} (h : Rx w B A n c (iv zs)) (h' : Rx w B' A' m c' (iv zs)) (hB : B ≤ w.heap.size) (hB' : B' ≤ w.heap.size) :
    Calls Tryd.prog 69 #[.slice A n c, .slice A' m c'] w (Says w (.bool true)) := by
  have := rints_same h h' hB hB'
  rw [decide_eq_true rfl] at this
  exact this
theorem rtexts_eq {w : World} {B B' : Nat} {A A' : Option Addr} {n c m c' : Nat} {zs : List (List UInt8)} (h : Rx w B A n c (sv zs)) (h' : Rx w B' A' m c' (sv zs)) (hB : B ≤ w.heap.size) (hB' : B' ≤ w.heap.size) :
    Calls Tryd.prog 70 #[.slice A n c, .slice A' m c'] w (Says w (.bool true)) := by
  have := rtexts_same h h' hB hB'
  rw [decide_eq_true rfl] at this
  exact this
def SomeB (w : World) (e : Ending) (w' : World) : Prop := ∃ b : Bool, Says w (.bool b) e w'

set_option maxRecDepth 100000 in
set_option maxHeartbeats 4000000 in
theorem sameQ_ok {w : World} {B : Nat} (k v id : Int) (who : List UInt8) {Ai At Ab Ai' At' Ab' : Option Addr} {ni ci nt ct nb cb ni' ci' nt' ct' nb' cb' : Nat} {zs ts bs} (h : Rq w B Ai ni ci At nt ct Ab nb cb zs ts bs) (h' : Rq w B Ai' ni' ci' At' nt' ct' Ab' nb' cb' zs ts bs) (hB : B ≤ w.heap.size) :
    Calls Tryd.prog 20 #[.agg #[.int .i64 k, .int .i64 v, .int .i64 id, .string (strOf who), .slice Ai ni ci, .slice At nt ct, .slice Ab nb cb], .agg #[.int .i64 k, .int .i64 v, .int .i64 id, .string (strOf who), .slice Ai' ni' ci', .slice At' nt' ct', .slice Ab' nb' cb']] w (Says w (.bool true)) := by
  obtain ⟨W, hW⟩ : ∃ W, W = (w.alloc (.cells #[.int .i64 k, .int .i64 v, .int .i64 id, .string (strOf who), .slice Ai ni ci, .slice At nt ct, .slice Ab nb cb] 26)).alloc (.cells #[.int .i64 k, .int .i64 v, .int .i64 id, .string (strOf who), .slice Ai' ni' ci', .slice At' nt' ct', .slice Ab' nb' cb'] 26) := ⟨_, rfl⟩
  have hb : Below w.heap.size w W := by rw [hW]; exact bput (bput (Below.refl _ w) _) _
  have hWz : W.heap.size = w.heap.size + 1 + 1 := by rw [hW]; simp
  have HX : Hid (∀ w', Below W.heap.size W w' → (w'.cell? ⟨w.heap.size, 0, none⟩ = some (.int .i64 k) ∧ w'.cell? ⟨w.heap.size, 1, none⟩ = some (.int .i64 v) ∧ w'.cell? ⟨w.heap.size, 2, none⟩ = some (.int .i64 id) ∧ w'.cell? ⟨w.heap.size, 3, none⟩ = some (.string (strOf who)) ∧ w'.cell? ⟨w.heap.size, 4, none⟩ = some (.slice Ai ni ci) ∧ w'.cell? ⟨w.heap.size, 5, none⟩ = some (.slice At nt ct) ∧ w'.cell? ⟨w.heap.size, 6, none⟩ = some (.slice Ab nb cb)) ∧ (w'.cell? ⟨w.heap.size + 1, 0, none⟩ = some (.int .i64 k) ∧ w'.cell? ⟨w.heap.size + 1, 1, none⟩ = some (.int .i64 v) ∧ w'.cell? ⟨w.heap.size + 1, 2, none⟩ = some (.int .i64 id) ∧ w'.cell? ⟨w.heap.size + 1, 3, none⟩ = some (.string (strOf who)) ∧ w'.cell? ⟨w.heap.size + 1, 4, none⟩ = some (.slice Ai' ni' ci') ∧ w'.cell? ⟨w.heap.size + 1, 5, none⟩ = some (.slice At' nt' ct') ∧ w'.cell? ⟨w.heap.size + 1, 6, none⟩ = some (.slice Ab' nb' cb'))) := Lib.hid fun w' hb' => by
    have h1 : Below (w.heap.size + 1) (w.alloc (.cells #[.int .i64 k, .int .i64 v, .int .i64 id, .string (strOf who), .slice Ai ni ci, .slice At nt ct, .slice Ab nb cb] 26)) w' := by
      have h2 : Below (w.heap.size + 1) (w.alloc (.cells #[.int .i64 k, .int .i64 v, .int .i64 id, .string (strOf who), .slice Ai ni ci, .slice At nt ct, .slice Ab nb cb] 26)) W := by rw [hW]; exact (Below.refl _ _).alloc (by simp) _
      exact h2.trans (hb'.mono (by omega))
    have h3 : Below ((w.alloc (.cells #[.int .i64 k, .int .i64 v, .int .i64 id, .string (strOf who), .slice Ai ni ci, .slice At nt ct, .slice Ab nb cb] 26)).heap.size + 1) ((w.alloc (.cells #[.int .i64 k, .int .i64 v, .int .i64 id, .string (strOf who), .slice Ai ni ci, .slice At nt ct, .slice Ab nb cb] 26)).alloc (.cells #[.int .i64 k, .int .i64 v, .int .i64 id, .string (strOf who), .slice Ai' ni' ci', .slice At' nt' ct', .slice Ab' nb' cb'] 26)) w' := by
      rw [← hW, World.size_alloc, ← hWz]
      exact hb'
    have h4 := boxed7 (w.alloc (.cells #[.int .i64 k, .int .i64 v, .int .i64 id, .string (strOf who), .slice Ai ni ci, .slice At nt ct, .slice Ab nb cb] 26)) 26 (.int .i64 k) (.int .i64 v) (.int .i64 id) (.string (strOf who)) (.slice Ai' ni' ci') (.slice At' nt' ct') (.slice Ab' nb' cb') h3
    rw [World.size_alloc] at h4
    exact ⟨boxed7 w 26 (.int .i64 k) (.int .i64 v) (.int .i64 id) (.string (strOf who)) (.slice Ai ni ci) (.slice At nt ct) (.slice Ab nb cb) h1, h4⟩
  have HQ : Hid (∀ w', Below W.heap.size W w' → Rq w' B Ai ni ci At nt ct Ab nb cb zs ts bs ∧ Rq w' B Ai' ni' ci' At' nt' ct' Ab' nb' cb' zs ts bs ∧ B ≤ w'.heap.size) := Lib.hid fun w' hb' => ⟨h.step (bthen hb hb') hB, h'.step (bthen hb hb') hB, Nat.le_trans hB (bthen hb hb').size⟩
  obtain ⟨sx, hsx⟩ : ∃ s, strOf bs = s := ⟨_, rfl⟩
  have HST := Lib.hid hsx
  have HB := Lib.hid hb
  obtain ⟨⟨k0, k1, k2, k3, k4, k5, k6⟩, ⟨l0, l1, l2, l3, l4, l5, l6⟩⟩ := HX.out W (Below.refl _ _)
  clear hb hWz hsx h h' hB
  go_enter Tryd.func20, Tryd.ntmps20
  go_wp2_with (fail)
  rw [← hW]
  have HW := Lib.hid hW
  clear hW
  refine (rints_eq (HQ.out W (Below.refl _ _)).1.ints (HQ.out W (Below.refl _ _)).2.1.ints (HQ.out W (Below.refl _ _)).2.2 (HQ.out W (Below.refl _ _)).2.2).mono ?_
  rintro e w1 ⟨rfl, hb1⟩
  clear k0 l0 k1 l1 k2 l2 k3 l3 k4 l4 k5 l5 k6 l6
  obtain ⟨⟨k0, k1, k2, k3, k4, k5, k6⟩, ⟨l0, l1, l2, l3, l4, l5, l6⟩⟩ := HX.out w1 hb1
  have HB1 := Lib.hid hb1
  clear hb1
  go_wp2_with fail
  refine (rtexts_eq (HQ.out w1 HB1.out).1.texts (HQ.out w1 HB1.out).2.1.texts (HQ.out w1 HB1.out).2.2 (HQ.out w1 HB1.out).2.2).mono ?_
  rintro e w2 ⟨rfl, hb2⟩
  clear k0 l0 k1 l1 k2 l2 k3 l3 k4 l4 k5 l5 k6 l6
  have HB2 := Lib.hid (bthen HB1.out hb2)
  obtain ⟨⟨k0, k1, k2, k3, k4, k5, k6⟩, ⟨l0, l1, l2, l3, l4, l5, l6⟩⟩ := HX.out w2 HB2.out
  have y1 := str_eq6 (HQ.out w2 HB2.out).1.blob HST.out
  have y2 := str_eq6 (HQ.out w2 HB2.out).2.1.blob HST.out
  clear hb2
  go_wp2
  go_ret
  exact ⟨rfl, bthen HB.out HB2.out⟩

set_option maxRecDepth 100000 in
set_option maxHeartbeats 4000000 in
theorem sameS_ok {w : World} {B : Nat} (k v id er wa : Int) {Ai At Ab Ai' At' Ab' : Option Addr} {ni ci nt ct nb cb ni' ci' nt' ct' nb' cb' : Nat} {zs ts bs} (h : Rq w B Ai ni ci At nt ct Ab nb cb zs ts bs) (h' : Rq w B Ai' ni' ci' At' nt' ct' Ab' nb' cb' zs ts bs) (hB : B ≤ w.heap.size) :
    Calls Tryd.prog 26 #[.agg #[.int .i64 k, .int .i64 v, .int .i64 id, .int .i64 er, .int .i64 wa, .slice Ai ni ci, .slice At nt ct, .slice Ab nb cb], .agg #[.int .i64 k, .int .i64 v, .int .i64 id, .int .i64 er, .int .i64 wa, .slice Ai' ni' ci', .slice At' nt' ct', .slice Ab' nb' cb']] w (Says w (.bool true)) := by
  obtain ⟨W, hW⟩ : ∃ W, W = (w.alloc (.cells #[.int .i64 k, .int .i64 v, .int .i64 id, .int .i64 er, .int .i64 wa, .slice Ai ni ci, .slice At nt ct, .slice Ab nb cb] 38)).alloc (.cells #[.int .i64 k, .int .i64 v, .int .i64 id, .int .i64 er, .int .i64 wa, .slice Ai' ni' ci', .slice At' nt' ct', .slice Ab' nb' cb'] 38) := ⟨_, rfl⟩
  have hb : Below w.heap.size w W := by rw [hW]; exact bput (bput (Below.refl _ w) _) _
  have hWz : W.heap.size = w.heap.size + 1 + 1 := by rw [hW]; simp
  have HX : Hid (∀ w', Below W.heap.size W w' → (w'.cell? ⟨w.heap.size, 0, none⟩ = some (.int .i64 k) ∧ w'.cell? ⟨w.heap.size, 1, none⟩ = some (.int .i64 v) ∧ w'.cell? ⟨w.heap.size, 2, none⟩ = some (.int .i64 id) ∧ w'.cell? ⟨w.heap.size, 3, none⟩ = some (.int .i64 er) ∧ w'.cell? ⟨w.heap.size, 4, none⟩ = some (.int .i64 wa) ∧ w'.cell? ⟨w.heap.size, 5, none⟩ = some (.slice Ai ni ci) ∧ w'.cell? ⟨w.heap.size, 6, none⟩ = some (.slice At nt ct) ∧ w'.cell? ⟨w.heap.size, 7, none⟩ = some (.slice Ab nb cb)) ∧ (w'.cell? ⟨w.heap.size + 1, 0, none⟩ = some (.int .i64 k) ∧ w'.cell? ⟨w.heap.size + 1, 1, none⟩ = some (.int .i64 v) ∧ w'.cell? ⟨w.heap.size + 1, 2, none⟩ = some (.int .i64 id) ∧ w'.cell? ⟨w.heap.size + 1, 3, none⟩ = some (.int .i64 er) ∧ w'.cell? ⟨w.heap.size + 1, 4, none⟩ = some (.int .i64 wa) ∧ w'.cell? ⟨w.heap.size + 1, 5, none⟩ = some (.slice Ai' ni' ci') ∧ w'.cell? ⟨w.heap.size + 1, 6, none⟩ = some (.slice At' nt' ct') ∧ w'.cell? ⟨w.heap.size + 1, 7, none⟩ = some (.slice Ab' nb' cb'))) := Lib.hid fun w' hb' => by
    have h1 : Below (w.heap.size + 1) (w.alloc (.cells #[.int .i64 k, .int .i64 v, .int .i64 id, .int .i64 er, .int .i64 wa, .slice Ai ni ci, .slice At nt ct, .slice Ab nb cb] 38)) w' := by
      have h2 : Below (w.heap.size + 1) (w.alloc (.cells #[.int .i64 k, .int .i64 v, .int .i64 id, .int .i64 er, .int .i64 wa, .slice Ai ni ci, .slice At nt ct, .slice Ab nb cb] 38)) W := by rw [hW]; exact (Below.refl _ _).alloc (by simp) _
      exact h2.trans (hb'.mono (by omega))
    have h3 : Below ((w.alloc (.cells #[.int .i64 k, .int .i64 v, .int .i64 id, .int .i64 er, .int .i64 wa, .slice Ai ni ci, .slice At nt ct, .slice Ab nb cb] 38)).heap.size + 1) ((w.alloc (.cells #[.int .i64 k, .int .i64 v, .int .i64 id, .int .i64 er, .int .i64 wa, .slice Ai ni ci, .slice At nt ct, .slice Ab nb cb] 38)).alloc (.cells #[.int .i64 k, .int .i64 v, .int .i64 id, .int .i64 er, .int .i64 wa, .slice Ai' ni' ci', .slice At' nt' ct', .slice Ab' nb' cb'] 38)) w' := by
      rw [← hW, World.size_alloc, ← hWz]
      exact hb'
    have h4 := boxed8 (w.alloc (.cells #[.int .i64 k, .int .i64 v, .int .i64 id, .int .i64 er, .int .i64 wa, .slice Ai ni ci, .slice At nt ct, .slice Ab nb cb] 38)) 38 (.int .i64 k) (.int .i64 v) (.int .i64 id) (.int .i64 er) (.int .i64 wa) (.slice Ai' ni' ci') (.slice At' nt' ct') (.slice Ab' nb' cb') h3
    rw [World.size_alloc] at h4
    exact ⟨boxed8 w 38 (.int .i64 k) (.int .i64 v) (.int .i64 id) (.int .i64 er) (.int .i64 wa) (.slice Ai ni ci) (.slice At nt ct) (.slice Ab nb cb) h1, h4⟩
  have HQ : Hid (∀ w', Below W.heap.size W w' → Rq w' B Ai ni ci At nt ct Ab nb cb zs ts bs ∧ Rq w' B Ai' ni' ci' At' nt' ct' Ab' nb' cb' zs ts bs ∧ B ≤ w'.heap.size) := Lib.hid fun w' hb' => ⟨h.step (bthen hb hb') hB, h'.step (bthen hb hb') hB, Nat.le_trans hB (bthen hb hb').size⟩
  obtain ⟨sx, hsx⟩ : ∃ s, strOf bs = s := ⟨_, rfl⟩
  have HST := Lib.hid hsx
  have HB := Lib.hid hb
  obtain ⟨⟨k0, k1, k2, k3, k4, k5, k6, k7⟩, ⟨l0, l1, l2, l3, l4, l5, l6, l7⟩⟩ := HX.out W (Below.refl _ _)
  clear hb hWz hsx h h' hB
  go_enter Tryd.func26, Tryd.ntmps26
  go_wp2_with (fail)
  rw [← hW]
  have HW := Lib.hid hW
  clear hW
  refine (rints_eq (HQ.out W (Below.refl _ _)).1.ints (HQ.out W (Below.refl _ _)).2.1.ints (HQ.out W (Below.refl _ _)).2.2 (HQ.out W (Below.refl _ _)).2.2).mono ?_
  rintro e w1 ⟨rfl, hb1⟩
  clear k0 l0 k1 l1 k2 l2 k3 l3 k4 l4 k5 l5 k6 l6 k7 l7
  obtain ⟨⟨k0, k1, k2, k3, k4, k5, k6, k7⟩, ⟨l0, l1, l2, l3, l4, l5, l6, l7⟩⟩ := HX.out w1 hb1
  have HB1 := Lib.hid hb1
  clear hb1
  go_wp2_with fail
  refine (rtexts_eq (HQ.out w1 HB1.out).1.texts (HQ.out w1 HB1.out).2.1.texts (HQ.out w1 HB1.out).2.2 (HQ.out w1 HB1.out).2.2).mono ?_
  rintro e w2 ⟨rfl, hb2⟩
  clear k0 l0 k1 l1 k2 l2 k3 l3 k4 l4 k5 l5 k6 l6 k7 l7
  have HB2 := Lib.hid (bthen HB1.out hb2)
  obtain ⟨⟨k0, k1, k2, k3, k4, k5, k6, k7⟩, ⟨l0, l1, l2, l3, l4, l5, l6, l7⟩⟩ := HX.out w2 HB2.out
  have y1 := str_eq6 (HQ.out w2 HB2.out).1.blob HST.out
  have y2 := str_eq6 (HQ.out w2 HB2.out).2.1.blob HST.out
  clear hb2
  go_wp2
  go_ret
  exact ⟨rfl, bthen HB.out HB2.out⟩

set_option maxRecDepth 100000 in
set_option maxHeartbeats 4000000 in
theorem fewQ_ok {w : World} {B : Nat} (k v id : Int) (who : List UInt8) {Ai At Ab : Option Addr} {ni ci nt ct nb cb : Nat} {zs ts bs} (h : Rq w B Ai ni ci At nt ct Ab nb cb zs ts bs) (hB : B ≤ w.heap.size) :
    Calls Tryd.prog 13 #[.agg #[.int .i64 k, .int .i64 v, .int .i64 id, .string (strOf who), .slice Ai ni ci, .slice At nt ct, .slice Ab nb cb]] w (SomeB w) := by
  have hb0 := bput (Below.refl _ w) (.cells #[.int .i64 k, .int .i64 v, .int .i64 id, .string (strOf who), .slice Ai ni ci, .slice At nt ct, .slice Ab nb cb] 26)
  have HB := Lib.hid hb0
  have HQ := Lib.hid (h.step hb0 hB)
  have m1 := h.ints.cap
  have m2 := h.ints.top
  have m3 := h.texts.cap
  have m4 := h.texts.top
  have m5 := h.blob.cap
  have m6 := h.blob.top
  clear hb0 h hB
  have hsz := strOf_size who
  by_cases h1 : ni ≤ 100
  · have t1 : decide ((ni : Int) ≤ 100) = true := by simp only [decide_eq_true_eq]; omega
    clear h1
    go_enter Tryd.func13, Tryd.ntmps13
    go_wp2_with fail
    refine (rlittle_all HQ.out.texts).mono ?_
    rintro e w1 ⟨rfl, rfl⟩
    generalize (!anyLong 300 ts && decide (nt ≤ 40)) = b
    cases b with
    | false =>
      go_wp2
      go_ret
      exact ⟨_, rfl, HB.out⟩
    | true =>
      by_cases h3 : who.length ≤ 300
      · have t3 : decide ((who.length : Int) ≤ 300) = true := by simp only [decide_eq_true_eq]; omega
        clear h3
        by_cases h2 : nb ≤ 3000
        · have t2 : decide ((nb : Int) ≤ 3000) = true := by simp only [decide_eq_true_eq]; omega
          clear h2
          go_wp2
          go_ret
          exact ⟨_, rfl, HB.out⟩
        · have t2 : decide ((nb : Int) ≤ 3000) = false := by simp only [decide_eq_false_iff_not]; omega
          clear h2
          go_wp2
          go_ret
          exact ⟨_, rfl, HB.out⟩
      · have t3 : decide ((who.length : Int) ≤ 300) = false := by simp only [decide_eq_false_iff_not]; omega
        clear h3
        go_wp2
        go_ret
        exact ⟨_, rfl, HB.out⟩
  · have t1 : decide ((ni : Int) ≤ 100) = false := by simp only [decide_eq_false_iff_not]; omega
    clear h1
    go_enter Tryd.func13, Tryd.ntmps13
    go_wp2
    go_ret
    exact ⟨_, rfl, HB.out⟩

set_option maxRecDepth 100000 in
set_option maxHeartbeats 4000000 in
theorem fewS_ok {w : World} {B : Nat} (k v id er wa : Int) {Ai At Ab : Option Addr} {ni ci nt ct nb cb : Nat} {zs ts bs} (h : Rq w B Ai ni ci At nt ct Ab nb cb zs ts bs) (hB : B ≤ w.heap.size) :
    Calls Tryd.prog 21 #[.agg #[.int .i64 k, .int .i64 v, .int .i64 id, .int .i64 er, .int .i64 wa, .slice Ai ni ci, .slice At nt ct, .slice Ab nb cb]] w (SomeB w) := by
  have hb0 := bput (Below.refl _ w) (.cells #[.int .i64 k, .int .i64 v, .int .i64 id, .int .i64 er, .int .i64 wa, .slice Ai ni ci, .slice At nt ct, .slice Ab nb cb] 38)
  have HB := Lib.hid hb0
  have HQ := Lib.hid (h.step hb0 hB)
  have m1 := h.ints.cap
  have m2 := h.ints.top
  have m3 := h.texts.cap
  have m4 := h.texts.top
  have m5 := h.blob.cap
  have m6 := h.blob.top
  clear hb0 h hB
  by_cases h1 : ni ≤ 100
  · have t1 : decide ((ni : Int) ≤ 100) = true := by simp only [decide_eq_true_eq]; omega
    clear h1
    go_enter Tryd.func21, Tryd.ntmps21
    go_wp2_with fail
    refine (rlittle_all HQ.out.texts).mono ?_
    rintro e w1 ⟨rfl, rfl⟩
    generalize (!anyLong 300 ts && decide (nt ≤ 40)) = b
    cases b with
    | false =>
      go_wp2
      go_ret
      exact ⟨_, rfl, HB.out⟩
    | true =>
      by_cases h2 : nb ≤ 5000
      · have t2 : decide ((nb : Int) ≤ 5000) = true := by simp only [decide_eq_true_eq]; omega
        clear h2
        go_wp2
        go_ret
        exact ⟨_, rfl, HB.out⟩
      · have t2 : decide ((nb : Int) ≤ 5000) = false := by simp only [decide_eq_false_iff_not]; omega
        clear h2
        go_wp2
        go_ret
        exact ⟨_, rfl, HB.out⟩
  · have t1 : decide ((ni : Int) ≤ 100) = false := by simp only [decide_eq_false_iff_not]; omega
    clear h1
    go_enter Tryd.func21, Tryd.ntmps21
    go_wp2
    go_ret
    exact ⟨_, rfl, HB.out⟩
end Go.Proofs.YtlijagbklopipaaDoor
