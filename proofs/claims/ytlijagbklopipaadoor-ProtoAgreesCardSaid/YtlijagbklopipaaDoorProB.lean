/-
  Contracts of layer 6: beyond and the looks with a function over numbers and texts; and of the document's: are two lists the same.
-/
import Derived.Test.YtlijagbklopipaaDoorProA
namespace Go.Proofs.YtlijagbklopipaaDoor
open Go.RowKit
set_option linter.unusedVariables false

/-- The function value f tells of a number whether it lies beyond lo and hi. -/
def Bey (w : World) (f : Value) (b1 b2 : Nat) (lo hi : Int) : Prop :=
  f = .func (.func 86) #[] #[.pointer (some ⟨b1, 0, none⟩), .pointer (some ⟨b2, 0, none⟩)] ∧ w.cell? ⟨b1, 0, none⟩ = some (.int .i64 lo) ∧ w.cell? ⟨b2, 0, none⟩ = some (.int .i64 hi)

theorem beyond_is {w : World} (lo hi : Int) : Calls Tryd.prog 62 #[.int .i64 lo, .int .i64 hi] w fun e w' => ∃ f, e = .returned f ∧ Bey w' f w.heap.size (w.heap.size + 1) lo hi ∧ Below w.heap.size w w' := by
  have h1 : ((w.alloc (.cells #[.int .i64 lo] 3)).alloc (.cells #[.int .i64 hi] 3)).cell? ⟨w.heap.size, 0, none⟩ = some (.int .i64 lo) := by
    have := (bput (Below.refl _ (w.alloc (.cells #[.int .i64 lo] 3))) (.cells #[.int .i64 hi] 3)).cell (p := ⟨w.heap.size, 0, none⟩) (by simp)
    rw [this, cell_of_row _ w.heap.size 0 _ 3 (0, 0) (heap_alloc_new w _)]
    rfl
  have h2 : ((w.alloc (.cells #[.int .i64 lo] 3)).alloc (.cells #[.int .i64 hi] 3)).cell? ⟨w.heap.size + 1, 0, none⟩ = some (.int .i64 hi) := by
    have := heap_alloc_new (w.alloc (.cells #[.int .i64 lo] 3)) (.cells #[.int .i64 hi] 3)
    rw [World.size_alloc] at this
    rw [cell_of_row _ (w.heap.size + 1) 0 _ 3 (0, 0) this]
    rfl
  have HB := Lib.hid (bput (bput (Below.refl _ w) (.cells #[.int .i64 lo] 3)) (.cells #[.int .i64 hi] 3))
  have HC := Lib.hid (And.intro h1 h2)
  clear h1 h2
  go_enter Tryd.func62, Tryd.ntmps62
  go_wp2
  go_ret
  exact ⟨_, rfl, ⟨rfl, HC.out.1, HC.out.2⟩, HB.out⟩

theorem bey_is {w : World} {b1 b2 : Nat} {lo hi : Int} (h1 : w.cell? ⟨b1, 0, none⟩ = some (.int .i64 lo)) (h2 : w.cell? ⟨b2, 0, none⟩ = some (.int .i64 hi)) (z : Int) :
    Calls Tryd.prog 86 #[.int .i64 z, .pointer (some ⟨b1, 0, none⟩), .pointer (some ⟨b2, 0, none⟩)] w (Tells w (.bool (decide (z < lo) || decide (hi < z)))) := by
  by_cases t : z < lo
  · have t1 : decide (z < lo) = true := by simpa using t
    have HT := Lib.hid t1
    clear t
    go_enter Tryd.func86, Tryd.ntmps86
    go_wp2
    go_ret
    exact ⟨by rw [HT.out]; rfl, rfl⟩
  · have t1 : decide (z < lo) = false := by simpa using t
    have HT := Lib.hid t1
    clear t
    go_enter Tryd.func86, Tryd.ntmps86
    go_wp2
    go_ret
    exact ⟨by rw [HT.out]; simp, rfl⟩

def IdxPost (w : World) (b : Bool) (e : Ending) (w' : World) : Prop := ∃ i : Int, e = .returned (.int .i64 i) ∧ w = w' ∧ decide (0 ≤ i) = b

theorem indexI_is {w : World} {B : Nat} {A : Option Addr} {n c : Nat} {zs : List Int} (h : Rx w B A n c (iv zs)) {f : Value} {b1 b2 : Nat} {lo hi : Int} (hf : Bey w f b1 b2 lo hi) :
    Calls Tryd.prog 87 #[.slice A n c, f] w (IdxPost w (anyOut lo hi zs)) := by
  obtain ⟨rfl, hb1, hb2⟩ := hf
  have hlen := h.len
  rw [iv_len] at hlen
  have htop := h.top
  have hcap := h.cap
  have HF := Lib.hid (fun z => bey_is hb1 hb2 z)
  have HA : Hid (anyOut lo hi zs = (zs.drop 0).any fun z => decide (z < lo) || decide (hi < z)) := by rw [List.drop_zero]; exact rfl
  generalize anyOut lo hi zs = V at *
  clear hb1 hb2
  go_enter Tryd.func87, Tryd.ntmps87
  go_wp2_with fail
  go_loop [8] (fun i => ∃ j : Nat, j ≤ n ∧ i = .int .i64 j ∧ Hid (V = (zs.drop j).any fun z => decide (z < lo) || decide (hi < z))) (fun i => n - (intOf i).toNat)
  case atStart => exact ⟨0, by omega, rfl, HA⟩
  case round =>
    obtain ⟨j, hj, rfl, HV⟩ := hrel
    clear HA
    by_cases hlt : j < n
    · obtain ⟨b, off, rfl, hb, hc⟩ := h.cells (by omega)
      have hcell := hc j hlt
      rw [iv_at (by omega)] at hcell
      have HN := Lib.hid (any_drop (fun z => decide (z < lo) || decide (hi < z)) 0 (l := zs) (j := j) (by omega))
      generalize zs.getD j 0 = z at *
      clear hc h
      go_wp2_with fail
      refine (HF.out z).mono ?_
      rintro e w1 ⟨rfl, rfl⟩
      have hv := HV.out
      rw [HN.out] at hv
      generalize (decide (z < lo) || decide (hi < z)) = t at *
      cases t
      · rw [Bool.false_or] at hv
        have HW := Lib.hid hv
        clear hv HV HN
        go_wp2
        go_round
        case rel => exact ⟨j + 1, by omega, by go_num, HW⟩
        case measure => simp only [intOf]; omega
      · simp only [Bool.true_or] at hv
        subst hv
        clear HV HN
        go_wp2
        go_ret
        exact ⟨_, rfl, rfl, by simp⟩
    · have hjn : j = n := by omega
      have hv := HV.out
      rw [List.drop_eq_nil_of_le (by omega)] at hv
      simp only [List.any_nil] at hv
      subst hv
      clear HV
      go_wp2
      go_ret
      exact ⟨_, rfl, rfl, by simp⟩

theorem containsI_is {w : World} {B : Nat} {A : Option Addr} {n c : Nat} {zs : List Int} (h : Rx w B A n c (iv zs)) {f : Value} {b1 b2 : Nat} {lo hi : Int} (hf : Bey w f b1 b2 lo hi) :
    Calls Tryd.prog 64 #[.slice A n c, f] w (Tells w (.bool (anyOut lo hi zs))) := by
  have HI := Lib.hid (indexI_is h hf)
  clear h hf
  go_enter Tryd.func64, Tryd.ntmps64
  go_wp2_with fail
  refine HI.out.mono ?_
  rintro e w1 ⟨i, rfl, rfl, hi⟩
  have HT := Lib.hid hi
  clear hi HI
  go_wp2
  go_ret
  exact ⟨by rw [← HT.out]; rfl, rfl⟩

theorem long_is {w : World} (s : ByteArray) : Calls Tryd.prog 63 #[.string s] w (Tells w (.bool (decide (64 < s.size)))) := by
  by_cases t : 64 < s.size
  · have t1 : decide ((64 : Int) < (s.size : Int)) = true := by simp only [decide_eq_true_eq]; omega
    have HT := Lib.hid (show decide (64 < s.size) = true by simpa using t)
    clear t
    go_enter Tryd.func63, Tryd.ntmps63
    go_wp2
    go_ret
    exact ⟨by rw [HT.out]; rfl, rfl⟩
  · have t1 : decide ((64 : Int) < (s.size : Int)) = false := by simp only [decide_eq_false_iff_not]; omega
    have HT := Lib.hid (show decide (64 < s.size) = false by simpa using t)
    clear t
    go_enter Tryd.func63, Tryd.ntmps63
    go_wp2
    go_ret
    exact ⟨by rw [HT.out]; rfl, rfl⟩

theorem indexS_is {w : World} {B : Nat} {A : Option Addr} {n c : Nat} {ts : List (List UInt8)} (h : Rx w B A n c (sv ts)) :
    Calls Tryd.prog 88 #[.slice A n c, .func (.func 63) #[] #[]] w (IdxPost w (anyLong 64 ts)) := by
  have hlen := h.len
  rw [sv_len] at hlen
  have htop := h.top
  have hcap := h.cap
  have HA : Hid (anyLong 64 ts = (ts.drop 0).any fun t => decide (64 < t.length)) := by rw [List.drop_zero]; exact rfl
  generalize anyLong 64 ts = V at *
  go_enter Tryd.func88, Tryd.ntmps88
  go_wp2_with fail
  go_loop [8] (fun i => ∃ j : Nat, j ≤ n ∧ i = .int .i64 j ∧ Hid (V = (ts.drop j).any fun t => decide (64 < t.length))) (fun i => n - (intOf i).toNat)
  case atStart => exact ⟨0, by omega, rfl, HA⟩
  case round =>
    obtain ⟨j, hj, rfl, HV⟩ := hrel
    clear HA
    by_cases hlt : j < n
    · obtain ⟨b, off, rfl, hb, hc⟩ := h.cells (by omega)
      have hcell := hc j hlt
      rw [sv_at (by omega)] at hcell
      have HN := Lib.hid (any_drop (fun t : List UInt8 => decide (64 < t.length)) [] (l := ts) (j := j) (by omega))
      have hz := strOf_size (ts.getD j [])
      generalize ts.getD j [] = z at *
      generalize strOf z = y at *
      clear hc h
      go_wp2_with fail
      refine (long_is y).mono ?_
      rintro e w1 ⟨rfl, rfl⟩
      have hv := HV.out
      rw [HN.out, ← hz] at hv
      clear hz
      generalize decide (64 < y.size) = t at *
      cases t
      · rw [Bool.false_or] at hv
        have HW := Lib.hid hv
        clear hv HV HN
        go_wp2
        go_round
        case rel => exact ⟨j + 1, by omega, by go_num, HW⟩
        case measure => simp only [intOf]; omega
      · simp only [Bool.true_or] at hv
        subst hv
        clear HV HN
        go_wp2
        go_ret
        exact ⟨_, rfl, rfl, by simp⟩
    · have hjn : j = n := by omega
      have hv := HV.out
      rw [List.drop_eq_nil_of_le (by omega)] at hv
      simp only [List.any_nil] at hv
      subst hv
      clear HV
      go_wp2
      go_ret
      exact ⟨_, rfl, rfl, by simp⟩

theorem containsS_is {w : World} {B : Nat} {A : Option Addr} {n c : Nat} {ts : List (List UInt8)} (h : Rx w B A n c (sv ts)) :
    Calls Tryd.prog 65 #[.slice A n c, .func (.func 63) #[] #[]] w (Tells w (.bool (anyLong 64 ts))) := by
  have HI := Lib.hid (indexS_is h)
  clear h
  go_enter Tryd.func65, Tryd.ntmps65
  go_wp2_with fail
  refine HI.out.mono ?_
  rintro e w1 ⟨i, rfl, rfl, hi⟩
  have HT := Lib.hid hi
  clear hi HI
  go_wp2
  go_ret
  exact ⟨by rw [← HT.out]; rfl, rfl⟩
end Go.Proofs.YtlijagbklopipaaDoor
