/-
  Contract of proto.checkResp. Conditions: those that it states.
-/
import Derived.Deep.DeepCutAuto
import Derived.Test.YtlijagbklopipaaDoorProJ
namespace Go.Proofs.YtlijagbklopipaaDoor
open Go.RowKit
set_option linter.unusedVariables false

theorem chkS_known {r : RS} (h : knownE r.kind r.ver ≠ 0) : chkS r = knownE r.kind r.ver := by unfold chkS; rw [if_pos h]
/-- The nine looks at an answer. -/
structure LooksS (r : RS) (a b c d e f g h i : Bool) : Prop where
  a : (decide (r.id < 0) || decide (1099511627776 < r.id)) = a
  b : (decide (r.wait < 0) || decide (1099511627776 < r.wait)) = b
  c : (decide (r.ver < 1) && decide (r.wait ≠ 0)) = c
  d : (decide (r.er < 0) || decide (999 < r.er)) = d
  e : decide (64 < r.ints.length) = e
  f : anyOut (-1099511627776) 1099511627776 r.ints = f
  g : decide (16 < r.texts.length) = g
  h : anyLong 64 r.texts = h
  i : decide (4096 < r.blob.length) = i
theorem mayS_iff {r : RS} {a b c d e f g h i : Bool} (L : LooksS r a b c d e f g h i) : mayS r ↔ (a || b || c || d || e || f || g || h || i) = false := by
  obtain ⟨rfl, rfl, rfl, rfl, rfl, rfl, rfl, rfl, rfl⟩ := L
  simp only [Bool.or_eq_false_iff, Bool.and_eq_false_iff, decide_eq_false_iff_not, mem_out, mem_long, ne_eq, Decidable.not_not, Int.not_lt, Nat.not_lt]
  unfold mayS
  constructor
  · rintro ⟨⟨h1, h2⟩, ⟨⟨h3, h4⟩, h5⟩, ⟨h6, h7⟩, ⟨h8, h9⟩, ⟨h10, h11⟩, h12⟩
    refine ⟨⟨⟨⟨⟨⟨⟨⟨⟨h1, h2⟩, ⟨h3, h4⟩⟩, ?_⟩, ⟨h6, h7⟩⟩, h8⟩, h9⟩, h10⟩, h11⟩, h12⟩
    by_cases hv : r.ver < 1
    · exact .inr (h5 hv)
    · exact .inl (by omega)
  · rintro ⟨⟨⟨⟨⟨⟨⟨⟨⟨h1, h2⟩, ⟨h3, h4⟩⟩, h5⟩, ⟨h6, h7⟩⟩, h8⟩, h9⟩, h10⟩, h11⟩, h12⟩
    refine ⟨⟨h1, h2⟩, ⟨⟨h3, h4⟩, fun hv => ?_⟩, ⟨h6, h7⟩, ⟨h8, h9⟩, ⟨h10, h11⟩, h12⟩
    rcases h5 with h5 | h5
    · omega
    · exact h5
theorem chkS_is {r : RS} {a b c d e f g h i : Bool} (L : LooksS r a b c d e f g h i) (hk : knownE r.kind r.ver = 0) : chkS r = if (a || b || c || d || e || f || g || h || i) = false then 0 else 1 := by
  unfold chkS
  rw [if_neg (by omega)]
  split
  · rename_i h0; rw [if_pos ((mayS_iff L).1 h0)]
  · rename_i h0; rw [if_neg (fun h1 => h0 ((mayS_iff L).2 h1))]

theorem boxed8 (w : World) (T : TypeId) (a0 a1 a2 a3 a4 a5 a6 a7 : Value) {w' : World} (h : Below (w.heap.size + 1) (w.alloc (.cells #[a0, a1, a2, a3, a4, a5, a6, a7] T)) w') :
    w'.cell? ⟨w.heap.size, 0, none⟩ = some a0 ∧ w'.cell? ⟨w.heap.size, 1, none⟩ = some a1 ∧ w'.cell? ⟨w.heap.size, 2, none⟩ = some a2 ∧ w'.cell? ⟨w.heap.size, 3, none⟩ = some a3 ∧ w'.cell? ⟨w.heap.size, 4, none⟩ = some a4 ∧ w'.cell? ⟨w.heap.size, 5, none⟩ = some a5 ∧ w'.cell? ⟨w.heap.size, 6, none⟩ = some a6 ∧ w'.cell? ⟨w.heap.size, 7, none⟩ = some a7 := by
  have key : ∀ j, w'.cell? ⟨w.heap.size, j, none⟩ = (#[a0, a1, a2, a3, a4, a5, a6, a7])[j]? := fun j => by
    rw [h.cell (p := ⟨w.heap.size, j, none⟩) (Nat.lt_succ_self _), cell_of_row _ w.heap.size j _ _ _ (heap_alloc_new w _)]
  exact ⟨key 0, key 1, key 2, key 3, key 4, key 5, key 6, key 7⟩

set_option maxHeartbeats 4000000 in
theorem p_chkS_ok {w : World} (k v id er wa : Int) {Ai At Ab : Option Addr} {ni ci nt ct nb cb : Nat} {zs ts bs} (h : Rq w w.heap.size Ai ni ci At nt ct Ab nb cb zs ts bs) :
    Calls Tryd.prog 71 #[.agg #[.int .i64 k, .int .i64 v, .int .i64 id, .int .i64 er, .int .i64 wa, .slice Ai ni ci, .slice At nt ct, .slice Ab nb cb]] w (Says w (.int .i64 (chkS ⟨k, v, id, er, wa, zs, ts, bs⟩))) := by
  by_cases hk : knownE k v = 0
  case neg =>
    rw [chkS_known (r := ⟨k, v, id, er, wa, zs, ts, bs⟩) hk]
    have t1 : (knownE k v != 0) = true := by simpa using hk
    have HKC := Lib.hid (known_is (w := w.alloc (.cells #[.int .i64 k, .int .i64 v, .int .i64 id, .int .i64 er, .int .i64 wa, .slice Ai ni ci, .slice At nt ct, .slice Ab nb cb] 38)) k v)
    generalize knownE k v = E at *
    have HB := Lib.hid (bput (Below.refl _ w) (.cells #[.int .i64 k, .int .i64 v, .int .i64 id, .int .i64 er, .int .i64 wa, .slice Ai ni ci, .slice At nt ct, .slice Ab nb cb] 38))
    clear hk h
    go_enter Tryd.func71, Tryd.ntmps71
    go_wp2_with fail
    refine HKC.out.mono ?_
    rintro e1 w1 ⟨rfl, rfl⟩
    go_wp2
    go_ret
    exact ⟨rfl, HB.out⟩
  obtain ⟨i1, i2, i3, i4⟩ := known_ok hk
  obtain ⟨K, rfl⟩ := Int.eq_ofNat_of_zero_le (show 0 ≤ k by omega)
  obtain ⟨a, b, c, d, e, f, g, hh, i, L⟩ : ∃ a b c d e f g h i, LooksS ⟨(K : Int), v, id, er, wa, zs, ts, bs⟩ a b c d e f g h i := ⟨_, _, _, _, _, _, _, _, _, rfl, rfl, rfl, rfl, rfl, rfl, rfl, rfl, rfl⟩
  have HC := Lib.hid (chkS_is L hk)
  generalize chkS ⟨(K : Int), v, id, er, wa, zs, ts, bs⟩ = C at *
  have HKN := Lib.hid hk
  have HL := Lib.hid L
  obtain ⟨W, hW⟩ : ∃ W, W = w.alloc (.cells #[.int .i64 K, .int .i64 v, .int .i64 id, .int .i64 er, .int .i64 wa, .slice Ai ni ci, .slice At nt ct, .slice Ab nb cb] 38) := ⟨_, rfl⟩
  have hWz : W.heap.size = w.heap.size + 1 := by rw [hW]; simp
  have HB : Hid (∀ w', Below W.heap.size W w' → Below w.heap.size w w') := Lib.hid fun w' hb => by
    have h1 := bput (Below.refl _ w) (.cells #[.int .i64 K, .int .i64 v, .int .i64 id, .int .i64 er, .int .i64 wa, .slice Ai ni ci, .slice At nt ct, .slice Ab nb cb] 38)
    rw [← hW] at h1
    exact bthen h1 hb
  have HK : Hid (∀ w', Below W.heap.size W w' → (w'.cell? ⟨w.heap.size, 0, none⟩ = some (.int .i64 K) ∧ w'.cell? ⟨w.heap.size, 1, none⟩ = some (.int .i64 v) ∧ w'.cell? ⟨w.heap.size, 2, none⟩ = some (.int .i64 id) ∧ w'.cell? ⟨w.heap.size, 3, none⟩ = some (.int .i64 er) ∧ w'.cell? ⟨w.heap.size, 4, none⟩ = some (.int .i64 wa) ∧ w'.cell? ⟨w.heap.size, 5, none⟩ = some (.slice Ai ni ci) ∧ w'.cell? ⟨w.heap.size, 6, none⟩ = some (.slice At nt ct) ∧ w'.cell? ⟨w.heap.size, 7, none⟩ = some (.slice Ab nb cb))) := Lib.hid fun w' hb => by
    refine boxed8 w 38 _ _ _ _ _ _ _ _ ?_
    rw [← hW, ← hWz]
    exact hb
  have hwz : w.heap.size ≤ W.heap.size := by rw [hWz]; exact Nat.le_succ _
  have HQ : Hid (∀ w', Below W.heap.size W w' → Rq w' w.heap.size Ai ni ci At nt ct Ab nb cb zs ts bs) := Lib.hid fun w' hb => h.step (HB.out _ hb) (Nat.le_refl _)
  have hni := h.ints.len
  rw [iv_len] at hni
  have hnt := h.texts.len
  rw [sv_len] at hnt
  have hnb := h.blob.len
  have HWZ := Lib.hid hwz
  clear hk L h hwz
  go_enter Tryd.func71, Tryd.ntmps71
  go_wp2_with fail
  refine (known_is _ _).mono ?_
  rintro e1 w1 ⟨rfl, rfl⟩
  have hk0 := HKN.out
  rw [hk0, ← hW]
  clear hk0 hW hWz
  go_wp2_with fail
  refine (beyond_is _ _).mono ?_
  rintro e1 w1 ⟨f1, rfl, ⟨rfl, g1, g2⟩, hb1⟩
  obtain ⟨k0, k1, k2, k3, k4, k5, k6, k7⟩ := HK.out _ hb1
  have HB1 := Lib.hid hb1
  have ha := HL.out.a
  have hb := HL.out.b
  have hc := HL.out.c
  have hd := HL.out.d
  have he := HL.out.e
  have hg := HL.out.g
  have hi := HL.out.i
  have HA := Lib.hid ha
  have HBB := Lib.hid hb
  have HCC := Lib.hid hc
  have HD := Lib.hid hd
  have HE := Lib.hid he
  have HG := Lib.hid hg
  have HI := Lib.hid hi
  clear hb1 ha hb hc hd he hg hi
  go_wp2_with fail
  refine (bey_is g1 g2 id).mono ?_
  rintro e1 w2 ⟨rfl, rfl⟩
  rw [HA.out]
  cases a with
  | true =>
    go_wp2
    go_ret
    exact badI (by have := HC.out; simpa using this) (HB.out _ HB1.out)
  | false =>
  go_wp2_with fail
  refine (bey_is g1 g2 wa).mono ?_
  rintro e1 w2 ⟨rfl, rfl⟩
  rw [HBB.out]
  cases b with
  | true =>
    go_wp2
    go_ret
    exact badI (by have := HC.out; simpa using this) (HB.out _ HB1.out)
  | false =>
  cases c with
  | true =>
    have hc := HCC.out
    simp only [Bool.and_eq_true, decide_eq_true_eq] at hc
    have t1 : decide (v < 1) = true := by simp only [decide_eq_true_eq]; exact hc.1
    have t2 : (wa != 0) = true := by simp only [bne_iff_ne, ne_eq]; exact hc.2
    clear hc
    go_wp2
    go_ret
    exact badI (by have := HC.out; simpa using this) (HB.out _ HB1.out)
  | false =>
  have hc := HCC.out
  simp only [Bool.and_eq_false_iff, decide_eq_false_iff_not, ne_eq, Decidable.not_not] at hc
  by_cases hv : v < 1
  all_goals
    first
    | (have t2 : decide (v < 1) = true := by simpa using hv)
    | (have t2 : decide (v < 1) = false := by simpa using hv)
    first
    | (have t4 : (wa != 0) = false := by
        simp only [bne_eq_false_iff_eq]
        omega)
    | skip
    clear hc hv
    have HX : Hid (∀ w', Below w1.heap.size w1 w' → w'.cell? ⟨w.heap.size, 3, none⟩ = some (.int .i64 er)) := Lib.hid fun w' hb => (hb.cell (p := ⟨w.heap.size, 3, none⟩) (block_lt_of_cell k3)).trans k3
    have z2 := (Below.refl w1.heap.size w1).drew
    go_wp2_with fail
    clear k0 k1 k2 k3 k4 k5 k6 k7 g1 g2
    go_region_held3 (fun w' => w'.cell? ⟨w.heap.size, 3, none⟩ = some (.int .i64 er)) (first | exact HX.out _ z2 | exact HX.out _ z3 | fail) (first
      | (go_at_call 62; (with_reducible refine (beyond_is _ _).mono ?_); rintro e1 w3 ⟨f3, rfl, ⟨rfl, g3, g4⟩, hb3⟩; (have z3 := bthen z2 hb3); (have g5 : w3.cell? ⟨w1.heap.size, 0, none⟩ = some (.int .i64 0) := g3); (have g6 : w3.cell? ⟨w1.heap.size + 1, 0, none⟩ = some (.int .i64 999) := g4))
      | (go_at_call 86; (with_reducible refine (bey_is g5 g6 _).mono ?_); (rintro e1 w4 ⟨rfl, rfl⟩); rw [HD.out])
      | fail)
    have HB3 := Lib.hid (bthen HB1.out z3)
    obtain ⟨k0, k1, k2, k3, k4, k5, k6, k7⟩ := HK.out _ HB3.out
    clear hb3 z2 z3 g3 g4 g5 g6
    cases d with
    | true =>
      go_wp2
      go_ret
      exact badI (by have := HC.out; simpa using this) (HB.out _ HB3.out)
    | false =>
    cases e with
    | true =>
      have t5 : decide ((64 : Int) < (ni : Int)) = true := by
        have he := HE.out
        simp only [decide_eq_true_eq] at he ⊢
        omega
      go_wp2
      go_ret
      exact badI (by have := HC.out; simpa using this) (HB.out _ HB3.out)
    | false =>
    have t5 : decide ((64 : Int) < (ni : Int)) = false := by
      have he := HE.out
      simp only [decide_eq_false_iff_not] at he ⊢
      omega
    have HY : Hid (∀ w', Below w3.heap.size w3 w' → w'.cell? ⟨w.heap.size, 5, none⟩ = some (.slice Ai ni ci)) := Lib.hid fun w' hb => (hb.cell (p := ⟨w.heap.size, 5, none⟩) (block_lt_of_cell k5)).trans k5
    have z4 := (Below.refl w3.heap.size w3).drew
    have HF := Lib.hid HL.out.f
    go_wp2_with fail
    clear k0 k1 k2 k3 k4 k5 k6 k7
    go_region_held3 (fun w' => w'.cell? ⟨w.heap.size, 5, none⟩ = some (.slice Ai ni ci)) (first | exact HY.out _ z4 | exact HY.out _ z5 | fail) (first
      | (go_at_call 62; (with_reducible refine (beyond_is _ _).mono ?_); rintro e1 w5 ⟨f5, rfl, hf5, hb5⟩; have z5 := bthen z4 hb5)
      | (go_at_call 64; (with_reducible refine (containsI_is (HQ.out _ (bthen HB3.out z5)).ints hf5).mono ?_); (rintro e1 w6 ⟨rfl, rfl⟩); rw [HF.out])
      | fail)
    have HB5 := Lib.hid (bthen HB3.out z5)
    obtain ⟨k0, k1, k2, k3, k4, k5, k6, k7⟩ := HK.out _ HB5.out
    clear hb5 z4 z5 hf5
    cases f with
    | true =>
      go_wp2
      go_ret
      exact badI (by have := HC.out; simpa using this) (HB.out _ HB5.out)
    | false =>
    cases g with
    | true =>
      have t6 : decide ((16 : Int) < (nt : Int)) = true := by
        have he := HG.out
        simp only [decide_eq_true_eq] at he ⊢
        omega
      go_wp2
      go_ret
      exact badI (by have := HC.out; simpa using this) (HB.out _ HB5.out)
    | false =>
    have t6 : decide ((16 : Int) < (nt : Int)) = false := by
      have he := HG.out
      simp only [decide_eq_false_iff_not] at he ⊢
      omega
    have HHH := Lib.hid HL.out.h
    go_wp2_with fail
    refine (containsS_is (HQ.out _ HB5.out).texts).mono ?_
    rintro e1 w7 ⟨rfl, rfl⟩
    rw [HHH.out]
    cases hh with
    | true =>
      go_wp2
      go_ret
      exact badI (by have := HC.out; simpa using this) (HB.out _ HB5.out)
    | false =>
    cases i with
    | true =>
      have t8 : decide ((4096 : Int) < (nb : Int)) = true := by
        have he := HI.out
        simp only [decide_eq_true_eq] at he ⊢
        omega
      go_wp2
      go_ret
      exact badI (by have := HC.out; simpa using this) (HB.out _ HB5.out)
    | false =>
      have t8 : decide ((4096 : Int) < (nb : Int)) = false := by
        have he := HI.out
        simp only [decide_eq_false_iff_not] at he ⊢
        omega
      go_wp2
      go_ret
      exact badI (by have := HC.out; simpa using this) (HB.out _ HB5.out)
end Go.Proofs.YtlijagbklopipaaDoor
