/-
  Contract of proto.CheckReq. Conditions: those that it states.
-/
import Derived.Deep.DeepCutAuto
import Derived.Test.YtlijagbklopipaaDoorProI
namespace Go.Proofs.YtlijagbklopipaaDoor
open Go.RowKit
set_option linter.unusedVariables false

theorem bcellP {W w1 : World} (hb : Below W.heap.size W w1) : (∀ b o, b < W.heap.size → w1.cell? ⟨b, o, none⟩ = W.cell? ⟨b, o, none⟩) ∧ (∀ b o, b < W.heap.size → w1.frozen? ⟨b, o, none⟩ = W.frozen? ⟨b, o, none⟩) :=
  ⟨fun b o h => hb.cell (p := ⟨b, o, none⟩) h, fun b o h => hb.frozen (p := ⟨b, o, none⟩) h⟩

/-- What stands behind the first statement: a copy of the kind's row, and the look whether a number lies beyond. -/
def Shaped (W wx : World) (K : Nat) (s4 s5 : Value) : Prop := ∃ (Bs b1 b2 : Nat), s4 = .pointer (some ⟨Bs, 0, none⟩) ∧ Bey wx s5 b1 b2 0 1099511627776 ∧
  (wx.cell? ⟨Bs, 0, none⟩ = some (.int .i64 (shI K)) ∧ wx.cell? ⟨Bs, 1, none⟩ = some (.int .i64 (shT K)) ∧ wx.cell? ⟨Bs, 2, none⟩ = some (.int .i64 (shM K)) ∧ wx.cell? ⟨Bs, 3, none⟩ = some (.int .i64 (shB K))) ∧ Below W.heap.size W wx
theorem Shaped.one {W w1 : World} {K : Nat} {f : Value} {b1 b2 : Nat} (h : Bey w1 f b1 b2 0 1099511627776) (z : Below W.heap.size W w1) :
    Shaped W (w1.alloc (.cells #[.int .i64 (shI K), .int .i64 (shT K), .int .i64 (shM K), .int .i64 (shB K)] 59)) K (.pointer (some ⟨w1.heap.size, 0, none⟩)) f :=
  ⟨_, _, _, rfl, h.keep (bput (Below.refl _ w1) _) h.lt.1 h.lt.2, of4 (heap_alloc_new w1 _), bput z _⟩
theorem Shaped.two {W w1 : World} {K : Nat} {f : Value} {b1 b2 : Nat} (h : Bey w1 f b1 b2 0 1099511627776)
    (hb : Below (W.alloc (.cells #[.int .i64 (shI K), .int .i64 (shT K), .int .i64 (shM K), .int .i64 (shB K)] 59)).drew.heap.size (W.alloc (.cells #[.int .i64 (shI K), .int .i64 (shT K), .int .i64 (shM K), .int .i64 (shB K)] 59)).drew w1) :
    Shaped W w1 K (.pointer (some ⟨W.heap.size, 0, none⟩)) f :=
  ⟨_, _, _, rfl, h, of4 ((hb.block W.heap.size (by simp)).trans (heap_alloc_new W _)), bthen (bput (Below.refl _ W) _).drew hb⟩
theorem Shaped.three {W w1 : World} {K : Nat} {f : Value} {z0 z1 z2 z3 : Value}
    (h : Bey w1 f (W.alloc (.cells #[z0, z1, z2, z3] 59)).drew.heap.size ((W.alloc (.cells #[z0, z1, z2, z3] 59)).drew.heap.size + 1) 0 1099511627776)
    (hb : Below (W.alloc (.cells #[z0, z1, z2, z3] 59)).drew.heap.size (W.alloc (.cells #[z0, z1, z2, z3] 59)).drew w1) :
    Shaped W ((((w1.setCell ⟨W.heap.size, 0, none⟩ (.int .i64 (shI K))).setCell ⟨W.heap.size, 1, none⟩ (.int .i64 (shT K))).setCell ⟨W.heap.size, 2, none⟩ (.int .i64 (shM K))).setCell ⟨W.heap.size, 3, none⟩ (.int .i64 (shB K))) K (.pointer (some ⟨W.heap.size, 0, none⟩)) f := by
  have hz : W.heap.size < (W.alloc (.cells #[z0, z1, z2, z3] 59)).drew.heap.size := by simp
  have hq : w1.heap[W.heap.size]? = some (.cells #[z0, z1, z2, z3] 59 (0, 0)) := (hb.block W.heap.size hz).trans (heap_alloc_new W _)
  have z := bthen (bput (Below.refl _ W) (.cells #[z0, z1, z2, z3] 59)).drew hb
  refine ⟨_, _, _, rfl, (((h.set ?_ ?_ _).set ?_ ?_ _).set ?_ ?_ _).set ?_ ?_ _, of4 (set4 hq), bset (bset (bset (bset z (Nat.le_refl _) _) (Nat.le_refl _) _) (Nat.le_refl _) _) (Nat.le_refl _) _⟩
  all_goals (simp; try omega)

set_option maxHeartbeats 4000000 in
theorem p_chkQ_ok {w : World} (hs : Shp w) (k v id : Int) (who : List UInt8) {Ai At Ab : Option Addr} {ni ci nt ct nb cb : Nat} {zs ts bs} (h : Rq w w.heap.size Ai ni ci At nt ct Ab nb cb zs ts bs) (hw : who.length ≤ 9223372036854775807) :
    Calls Tryd.prog 18 #[.agg #[.int .i64 k, .int .i64 v, .int .i64 id, .string (strOf who), .slice Ai ni ci, .slice At nt ct, .slice Ab nb cb]] w (Says w (.int .i64 (chkQ ⟨k, v, id, who, zs, ts, bs⟩))) := by
  have hsz := strOf_size who
  by_cases hk : knownE k v = 0
  case neg =>
    rw [chkQ_known (r := ⟨k, v, id, who, zs, ts, bs⟩) hk]
    have t1 : (knownE k v != 0) = true := by simpa using hk
    have HKC := Lib.hid (known_is (w := w.alloc (.cells #[.int .i64 k, .int .i64 v, .int .i64 id, .string (strOf who), .slice Ai ni ci, .slice At nt ct, .slice Ab nb cb] 26)) k v)
    generalize knownE k v = E at *
    have HB := Lib.hid (bput (Below.refl _ w) (.cells #[.int .i64 k, .int .i64 v, .int .i64 id, .string (strOf who), .slice Ai ni ci, .slice At nt ct, .slice Ab nb cb] 26))
    clear hk h hs hsz hw
    go_enter Tryd.func18, Tryd.ntmps18
    go_wp2_with fail
    refine HKC.out.mono ?_
    rintro e1 w1 ⟨rfl, rfl⟩
    go_wp2
    go_ret
    exact ⟨rfl, HB.out⟩
  obtain ⟨i1, i2, i3, i4⟩ := known_ok hk
  obtain ⟨K, rfl⟩ := Int.eq_ofNat_of_zero_le (show 0 ≤ k by omega)
  obtain ⟨a, b, c, d, e, f, g, hh, i, L⟩ : ∃ a b c d e f g h i, Looks ⟨(K : Int), v, id, who, zs, ts, bs⟩ a b c d e f g h i := ⟨_, _, _, _, _, _, _, _, _, rfl, rfl, rfl, rfl, rfl, rfl, rfl, rfl, rfl⟩
  have HC := Lib.hid (chkQ_is L hk)
  generalize chkQ ⟨(K : Int), v, id, who, zs, ts, bs⟩ = C at *
  have HKN := Lib.hid hk
  have HS := Lib.hid hs
  have HBX := Lib.hid (fun (w' : World) => boxed7 w 26 (.int .i64 K) (.int .i64 v) (.int .i64 id) (.string (strOf who)) (.slice Ai ni ci) (.slice At nt ct) (.slice Ab nb cb) (w' := w'))
  have HL := Lib.hid L
  have HH := Lib.hid h
  clear hk hs L h
  go_enter Tryd.func18, Tryd.ntmps18
  go_wp2_with fail
  refine (known_is _ _).mono ?_
  rintro e1 w1 ⟨rfl, rfl⟩
  have hk0 := HKN.out
  rw [hk0]
  clear hk0
  obtain ⟨W, hW⟩ : ∃ W, W = w.alloc (.cells #[.int .i64 K, .int .i64 v, .int .i64 id, .string (strOf who), .slice Ai ni ci, .slice At nt ct, .slice Ab nb cb] 26) := ⟨_, rfl⟩
  have hWz : W.heap.size = w.heap.size + 1 := by rw [hW]; simp
  have HR : Hid (∀ w', Below W.heap.size W w' → w'.cell? ⟨w.heap.size, 0, none⟩ = some (.int .i64 (K : Int)) ∧ w'.cell? ⟨0, K * 4, none⟩ = some (.int .i64 (shI K)) ∧ w'.cell? ⟨0, K * 4 + 1, none⟩ = some (.int .i64 (shT K)) ∧ w'.cell? ⟨0, K * 4 + 2, none⟩ = some (.int .i64 (shM K)) ∧ w'.cell? ⟨0, K * 4 + 3, none⟩ = some (.int .i64 (shB K))) := Lib.hid fun w' hb => by
    refine ⟨(HBX.out w' (by rw [← hW, ← hWz]; exact hb)).1, ?_⟩
    have h1 := HS.out.on (bput (Below.refl _ w) (.cells #[.int .i64 K, .int .i64 v, .int .i64 id, .string (strOf who), .slice Ai ni ci, .slice At nt ct, .slice Ab nb cb] 26))
    rw [← hW] at h1
    exact (h1.on hb).at (by omega)
  have q0 := (HR.out W (Below.refl _ _)).1
  rw [← hW]
  have HW := Lib.hid hW
  clear hW
  have z0 := (Below.refl W.heap.size W).drew
  have hWl : W.heap.size ≤ w.heap.size + 1 := Nat.le_of_eq hWz
  have j1 : (0 : Int) ≤ (K : Int) := by omega
  have j2 : (K : Int) < 13 := by omega
  go_upto_region 4 with fail
  go_cut [4, 5] (fun s4 s5 wx => Shaped W wx K s4 s5)
  case first =>
    clear q0
    go_region_held3 (fun w' => w'.cell? ⟨w.heap.size, 0, none⟩ = some (.int .i64 (K : Int)) ∧ w'.cell? ⟨0, K * 4, none⟩ = some (.int .i64 (shI K)) ∧ w'.cell? ⟨0, K * 4 + 1, none⟩ = some (.int .i64 (shT K)) ∧ w'.cell? ⟨0, K * 4 + 2, none⟩ = some (.int .i64 (shM K)) ∧ w'.cell? ⟨0, K * 4 + 3, none⟩ = some (.int .i64 (shB K))) (first | exact HR.out _ z0 | exact HR.out _ (bput z0 _) | exact HR.out _ z1 | exact HR.out _ (bput z1 _) | exact HR.out _ (bset (bset (bset (bset z1 hWl _) hWl _) hWl _) hWl _) | fail) (first
      | (go_at_call 62; (with_reducible refine (beyond_is _ _).mono ?_); rintro e1 w1 ⟨f1, rfl, hf1, hb1⟩; (first | (have z1 := bthen z0 hb1) | (have z1 := bthen (bput z0 _) hb1) | fail); (have hz1 := hb1.size); (obtain ⟨hc1, hfr1⟩ := bcellP hb1))
      | fail)
    all_goals
      go_wp2_with fail
      go_meet
      first
        | exact Shaped.one hf1 z1
        | exact Shaped.two hf1 hb1
        | (rw [← hWz]; exact Shaped.three hf1 hb1)
  case rest =>
    obtain ⟨Bs, b1, b2, rfl, ⟨rfl, g1, g2⟩, ⟨c0, c1, c2, c3⟩, z1⟩ := hcut
    obtain ⟨k0, k1, k2, k3, k4, k5, k6⟩ := HBX.out wc (by rw [← HW.out, ← hWz]; exact z1)
    have HB : Hid (∀ w', Below W.heap.size W w' → Below w.heap.size w w') := Lib.hid fun w' hb => by
      have h1 := bput (Below.refl _ w) (.cells #[.int .i64 K, .int .i64 v, .int .i64 id, .string (strOf who), .slice Ai ni ci, .slice At nt ct, .slice Ab nb cb] 26)
      rw [← HW.out] at h1
      exact bthen h1 hb
    have HQ := Lib.hid (HH.out.step (HB.out _ z1) (Nat.le_refl _))
    have hni := HQ.out.ints.len
    rw [iv_len] at hni
    have hnt := HQ.out.texts.len
    rw [sv_len] at hnt
    have hnb := HQ.out.blob.len
    have hwz := Nat.le_trans (Nat.le_succ _) (Nat.le_trans (Nat.le_of_eq hWz.symm) z1.size)
    have m1 := HQ.out.ints.cap
    have m2 := HQ.out.ints.top
    have m3 := HQ.out.texts.cap
    have m4 := HQ.out.texts.top
    have m5 := HQ.out.blob.cap
    have m6 := HQ.out.blob.top
    have Z1 := Lib.hid z1
    clear z1 z0 q0
    go_wp2_with fail
    refine (bey_is g1 g2 id).mono ?_
    rintro e1 w1 ⟨rfl, rfl⟩
    rw [HL.out.a]
    cases a with
    | true =>
      go_wp2
      go_ret
      exact badI (by have := HC.out; simpa using this) (HB.out _ Z1.out)
    | false =>
    go_wp2_with fail
    refine (long_is (strOf who)).mono ?_
    rintro e1 w1 ⟨rfl, rfl⟩
    rw [hsz, HL.out.b]
    cases b with
    | true =>
      go_wp2
      go_ret
      exact badI (by have := HC.out; simpa using this) (HB.out _ Z1.out)
    | false =>
    have hc := HL.out.c
    cases c with
    | true =>
      simp only [Bool.and_eq_true, decide_eq_true_eq] at hc
      have t1 : decide (v < 2) = true := by simpa using hc.1
      have t2 : (!(strOf who).toList.isEmpty) = true := by rw [strOf_toList]; simpa using hc.2
      clear hc
      go_wp2
      go_ret
      exact badI (by have := HC.out; simpa using this) (HB.out _ Z1.out)
    | false =>
    have t1 : decide (v < 2) = true → (strOf who).toList = [] := by
      intro hv
      rw [strOf_toList]
      simp only [Bool.and_eq_false_iff] at hc
      rcases hc with h | h
      · rw [hv] at h; cases h
      · simpa using h
    clear hc
    have BG : Hid (Shaped W wc K (.pointer (some ⟨Bs, 0, none⟩)) (.func (.func 86) #[] #[.pointer (some ⟨b1, 0, none⟩), .pointer (some ⟨b2, 0, none⟩)])) := ⟨Bs, b1, b2, rfl, ⟨rfl, g1, g2⟩, ⟨c0, c1, c2, c3⟩, Z1.out⟩
    by_cases hv : v < 2
    all_goals
      first
      | (have t2 : decide (v < 2) = true := by simpa using hv)
      | (have t2 : decide (v < 2) = false := by simpa using hv)
      have t3 := t1
      rw [t2] at t3
      first
      | (have t4 : (!(strOf who).toList.isEmpty) = false := by rw [t3 rfl]; rfl)
      | skip
      clear t1 t3 hv
      have hd := HL.out.d
      cases d with
      | true =>
        have t5 : ((ni : Int) != ((shI (K : Int) : Nat) : Int)) = true := by
          simp only [decide_eq_true_eq] at hd
          simp only [bne_iff_ne, ne_eq]
          omega
        clear hd
        go_wp2
        go_ret
        exact badI (by have := HC.out; simpa using this) (HB.out _ Z1.out)
      | false =>
      have t5 : ((ni : Int) != ((shI (K : Int) : Nat) : Int)) = false := by
        simp only [decide_eq_false_iff_not] at hd
        simp only [bne_eq_false_iff_eq]
        omega
      clear hd
      have HK : Hid (∀ w', Below wc.heap.size wc w' → (w'.cell? ⟨w.heap.size, 4, none⟩ = some (.slice Ai ni ci) ∧ w'.cell? ⟨w.heap.size, 5, none⟩ = some (.slice At nt ct) ∧ w'.cell? ⟨w.heap.size, 6, none⟩ = some (.slice Ab nb cb)) ∧
          (w'.cell? ⟨Bs, 1, none⟩ = some (.int .i64 (shT (K : Int))) ∧ w'.cell? ⟨Bs, 2, none⟩ = some (.int .i64 (shM (K : Int))) ∧ w'.cell? ⟨Bs, 3, none⟩ = some (.int .i64 (shB (K : Int))))) := Lib.hid fun w' hb => by
        have hlb := block_lt_of_cell k4
        have hls := block_lt_of_cell c1
        exact ⟨⟨(hb.cell (p := ⟨w.heap.size, 4, none⟩) hlb).trans k4, (hb.cell (p := ⟨w.heap.size, 5, none⟩) hlb).trans k5, (hb.cell (p := ⟨w.heap.size, 6, none⟩) hlb).trans k6⟩,
          ⟨(hb.cell (p := ⟨Bs, 1, none⟩) hls).trans c1, (hb.cell (p := ⟨Bs, 2, none⟩) hls).trans c2, (hb.cell (p := ⟨Bs, 3, none⟩) hls).trans c3⟩⟩
      have HE := Lib.hid HL.out.e
      have z2 := (Below.refl wc.heap.size wc).drew
      go_wp2_with fail
      clear k0 k1 k2 k3 k4 k5 k6 c0 c1 c2 c3 g1 g2
      go_region_held3 (fun w' => w'.cell? ⟨w.heap.size, 4, none⟩ = some (.slice Ai ni ci)) (first | exact (HK.out _ z2).1.1 | exact (HK.out _ z3).1.1 | fail) (first
        | (go_at_call 62; (with_reducible refine (beyond_is _ _).mono ?_); rintro e1 w1 ⟨f1, rfl, hf1, hb1⟩; have z3 := bthen z2 hb1)
        | (go_at_call 64; (with_reducible refine (containsI_is (HQ.out.step z3 hwz).ints hf1).mono ?_); (rintro e1 w2 ⟨rfl, rfl⟩); rw [HE.out])
        | fail)
      obtain ⟨⟨k4, k5, k6⟩, ⟨c1, c2, c3⟩⟩ := HK.out _ z3
      have Z3 := Lib.hid (bthen Z1.out z3)
      have hqt := (HQ.out.step z3 hwz).texts
      have hsh := (sh_small ⟨K, by omega⟩).2
      simp only at hsh
      have hsm : shM (K : Int) ≤ 12 := by unfold shM; split <;> omega
      clear t5 hni hwz m1 m2 m3 m4 m5 m6 hb1 hf1 z2 z3 hWz hWl j1 j2 i1 i2 i3 i4 hsz hw
      have hf := HL.out.f
      have hg := HL.out.g
      have hi := HL.out.i
      cases e with
      | true =>
        clear hf hg hi
        go_wp2
        go_ret
        exact badI (by have := HC.out; simpa using this) (HB.out _ Z3.out)
      | false =>
      cases f with
      | true =>
        have t6 : decide (nt < shT (K : Int)) = true := by
          simp only [decide_eq_true_eq] at hf ⊢
          omega
        clear hf hg hi
        go_wp2
        go_ret
        exact badI (by have := HC.out; simpa using this) (HB.out _ Z3.out)
      | false =>
      have t6 : decide (nt < shT (K : Int)) = false := by
        simp only [decide_eq_false_iff_not] at hf ⊢
        omega
      clear hf
      cases g with
      | true =>
        have t7 : decide (((shT (K : Int) : Nat) : Int) + ((shM (K : Int) : Nat) : Int) < (nt : Int)) = true := by
          simp only [decide_eq_true_eq] at hg ⊢
          omega
        clear hg hi
        go_wp2
        go_ret
        exact badI (by have := HC.out; simpa using this) (HB.out _ Z3.out)
      | false =>
      have t7 : decide (((shT (K : Int) : Nat) : Int) + ((shM (K : Int) : Nat) : Int) < (nt : Int)) = false := by
        simp only [decide_eq_false_iff_not] at hg ⊢
        omega
      clear hg
      go_wp2_with fail
      refine (containsS_is hqt).mono ?_
      rintro e1 w3 ⟨rfl, rfl⟩
      rw [HL.out.h]
      cases hh with
      | true =>
        clear hi
        go_wp2
        go_ret
        exact badI (by have := HC.out; simpa using this) (HB.out _ Z3.out)
      | false =>
      cases i with
      | true =>
        have t8 : decide (shB (K : Int) < nb) = true := by
          simp only [decide_eq_true_eq] at hi ⊢
          omega
        clear hi
        go_wp2
        go_ret
        exact badI (by have := HC.out; simpa using this) (HB.out _ Z3.out)
      | false =>
        have t8 : decide (shB (K : Int) < nb) = false := by
          simp only [decide_eq_false_iff_not] at hi ⊢
          omega
        clear hi
        go_wp2
        go_ret
        exact badI (by have := HC.out; simpa using this) (HB.out _ Z3.out)
end Go.Proofs.YtlijagbklopipaaDoor
