/-
  The walk of RecOnly.
-/
import Derived.Test.YteamnapboophiaaRecBack
namespace Go.Proofs.Yteamnapboophiaa
open Go.RowKit
set_option linter.unusedVariables false

theorem may_strOf (o : Int) (k v : List UInt8) (d : Bool) (s base st : Int) : mayN o (strOf k) (strOf v) d s base st = mayP ⟨o, k, v, d, s⟩ base st := by
  simp only [mayN, mayP, chk, strOf_size]
theorem put_strOf (o : Int) (k v : List UInt8) (d : Bool) (s base st : Int) : putB o (strOf k) (strOf v) d s base st = putR ⟨o, k, v, d, s⟩ base st := by
  simp only [putB, putR, strOf_data]

set_option maxRecDepth 100000 in
set_option maxHeartbeats 8000000 in
theorem recOnly_walk {w : World} {A : Option Addr} {n c : Nat} {l : List UInt8} (h : Rd w w.heap.size A n c l) (at_ : Int) (hat_ : -9223372036854775808 ≤ at_ ∧ at_ ≤ 9223372036854775807) (base : Int) (hbase : -9223372036854775808 ≤ base ∧ base ≤ 9223372036854775807) (st : Int) (hst : -9223372036854775808 ≤ st ∧ st ≤ 9223372036854775807) :
    Calls Try.prog 6 #[.slice A n c, .int .i64 at_, .int .i64 base, .int .i64 st] w (Yes w) := by
  have htop := h.top
  have hcap := h.cap
  have hlen := h.len
  by_cases h1 : 500 < n
  · have t1 : decide ((500 : Int) < (n : Int)) = true := by simp only [decide_eq_true_eq]; omega
    go_enter Try.func6, Try.ntmps6
    go_wp2_with fail
    refine (live_ok w).mono ?_
    rintro e w1 ⟨rfl, b1⟩
    go_wp2
    go_ret
    exact ⟨rfl, b1⟩
  have t1 : decide ((500 : Int) < (n : Int)) = false := by simp only [decide_eq_false_iff_not]; omega
  obtain ⟨r, m, z, hg⟩ : ∃ r m z, getR l at_ base st = (r, m, z) := ⟨_, _, _, rfl⟩
  by_cases hz : z = 0
  · subst hz
    obtain ⟨g1, g2, g3, g4, g5⟩ := getR_only hg
    obtain ⟨o, kl, vl, d, s⟩ := r
    obtain ⟨_, _, _, _, _, _, _, hk64, hv64⟩ := mayP_parts g1
    simp only at hk64 hv64
    have hchk := (mayP_parts g1).1
    obtain ⟨ks, hks⟩ : ∃ ks, strOf kl = ks := ⟨_, rfl⟩
    obtain ⟨vs, hvs⟩ : ∃ vs, strOf vl = vs := ⟨_, rfl⟩
    have hksz : ks.size ≤ 9223372036854775807 := by rw [← hks, strOf_size]; omega
    have hvsz : vs.size ≤ 9223372036854775807 := by rw [← hvs, strOf_size]; omega
    have hmn : mayN o ks vs d s base st = true := by rw [← hks, ← hvs, may_strOf]; exact g1
    have hpb : putB o ks vs d s base st = putR ⟨o, kl, vl, d, s⟩ base st := by rw [← hks, ← hvs, put_strOf]
    have hcn : chkN o ks.size vs.size d s = true := by rw [← hks, ← hvs, strOf_size, strOf_size]; exact hchk
    obtain ⟨a, rfl⟩ := Int.eq_ofNat_of_zero_le g2
    obtain ⟨q, rfl⟩ := Int.eq_ofNat_of_zero_le (show 0 ≤ m by omega)
    simp only [Int.toNat_natCast] at g5
    obtain ⟨A7, u7, r7⟩ := run_mid (P := Try.prog) (t := 26) Try.underlying26 byteInfo h a q (by omega) (by omega)
    rw [← g5] at r7
    obtain ⟨sx, hsx⟩ : ∃ sx, strOf (putR ⟨o, kl, vl, d, s⟩ base st) = sx := ⟨_, rfl⟩
    have HX := Lib.hid hsx
    have HR7 := Lib.hid r7
    have HG : Hid (∀ w1, Rd w1 w1.heap.size A n c l → Calls Try.prog 20 #[.slice A n c, .int .i64 (a : Int), .int .i64 base, .int .i64 st] w1 (Got w1 o ks vs d s (q : Int) 0)) := Lib.hid fun w1 h1 => get_is h1 hg hks hvs
    have HP : Hid (∀ w1, Calls Try.prog 14 #[.agg #[.int .i64 o, .string ks, .string vs, .bool d, .int .i64 s], .int .i64 base, .int .i64 st] w1 (Both w1 (putR ⟨o, kl, vl, d, s⟩ base st) 0)) := Lib.hid fun w1 => put_is hksz hvsz (by rw [hmn, ← hpb]; rfl) (by rw [hmn]; rfl)
    have HC : Hid (∀ w1, Calls Try.prog 16 #[.agg #[.int .i64 o, .string ks, .string vs, .bool d, .int .i64 s]] w1 (SaysI w1 0)) := Lib.hid fun w1 => check_is hksz hvsz hcn
    generalize putR ⟨o, kl, vl, d, s⟩ base st = P at *
    have e1 : decide (a < q) = true := by simp only [decide_eq_true_eq]; omega
    have e2 : decide (q ≤ n) = true := by simp only [decide_eq_true_eq]; omega
    have e3 : a ≤ q := by omega
    have e4 : q ≤ n := by omega
    clear hg g1 g2 g3 g4 g5 hk64 hv64 hchk hks hvs hmn hpb hcn r7 hsx
    go_enter Try.func6, Try.ntmps6
    go_wp2_with fail
    refine (live_ok w).mono ?_
    rintro e w1 ⟨rfl, b1⟩
    go_wp2_with fail
    refine (HG.out _ ((h.below b1).more b1.size)).mono ?_
    rintro e w2 ⟨rfl, hb2⟩
    have b2 := bput (bthen b1 hb2) (.cells #[.int .i64 o, .string ks, .string vs, .bool d, .int .i64 s] 23)
    have HBY := Lib.hid (fun (w' : World) (h : Below (w2.heap.size + 1) (w2.alloc (.cells #[.int .i64 o, .string ks, .string vs, .bool d, .int .i64 s] 23)) w') => boxed5 w2 o ks vs d s h)
    have hsz2 : w2.heap.size + 1 ≤ (w2.alloc (.cells #[.int .i64 o, .string ks, .string vs, .bool d, .int .i64 s] 23)).heap.size := by simp
    go_wp2_with fail
    refine (HP.out _).mono ?_
    rintro e w3 ⟨A3, n3, c3, rfl, ho3, hb3⟩
    have b3 := bthen b2 hb3
    have o3 := ho3.rd
    have HS : Hid (∀ w', Below w3.heap.size w3 w' → w'.cell? ⟨w2.heap.size, 0, none⟩ = some (.int .i64 o) ∧ w'.cell? ⟨w2.heap.size, 1, none⟩ = some (.string ks) ∧ w'.cell? ⟨w2.heap.size, 2, none⟩ = some (.string vs) ∧ w'.cell? ⟨w2.heap.size, 3, none⟩ = some (.bool d) ∧ w'.cell? ⟨w2.heap.size, 4, none⟩ = some (.int .i64 s) ∧ (convert 26 9 (.slice A3 n3 c3)).run Try.prog w' = .ok (.string sx) w' ∧ (convert 26 9 (.slice A7 (q - a) (c - a))).run Try.prog w' = .ok (.string sx) w') := Lib.hid fun w' hb => by
      obtain ⟨z0, z1, z2, z3, z4⟩ := HBY.out w' ((hb3.mono hsz2).trans (hb.mono (Nat.le_trans hsz2 hb3.size)))
      exact ⟨z0, z1, z2, z3, z4, str_eq (o3.below hb) HX.out, str_eq (HR7.out.below (bthen b3 hb)) HX.out⟩
    clear ho3 o3 hb3 hsz2
    have z0 := (Below.refl w3.heap.size w3).drew
    go_wp2_with fail
    go_region_held3 (fun w' => w'.cell? ⟨w2.heap.size, 0, none⟩ = some (.int .i64 o) ∧ w'.cell? ⟨w2.heap.size, 1, none⟩ = some (.string ks) ∧ w'.cell? ⟨w2.heap.size, 2, none⟩ = some (.string vs) ∧ w'.cell? ⟨w2.heap.size, 3, none⟩ = some (.bool d) ∧ w'.cell? ⟨w2.heap.size, 4, none⟩ = some (.int .i64 s) ∧ (convert 26 9 (.slice A3 n3 c3)).run Try.prog w' = .ok (.string sx) w' ∧ (convert 26 9 (.slice A7 (q - a) (c - a))).run Try.prog w' = .ok (.string sx) w') (first | exact HS.out _ z0 | exact HS.out _ z1 | fail) (first
      | (go_at_call 16; (with_reducible refine (HC.out _).mono ?_); rintro e w5 ⟨rfl, hb5⟩; have z1 := bthen z0 hb5)
      | fail)
    all_goals
      go_wp2
      go_ret
      exact ⟨rfl, bthen b3 z1⟩
  · obtain ⟨rfl, rfl⟩ := getR_err hg hz
    have HG : Hid (∀ w1, Rd w1 w1.heap.size A n c l → Calls Try.prog 20 #[.slice A n c, .int .i64 at_, .int .i64 base, .int .i64 st] w1 (Got w1 0 { data := #[] } { data := #[] } false 0 0 z)) := Lib.hid fun w1 h1 => get_is h1 hg rfl rfl
    have e1 : (z != 0) = true := by simpa using hz
    clear hg hz
    go_enter Try.func6, Try.ntmps6
    go_wp2_with fail
    refine (live_ok w).mono ?_
    rintro e w1 ⟨rfl, b1⟩
    go_wp2_with fail
    refine (HG.out _ ((h.below b1).more b1.size)).mono ?_
    rintro e w2 ⟨rfl, hb2⟩
    have b2 := bput (bthen b1 hb2) (.cells #[.int .i64 0, .string { data := #[] }, .string { data := #[] }, .bool false, .int .i64 0] 23)
    go_wp2
    go_ret
    exact ⟨rfl, b2⟩
end Go.Proofs.Yteamnapboophiaa
