/-
  OctetNumbers answers true and leaves what was there as it was, for every input.
-/
import Derived.Test.YtfgpgaenphmggaaOctL
import Derived.Test.YtfgpgaenphmggaaOctQ
namespace Go.Proofs.Ytfgpgaenphmggaa
open Go.RowKit
set_option linter.unusedVariables false

set_option maxRecDepth 100000 in
theorem octetNumbers_walk {w : World} {A : Option Addr} {n c : Nat} {l : List UInt8} (h : Rd w w.heap.size A n c l) (x : Int) (hx : 0 ≤ x ∧ x ≤ 18446744073709551615) (at_ : Int) (hat : -9223372036854775808 ≤ at_ ∧ at_ ≤ 9223372036854775807) (k : Int) (hk : -9223372036854775808 ≤ k ∧ k ≤ 9223372036854775807) :
    Calls Try.prog 8 #[.slice A n c, .int .u64 x, .int .i64 at_, .int .i64 k] w (Yes w) := by
  have HX := Lib.hid hx
  clear hat hk hx
  by_cases hn : n ≤ 5000
  · obtain ⟨v, hv⟩ : ∃ v, getN l at_ k = v := ⟨_, rfl⟩
    obtain ⟨e, he⟩ : ∃ e, getE l at_ k = e := ⟨_, rfl⟩
    have HV := Lib.hid hv
    have HE := Lib.hid he
    clear hv he
    have e1 : (v == v) = true := by simp
    have e2 : (e == e) = true := by simp
    go_enter Try.func8, Try.ntmps8
    go_wp2_with fail
    refine (live_ok w).mono ?_
    rintro e w1 ⟨rfl, b1⟩
    go_wp2_with fail
    refine (few_yes hn).mono ?_
    rintro e w1' ⟨rfl, rfl⟩
    go_wp2_with fail
    refine (copy_ok (h.below b1) (by omega)).mono ?_
    rintro e w2 ⟨A2, n2, c2, rfl, ho2, hb2⟩
    have b2 := bthen b1 hb2
    have r2 := ho2.rd
    go_wp2_with fail
    refine (get_at (h.below b2) HV.out HE.out).mono ?_
    rintro e w2' ⟨rfl, rfl⟩
    go_wp2_with fail
    refine (rGet_at (h.below b2) HV.out HE.out).mono ?_
    rintro e w2' ⟨rfl, rfl⟩
    go_wp2_with fail
    refine (put_any (h.below b2) b2.size (by omega) x k HX.out).mono ?_
    rintro e w3 ⟨A3, n3, c3, rfl, ho3, hb3⟩
    have b3 := bthen b2 hb3
    go_wp2_with fail
    refine (rPut_any (h.below b3) (by omega) x k HX.out).mono ?_
    rintro e w4 ⟨A4, n4, c4, rfl, ho4, hb4⟩
    have b4 := bthen b3 hb4
    have ho3' := ho3.step hb4
    have r2' := r2.below (hb3.trans (hb4.mono hb3.size))
    go_wp2_with fail
    refine (same_yes ho3'.rd ho4.rd rfl).mono ?_
    rintro e w4' ⟨rfl, rfl⟩
    have htop := ho3.top
    have hcap := ho3.cap
    clear ho3 ho4 hb2 hb3 hb4
    by_cases hpos : 0 < n3
    · obtain ⟨g, hA3, hg1, hg2⟩ := ho3'.spot hpos
      subst hA3
      go_wp2_with fail
      go_loopw [60] (fun i wr => ∃ (j : Nat) (L : List UInt8), j ≤ n3 ∧ i = .int .i64 (j : Int) ∧ Own wr w2.heap.size (some ⟨g, 0, none⟩) n3 c3 L ∧ Below w.heap.size w wr ∧ Rd wr w2.heap.size A2 n2 c2 l)
        (fun i _ => n3 - (intOf i).toNat)
      case atStart => exact ⟨0, _, by omega, rfl, ho3', b4, r2'⟩
      case round =>
        obtain ⟨j, L, hj, rfl, hoL, hbL, hrL⟩ := hrel
        by_cases hlt : j < n3
        · have hcell := hoL.cell j hlt
          have hfree := hoL.free j
          generalize L.getD j 0 = x at *
          go_wp2
          go_roundw
          case rel =>
            have e : ((x.toNat : Int) + 1) % 256 = ((UInt8.ofNat (x.toNat + 1)).toNat : Int) := by rw [UInt8.toNat_ofNat']; omega
            rw [e]
            exact ⟨j + 1, _, by omega, by go_num, hoL.put j _, bset hbL (Nat.le_trans b2.size hg1) _, hrL.setCell hg1 _⟩
          case measure => simp [intOf]; omega
        · have hj' : j = n3 := by omega
          subst hj'
          go_wp2_with fail
          refine (same_yes (h.below hbL) hrL rfl).mono ?_
          rintro e w5 ⟨rfl, rfl⟩
          go_wp2
          go_ret
          exact ⟨rfl, hbL⟩
    · have h0 : n3 = 0 := by omega
      subst h0
      go_wp2_with fail
      refine wp_loop_rounds 1 ?_
      rw [rounds_succ]
      go_wp2_with fail
      refine (same_yes (h.below b4) r2' rfl).mono ?_
      rintro e w5 ⟨rfl, rfl⟩
      go_wp2
      go_ret
      exact ⟨rfl, b4⟩
  · go_enter Try.func8, Try.ntmps8
    go_wp2_with fail
    refine (live_ok w).mono ?_
    rintro e w1 ⟨rfl, b1⟩
    go_wp2_with fail
    refine (few_no hn).mono ?_
    rintro e w1' ⟨rfl, rfl⟩
    go_wp2
    go_ret
    exact ⟨rfl, b1⟩
end Go.Proofs.Ytfgpgaenphmggaa
