/-
  CrcBurst answers true and leaves what was there as it was, for every input.
-/
import Derived.Laws.BitsAllLaws
import Derived.Test.YtcnljifbifidbaaCrcU
import Derived.Test.YtcnljifbifidbaaCrcK
namespace Go.Proofs.Ytcnljifbifidbaa
open Go.RowKit
set_option linter.unusedVariables false
attribute [local go_sem ↓] Go.wp_at_zero Go.wp_at_succ

theorem xor_byte (x y : UInt8) : bits BinOp.xor IntKind.u8 (x.toNat : Int) (y.toNat : Int) = (((x ^^^ y).toNat : Nat) : Int) := by
  rw [UInt8.toNat_xor]
  exact u8_xor_nat x.toNat y.toNat (by have := x.toNat_lt; omega) (by have := y.toNat_lt; omega)

theorem shr_byte (V j : Nat) : ((V : Int) / 2 ^ (8 * j) % 256) = ((UInt8.ofNat (V / 256 ^ j)).toNat : Int) := by
  have e' : ((2 : Int) ^ (8 * j)) = ((256 ^ j : Nat) : Int) := by
    rw [show (256 : Nat) = 2 ^ 8 from rfl, ← Nat.pow_mul]; simp
  rw [e', UInt8.toNat_ofNat']
  omega

set_option maxRecDepth 100000 in
set_option maxHeartbeats 1600000 in
theorem crcBurst_walk {w : World} {A : Option Addr} {n c : Nat} {l : List UInt8} (h : Rd w w.heap.size A n c l) (at_ : Int) (hat : -9223372036854775808 ≤ at_ ∧ at_ ≤ 9223372036854775807) (by_ : Int) (hby : 0 ≤ by_ ∧ by_ ≤ 4294967295) :
    Calls Try.prog 7 #[.slice A n c, .int .i64 at_, .int .u32 by_] w (Yes w) := by
  have hlen := h.len
  by_cases hn : n ≤ 2000
  · have t1 : decide ((2000 : Int) < (n : Int)) = false := by simp only [decide_eq_false_iff_not]; omega
    by_cases h0 : at_ < 0
    · have t2 : decide (at_ < 0) = true := by simp only [decide_eq_true_eq]; omega
      go_enter Try.func7, Try.ntmps7
      go_wp2_with fail
      refine (live_ok w).mono ?_
      rintro e w1 ⟨rfl, b1⟩
      go_wp2
      go_ret
      exact ⟨rfl, b1⟩
    obtain ⟨p, rfl⟩ := Int.eq_ofNat_of_zero_le (show 0 ≤ at_ by omega)
    have t2 : decide ((p : Int) < 0) = false := by simp only [decide_eq_false_iff_not]; omega
    by_cases hp : n ≤ p
    · have t3 : decide (n ≤ p) = true := by simp only [decide_eq_true_eq]; omega
      go_enter Try.func7, Try.ntmps7
      go_wp2_with fail
      refine (live_ok w).mono ?_
      rintro e w1 ⟨rfl, b1⟩
      go_wp2
      go_ret
      exact ⟨rfl, b1⟩
    have t3 : decide (n ≤ p) = false := by simp only [decide_eq_false_iff_not]; omega
    obtain ⟨V, rfl⟩ := Int.eq_ofNat_of_zero_le hby.1
    have hV : V < 4294967296 := by omega
    clear hat hby h0 t1 t2 t3
    have t1 : decide ((2000 : Int) < (n : Int)) = false := by simp only [decide_eq_false_iff_not]; omega
    have t2 : decide ((p : Int) < 0) = false := by simp only [decide_eq_false_iff_not]; omega
    have t3 : decide (n ≤ p) = false := by simp only [decide_eq_false_iff_not]; omega
    go_enter Try.func7, Try.ntmps7
    go_wp2_with fail
    refine (live_ok w).mono ?_
    rintro e w1 ⟨rfl, b1⟩
    have hown : Own (w1.alloc (.cells #[] 5)) w.heap.size (some ⟨w1.heap.size, 0, none⟩) 0 0 [] := Ob.made w1 b1.size
    have b1' := bput b1 (.cells #[] 5)
    go_wp2_with (at_builtin; refine wpList_app rfl (.tmp 32) (.tmp 33) rfl Try.underlying22 byteInfo rfl hown rfl (h.below b1') ?_ ?_ ?_)
    · omega
    · exact b1'.size
    · intro A2 c2 w2 ho2 hb2
      have b2 := b1'.trans hb2
      obtain ⟨g, rfl, hg1, hg2⟩ := ho2.spot (by omega)
      go_wp2_with fail
      go_loopw [9, 10] (fun ch i wr => ∃ j : Nat, j ≤ 4 ∧ p + j ≤ n ∧ i = .int .i64 (j : Int) ∧ ch = .bool (V % 256 ^ j != 0) ∧ Own wr w.heap.size (some ⟨g, 0, none⟩) n c2 (bur l p V j) ∧ Below w.heap.size w wr) (fun _ i _ => 4 - (intOf i).toNat)
      case atStart => exact ⟨0, by omega, by omega, rfl, by simp [Nat.mod_one], ho2, b2⟩
      case round =>
        obtain ⟨j, hj, hpj, rfl, rfl, hox, bx⟩ := hrel
        by_cases hlt : j < 4 ∧ p + j < n
        · obtain ⟨hj4, hjn⟩ := hlt
          have k1 := hox.cell (p + j) hjn
          rw [bur_get l p V j (by omega)] at k1
          have k2 := hox.free (p + j)
          have hnx : bur l p V (j + 1) = (bur l p V j).set (p + j) (l.getD (p + j) 0 ^^^ UInt8.ofNat (V / 256 ^ j)) := rfl
          have hch := chg_next V j
          have e1 := shr_byte V j
          have e2 := xor_byte (l.getD (p + j) 0) (UInt8.ofNat (V / 256 ^ j))
          have hd : (((UInt8.ofNat (V / 256 ^ j)).toNat : Int) != 0) = (V / 256 ^ j % 256 != 0) := by
            rw [UInt8.toNat_ofNat', Bool.eq_iff_iff]
            simp only [bne_iff_ne, ne_eq]
            omega
          generalize l.getD (p + j) 0 = Y at *
          generalize hD : ((UInt8.ofNat (V / 256 ^ j)).toNat : Int) = D at *
          generalize Y ^^^ UInt8.ofNat (V / 256 ^ j) = Y2 at *
          generalize (V / 256 ^ j % 256 != 0) = db at *
          generalize (V % 256 ^ j != 0) = cb at *
          have hnext := hox.put (p + j) Y2
          have bnext := bset bx (p := ⟨g, p + j, none⟩) hg1 (.int .u8 (Y2.toNat : Int))
          rw [← hnx] at hnext
          have HNX := Lib.hid hnext
          have HCH := Lib.hid hch
          have q1 : decide ((j : Int) < 4) = true := by simp only [decide_eq_true_eq]; omega
          have q2 : decide ((p : Int) + (j : Int) < (n : Int)) = true := by simp only [decide_eq_true_eq]; omega
          have g1 : IntKind.i64.wrap ((p : Int) + (j : Int)) = (p : Int) + (j : Int) := IntWalk.i64_in _ (by omega)
          have g2 : IntKind.i64.wrap (8 * (j : Int)) = 8 * (j : Int) := IntWalk.i64_in _ (by omega)
          have g3 : (0 : Int) ≤ (p : Int) + (j : Int) := by omega
          have g4 : (p : Int) + (j : Int) < (n : Int) := by omega
          have g5 : ((p : Int) + (j : Int)).toNat = p + j := by omega
          have g6 : (8 * (j : Int)).toNat = 8 * j := by omega
          have g7 : IntKind.i64.wrap ((j : Int) + 1) = (j : Int) + 1 := IntWalk.i64_in _ (by omega)
          clear hnx hox hnext hch hD
          rcases cb with _ | _
          all_goals
            go_wp2
            go_roundw
            case rel => exact ⟨j + 1, by omega, by omega, by go_num, by rw [← HCH.out]; simp, HNX.out, bnext⟩
            case measure => simp [intOf]; omega
        · have hcond : (decide ((j : Int) < 4) = false) ∨ (decide ((j : Int) < 4) = true ∧ decide ((p : Int) + (j : Int) < (n : Int)) = false) := by
            simp only [decide_eq_false_iff_not, decide_eq_true_eq]; omega
          have g1 : IntKind.i64.wrap ((p : Int) + (j : Int)) = (p : Int) + (j : Int) := IntWalk.i64_in _ (by omega)
          have hE := open_bur l p V j hj (by omega)
          have hC := crc_bur l p V j hj (by omega)
          generalize bur l p V j = X at *
          obtain ⟨VL, hVL⟩ : ∃ V, crc l = V := ⟨_, rfl⟩
          obtain ⟨VX, hVX⟩ : ∃ V, crc X = V := ⟨_, rfl⟩
          rw [hVL] at hE
          rw [hVL, hVX] at hC
          obtain ⟨E, cb, hcb, hE2, hd, hEc⟩ : ∃ (E : Int) (cb : Bool), (V % 256 ^ j != 0) = cb ∧ openE (X ++ be VL 4) = E ∧ ((VX : Int) != (VL : Int)) = cb ∧ (E == 20) = cb := by
            by_cases hz : V % 256 ^ j = 0
            · rw [if_pos hz] at hE
              refine ⟨0, false, by simp [hz], hE, ?_, rfl⟩
              rw [hC.2 hz]; simp
            · rw [if_neg hz] at hE
              refine ⟨20, true, by simp [hz], hE, ?_, rfl⟩
              have : VX ≠ VL := fun he => hz (hC.1 he)
              simp only [bne_iff_ne, ne_eq]; omega
          rw [hcb]
          have HE := Lib.hid hE2
          have HVL := Lib.hid hVL
          have HVX := Lib.hid hVX
          have qc : (cb == cb) = true := by simp
          clear hE hC hcb hE2 hVL hVX hpj hlt hj ho2 b2 hb2 hown b1'
          rcases hcond with q1 | ⟨q1, q2⟩
          all_goals
            go_wp2_with fail
            refine (seal_is (L := l ++ be VL 4) (h.below bx) bx.size (by omega) (by rw [HVL.out])).mono ?_
            rintro e w4 ⟨A4, n4, c4, rfl, ho4, hb4⟩
            have b4 := bthen bx hb4
            have l4 := ho4.len
            rw [List.length_append, be_length, hlen] at l4
            subst l4
            have cc4 := ho4.cap
            obtain ⟨A5, u5, r5⟩ := run_from (P := Try.prog) (t := 22) Try.underlying22 byteInfo ho4.rd n (by omega)
            rw [List.drop_left' hlen] at r5
            simp only [Nat.add_sub_cancel_left] at u5 r5
            have hox4 := hox.step (hb4.mono (Nat.le_refl _))
            have t9 : (((n + 4 : Nat) : Int) != (n : Int) + 4) = false := by simp
            have t8 : IntKind.i64.wrap ((n : Int) + 4) = (n : Int) + 4 := IntWalk.i64_in _ (by omega)
            go_wp2_with (at_builtin; refine wpList_appK rfl (.tmp 80) (.tmp 84) rfl Try.underlying22 byteInfo rfl hox4 rfl r5 ?_ ?_ ?_ ?_ ?_)
            · omega
            · omega
            · omega
            · exact b4.size
            · intro A6 c6 w6 ho6 hb6 hx6
              have b6 := b4.trans hb6
              go_wp2_with fail
              refine (open_is ho6.rd (Nat.le_refl _) (by omega) HE.out rfl).mono ?_
              rintro e w7 ⟨A7, n7, c7, rfl, ho7, hb7⟩
              have b7 := bthen b6 hb7
              go_wp2_with fail
              refine (sum_is (hx6.step hb7 (Nat.le_refl _)) hb7.size (by rw [HVX.out])).mono ?_
              rintro e w8 ⟨rfl, hb8⟩
              have b8 := bthen b7 hb8
              go_wp2_with fail
              refine (sum_is (h.below b8) b8.size (by rw [HVL.out])).mono ?_
              rintro e w9 ⟨rfl, hb9⟩
              have b9 := bthen b8 hb9
              go_wp2
              go_ret
              exact ⟨rfl, b9⟩
  · have t1 : decide ((2000 : Int) < (n : Int)) = true := by simp only [decide_eq_true_eq]; omega
    go_enter Try.func7, Try.ntmps7
    go_wp2_with fail
    refine (live_ok w).mono ?_
    rintro e w1 ⟨rfl, b1⟩
    go_wp2
    go_ret
    exact ⟨rfl, b1⟩
end Go.Proofs.Ytcnljifbifidbaa
