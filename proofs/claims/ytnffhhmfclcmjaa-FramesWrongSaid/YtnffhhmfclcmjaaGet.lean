/-
  Contracts of octet's Get: what the Go text computes is what the plain functions say.
-/
import Derived.Test.YtnffhhmfclcmjaaPrim
import Derived.Test.YtnffhhmfclcmjaaOctN
namespace Go.Proofs.Ytnffhhmfclcmjaa
open Go.RowKit

set_option linter.unusedVariables false
theorem get_byte (N j : Nat) (x : UInt8) (hj : j < 8) (hN : N < 256 ^ j) : bits BinOp.or IntKind.u64 (IntKind.u64.wrap ((N : Int) * 256)) (IntKind.u64.wrap (x.toNat : Int)) = ((N * 256 + x.toNat : Nat) : Int) := by
  have hx := x.toNat_lt
  have h1 : (256 : Nat) ^ j ≤ 256 ^ 7 := Nat.pow_le_pow_right (by omega) (by omega)
  have h2 : N < 72057594037927936 := by omega
  rw [IntKind.wrap_u64, IntKind.wrap_u64, Int.emod_eq_of_lt (by omega) (by omega), Int.emod_eq_of_lt (by omega) (by omega), show ((N : Int) * 256) = ((N * 256 : Nat) : Int) by omega,
    u64_or_nat _ _ (by omega) (by omega), nat_join 8 (N * 256) x.toNat (by omega) (by omega)]

/-- What octet.Get answers. -/
def GetPost (w : World) (l : List UInt8) (at_ k : Int) (e : Ending) (w' : World) : Prop := e = .returned (.tuple #[.int .u64 (getN l at_ k), .int .i64 (getE l at_ k)]) ∧ w = w'

theorem get_ok {w : World} {B : Nat} {A : Option Addr} {n c : Nat} {l : List UInt8} (h : Rd w B A n c l) (at_ k : Int) :
    Calls Try.prog 21 #[.slice A n c, .int .i64 at_, .int .i64 k] w (GetPost w l at_ k) := by
  have hlen := h.len
  have htop := h.top
  have hcap := h.cap
  by_cases h1 : k < 1
  · have FIN : Hid (GetPost w l at_ k (.returned (.tuple #[.int .u64 0, .int .i64 1])) w) := by
      refine ⟨?_, rfl⟩
      rw [getN, getE, if_pos (by omega), if_pos (by omega)]
    go_enter Try.func21, Try.ntmps21
    go_wp2
    go_ret2
    exact FIN.out
  by_cases h8 : 8 < k
  · have FIN : Hid (GetPost w l at_ k (.returned (.tuple #[.int .u64 0, .int .i64 1])) w) := by
      refine ⟨?_, rfl⟩
      rw [getN, getE, if_pos (by omega), if_pos (by omega)]
    have hk1 : decide (k < 1) = false := by simp; omega
    go_enter Try.func21, Try.ntmps21
    go_wp2
    go_ret2
    exact FIN.out
  have hk1 : decide (k < 1) = false := by simp; omega
  have hk8 : decide (8 < k) = false := by simp; omega
  by_cases h0 : at_ < 0
  · have FIN : Hid (GetPost w l at_ k (.returned (.tuple #[.int .u64 0, .int .i64 1])) w) := by
      refine ⟨?_, rfl⟩
      rw [getN, getE, if_pos (by omega), if_pos (by omega)]
    go_enter Try.func21, Try.ntmps21
    go_wp2
    go_ret2
    exact FIN.out
  have hat : decide (at_ < 0) = false := by simp; omega
  go_enter Try.func21, Try.ntmps21
  go_wp2_with fail
  refine (from_ok h at_ (by omega)).mono ?_
  rintro e w1 ⟨A1, n1, c1, rfl, hr1, rfl⟩
  have hl1 := hr1.len
  rw [List.length_drop] at hl1
  have htop1 := hr1.top
  have hcap1 := hr1.cap
  obtain ⟨q, rfl⟩ := Int.eq_ofNat_of_zero_le (show 0 ≤ k by omega)
  by_cases hs : n1 < q
  · have FIN : Hid (GetPost w l at_ q (.returned (.tuple #[.int .u64 0, .int .i64 10])) w) := by
      refine ⟨?_, rfl⟩
      rw [getN, getE, if_pos (by omega), if_neg (by omega), if_pos (by omega)]
    go_wp2
    go_ret2
    exact FIN.out
  · obtain ⟨A2, hrun, hr2⟩ := run_upto (P := Try.prog) (t := 22) Try.underlying22 byteInfo hr1 q (by omega)
    obtain ⟨b, off, rfl, hb, hc⟩ := hr2.cells (by omega)
    have FIN : Hid (GetPost w l at_ q (.returned (.tuple #[.int .u64 (num 0 ((l.drop at_.toNat).take q)), .int .i64 0])) w) := by
      refine ⟨?_, rfl⟩
      rw [getN, getE, if_neg (by omega), if_neg (by omega), if_neg (by omega), Int.toNat_natCast]
    generalize hL : (l.drop at_.toNat).take q = L at *
    have hLl := hr2.len
    clear hL h hr1 hr2
    go_wp2_with fail
    go_loop [9, 33] (fun v i => ∃ j : Nat, j ≤ q ∧ i = .int .i64 j ∧ v = .int .u64 (num 0 (L.take j))) (fun _ i => q - (intOf i).toNat)
    case atStart => exact ⟨0, by omega, rfl, rfl⟩
    case round =>
      obtain ⟨j, hj, rfl, rfl⟩ := hrel
      by_cases hlt : j < q
      · have hcell := hc j hlt
        obtain ⟨x, hx⟩ : ∃ x, x = L.getD j 0 := ⟨_, rfl⟩
        rw [← hx] at hcell
        obtain ⟨N, hN⟩ : ∃ N, N = num 0 (L.take j) := ⟨_, rfl⟩
        rw [← hN]
        have hNlt : N < 256 ^ j := by
          have := num_lt (L.take j) 0 0 (by omega)
          rw [Nat.zero_add, List.length_take, Nat.min_eq_left (by omega)] at this
          rw [hN]; exact this
        have hNs : num 0 (L.take (j + 1)) = N * 256 + x.toNat := by
          rw [List.take_succ_eq_append_getElem (by omega), num_snoc, ← hN, hx]
          simp [List.getD, show j < L.length by omega]
        have HX := Lib.hid hx
        have HN := Lib.hid hN
        have HNs := Lib.hid hNs
        clear hx hN hNs hc
        go_wp2
        go_round
        case rel => exact ⟨j + 1, by omega, by go_num, by rw [HNs.out, get_byte N j x (by omega) hNlt]⟩
        case measure => simp [intOf]; omega
      · obtain rfl : j = q := by omega
        have : L.take j = L := List.take_of_length_le (by omega)
        have HT := Lib.hid this
        clear this
        go_wp2
        go_ret2
        have := FIN.out
        rw [← HT.out] at this
        exact this

end Go.Proofs.Ytnffhhmfclcmjaa
