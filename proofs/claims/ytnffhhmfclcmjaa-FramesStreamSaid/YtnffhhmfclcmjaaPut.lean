/-
  Contracts of octet's Put: what the Go text computes is what the plain functions say.
-/
import Derived.Test.YtnffhhmfclcmjaaPrim
import Derived.Test.YtnffhhmfclcmjaaOctN
namespace Go.Proofs.Ytnffhhmfclcmjaa
open Go.RowKit

set_option linter.unusedVariables false
theorem be_step (x r : Nat) (h : r ≠ 0) : be x r = UInt8.ofNat (x / 256 ^ (r - 1)) :: be x (r - 1) := by
  obtain ⟨q, rfl⟩ : ∃ q, r = q + 1 := ⟨r - 1, by omega⟩
  rfl
theorem be_byte (x r : Nat) (h : r ≠ 0) : ((x : Int) / 2 ^ (8 * r - 8) % 256) = ((UInt8.ofNat (x / 256 ^ (r - 1))).toNat : Int) := by
  have e : (2 : Nat) ^ (8 * r - 8) = 256 ^ (r - 1) := by
    rw [show 8 * r - 8 = 8 * (r - 1) by omega, Nat.pow_mul]
  have e' : ((2 : Int) ^ (8 * r - 8)) = ((2 ^ (8 * r - 8) : Nat) : Int) := by simp
  rw [e', e, UInt8.toNat_ofNat']
  omega

theorem put_ok {w : World} {B : Nat} {A : Option Addr} {n c : Nat} {l : List UInt8} (h : Rd w B A n c l) (hB : B ≤ w.heap.size) (hn : n ≤ 140737488350000) (x : Nat) (hx : x < 18446744073709551616) (k : Nat) (h1 : 1 ≤ k) (h8 : k ≤ 8) :
    Calls Try.prog 22 #[.slice A n c, .int .u64 (x : Int), .int .i64 (k : Int)] w (Gives w (l ++ be x k)) := by
  have hlen := h.len
  go_enter Try.func22, Try.ntmps22
  go_wp2_with fail
  refine (clone_ok h hB (by omega)).mono ?_
  rintro e w1 ⟨A1, n1, c1, rfl, ho, hb⟩
  have hn1 := ho.len
  go_wp2_with fail
  go_loopw [7, 8] (fun v i wr => ∃ (r : Nat) (A2 : Option Addr) (n2 c2 : Nat) (out : List UInt8), r ≤ k ∧ i = .int .i64 (8 * (r : Int) - 8) ∧ v = .slice A2 n2 c2 ∧ Own wr w.heap.size A2 n2 c2 out ∧ Below w.heap.size w wr ∧ out ++ be x r = l ++ be x k)
    (fun _ i _ => (intOf i + 8).toNat)
  case atStart => exact ⟨k, A1, n1, c1, l, Nat.le_refl _, by congr 1; omega, rfl, ho, hb, rfl⟩
  case round =>
    obtain ⟨r, A2, n2, c2, out, hr, rfl, rfl, ho2, hb2, heq⟩ := hrel
    have hn2 : n2 ≤ n + 8 := by
      have h3 := congrArg List.length heq
      have h4 := ho2.len
      simp only [List.length_append, be_length] at h3
      omega
    have HE := Lib.hid heq
    clear heq
    by_cases hr0 : r = 0
    · subst hr0
      go_wp2
      go_ret
      have := HE.out
      simp only [be, List.append_nil] at this
      subst this
      exact ⟨_, _, _, rfl, ho2, hb2⟩
    · have HY := Lib.hid (be_byte x r hr0)
      go_wp2_with (at_builtin; refine wpList_app1 rfl (.tmp 25) (.tmp 30) rfl Try.underlying22 byteInfo rfl ho2 rfl (UInt8.ofNat (x / 256 ^ (r - 1))) HY.out ?_ ?_ ?_)
      · omega
      · exact hb2.size
      · intro A3 c3 w3 ho3 hb3
        go_wp2
        go_roundw
        case rel => exact ⟨r - 1, A3, _, c3, _, by omega, by congr 1; omega, rfl, ho3, hb2.trans hb3, by rw [← HE.out, be_step x r hr0]; simp⟩
        case measure => simp [intOf]; omega

theorem put_out {w : World} {B : Nat} {A : Option Addr} {n c : Nat} {l : List UInt8} (h : Rd w B A n c l) (hB : B ≤ w.heap.size) (hn : n ≤ 140737488350000) (x k : Int) (hk : k < 1 ∨ 8 < k) :
    Calls Try.prog 22 #[.slice A n c, .int .u64 x, .int .i64 k] w (Gives w l) := by
  rcases hk with hk | hk
  · go_enter Try.func22, Try.ntmps22
    go_wp2_with fail
    refine (clone_ok h hB (by omega)).mono ?_
    rintro e w1 ⟨A1, n1, c1, rfl, ho, hb⟩
    go_wp2
    go_ret
    exact ⟨_, _, _, rfl, ho, hb⟩
  · have hk1 : decide (k < 1) = false := by simp; omega
    go_enter Try.func22, Try.ntmps22
    go_wp2_with fail
    refine (clone_ok h hB (by omega)).mono ?_
    rintro e w1 ⟨A1, n1, c1, rfl, ho, hb⟩
    go_wp2
    go_ret
    exact ⟨_, _, _, rfl, ho, hb⟩

end Go.Proofs.Ytnffhhmfclcmjaa
