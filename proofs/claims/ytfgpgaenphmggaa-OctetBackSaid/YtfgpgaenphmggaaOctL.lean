/-
  The example that each statement of layer 1 begins with, and what is few.
-/
import Derived.Test.YtfgpgaenphmggaaOctR
namespace Go.Proofs.Ytfgpgaenphmggaa
open Go.RowKit
set_option linter.unusedVariables false

/-- A call that answers true and leaves what was there as it was. -/
def Yes (w : World) (e : Ending) (w' : World) : Prop := e = .returned (.bool true) ∧ Below w.heap.size w w'

theorem same_yes {w : World} {B : Nat} {A : Option Addr} {n c : Nat} {l : List UInt8} (h : Rd w B A n c l) {B2 : Nat} {A2 : Option Addr} {n2 c2 : Nat} {l2 : List UInt8} (h2 : Rd w B2 A2 n2 c2 l2) (hl : l = l2) :
    Calls Try.prog 17 #[.slice A n c, .slice A2 n2 c2] w (Tells w (.bool true)) := by
  have := same_ok h h2
  rw [beq_iff_eq.2 hl] at this
  exact this

theorem few_ok {w : World} {A : Option Addr} {n c : Nat} : Calls Try.prog 12 #[.slice A n c] w (Tells w (.bool (decide ((n : Int) ≤ 5000)))) := by
  go_enter Try.func12, Try.ntmps12
  go_wp2
  go_ret
  exact ⟨rfl, rfl⟩
theorem few_yes {w : World} {A : Option Addr} {n c : Nat} (h : n ≤ 5000) : Calls Try.prog 12 #[.slice A n c] w (Tells w (.bool true)) := by
  have := few_ok (w := w) (A := A) (n := n) (c := c)
  rw [decide_eq_true (by omega)] at this
  exact this
theorem few_no {w : World} {A : Option Addr} {n c : Nat} (h : ¬ n ≤ 5000) : Calls Try.prog 12 #[.slice A n c] w (Tells w (.bool false)) := by
  have := few_ok (w := w) (A := A) (n := n) (c := c)
  rw [decide_eq_false (by omega)] at this
  exact this

theorem getV_ex : getV [216, 4] 0 = (300, 2, 0) := by decide +kernel
theorem enc_ex : enc (zig 300) = [216, 4] := by
  rw [show zig 300 = 600 from by decide, enc_ge (by omega), enc_lt (by omega)]
  decide
theorem enc_ex1 : enc (zig (-1)) = [1] := by
  rw [show zig (-1) = 1 from by decide, enc_lt (by omega)]
  decide

theorem live_ok (w : World) : Calls Try.prog 11 #[] w (Yes w) := by
  go_enter Try.func11, Try.ntmps11
  go_wp2_with fail
  refine (getVar_ok (Rd.lit w _ _ [216, 4] rfl (by decide)) 0).mono ?_
  rw [getV_ex]
  rintro e w1 ⟨rfl, rfl⟩
  simp only [three]
  go_wp2_with fail
  refine (putVar_ok (Rd.nil _ 0) (Nat.zero_le _) (by omega) 300 (by omega) (by omega)).mono ?_
  rintro e w2 ⟨A1, n1, c1, rfl, ho1, hb1⟩
  go_wp2_with fail
  have hr2 := Rd.lit w2 5 (bcs [216, 4]) [216, 4] rfl (by decide)
  refine (same_yes (ho1.rd.alloc (Nat.le_refl _) _) hr2 (by rw [enc_ex]; rfl)).mono ?_
  rintro e w3 ⟨rfl, rfl⟩
  go_wp2_with fail
  refine (putVar_ok (Rd.nil _ 0) (Nat.zero_le _) (by omega) (-1) (by omega) (by omega)).mono ?_
  rintro e w4 ⟨A2, n2, c2, rfl, ho2, hb2⟩
  go_wp2_with fail
  have hr4 := Rd.lit w4 5 (bcs [1]) [1] rfl (by decide)
  refine (same_yes (ho2.rd.alloc (Nat.le_refl _) _) hr4 (by rw [enc_ex1]; rfl)).mono ?_
  rintro e w5 ⟨rfl, rfl⟩
  go_wp2
  go_ret
  exact ⟨rfl, bput (bthen (bput (bthen (bput (Below.refl _ _) _) hb1) _) hb2) _⟩

theorem getVar_at {w : World} {B : Nat} {A : Option Addr} {n c : Nat} {l : List UInt8} (h : Rd w B A n c l) {at_ v t e : Int} (hr : getV l at_ = (v, t, e)) :
    Calls Try.prog 14 #[.slice A n c, .int .i64 at_] w (Tells w (.tuple #[.int .i64 v, .int .i64 t, .int .i64 e])) := by
  have := getVar_ok h at_
  rw [hr] at this
  exact this
theorem rGetVar_at {w : World} {B : Nat} {A : Option Addr} {n c : Nat} {l : List UInt8} (h : Rd w B A n c l) {at_ v t e : Int} (hr : getV l at_ = (v, t, e)) :
    Calls Try.prog 15 #[.slice A n c, .int .i64 at_] w (Tells w (.tuple #[.int .i64 v, .int .i64 t, .int .i64 e])) := by
  have := rGetVar_ok h at_
  rw [hr] at this
  exact this
theorem TextPost.tells {w : World} {s : List UInt8} {t e : Int} {x : Ending} {w' : World} (h : TextPost w (s, t, e) x w') : Tells w (.tuple #[.string (strOf s), .int .i64 t, .int .i64 e]) x w' := by
  obtain ⟨a, b, c, hr, hx, hw⟩ := h
  simp only [Prod.mk.injEq] at hr
  obtain ⟨rfl, rfl, rfl⟩ := hr
  exact ⟨hx, hw⟩
theorem getText_at {w : World} {B : Nat} {A : Option Addr} {n c : Nat} {l : List UInt8} (h : Rd w B A n c l) {at_ most t e : Int} {s : List UInt8} (hr : getT l at_ most = (s, t, e)) :
    Calls Try.prog 20 #[.slice A n c, .int .i64 at_, .int .i64 most] w (Tells w (.tuple #[.string (strOf s), .int .i64 t, .int .i64 e])) := by
  have := getText_ok h at_ most
  rw [hr] at this
  exact this.mono fun _ _ h => h.tells
theorem rGetText_at {w : World} {B : Nat} {A : Option Addr} {n c : Nat} {l : List UInt8} (h : Rd w B A n c l) {at_ most t e : Int} {s : List UInt8} (hr : getT l at_ most = (s, t, e)) :
    Calls Try.prog 21 #[.slice A n c, .int .i64 at_, .int .i64 most] w (Tells w (.tuple #[.string (strOf s), .int .i64 t, .int .i64 e])) := by
  have := rGetText_ok h at_ most
  rw [hr] at this
  exact this.mono fun _ _ h => h.tells
theorem get_at {w : World} {B : Nat} {A : Option Addr} {n c : Nat} {l : List UInt8} (h : Rd w B A n c l) {at_ k v e : Int} (h1 : getN l at_ k = v) (h2 : getE l at_ k = e) :
    Calls Try.prog 24 #[.slice A n c, .int .i64 at_, .int .i64 k] w (Tells w (.tuple #[.int .u64 v, .int .i64 e])) := by
  have := get_ok h at_ k
  subst h1
  subst h2
  exact this
theorem rGet_at {w : World} {B : Nat} {A : Option Addr} {n c : Nat} {l : List UInt8} (h : Rd w B A n c l) {at_ k v e : Int} (h1 : getN l at_ k = v) (h2 : getE l at_ k = e) :
    Calls Try.prog 25 #[.slice A n c, .int .i64 at_, .int .i64 k] w (Tells w (.tuple #[.int .u64 v, .int .i64 e])) := by
  have := rGet_ok h at_ k
  subst h1
  subst h2
  exact this
/-- Put, whatever the number of bytes. -/
def putB (x k : Int) : List UInt8 := if k < 1 ∨ 8 < k then [] else be x.toNat k.toNat
theorem putB_le (x k : Int) : (putB x k).length ≤ 8 := by
  unfold putB
  split
  · simp
  · rw [be_length]; omega
theorem put_any {w : World} {B : Nat} {A : Option Addr} {n c : Nat} {l : List UInt8} (h : Rd w B A n c l) (hB : B ≤ w.heap.size) (hn : n ≤ 140737488350000) (x k : Int) (hx : 0 ≤ x ∧ x ≤ 18446744073709551615) :
    Calls Try.prog 19 #[.slice A n c, .int .u64 x, .int .i64 k] w (Gives w (l ++ putB x k)) := by
  unfold putB
  split
  · rename_i hk
    rw [List.append_nil]
    exact put_out h hB hn x k hk
  · obtain ⟨a, rfl⟩ := Int.eq_ofNat_of_zero_le hx.1
    obtain ⟨b, rfl⟩ := Int.eq_ofNat_of_zero_le (show 0 ≤ k by omega)
    rw [Int.toNat_natCast, Int.toNat_natCast]
    exact put_ok h hB hn a (by omega) b (by omega) (by omega)
theorem rPut_any {w : World} {B : Nat} {A : Option Addr} {n c : Nat} {l : List UInt8} (h : Rd w B A n c l) (hn : n ≤ 140737488350000) (x k : Int) (hx : 0 ≤ x ∧ x ≤ 18446744073709551615) :
    Calls Try.prog 26 #[.slice A n c, .int .u64 x, .int .i64 k] w (Gives w (l ++ putB x k)) := by
  unfold putB
  split
  · rename_i hk
    rw [List.append_nil]
    exact rPut_out h hn x k hk
  · obtain ⟨a, rfl⟩ := Int.eq_ofNat_of_zero_le hx.1
    obtain ⟨b, rfl⟩ := Int.eq_ofNat_of_zero_le (show 0 ≤ k by omega)
    rw [Int.toNat_natCast, Int.toNat_natCast]
    exact rPut_ok h hn a (by omega) b (by omega) (by omega)
end Go.Proofs.Ytfgpgaenphmggaa
