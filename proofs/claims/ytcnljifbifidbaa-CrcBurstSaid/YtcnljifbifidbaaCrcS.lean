/-
  Contracts of crc's Seal and Open.
-/
import Derived.Test.YtcnljifbifidbaaCrcX
namespace Go.Proofs.Ytcnljifbifidbaa
open Go.RowKit
set_option linter.unusedVariables false

theorem put4 {w : World} {B : Nat} {A : Option Addr} {n c : Nat} {l : List UInt8} (h : Rd w B A n c l) (hB : B ≤ w.heap.size) (hn : n ≤ 140737488350000) (x : Nat) (hx : x < 18446744073709551616) :
    Calls Try.prog 25 #[.slice A n c, .int .u64 (x : Int), .int .i64 4] w (Gives w (l ++ be x 4)) := put_ok h hB hn x hx 4 (by omega) (by omega)

theorem seal_ok {w : World} {B : Nat} {A : Option Addr} {n c : Nat} {l : List UInt8} (h : Rd w B A n c l) (hB : B ≤ w.heap.size) (hn : n ≤ 140737488340000) :
    Calls Try.prog 17 #[.slice A n c] w (Gives w (l ++ be (crc l) 4)) := by
  have hown : Own w w.heap.size none 0 0 [] := Ob.nil _ _ _
  have hS := crc_lt l
  have HS := Lib.hid hS
  have hS2 : crc l < 4294967296 := by omega
  go_enter Try.func17, Try.ntmps17
  go_wp2_with (at_builtin; refine wpList_app rfl (.const (.slice none 0 0)) (.tmp 3) rfl Try.underlying22 byteInfo rfl hown rfl h ?_ ?_ ?_)
  · omega
  · omega
  · intro A1 c1 w1 ho hb
    go_wp2_with fail
    refine (sum_ok (h.below (hb.mono hB)) (Nat.le_trans hB hb.size)).mono ?_
    rintro e w2 ⟨rfl, hb2⟩
    have b2 := bthen hb hb2
    have ho2 := ho.step hb2
    go_wp2_with fail
    refine (put4 ho2.rd (Nat.le_refl _) (by omega) (crc l) (by omega)).mono ?_
    rintro e w3 ⟨A3, n3, c3, rfl, ho3, hb3⟩
    go_wp2
    go_ret
    exact ⟨_, _, _, rfl, ho3.less b2.size, bthen b2 hb3⟩

/-- What is opened, and the error. -/
def openE (l : List UInt8) : Int := if l.length < 4 then 10 else if num 0 (l.drop (l.length - 4)) = crc (l.take (l.length - 4)) then 0 else 20
def openL (l : List UInt8) : List UInt8 := if openE l = 0 then l.take (l.length - 4) else []

/-- What Open answers. -/
def OpenPost (w : World) (l : List UInt8) (e : Ending) (w' : World) : Prop :=
  ∃ A n c, e = .returned (.tuple #[.slice A n c, .int .i64 (openE l)]) ∧ Own w' w.heap.size A n c (openL l) ∧ Below w.heap.size w w'

theorem OpenPost.mk {w w' : World} {l L : List UInt8} {E : Int} {A : Option Addr} {n c : Nat} (hE : openE l = E) (hL : openL l = L) (ho : Own w' w.heap.size A n c L) (hb : Below w.heap.size w w') :
    OpenPost w l (.returned (.tuple #[.slice A n c, .int .i64 E])) w' := by
  subst hE
  subst hL
  exact ⟨A, n, c, rfl, ho, hb⟩

theorem get4 {w : World} {B : Nat} {A : Option Addr} {n c : Nat} {l : List UInt8} (h : Rd w B A n c l) (h4 : 4 ≤ n) :
    Calls Try.prog 19 #[.slice A n c, .int .i64 ((n : Int) - 4), .int .i64 4] w (Tells w (.tuple #[.int .u64 ((num 0 (l.drop (n - 4)) : Nat) : Int), .int .i64 0])) := by
  have := get_ok h ((n : Int) - 4) 4
  have hl := h.len
  have e1 : getN l ((n : Int) - 4) 4 = ((num 0 (l.drop (n - 4)) : Nat) : Int) := by
    rw [getN, if_neg (by omega), show ((n : Int) - 4).toNat = n - 4 by omega, show ((4 : Int)).toNat = 4 from rfl, List.take_of_length_le (by rw [List.length_drop]; omega)]
  have e2 : getE l ((n : Int) - 4) 4 = 0 := by rw [getE, if_neg (by omega), if_neg (by omega)]
  unfold GetPost at this
  rw [e1, e2] at this
  exact this

set_option maxRecDepth 100000 in
theorem open_ok {w : World} {B : Nat} {A : Option Addr} {n c : Nat} {l : List UInt8} (h : Rd w B A n c l) (hB : B ≤ w.heap.size) (hn : n ≤ 140737488340000) :
    Calls Try.prog 15 #[.slice A n c] w (OpenPost w l) := by
  have hlen := h.len
  have hcap := h.cap
  have htop := h.top
  by_cases h4 : n < 4
  · have t1 : decide ((n : Int) - 4 < 0) = true := by simp; omega
    have hE : openE l = 10 := by rw [openE, if_pos (by omega)]
    have hL : openL l = [] := by rw [openL, hE, if_neg (by omega)]
    have FIN : Hid (OpenPost w l (.returned (.tuple #[.slice none 0 0, .int .i64 10])) w) := by
      refine ⟨none, 0, 0, ?_, ?_, Below.refl _ _⟩
      · rw [hE]
      · rw [hL]; exact Ob.nil _ _ _
    clear hE hL
    go_enter Try.func15, Try.ntmps15
    go_wp2
    go_ret2
    exact FIN.out
  have t1 : decide ((n : Int) - 4 < 0) = false := by simp; omega
  have g4 : (4 : Int) ≤ (n : Int) := by omega
  obtain ⟨A2, hrun, hr2⟩ := run_upto (P := Try.prog) (t := 22) Try.underlying22 byteInfo h (n - 4) (by omega)
  rw [show ((n - 4 : Nat) : Int) = (n : Int) - 4 by omega] at hrun
  have hS := crc_lt (l.take (n - 4))
  have hS2 : crc (l.take (n - 4)) < 4294967296 := by omega
  by_cases heq : num 0 (l.drop (n - 4)) = crc (l.take (n - 4))
  · have hE : openE l = 0 := by rw [openE, if_neg (by omega), hlen, if_pos heq]
    have hL : openL l = l.take (n - 4) := by rw [openL, hE, if_pos rfl, hlen]
    have HE := Lib.hid hE
    have HL := Lib.hid hL
    have HG := Lib.hid (get4 h (by omega))
    rw [heq] at HG
    have hown : Own w w.heap.size none 0 0 [] := Ob.nil _ _ _
    clear hE hL heq
    go_enter Try.func15, Try.ntmps15
    go_wp2_with fail
    refine HG.out.mono ?_
    rintro e w1 ⟨rfl, rfl⟩
    go_wp2_with fail
    refine (sum_ok hr2 hB).mono ?_
    rintro e w1 ⟨rfl, hb1⟩
    have hown : Own w1 w.heap.size none 0 0 [] := Ob.nil _ _ _
    have hr3 := hr2.below (hb1.mono hB)
    go_wp2_with (at_builtin; refine wpList_app rfl (.const (.slice none 0 0)) (.tmp 31) rfl Try.underlying22 byteInfo rfl hown rfl hr3 ?_ ?_ ?_)
    · omega
    · exact hb1.size
    · intro A1 c1 w2 ho hb
      go_wp2
      go_ret2
      exact OpenPost.mk HE.out HL.out ho (hb1.trans hb)
  · have hE : openE l = 20 := by rw [openE, if_neg (by omega), hlen, if_neg heq]
    have hL : openL l = [] := by rw [openL, hE, if_neg (by omega)]
    have HE := Lib.hid hE
    have HL := Lib.hid hL
    have HG := Lib.hid (get4 h (by omega))
    generalize num 0 (l.drop (n - 4)) = V at *
    have tv : ((V : Int) != ((crc (l.take (n - 4)) : Nat) : Int)) = true := by simp only [bne_iff_ne, ne_eq]; omega
    clear hE hL heq
    go_enter Try.func15, Try.ntmps15
    go_wp2_with fail
    refine HG.out.mono ?_
    rintro e w1 ⟨rfl, rfl⟩
    go_wp2_with fail
    refine (sum_ok hr2 hB).mono ?_
    rintro e w1 ⟨rfl, hb1⟩
    generalize crc (l.take (n - 4)) = S at *
    go_wp2
    go_ret2
    exact OpenPost.mk HE.out HL.out (Ob.nil _ _ _) hb1
end Go.Proofs.Ytcnljifbifidbaa
