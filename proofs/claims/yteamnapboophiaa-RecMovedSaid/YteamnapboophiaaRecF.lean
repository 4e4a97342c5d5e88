/-
  Contracts of what rec.Get is made of: beside, flag, the text reader, field at three types; and of the reference's beside.
-/
import Derived.RangeFuncBox
import Derived.Test.YteamnapboophiaaRecV
namespace Go.Proofs.Yteamnapboophiaa
open Go.RowKit
set_option linter.unusedVariables false

theorem beside_ok {w : World} (n d : Int) (h : inR n = true) : Calls Try.prog 30 #[.int .i64 n, .int .i64 d] w (Tells w (.int .i64 (besideI n d))) := by
  have hn := inR_true h
  clear h
  by_cases h1 : d < -1099511627776
  · have HE := Lib.hid (show besideI n d = -1 from by rw [besideI, if_pos (.inl h1)])
    have t1 : decide (d < -1099511627776) = true := by simpa using h1
    go_enter Try.func30, Try.ntmps30
    go_wp2
    go_ret
    exact ⟨by rw [HE.out]; rfl, rfl⟩
  have t1 : decide (d < -1099511627776) = false := by simpa using h1
  by_cases h2 : 1099511627776 < d
  · have HE := Lib.hid (show besideI n d = -1 from by rw [besideI, if_pos (.inr h2)])
    have t2 : decide (1099511627776 < d) = true := by simpa using h2
    go_enter Try.func30, Try.ntmps30
    go_wp2
    go_ret
    exact ⟨by rw [HE.out]; rfl, rfl⟩
  have t2 : decide (1099511627776 < d) = false := by simpa using h2
  have HE := Lib.hid (show besideI n d = n + d from by rw [besideI, if_neg (by omega)])
  go_enter Try.func30, Try.ntmps30
  go_wp2
  go_ret
  exact ⟨by rw [HE.out]; rfl, rfl⟩

/-- The reference's: what is out of range is -1. -/
def rbesideI (n d : Int) : Int := if inR (besideI n d) then besideI n d else -1
theorem rbeside_ok {w : World} (n d : Int) (h : inR n = true) : Calls Try.prog 38 #[.int .i64 n, .int .i64 d] w (Tells w (.int .i64 (rbesideI n d))) := by
  have hn := inR_true h
  clear h
  have hm1 : inR (-1) = false := by decide
  by_cases h1 : d < -1099511627776
  · have hb : besideI n d = -1 := by rw [besideI, if_pos (.inl h1)]
    have HE := Lib.hid (show rbesideI n d = -1 from by rw [rbesideI, hb, hm1]; rfl)
    clear hb
    have t1 : decide (d < -1099511627776) = true := by simpa using h1
    go_enter Try.func38, Try.ntmps38
    go_wp2
    go_ret
    exact ⟨by rw [HE.out]; rfl, rfl⟩
  have t1 : decide (d < -1099511627776) = false := by simpa using h1
  by_cases h2 : 1099511627776 < d
  · have hb : besideI n d = -1 := by rw [besideI, if_pos (.inr h2)]
    have HE := Lib.hid (show rbesideI n d = -1 from by rw [rbesideI, hb, hm1]; rfl)
    clear hb
    have t2 : decide (1099511627776 < d) = true := by simpa using h2
    go_enter Try.func38, Try.ntmps38
    go_wp2
    go_ret
    exact ⟨by rw [HE.out]; rfl, rfl⟩
  have t2 : decide (1099511627776 < d) = false := by simpa using h2
  have hE : besideI n d = n + d := by rw [besideI, if_neg (by omega)]
  cases h3 : inR (n + d) with
  | false =>
    have HE := Lib.hid (show rbesideI n d = -1 from by rw [rbesideI, hE, h3]; rfl)
    clear hE
    go_enter Try.func38, Try.ntmps38
    go_wp2_with fail
    refine (rin_is _ _ h3).mono ?_
    rintro e w1 ⟨rfl, rfl⟩
    go_wp2
    go_ret
    exact ⟨by rw [HE.out]; rfl, rfl⟩
  | true =>
    have HE := Lib.hid (show rbesideI n d = n + d from by rw [rbesideI, hE, h3]; rfl)
    clear hE
    go_enter Try.func38, Try.ntmps38
    go_wp2_with fail
    refine (rin_is _ _ h3).mono ?_
    rintro e w1 ⟨rfl, rfl⟩
    go_wp2
    go_ret
    exact ⟨by rw [HE.out]; rfl, rfl⟩

def FlagPost (w : World) (r : Bool × Int × Int) (e : Ending) (w' : World) : Prop := ∃ (b : Bool) (n z : Int), r = (b, n, z) ∧ e = .returned (.tuple #[.bool b, .int .i64 n, .int .i64 z]) ∧ w = w'
theorem flag_ok {w : World} {B : Nat} {A : Option Addr} {n c : Nat} {l : List UInt8} (h : Rd w B A n c l) (at_ : Int) (h0 : 0 ≤ at_) : Calls Try.prog 34 #[.slice A n c, .int .i64 at_] w (FlagPost w (flagR l at_)) := by
  have hlen := h.len
  have htop := h.top
  have hcap := h.cap
  obtain ⟨k, rfl⟩ := Int.eq_ofNat_of_zero_le h0
  by_cases h1 : n ≤ k
  · have HE := Lib.hid (show flagR l k = (false, 0, 10) from by rw [flagR, if_pos (by omega)])
    have t1 : decide (n ≤ k) = true := by simpa using h1
    go_enter Try.func34, Try.ntmps34
    go_wp2
    go_ret3
    exact ⟨_, _, _, HE.out, rfl, rfl⟩
  have t1 : decide (n ≤ k) = false := by simpa using h1
  obtain ⟨b, off, rfl, _, hc⟩ := h.cells (by omega)
  have hcell := hc k (by omega)
  have hx : (l.getD ((k : Int)).toNat 0) = l.getD k 0 := rfl
  by_cases h2 : 1 < (l.getD k 0).toNat
  · have HE := Lib.hid (show flagR l k = (false, 0, 11) from by rw [flagR, if_neg (by omega), hx, if_pos h2])
    have t2 : decide ((1 : Int) < ((l.getD k 0).toNat : Int)) = true := by simp only [decide_eq_true_eq]; omega
    generalize (l.getD k 0).toNat = x at *
    clear hc h hx
    go_enter Try.func34, Try.ntmps34
    go_wp2
    go_ret3
    exact ⟨_, _, _, HE.out, rfl, rfl⟩
  have t2 : decide ((1 : Int) < ((l.getD k 0).toNat : Int)) = false := by simp only [decide_eq_false_iff_not]; omega
  have HE := Lib.hid (show flagR l k = (decide ((l.getD k 0).toNat = 1), (k : Int) + 1, 0) from by rw [flagR, if_neg (by omega), hx, if_neg h2])
  generalize (l.getD k 0).toNat = x at *
  clear hc h hx
  by_cases h3 : x = 1
  · have t3 : ((x : Int) == 1) = true := by simp; omega
    have h3' : decide (x = 1) = true := by simpa using h3
    have HD := Lib.hid h3'
    clear h3 h3'
    go_enter Try.func34, Try.ntmps34
    go_wp2
    go_ret3
    exact ⟨_, _, _, by rw [HE.out, HD.out], rfl, rfl⟩
  · have t3 : ((x : Int) == 1) = false := by simp; omega
    have h3' : decide (x = 1) = false := by simpa using h3
    have HD := Lib.hid h3'
    clear h3 h3'
    go_enter Try.func34, Try.ntmps34
    go_wp2
    go_ret3
    exact ⟨_, _, _, by rw [HE.out, HD.out], rfl, rfl⟩

theorem text_ok {w : World} {B : Nat} {A : Option Addr} {n c : Nat} {l : List UInt8} (h : Rd w B A n c l) (at_ : Int) : Calls Try.prog 28 #[.slice A n c, .int .i64 at_] w (TextPost w (getT l at_ 64)) := by
  have HT := Lib.hid (getText_ok h at_ 64)
  clear h
  go_enter Try.func28, Try.ntmps28
  go_wp2_with fail
  refine HT.out.mono ?_
  rintro e w1 ⟨s, b, c, hr, rfl, rfl⟩
  have HR := Lib.hid hr
  clear hr
  go_wp2
  go_ret3
  exact ⟨s, b, c, HR.out, rfl, rfl⟩

/-- The reader's block stands so; nothing else has turned. -/
structure Reads (w w' : World) (Bx : Nat) (A : Option Addr) (n c : Nat) (at_ e : Int) : Prop where
  grown : w.grownBy w' (some Bx)
  box : w'.heap[Bx]? = some (.cells #[.slice A n c, .int .i64 at_, .int .i64 e] 45 (0, 0))
theorem Reads.cells {w w' : World} {Bx : Nat} {A : Option Addr} {n c : Nat} {at_ e : Int} (h : Reads w w' Bx A n c at_ e) :
    w'.cell? ⟨Bx, 0, none⟩ = some (.slice A n c) ∧ w'.cell? ⟨Bx, 1, none⟩ = some (.int .i64 at_) ∧ w'.cell? ⟨Bx, 2, none⟩ = some (.int .i64 e) ∧ w'.frozen? ⟨Bx, 1, none⟩ = false ∧ w'.frozen? ⟨Bx, 2, none⟩ = false := by
  refine ⟨?_, ?_, ?_, ?_, ?_⟩
  · rw [cell_of_row _ Bx 0 _ _ _ h.box]; rfl
  · rw [cell_of_row _ Bx 1 _ _ _ h.box]; rfl
  · rw [cell_of_row _ Bx 2 _ _ _ h.box]; rfl
  · simp [World.frozen?, h.box]
  · simp [World.frozen?, h.box]
theorem grown_set (W : World) (b j : Nat) (v : Value) : W.grownBy (W.setCell ⟨b, j, none⟩ v) (some b) := by
  refine ⟨rfl, rfl, rfl, by rw [World.size_setCell]; exact Nat.le_refl _, fun k hk hne => Below.heap_setCell W ⟨b, j, none⟩ v k (fun e => hne (by rw [e]))⟩
theorem Reads.put {w : World} {Bx : Nat} {A : Option Addr} {n c : Nat} {at_ e at2 e2 : Int} (h : w.heap[Bx]? = some (.cells #[.slice A n c, .int .i64 at_, .int .i64 e] 45 (0, 0))) :
    Reads w ((w.drew.setCell ⟨Bx, 1, none⟩ (.int .i64 at2)).setCell ⟨Bx, 2, none⟩ (.int .i64 e2)) Bx A n c at2 e2 ∧ Reads w ((w.drew.setCell ⟨Bx, 2, none⟩ (.int .i64 e2)).setCell ⟨Bx, 1, none⟩ (.int .i64 at2)) Bx A n c at2 e2 := by
  have h0 : w.drew.heap[Bx]? = some (.cells #[.slice A n c, .int .i64 at_, .int .i64 e] 45 (0, 0)) := h
  have g0 : w.grownBy w.drew (some Bx) := ⟨rfl, rfl, rfl, Nat.le_refl _, fun _ _ _ => rfl⟩
  constructor
  · refine ⟨(g0.trans (grown_set _ _ _ _)).trans (grown_set _ _ _ _), ?_⟩
    exact heap_setCell_same _ Bx 2 _ _ _ (heap_setCell_same _ Bx 1 _ _ _ h0)
  · refine ⟨(g0.trans (grown_set _ _ _ _)).trans (grown_set _ _ _ _), ?_⟩
    exact heap_setCell_same _ Bx 1 _ _ _ (heap_setCell_same _ Bx 2 _ _ _ h0)
end Go.Proofs.Yteamnapboophiaa
