/-
  The example that each statement of layer 2 begins with, and contracts whose answers are named.
-/
import Derived.Deep.QuietTactic
import Derived.BigQuiet
import Derived.Deep.RegionHeld3
import Derived.Deep.DrawnRows
import Derived.Lib.SlBytesConst
import Derived.Test.YtcnljifbifidbaaCrcR
namespace Go.Proofs.Ytcnljifbifidbaa
open Go.RowKit
set_option linter.unusedVariables false

/-- A call that answers true and leaves what was there as it was. -/
def Yes (w : World) (e : Ending) (w' : World) : Prop := e = .returned (.bool true) ∧ Below w.heap.size w w'

def SumsI (w : World) (V : Int) (e : Ending) (w' : World) : Prop := e = .returned (.int .u32 V) ∧ Below w.heap.size w w'

theorem sum_is {w : World} {B : Nat} {A : Option Addr} {n c : Nat} {l : List UInt8} (h : Rd w B A n c l) (hB : B ≤ w.heap.size) {V : Int} (hV : ((crc l : Nat) : Int) = V) :
    Calls Try.prog 13 #[.slice A n c] w (SumsI w V) := by
  subst hV
  exact sum_ok h hB
theorem seal_is {w : World} {B : Nat} {A : Option Addr} {n c : Nat} {l L : List UInt8} (h : Rd w B A n c l) (hB : B ≤ w.heap.size) (hn : n ≤ 140737488340000) (hL : l ++ be (crc l) 4 = L) :
    Calls Try.prog 17 #[.slice A n c] w (Gives w L) := by
  subst hL
  exact seal_ok h hB hn
theorem rSeal_is {w : World} {B : Nat} {A : Option Addr} {n c : Nat} {l L : List UInt8} (h : Rd w B A n c l) (hB : B ≤ w.heap.size) (hn : n ≤ 140737488340000) (hL : l ++ be (crc l) 4 = L) :
    Calls Try.prog 18 #[.slice A n c] w (Gives w L) := by
  subst hL
  exact rSeal_ok h hB hn
def Opens (w : World) (E : Int) (L : List UInt8) (e : Ending) (w' : World) : Prop :=
  ∃ A n c, e = .returned (.tuple #[.slice A n c, .int .i64 E]) ∧ Own w' w.heap.size A n c L ∧ Below w.heap.size w w'
theorem open_is {w : World} {B : Nat} {A : Option Addr} {n c : Nat} {l L : List UInt8} {E : Int} (h : Rd w B A n c l) (hB : B ≤ w.heap.size) (hn : n ≤ 140737488340000) (hE : openE l = E) (hL : openL l = L) :
    Calls Try.prog 15 #[.slice A n c] w (Opens w E L) := by
  subst hE
  subst hL
  exact open_ok h hB hn
theorem rOpen_is {w : World} {B : Nat} {A : Option Addr} {n c : Nat} {l L : List UInt8} {E : Int} (h : Rd w B A n c l) (hB : B ≤ w.heap.size) (hn : n ≤ 140737488340000) (hE : openE l = E) (hL : openL l = L) :
    Calls Try.prog 16 #[.slice A n c] w (Opens w E L) := by
  subst hE
  subst hL
  exact rOpen_ok h hB hn

theorem open_seal (l : List UInt8) : openE (l ++ be (crc l) 4) = 0 ∧ openL (l ++ be (crc l) 4) = l := by
  have hl : (l ++ be (crc l) 4).length = l.length + 4 := by rw [List.length_append, be_length]
  have h0 : openE (l ++ be (crc l) 4) = 0 := by
    rw [open_iff _ (by omega), hl, Nat.add_sub_cancel, List.drop_left, List.take_left, if_pos rfl]
  refine ⟨h0, ?_⟩
  rw [openL, h0, if_pos rfl, hl, Nat.add_sub_cancel, List.take_left]

theorem Rd.marked {w : World} {t : TypeId} (cs : List Value) (l : List UInt8) (m : Nat × Nat) (h : cs = bcs l) (hl : l.length ≤ 9223372036854775807) : Rd (w.alloc (.cells cs.toArray t m)) (w.alloc (.cells cs.toArray t m)).heap.size (some ⟨w.heap.size, 0, none⟩) l.length l.length l := by
  subst h
  refine ⟨rfl, Nat.le_refl _, hl, fun _ => ⟨w.heap.size, 0, rfl, by rw [World.size_alloc]; omega, fun j hj => ?_⟩⟩
  have hrow : (w.alloc (.cells (bcs l).toArray t m)).heap[w.heap.size]? = some (.cells (bcs l).toArray t m) := by
    show (w.heap.push _)[w.heap.size]? = _
    simp
  rw [Nat.zero_add, cell_of_row _ _ _ _ _ _ hrow]
  simpa using bcs_get l j hj

def nine : List UInt8 := [49, 50, 51, 52, 53, 54, 55, 56, 57]
theorem crc_nine : ((crc nine : Nat) : Int) = 3421780262 := by decide +kernel
theorem crc_none : ((crc [] : Nat) : Int) = 0 := by decide +kernel
theorem crc_a : ((crc [97] : Nat) : Int) = 3904355907 := by decide +kernel
theorem str_a : strOf [97] = { data := #[97] } := rfl

set_option maxRecDepth 100000 in
theorem live_ok (w : World) : Calls Try.prog 12 #[] w (Yes w) := by
  have kc := fun (w : World) (C : Array Value) (n c : Nat) => Lib.run_convert_bytes_const (P := Try.prog) w 22 5 C n c Try.underlying22 Try.underlying5
  have HL := Lib.hid (open_seal [97])
  go_enter Try.func12, Try.ntmps12
  go_wp2_with fail
  refine (seal_is (Rd.marked (t := 5) (bcs [97]) [97] (1, 2) rfl (by decide)) (Nat.le_refl _) (by simp) rfl).mono ?_
  rintro e w1 ⟨A1, n1, c1, rfl, ho1, hb1⟩
  have l1 := ho1.len
  have b1 := bthen (bput (Below.refl _ w) _) hb1
  rw [List.length_append, be_length] at l1
  go_wp2_with fail
  refine (open_is ho1.rd (Nat.le_refl _) (by simp at l1; omega) HL.out.1 HL.out.2).mono ?_
  rintro e w2 ⟨A2, n2, c2, rfl, ho2, hb2⟩
  have b2 := bthen b1 hb2
  go_wp2_with fail
  refine (sum_is (Rd.marked (t := 5) (bcs nine) nine (9, 10) rfl (by decide)) (Nat.le_refl _) crc_nine).mono ?_
  rintro e w3 ⟨rfl, hb3⟩
  have b3 := bthen (bput b2 _) hb3
  go_wp2_with fail
  refine (sum_is (Rd.nil _ _) (Nat.zero_le _) crc_none).mono ?_
  rintro e w4 ⟨rfl, hb4⟩
  have b4 := bthen b3 hb4
  go_wp2_with fail
  refine (sum_is (Rd.marked (t := 5) (bcs [97]) [97] (1, 2) rfl (by decide)) (Nat.le_refl _) crc_a).mono ?_
  rintro e w5 ⟨rfl, hb5⟩
  have b5 := bthen (bput b4 _) hb5
  have o5 := ho2.step (bthen (bput (bthen (bthen (bput (Below.refl _ w2) _) hb3) hb4) _) hb5)
  have k2 := run_str (P := Try.prog) (src := 22) (dst := 9) Try.underlying22 Try.underlying5 Try.underlying9 o5.rd
  rw [str_a] at k2
  go_wp2
  go_ret
  exact ⟨rfl, b5⟩
end Go.Proofs.Ytcnljifbifidbaa
