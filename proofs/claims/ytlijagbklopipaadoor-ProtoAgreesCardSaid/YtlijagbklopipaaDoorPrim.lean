/-
  Contracts of the small functions: slices.Clone at bytes, octet.from.
-/
import Derived.Test.YtlijagbklopipaaDoorProg
import Derived.Test.YtlijagbklopipaaDoorBase
namespace Go.Proofs.YtlijagbklopipaaDoor
open Go.RowKit

theorem byteInfo : ByteInfo Tryd.prog 5 := by unfold ByteInfo; kernel_rfl

abbrev Own (w : World) (B : Nat) (A : Option Addr) (n c : Nat) (l : List UInt8) : Prop := Ob 5 w B A n c l

/-- What a call that makes bytes answers. -/
def Gives (w : World) (l : List UInt8) (e : Ending) (w' : World) : Prop :=
  ∃ A n c, e = .returned (.slice A n c) ∧ Own w' w.heap.size A n c l ∧ Below w.heap.size w w'

theorem clone_ok {w : World} {B : Nat} {A : Option Addr} {n c : Nat} {l : List UInt8} (h : Rd w B A n c l) (hB : B ≤ w.heap.size) (hn : n ≤ 140737488355328) :
    Calls Tryd.prog 83 #[.slice A n c] w (Gives w l) := by
  have heq := fun (w : World) (A : Option Addr) (n c : Nat) => Lib.run_eql_slice_nil (P := Tryd.prog) w 24 5 A n c 0 0 Tryd.underlying24
  rcases A with _ | a
  · have hl : l = [] := by
      rcases h.part with ⟨_, hl⟩ | ⟨_, _, _, h, _⟩
      · exact hl
      · cases h
    subst hl
    go_enter Tryd.func83, Tryd.ntmps83
    go_wp2
    go_ret
    exact ⟨none, 0, 0, rfl, Ob.nil _ _ _, Below.refl _ _⟩
  · have hown : Own (w.alloc (.cells #[] 5)) w.heap.size (some ⟨w.heap.size, 0, none⟩) 0 0 [] :=
      ⟨rfl, World.ownsRow_made w #[] 0 (Nat.le_refl _) (by simp [maxLen]) (by simp)⟩
    have hr := h.alloc hB (.cells #[] 5)
    have hs : (w.alloc (.cells #[] 5)).heap.size = w.heap.size + 1 := by simp
    go_enter Tryd.func83, Tryd.ntmps83
    go_wp2_with (at_builtin; refine wpList_app rfl (.tmp 5) (.tmp 6) rfl Tryd.underlying24 byteInfo rfl hown rfl hr ?_ ?_ ?_)
    · omega
    · omega
    · intro A' c' w' ho hb
      go_wp2
      go_ret
      exact ⟨_, _, _, rfl, ho, ((Below.refl _ _).alloc (Nat.le_refl _) _).trans hb⟩

theorem strOf_toList (l : List UInt8) : (strOf l).toList = l := by rw [ByteArray.toList_eq, strOf_data]

/-- A call that answers v and leaves the world as it was. -/
def Tells (w : World) (v : Value) (e : Ending) (w' : World) : Prop := e = .returned v ∧ w = w'

/-- What octet.from answers: the bytes from a place on. -/
def FromPost (w : World) (B : Nat) (l : List UInt8) (at_ : Int) (e : Ending) (w' : World) : Prop :=
  ∃ A' n' c', e = .returned (.slice A' n' c') ∧ Rd w B A' n' c' (l.drop at_.toNat) ∧ w = w'

theorem from_ok {w : World} {B : Nat} {A : Option Addr} {n c : Nat} {l : List UInt8} (h : Rd w B A n c l) (at_ : Int) (h0 : 0 ≤ at_) :
    Calls Tryd.prog 89 #[.slice A n c, .int .i64 at_] w (FromPost w B l at_) := by
  have hc := h.cap
  have ht := h.top
  have hlen := h.len
  obtain ⟨k, rfl⟩ := Int.eq_ofNat_of_zero_le h0
  by_cases hle : k ≤ n
  · have hmin : (k : Int) ≤ n := by omega
    obtain ⟨A', hrun, hr⟩ := run_from (P := Tryd.prog) (t := 24) Tryd.underlying24 byteInfo h k hle
    have FIN : Hid (FromPost w B l (k : Int) (.returned (.slice A' (n - k) (c - k))) w) := ⟨_, _, _, rfl, hr, rfl⟩
    clear h
    go_enter Tryd.func89, Tryd.ntmps89
    go_wp2
    go_ret
    exact FIN.out
  · have hmin : (n : Int) < k := by omega
    obtain ⟨A', hrun, hr⟩ := run_from (P := Tryd.prog) (t := 24) Tryd.underlying24 byteInfo h n (Nat.le_refl _)
    have FIN : Hid (FromPost w B l (k : Int) (.returned (.slice A' 0 (c - n))) w) := by
      have : l.drop n = l.drop k := by rw [List.drop_eq_nil_of_le (by omega), List.drop_eq_nil_of_le (by omega)]
      rw [this, Nat.sub_self] at hr
      exact ⟨_, _, _, rfl, hr, rfl⟩
    clear h
    go_enter Tryd.func89, Tryd.ntmps89
    go_wp2
    go_ret
    exact FIN.out
end Go.Proofs.YtlijagbklopipaaDoor
