/-
  Contracts of the reference's Copy and Same.
-/
import Derived.Test.YtlijagbklopipaaDoorPrim
namespace Go.Proofs.YtlijagbklopipaaDoor
open Go.RowKit

theorem copy_ok {w : World} {B : Nat} {A : Option Addr} {n c : Nat} {l : List UInt8} (h : Rd w B A n c l) (hn : n ≤ 140737488355328) :
    Calls Tryd.prog 80 #[.slice A n c] w (Gives w l) := by
  have hown : Own w w.heap.size none 0 0 [] := Ob.nil _ _ _
  go_enter Tryd.func80, Tryd.ntmps80
  go_wp2_with (at_builtin; refine wpList_app rfl (.const (.slice none 0 0)) (.tmp 3) rfl Tryd.underlying24 byteInfo rfl hown rfl h ?_ ?_ ?_)
  · omega
  · omega
  · intro A' c' w' ho hb
    go_wp2
    go_ret
    exact ⟨_, _, _, rfl, ho, hb⟩

end Go.Proofs.YtlijagbklopipaaDoor
