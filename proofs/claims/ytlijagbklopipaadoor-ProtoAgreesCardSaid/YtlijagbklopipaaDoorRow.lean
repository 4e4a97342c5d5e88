/-
  From a row's readings to what the walks ask: a slice of bytes that came in can be read as a list of bytes; the bounds of a number.
-/
import Derived.Test.YtlijagbklopipaaDoorBase
import Derived.ProofKit
import Derived.OpenShut
import Derived.ShutString
import Derived.ChangeOld
namespace Go.Proofs.YtlijagbklopipaaDoor
open Go.RowKit

set_option linter.unusedVariables false
theorem rd_of_ints {W : World} {x : Addr} {len cap : Nat} {zs : List Int} (hl : len ≤ cap) (hm : cap ≤ maxLen) (hz : zs.length = cap)
    (hcell : ∀ i, i < zs.length → W.cell? (x.add i) = some (.int .u8 (zs.getD i 0))) (hwz : ∀ n ∈ zs, (Lit.int .u8 n).wf = true) :
    Rd W W.heap.size (some x) len cap ((zs.take len).map fun z => UInt8.ofNat z.toNat) := by
  refine ⟨by simp; omega, hl, by simpa [maxLen] using hm, fun hn => ?_⟩
  have h0 := hcell 0 (by omega)
  have hb : (x.add 0).block < W.heap.size := World.block_lt_of_cell? W _ h0
  obtain ⟨b, off, spot⟩ := x
  have hs : spot = none := by simpa [Addr.add] using World.cell?_spot h0
  subst hs
  refine ⟨b, off, rfl, by simpa [Addr.add] using hb, fun j hj => ?_⟩
  have hc := hcell j (by omega)
  rw [add_plain] at hc
  rw [hc]
  have hj' : j < zs.length := by omega
  have hw := bounds_u8 (hwz zs[j] (List.getElem_mem hj'))
  simp [List.getD, hj', hj]
  omega
end Go.Proofs.YtlijagbklopipaaDoor
