/-
  No cell of these rows narrows 'for every input' (looked for: loops, veiled, ifaces, maps, wideKeys, modest, calm, conditions, laid).
  DERIVED. THE GIVEN ROWS OF THIS SEAT. 9 by the template 'for every input the law returns true; each argument reads behind the call as it read before'; 0 by the template 'total and deterministic' (their statements: YteamnapboophiaaTotals.lean).
  GIVEN WITH THE SEED: the statements are not yours to turn. If you find one false, say at which input.
  Laid BY PROGRAM, IN A SANDBOX (cutbox-rows.mjs): the forced cells as the released guide's own fill.sh prints them over the translation 83f1188e3a4a0f0c… (all of the seat's roots in one cut). By AI agents, Wed Nov 11 2026. No macro, syntax, notation, axiom, sorry.
-/
import Derived.Test.YteamnapboophiaaChecked
import GoSem.Claim
import GoSem.ClaimJoined
import GoSem.ClaimMapViews
import Derived.JoinedTies
import Derived.KernelRfl
namespace Go.Proofs.Yteamnapboophiaa
/- THE CELL 'sum', in the pinned program and in every row, IS THE sha256 OF THE DUMP (.gsa) THAT YteamnapboophiaaProg.lean LOADS. Nothing in Lean hashes anything: it is a label: what it is worth is what the hold of that sum in a sandbox is worth. -/
noncomputable def Try.pinned : Pinned := { name := "yteamnapboophiaa", sum := "83f1188e3a4a0f0ca260312d82042a4f000084aaf7bebab96cf86698591dfc5b", checked := Try.checked }
namespace Rows
def none {H : Type} : Left H := { results := [], args := [] }

/-- 'watermeetlaw03.RecTells': WHATEVER THE INPUT: true; the input reads as it did. -/
def recTellsSpec : ChangeSpec := { name := "recTells", fn := fun _ => fun
  | [d1, d2, d3] => { results := [.lit (.bool true)], args := [d1, d2, d3] }
  | _ => none }
def recTellsRow : OpenClaim := { program := "yteamnapboophiaa", sum := "83f1188e3a4a0f0ca260312d82042a4f000084aaf7bebab96cf86698591dfc5b", func := "watermeet/watermeetlaw03.RecTells", spec := "recTells", unfollowed := true, recurses := true, apart := false }
def RecTellsSaid : Prop := recTellsRow.holds Try.pinned (OpenSpec.ofChange recTellsSpec)

/-- ITS FALSE NEIGHBOUR: 'it returns false'. Refute it at one input. -/
def recTellsWrong : ChangeSpec := { name := "recTells", fn := fun _ => fun
  | [d1, d2, d3] => { results := [.lit (.bool false)], args := [d1, d2, d3] }
  | _ => none }
def RecTellsWrongFalsely : Prop := recTellsRow.holds Try.pinned (OpenSpec.ofChange recTellsWrong)

/-- 'watermeetlaw03.RecReads': WHATEVER THE INPUT: true; the input reads as it did. -/
def recReadsSpec : ChangeSpec := { name := "recReads", fn := fun _ => fun
  | [d1, d2, d3, d4] => { results := [.lit (.bool true)], args := [d1, d2, d3, d4] }
  | _ => none }
def recReadsRow : OpenClaim := { program := "yteamnapboophiaa", sum := "83f1188e3a4a0f0ca260312d82042a4f000084aaf7bebab96cf86698591dfc5b", func := "watermeet/watermeetlaw03.RecReads", spec := "recReads", unfollowed := true, recurses := true, apart := false }
def RecReadsSaid : Prop := recReadsRow.holds Try.pinned (OpenSpec.ofChange recReadsSpec)

/-- ITS FALSE NEIGHBOUR: 'it returns false'. Refute it at one input. -/
def recReadsWrong : ChangeSpec := { name := "recReads", fn := fun _ => fun
  | [d1, d2, d3, d4] => { results := [.lit (.bool false)], args := [d1, d2, d3, d4] }
  | _ => none }
def RecReadsWrongFalsely : Prop := recReadsRow.holds Try.pinned (OpenSpec.ofChange recReadsWrong)

/-- 'watermeetlaw03.RecBack': WHATEVER THE INPUT: true; the input reads as it did. -/
def recBackSpec : ChangeSpec := { name := "recBack", fn := fun _ => fun
  | [d1, d2, d3, d4, d5] => { results := [.lit (.bool true)], args := [d1, d2, d3, d4, d5] }
  | _ => none }
def recBackRow : OpenClaim := { program := "yteamnapboophiaa", sum := "83f1188e3a4a0f0ca260312d82042a4f000084aaf7bebab96cf86698591dfc5b", func := "watermeet/watermeetlaw03.RecBack", spec := "recBack", unfollowed := true, recurses := true, apart := false }
def RecBackSaid : Prop := recBackRow.holds Try.pinned (OpenSpec.ofChange recBackSpec)

/-- ITS FALSE NEIGHBOUR: 'it returns false'. Refute it at one input. -/
def recBackWrong : ChangeSpec := { name := "recBack", fn := fun _ => fun
  | [d1, d2, d3, d4, d5] => { results := [.lit (.bool false)], args := [d1, d2, d3, d4, d5] }
  | _ => none }
def RecBackWrongFalsely : Prop := recBackRow.holds Try.pinned (OpenSpec.ofChange recBackWrong)

/-- 'watermeetlaw03.RecOnly': WHATEVER THE INPUT: true; the input reads as it did. -/
def recOnlySpec : ChangeSpec := { name := "recOnly", fn := fun _ => fun
  | [d1, d2, d3, d4] => { results := [.lit (.bool true)], args := [d1, d2, d3, d4] }
  | _ => none }
def recOnlyRow : OpenClaim := { program := "yteamnapboophiaa", sum := "83f1188e3a4a0f0ca260312d82042a4f000084aaf7bebab96cf86698591dfc5b", func := "watermeet/watermeetlaw03.RecOnly", spec := "recOnly", unfollowed := true, recurses := true, apart := false }
def RecOnlySaid : Prop := recOnlyRow.holds Try.pinned (OpenSpec.ofChange recOnlySpec)

/-- ITS FALSE NEIGHBOUR: 'it returns false'. Refute it at one input. -/
def recOnlyWrong : ChangeSpec := { name := "recOnly", fn := fun _ => fun
  | [d1, d2, d3, d4] => { results := [.lit (.bool false)], args := [d1, d2, d3, d4] }
  | _ => none }
def RecOnlyWrongFalsely : Prop := recOnlyRow.holds Try.pinned (OpenSpec.ofChange recOnlyWrong)

/-- 'watermeetlaw03.RecShort': WHATEVER THE INPUT: true; the input reads as it did. -/
def recShortSpec : ChangeSpec := { name := "recShort", fn := fun _ => fun
  | [d1, d2, d3, d4] => { results := [.lit (.bool true)], args := [d1, d2, d3, d4] }
  | _ => none }
def recShortRow : OpenClaim := { program := "yteamnapboophiaa", sum := "83f1188e3a4a0f0ca260312d82042a4f000084aaf7bebab96cf86698591dfc5b", func := "watermeet/watermeetlaw03.RecShort", spec := "recShort", unfollowed := true, recurses := true, apart := false }
def RecShortSaid : Prop := recShortRow.holds Try.pinned (OpenSpec.ofChange recShortSpec)

/-- ITS FALSE NEIGHBOUR: 'it returns false'. Refute it at one input. -/
def recShortWrong : ChangeSpec := { name := "recShort", fn := fun _ => fun
  | [d1, d2, d3, d4] => { results := [.lit (.bool false)], args := [d1, d2, d3, d4] }
  | _ => none }
def RecShortWrongFalsely : Prop := recShortRow.holds Try.pinned (OpenSpec.ofChange recShortWrong)

/-- 'watermeetlaw03.RecMoved': WHATEVER THE INPUT: true; the input reads as it did. -/
def recMovedSpec : ChangeSpec := { name := "recMoved", fn := fun _ => fun
  | [d1, d2, d3, d4, d5] => { results := [.lit (.bool true)], args := [d1, d2, d3, d4, d5] }
  | _ => none }
def recMovedRow : OpenClaim := { program := "yteamnapboophiaa", sum := "83f1188e3a4a0f0ca260312d82042a4f000084aaf7bebab96cf86698591dfc5b", func := "watermeet/watermeetlaw03.RecMoved", spec := "recMoved", unfollowed := true, recurses := true, apart := false }
def RecMovedSaid : Prop := recMovedRow.holds Try.pinned (OpenSpec.ofChange recMovedSpec)

/-- ITS FALSE NEIGHBOUR: 'it returns false'. Refute it at one input. -/
def recMovedWrong : ChangeSpec := { name := "recMoved", fn := fun _ => fun
  | [d1, d2, d3, d4, d5] => { results := [.lit (.bool false)], args := [d1, d2, d3, d4, d5] }
  | _ => none }
def RecMovedWrongFalsely : Prop := recMovedRow.holds Try.pinned (OpenSpec.ofChange recMovedWrong)

/-- 'watermeetlaw03.RecRow': WHATEVER THE INPUT: true; the input reads as it did. -/
def recRowSpec : ChangeSpec := { name := "recRow", fn := fun _ => fun
  | [d1, d2, d3, d4] => { results := [.lit (.bool true)], args := [d1, d2, d3, d4] }
  | _ => none }
def recRowRow : OpenClaim := { program := "yteamnapboophiaa", sum := "83f1188e3a4a0f0ca260312d82042a4f000084aaf7bebab96cf86698591dfc5b", func := "watermeet/watermeetlaw03.RecRow", spec := "recRow", unfollowed := true, recurses := true, apart := false }
def RecRowSaid : Prop := recRowRow.holds Try.pinned (OpenSpec.ofChange recRowSpec)

/-- ITS FALSE NEIGHBOUR: 'it returns false'. Refute it at one input. -/
def recRowWrong : ChangeSpec := { name := "recRow", fn := fun _ => fun
  | [d1, d2, d3, d4] => { results := [.lit (.bool false)], args := [d1, d2, d3, d4] }
  | _ => none }
def RecRowWrongFalsely : Prop := recRowRow.holds Try.pinned (OpenSpec.ofChange recRowWrong)

/-- 'watermeetlaw03.RecSize': WHATEVER THE INPUT: true; the input reads as it did. -/
def recSizeSpec : ChangeSpec := { name := "recSize", fn := fun _ => fun
  | [d1, d2, d3] => { results := [.lit (.bool true)], args := [d1, d2, d3] }
  | _ => none }
def recSizeRow : OpenClaim := { program := "yteamnapboophiaa", sum := "83f1188e3a4a0f0ca260312d82042a4f000084aaf7bebab96cf86698591dfc5b", func := "watermeet/watermeetlaw03.RecSize", spec := "recSize", unfollowed := true, recurses := true, apart := false }
def RecSizeSaid : Prop := recSizeRow.holds Try.pinned (OpenSpec.ofChange recSizeSpec)

/-- ITS FALSE NEIGHBOUR: 'it returns false'. Refute it at one input. -/
def recSizeWrong : ChangeSpec := { name := "recSize", fn := fun _ => fun
  | [d1, d2, d3] => { results := [.lit (.bool false)], args := [d1, d2, d3] }
  | _ => none }
def RecSizeWrongFalsely : Prop := recSizeRow.holds Try.pinned (OpenSpec.ofChange recSizeWrong)

/-- 'watermeetlaw03.RecDead': WHATEVER THE INPUT: true; the input reads as it did. -/
def recDeadSpec : ChangeSpec := { name := "recDead", fn := fun _ => fun
  | [d] => { results := [.lit (.bool true)], args := [d] }
  | _ => none }
def recDeadRow : OpenClaim := { program := "yteamnapboophiaa", sum := "83f1188e3a4a0f0ca260312d82042a4f000084aaf7bebab96cf86698591dfc5b", func := "watermeet/watermeetlaw03.RecDead", spec := "recDead", unfollowed := true, recurses := true, apart := false }
def RecDeadSaid : Prop := recDeadRow.holds Try.pinned (OpenSpec.ofChange recDeadSpec)

/-- ITS FALSE NEIGHBOUR: 'it returns false'. Refute it at one input. -/
def recDeadWrong : ChangeSpec := { name := "recDead", fn := fun _ => fun
  | [d] => { results := [.lit (.bool false)], args := [d] }
  | _ => none }
def RecDeadWrongFalsely : Prop := recDeadRow.holds Try.pinned (OpenSpec.ofChange recDeadWrong)

/- THE SECOND FORM. 'bulk': how many values and letters a reading holds, each counted each time it is reached (what is shared counts as often as it is met; a slice's spare places count too). A statement '..UptoSaid' is the law's where the arguments, and the package variables that the reading takes, are together of bulk at most 1048576: NARROWER than '..Said'. Prove '..Said' where nothing that the law and all that it calls make is longer than what came in: it says more and counts as full. Else prove '..UptoSaid'. A law counts once. -/
mutual
def uptoBulk {H : Type} : DataW H → Nat
  | .lit (.string bytes) => bytes.length + 1
  | .lit _ => 1
  | .nil => 1
  | .ptr d => uptoBulk d + 1
  | .slice elems spare => uptoBulkAll elems + uptoBulkAll spare + 1
  | .agg parts => uptoBulkAll parts + 1
  | .iface _ d => uptoBulk d + 1
  | .map entries => uptoBulkEntries entries + 1
  | .held _ => 1
def uptoBulkAll {H : Type} : List (DataW H) → Nat
  | [] => 0
  | d :: r => uptoBulk d + uptoBulkAll r
def uptoBulkEntries {H : Type} : List (Lit × DataW H) → Nat
  | [] => 0
  | x :: r => uptoBulkEntry x + uptoBulkEntries r
def uptoBulkEntry {H : Type} : Lit × DataW H → Nat
  | (.string bytes, d) => bytes.length + uptoBulk d + 1
  | (_, d) => uptoBulk d + 1
 end
def uptoSmall : (H : Type) → List (DataW H) → Bool := fun _ ds => decide (uptoBulkAll ds ≤ 1048576)
def OpenSpec.upto (s : _root_.Go.ChangeSpec) : _root_.Go.OpenSpec := { _root_.Go.OpenSpec.ofChange s with cond := some uptoSmall }

/-- 'watermeetlaw03.RecTells', WHERE WHAT IT READS IS OF BULK AT MOST 1048576: true; the input reads as it did. -/
def recTellsUptoRow : OpenClaim := { program := "yteamnapboophiaa", sum := "83f1188e3a4a0f0ca260312d82042a4f000084aaf7bebab96cf86698591dfc5b", func := "watermeet/watermeetlaw03.RecTells", spec := "recTells", unfollowed := true, recurses := true, apart := false, narrowed := true }
def RecTellsUptoSaid : Prop := recTellsUptoRow.holds Try.pinned (OpenSpec.upto recTellsSpec)

/-- 'watermeetlaw03.RecReads', WHERE WHAT IT READS IS OF BULK AT MOST 1048576: true; the input reads as it did. -/
def recReadsUptoRow : OpenClaim := { program := "yteamnapboophiaa", sum := "83f1188e3a4a0f0ca260312d82042a4f000084aaf7bebab96cf86698591dfc5b", func := "watermeet/watermeetlaw03.RecReads", spec := "recReads", unfollowed := true, recurses := true, apart := false, narrowed := true }
def RecReadsUptoSaid : Prop := recReadsUptoRow.holds Try.pinned (OpenSpec.upto recReadsSpec)

/-- 'watermeetlaw03.RecBack', WHERE WHAT IT READS IS OF BULK AT MOST 1048576: true; the input reads as it did. -/
def recBackUptoRow : OpenClaim := { program := "yteamnapboophiaa", sum := "83f1188e3a4a0f0ca260312d82042a4f000084aaf7bebab96cf86698591dfc5b", func := "watermeet/watermeetlaw03.RecBack", spec := "recBack", unfollowed := true, recurses := true, apart := false, narrowed := true }
def RecBackUptoSaid : Prop := recBackUptoRow.holds Try.pinned (OpenSpec.upto recBackSpec)

/-- 'watermeetlaw03.RecOnly', WHERE WHAT IT READS IS OF BULK AT MOST 1048576: true; the input reads as it did. -/
def recOnlyUptoRow : OpenClaim := { program := "yteamnapboophiaa", sum := "83f1188e3a4a0f0ca260312d82042a4f000084aaf7bebab96cf86698591dfc5b", func := "watermeet/watermeetlaw03.RecOnly", spec := "recOnly", unfollowed := true, recurses := true, apart := false, narrowed := true }
def RecOnlyUptoSaid : Prop := recOnlyUptoRow.holds Try.pinned (OpenSpec.upto recOnlySpec)

/-- 'watermeetlaw03.RecShort', WHERE WHAT IT READS IS OF BULK AT MOST 1048576: true; the input reads as it did. -/
def recShortUptoRow : OpenClaim := { program := "yteamnapboophiaa", sum := "83f1188e3a4a0f0ca260312d82042a4f000084aaf7bebab96cf86698591dfc5b", func := "watermeet/watermeetlaw03.RecShort", spec := "recShort", unfollowed := true, recurses := true, apart := false, narrowed := true }
def RecShortUptoSaid : Prop := recShortUptoRow.holds Try.pinned (OpenSpec.upto recShortSpec)

/-- 'watermeetlaw03.RecMoved', WHERE WHAT IT READS IS OF BULK AT MOST 1048576: true; the input reads as it did. -/
def recMovedUptoRow : OpenClaim := { program := "yteamnapboophiaa", sum := "83f1188e3a4a0f0ca260312d82042a4f000084aaf7bebab96cf86698591dfc5b", func := "watermeet/watermeetlaw03.RecMoved", spec := "recMoved", unfollowed := true, recurses := true, apart := false, narrowed := true }
def RecMovedUptoSaid : Prop := recMovedUptoRow.holds Try.pinned (OpenSpec.upto recMovedSpec)

/-- 'watermeetlaw03.RecRow', WHERE WHAT IT READS IS OF BULK AT MOST 1048576: true; the input reads as it did. -/
def recRowUptoRow : OpenClaim := { program := "yteamnapboophiaa", sum := "83f1188e3a4a0f0ca260312d82042a4f000084aaf7bebab96cf86698591dfc5b", func := "watermeet/watermeetlaw03.RecRow", spec := "recRow", unfollowed := true, recurses := true, apart := false, narrowed := true }
def RecRowUptoSaid : Prop := recRowUptoRow.holds Try.pinned (OpenSpec.upto recRowSpec)

/-- 'watermeetlaw03.RecSize', WHERE WHAT IT READS IS OF BULK AT MOST 1048576: true; the input reads as it did. -/
def recSizeUptoRow : OpenClaim := { program := "yteamnapboophiaa", sum := "83f1188e3a4a0f0ca260312d82042a4f000084aaf7bebab96cf86698591dfc5b", func := "watermeet/watermeetlaw03.RecSize", spec := "recSize", unfollowed := true, recurses := true, apart := false, narrowed := true }
def RecSizeUptoSaid : Prop := recSizeUptoRow.holds Try.pinned (OpenSpec.upto recSizeSpec)

/-- 'watermeetlaw03.RecDead', WHERE WHAT IT READS IS OF BULK AT MOST 1048576: true; the input reads as it did. -/
def recDeadUptoRow : OpenClaim := { program := "yteamnapboophiaa", sum := "83f1188e3a4a0f0ca260312d82042a4f000084aaf7bebab96cf86698591dfc5b", func := "watermeet/watermeetlaw03.RecDead", spec := "recDead", unfollowed := true, recurses := true, apart := false, narrowed := true }
def RecDeadUptoSaid : Prop := recDeadUptoRow.holds Try.pinned (OpenSpec.upto recDeadSpec)

end Rows
end Go.Proofs.Yteamnapboophiaa
