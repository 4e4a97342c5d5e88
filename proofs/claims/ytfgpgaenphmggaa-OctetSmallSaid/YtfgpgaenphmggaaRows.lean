/-
  No cell of these rows narrows 'for every input' (looked for: loops, veiled, ifaces, maps, wideKeys, modest, calm, conditions, laid).
  DERIVED. THE GIVEN ROWS OF THIS SEAT. 8 by the template 'for every input the law returns true; each argument reads behind the call as it read before'; 0 by the template 'total and deterministic' (their statements: YtfgpgaenphmggaaTotals.lean).
  GIVEN WITH THE SEED: the statements are not yours to turn. If you find one false, say at which input.
  Laid BY PROGRAM, IN A SANDBOX (cutbox-rows.mjs): the forced cells as the released guide's own fill.sh prints them over the translation 48d6962e199814a6… (all of the seat's roots in one cut). By AI agents, Wed Nov 11 2026. No macro, syntax, notation, axiom, sorry.
-/
import Derived.Test.YtfgpgaenphmggaaChecked
import GoSem.Claim
import GoSem.ClaimJoined
import GoSem.ClaimMapViews
import Derived.JoinedTies
import Derived.KernelRfl
namespace Go.Proofs.Ytfgpgaenphmggaa
/- THE CELL 'sum', in the pinned program and in every row, IS THE sha256 OF THE DUMP (.gsa) THAT YtfgpgaenphmggaaProg.lean LOADS. Nothing in Lean hashes anything: it is a label: what it is worth is what the hold of that sum in a sandbox is worth. -/
noncomputable def Try.pinned : Pinned := { name := "ytfgpgaenphmggaa", sum := "48d6962e199814a630e6d346a0512705656b9c8a4589948f3901467e749ac734", checked := Try.checked }
namespace Rows
def none {H : Type} : Left H := { results := [], args := [] }

/-- 'watermeetlaw01.OctetVars': WHATEVER THE INPUT: true; the input reads as it did. -/
def octetVarsSpec : ChangeSpec := { name := "octetVars", fn := fun _ => fun
  | [d1, d2, d3] => { results := [.lit (.bool true)], args := [d1, d2, d3] }
  | _ => none }
def octetVarsRow : OpenClaim := { program := "ytfgpgaenphmggaa", sum := "48d6962e199814a630e6d346a0512705656b9c8a4589948f3901467e749ac734", func := "watermeet/watermeetlaw01.OctetVars", spec := "octetVars", apart := false }
def OctetVarsSaid : Prop := octetVarsRow.holds Try.pinned (OpenSpec.ofChange octetVarsSpec)

/-- ITS FALSE NEIGHBOUR: 'it returns false'. Refute it at one input. -/
def octetVarsWrong : ChangeSpec := { name := "octetVars", fn := fun _ => fun
  | [d1, d2, d3] => { results := [.lit (.bool false)], args := [d1, d2, d3] }
  | _ => none }
def OctetVarsWrongFalsely : Prop := octetVarsRow.holds Try.pinned (OpenSpec.ofChange octetVarsWrong)

/-- 'watermeetlaw01.OctetSmall': WHATEVER THE INPUT: true; the input reads as it did. -/
def octetSmallSpec : ChangeSpec := { name := "octetSmall", fn := fun _ => fun
  | [d1, d2] => { results := [.lit (.bool true)], args := [d1, d2] }
  | _ => none }
def octetSmallRow : OpenClaim := { program := "ytfgpgaenphmggaa", sum := "48d6962e199814a630e6d346a0512705656b9c8a4589948f3901467e749ac734", func := "watermeet/watermeetlaw01.OctetSmall", spec := "octetSmall", apart := false }
def OctetSmallSaid : Prop := octetSmallRow.holds Try.pinned (OpenSpec.ofChange octetSmallSpec)

/-- ITS FALSE NEIGHBOUR: 'it returns false'. Refute it at one input. -/
def octetSmallWrong : ChangeSpec := { name := "octetSmall", fn := fun _ => fun
  | [d1, d2] => { results := [.lit (.bool false)], args := [d1, d2] }
  | _ => none }
def OctetSmallWrongFalsely : Prop := octetSmallRow.holds Try.pinned (OpenSpec.ofChange octetSmallWrong)

/-- 'watermeetlaw01.OctetOrder': WHATEVER THE INPUT: true; the input reads as it did. -/
def octetOrderSpec : ChangeSpec := { name := "octetOrder", fn := fun _ => fun
  | [d1, d2] => { results := [.lit (.bool true)], args := [d1, d2] }
  | _ => none }
def octetOrderRow : OpenClaim := { program := "ytfgpgaenphmggaa", sum := "48d6962e199814a630e6d346a0512705656b9c8a4589948f3901467e749ac734", func := "watermeet/watermeetlaw01.OctetOrder", spec := "octetOrder", apart := false }
def OctetOrderSaid : Prop := octetOrderRow.holds Try.pinned (OpenSpec.ofChange octetOrderSpec)

/-- ITS FALSE NEIGHBOUR: 'it returns false'. Refute it at one input. -/
def octetOrderWrong : ChangeSpec := { name := "octetOrder", fn := fun _ => fun
  | [d1, d2] => { results := [.lit (.bool false)], args := [d1, d2] }
  | _ => none }
def OctetOrderWrongFalsely : Prop := octetOrderRow.holds Try.pinned (OpenSpec.ofChange octetOrderWrong)

/-- 'watermeetlaw01.OctetTexts': WHATEVER THE INPUT: true; the input reads as it did. -/
def octetTextsSpec : ChangeSpec := { name := "octetTexts", fn := fun _ => fun
  | [d1, d2, d3, d4] => { results := [.lit (.bool true)], args := [d1, d2, d3, d4] }
  | _ => none }
def octetTextsRow : OpenClaim := { program := "ytfgpgaenphmggaa", sum := "48d6962e199814a630e6d346a0512705656b9c8a4589948f3901467e749ac734", func := "watermeet/watermeetlaw01.OctetTexts", spec := "octetTexts", apart := false }
def OctetTextsSaid : Prop := octetTextsRow.holds Try.pinned (OpenSpec.ofChange octetTextsSpec)

/-- ITS FALSE NEIGHBOUR: 'it returns false'. Refute it at one input. -/
def octetTextsWrong : ChangeSpec := { name := "octetTexts", fn := fun _ => fun
  | [d1, d2, d3, d4] => { results := [.lit (.bool false)], args := [d1, d2, d3, d4] }
  | _ => none }
def OctetTextsWrongFalsely : Prop := octetTextsRow.holds Try.pinned (OpenSpec.ofChange octetTextsWrong)

/-- 'watermeetlaw01.OctetOne': WHATEVER THE INPUT: true; the input reads as it did. -/
def octetOneSpec : ChangeSpec := { name := "octetOne", fn := fun _ => fun
  | [d1, d2, d3] => { results := [.lit (.bool true)], args := [d1, d2, d3] }
  | _ => none }
def octetOneRow : OpenClaim := { program := "ytfgpgaenphmggaa", sum := "48d6962e199814a630e6d346a0512705656b9c8a4589948f3901467e749ac734", func := "watermeet/watermeetlaw01.OctetOne", spec := "octetOne", apart := false }
def OctetOneSaid : Prop := octetOneRow.holds Try.pinned (OpenSpec.ofChange octetOneSpec)

/-- ITS FALSE NEIGHBOUR: 'it returns false'. Refute it at one input. -/
def octetOneWrong : ChangeSpec := { name := "octetOne", fn := fun _ => fun
  | [d1, d2, d3] => { results := [.lit (.bool false)], args := [d1, d2, d3] }
  | _ => none }
def OctetOneWrongFalsely : Prop := octetOneRow.holds Try.pinned (OpenSpec.ofChange octetOneWrong)

/-- 'watermeetlaw01.OctetNumbers': WHATEVER THE INPUT: true; the input reads as it did. -/
def octetNumbersSpec : ChangeSpec := { name := "octetNumbers", fn := fun _ => fun
  | [d1, d2, d3, d4] => { results := [.lit (.bool true)], args := [d1, d2, d3, d4] }
  | _ => none }
def octetNumbersRow : OpenClaim := { program := "ytfgpgaenphmggaa", sum := "48d6962e199814a630e6d346a0512705656b9c8a4589948f3901467e749ac734", func := "watermeet/watermeetlaw01.OctetNumbers", spec := "octetNumbers", apart := false }
def OctetNumbersSaid : Prop := octetNumbersRow.holds Try.pinned (OpenSpec.ofChange octetNumbersSpec)

/-- ITS FALSE NEIGHBOUR: 'it returns false'. Refute it at one input. -/
def octetNumbersWrong : ChangeSpec := { name := "octetNumbers", fn := fun _ => fun
  | [d1, d2, d3, d4] => { results := [.lit (.bool false)], args := [d1, d2, d3, d4] }
  | _ => none }
def OctetNumbersWrongFalsely : Prop := octetNumbersRow.holds Try.pinned (OpenSpec.ofChange octetNumbersWrong)

/-- 'watermeetlaw01.OctetBack': WHATEVER THE INPUT: true; the input reads as it did. -/
def octetBackSpec : ChangeSpec := { name := "octetBack", fn := fun _ => fun
  | [d1, d2, d3, d4, d5] => { results := [.lit (.bool true)], args := [d1, d2, d3, d4, d5] }
  | _ => none }
def octetBackRow : OpenClaim := { program := "ytfgpgaenphmggaa", sum := "48d6962e199814a630e6d346a0512705656b9c8a4589948f3901467e749ac734", func := "watermeet/watermeetlaw01.OctetBack", spec := "octetBack", apart := false }
def OctetBackSaid : Prop := octetBackRow.holds Try.pinned (OpenSpec.ofChange octetBackSpec)

/-- ITS FALSE NEIGHBOUR: 'it returns false'. Refute it at one input. -/
def octetBackWrong : ChangeSpec := { name := "octetBack", fn := fun _ => fun
  | [d1, d2, d3, d4, d5] => { results := [.lit (.bool false)], args := [d1, d2, d3, d4, d5] }
  | _ => none }
def OctetBackWrongFalsely : Prop := octetBackRow.holds Try.pinned (OpenSpec.ofChange octetBackWrong)

/-- 'watermeetlaw01.OctetShort': WHATEVER THE INPUT: true; the input reads as it did. -/
def octetShortSpec : ChangeSpec := { name := "octetShort", fn := fun _ => fun
  | [d1, d2, d3, d4, d5] => { results := [.lit (.bool true)], args := [d1, d2, d3, d4, d5] }
  | _ => none }
def octetShortRow : OpenClaim := { program := "ytfgpgaenphmggaa", sum := "48d6962e199814a630e6d346a0512705656b9c8a4589948f3901467e749ac734", func := "watermeet/watermeetlaw01.OctetShort", spec := "octetShort", apart := false }
def OctetShortSaid : Prop := octetShortRow.holds Try.pinned (OpenSpec.ofChange octetShortSpec)

/-- ITS FALSE NEIGHBOUR: 'it returns false'. Refute it at one input. -/
def octetShortWrong : ChangeSpec := { name := "octetShort", fn := fun _ => fun
  | [d1, d2, d3, d4, d5] => { results := [.lit (.bool false)], args := [d1, d2, d3, d4, d5] }
  | _ => none }
def OctetShortWrongFalsely : Prop := octetShortRow.holds Try.pinned (OpenSpec.ofChange octetShortWrong)

/- THE SECOND FORM. 'bulk': how many values and letters a reading holds, each counted each time it is reached (what is shared counts as often as it is met; a slice's spare places count too). A statement '..UptoSaid' is the law's where the arguments, and the package variables that the reading takes, are together of bulk at most 1048576: NARROWER than '..Said'. Prove '..Said' where nothing that the law and all that it calls make is longer than what came in: it says more and counts as full. Else prove '..UptoSaid'. A law counts once. -/
mutual
def uptoBulk {H : Type} : DataW H → Nat
  | .lit (.string bytes) => bytes.length + 1
  | .lit _ => 1
  | .nil => 1
  | .ptr d => uptoBulk d + 1
  | .slice elems spare => uptoBulkAll elems + uptoBulkAll spare + 1
  | .agg parts => uptoBulkAll parts + 1
  | .iface _ d => uptoBulk d + 1
  | .map entries => uptoBulkEntries entries + 1
  | .held _ => 1
def uptoBulkAll {H : Type} : List (DataW H) → Nat
  | [] => 0
  | d :: r => uptoBulk d + uptoBulkAll r
def uptoBulkEntries {H : Type} : List (Lit × DataW H) → Nat
  | [] => 0
  | x :: r => uptoBulkEntry x + uptoBulkEntries r
def uptoBulkEntry {H : Type} : Lit × DataW H → Nat
  | (.string bytes, d) => bytes.length + uptoBulk d + 1
  | (_, d) => uptoBulk d + 1
 end
def uptoSmall : (H : Type) → List (DataW H) → Bool := fun _ ds => decide (uptoBulkAll ds ≤ 1048576)
def OpenSpec.upto (s : _root_.Go.ChangeSpec) : _root_.Go.OpenSpec := { _root_.Go.OpenSpec.ofChange s with cond := some uptoSmall }

/-- 'watermeetlaw01.OctetVars', WHERE WHAT IT READS IS OF BULK AT MOST 1048576: true; the input reads as it did. -/
def octetVarsUptoRow : OpenClaim := { program := "ytfgpgaenphmggaa", sum := "48d6962e199814a630e6d346a0512705656b9c8a4589948f3901467e749ac734", func := "watermeet/watermeetlaw01.OctetVars", spec := "octetVars", apart := false, narrowed := true }
def OctetVarsUptoSaid : Prop := octetVarsUptoRow.holds Try.pinned (OpenSpec.upto octetVarsSpec)

/-- 'watermeetlaw01.OctetSmall', WHERE WHAT IT READS IS OF BULK AT MOST 1048576: true; the input reads as it did. -/
def octetSmallUptoRow : OpenClaim := { program := "ytfgpgaenphmggaa", sum := "48d6962e199814a630e6d346a0512705656b9c8a4589948f3901467e749ac734", func := "watermeet/watermeetlaw01.OctetSmall", spec := "octetSmall", apart := false, narrowed := true }
def OctetSmallUptoSaid : Prop := octetSmallUptoRow.holds Try.pinned (OpenSpec.upto octetSmallSpec)

/-- 'watermeetlaw01.OctetOrder', WHERE WHAT IT READS IS OF BULK AT MOST 1048576: true; the input reads as it did. -/
def octetOrderUptoRow : OpenClaim := { program := "ytfgpgaenphmggaa", sum := "48d6962e199814a630e6d346a0512705656b9c8a4589948f3901467e749ac734", func := "watermeet/watermeetlaw01.OctetOrder", spec := "octetOrder", apart := false, narrowed := true }
def OctetOrderUptoSaid : Prop := octetOrderUptoRow.holds Try.pinned (OpenSpec.upto octetOrderSpec)

/-- 'watermeetlaw01.OctetTexts', WHERE WHAT IT READS IS OF BULK AT MOST 1048576: true; the input reads as it did. -/
def octetTextsUptoRow : OpenClaim := { program := "ytfgpgaenphmggaa", sum := "48d6962e199814a630e6d346a0512705656b9c8a4589948f3901467e749ac734", func := "watermeet/watermeetlaw01.OctetTexts", spec := "octetTexts", apart := false, narrowed := true }
def OctetTextsUptoSaid : Prop := octetTextsUptoRow.holds Try.pinned (OpenSpec.upto octetTextsSpec)

/-- 'watermeetlaw01.OctetOne', WHERE WHAT IT READS IS OF BULK AT MOST 1048576: true; the input reads as it did. -/
def octetOneUptoRow : OpenClaim := { program := "ytfgpgaenphmggaa", sum := "48d6962e199814a630e6d346a0512705656b9c8a4589948f3901467e749ac734", func := "watermeet/watermeetlaw01.OctetOne", spec := "octetOne", apart := false, narrowed := true }
def OctetOneUptoSaid : Prop := octetOneUptoRow.holds Try.pinned (OpenSpec.upto octetOneSpec)

/-- 'watermeetlaw01.OctetNumbers', WHERE WHAT IT READS IS OF BULK AT MOST 1048576: true; the input reads as it did. -/
def octetNumbersUptoRow : OpenClaim := { program := "ytfgpgaenphmggaa", sum := "48d6962e199814a630e6d346a0512705656b9c8a4589948f3901467e749ac734", func := "watermeet/watermeetlaw01.OctetNumbers", spec := "octetNumbers", apart := false, narrowed := true }
def OctetNumbersUptoSaid : Prop := octetNumbersUptoRow.holds Try.pinned (OpenSpec.upto octetNumbersSpec)

/-- 'watermeetlaw01.OctetBack', WHERE WHAT IT READS IS OF BULK AT MOST 1048576: true; the input reads as it did. -/
def octetBackUptoRow : OpenClaim := { program := "ytfgpgaenphmggaa", sum := "48d6962e199814a630e6d346a0512705656b9c8a4589948f3901467e749ac734", func := "watermeet/watermeetlaw01.OctetBack", spec := "octetBack", apart := false, narrowed := true }
def OctetBackUptoSaid : Prop := octetBackUptoRow.holds Try.pinned (OpenSpec.upto octetBackSpec)

/-- 'watermeetlaw01.OctetShort', WHERE WHAT IT READS IS OF BULK AT MOST 1048576: true; the input reads as it did. -/
def octetShortUptoRow : OpenClaim := { program := "ytfgpgaenphmggaa", sum := "48d6962e199814a630e6d346a0512705656b9c8a4589948f3901467e749ac734", func := "watermeet/watermeetlaw01.OctetShort", spec := "octetShort", apart := false, narrowed := true }
def OctetShortUptoSaid : Prop := octetShortUptoRow.holds Try.pinned (OpenSpec.upto octetShortSpec)

end Rows
end Go.Proofs.Ytfgpgaenphmggaa
