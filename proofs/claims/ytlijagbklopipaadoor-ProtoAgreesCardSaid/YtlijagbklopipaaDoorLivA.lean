/-
  The chapter's examples, in plain Lean.
-/
import Derived.Test.YtlijagbklopipaaDoorProS
import Derived.Test.YtlijagbklopipaaDoorProZ
import Derived.Test.YtlijagbklopipaaDoorProY
import Derived.Test.YtlijagbklopipaaDoorSpnD
namespace Go.Proofs.YtlijagbklopipaaDoor
open Go.RowKit
set_option linter.unusedVariables false

def exQ : RQ := ⟨5, 0, 5, [], [7, 1, 1], [[110]], []⟩
def exS : RS := ⟨12, 1, 5, 0, 3, [-1], [], []⟩
theorem exQ_ok : chkQ exQ = 0 := by decide +kernel
theorem exS_ok : chkS exS = 0 := by decide +kernel
theorem exQ_bytes : encQ exQ = [5, 0, 10, 14, 2, 2, 2, 110] := by
  simp only [encQ, exQ, bodyQ, encI, List.map_cons, List.map_nil, putT]
  have z1 : enc (zig 5) = [10] := by rw [show zig 5 = 10 by decide, enc_lt (by omega)]; rfl
  have z2 : enc (zig 7) = [14] := by rw [show zig 7 = 14 by decide, enc_lt (by omega)]; rfl
  have z3 : enc (zig 1) = [2] := by rw [show zig 1 = 2 by decide, enc_lt (by omega)]; rfl
  simp [z1, z2, z3, byteOf]
theorem ex_kind : decQ [13, 0] = (zeroQ, 60) := by
  rw [decQ_known (by simp) (by decide +kernel)]
  rfl
theorem ex_chk : chkQ ⟨1, 0, 0, [], [], [], []⟩ = 1 := by decide +kernel
theorem ex_agree1 : agreeL [⟨1, 0, 2⟩, ⟨3, 0, 0⟩] [⟨1, 1, 5⟩] = ([⟨1, 1, 2⟩], 0) := by
  unfold agreeL
  rw [if_neg (by decide +kernel), mg_eq (a := ⟨1, 0, 2⟩) (b := ⟨1, 1, 5⟩) rfl (by decide), mg_nil2]
  rfl
theorem ex_agree2 : agreeL [⟨1, 0, 2⟩] [⟨1, 3, 5⟩] = ([], 61) := by
  unfold agreeL
  rw [if_neg (by decide +kernel), mg_bad (a := ⟨1, 0, 2⟩) (b := ⟨1, 3, 5⟩) rfl (by decide)]
end Go.Proofs.YtlijagbklopipaaDoor
