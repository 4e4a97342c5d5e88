/-
  The statement of ProtoVersions: the Go function answers true for every input, and each argument reads afterwards as it read before. Conditions: none.
-/
import Derived.Test.YtlijagbklopipaaDoorCards
import Derived.Test.YtlijagbklopipaaDoorTie
import Derived.SevenTiedAt
import Derived.Test.YtlijagbklopipaaDoorRowS
import Derived.Test.YtlijagbklopipaaDoorRowQ
import Derived.Test.YtlijagbklopipaaDoorProtoVersions
namespace Go.Proofs.YtlijagbklopipaaDoor.protoVersions
open Go.ChangeShapes Go.WideShapes Go.ChangeAt Go.RowKit
open Go.ChangeMaps (open_string shut_string)
set_option linter.unusedVariables false

theorem own : ownKnob Tryd.prog.godebug = none := by kernel_rfl
theorem laidOut : laidOutB Tryd.prog = true := by kernel_rfl

set_option maxRecDepth 100000 in
theorem lifted (os : Os) (started : os.Started) (H : Type) (enc : TypeId × Value → H) :
    ReturnsInHanded {} Tryd.checked os 9 .any (fun w args => (Rows.protoVersionsSpec.pre enc Tryd.prog Tryd.f9 Rows.protoVersionsRow.domain false w args ∧ laidMetH Tryd.prog laidL w) ∧ sizedMet enc Tryd.prog Tryd.f9 (OpenSpec.ofChange Rows.protoVersionsSpec) false w args) (Rows.protoVersionsSpec.post enc Tryd.prog Tryd.f9 false true false false) := by
  refine returnsInHanded_of_change_and (C := Tryd.checked) (X := fun w _ => laidMetH Tryd.prog laidL w) (fun _ _ _ hh h => h.of_heap hh) own started (by kernel_rfl) Tryd.func9
    (ChangeSpec.witness_shaped (enc := enc) (C := Tryd.checked) (os := os) (X := fun w _ => laidMetH Tryd.prog laidL w) false (World.doorLaid Tryd.prog 26 os) #[.agg #[.int .i64 0, .int .i64 0, .int .i64 0, .string ByteArray.empty, .slice none 0 0, .slice none 0 0, .slice none 0 0]] 8 rfl (World.shaped_of_RefB (by kernel_rfl) (by kernel_rfl)) (by kernel_rfl) (by kernel_rfl) (by kernel_rfl) (door_met os _)) ?_
  intro W base args ds gs before hval0 hW hcnd hreach hL _
  have hshp := shp_of_laidH hL
  have hval : ∀ (j : Nat) t v, Tryd.f9.params[j]? = some t → args[j]? = some v → Value.okWide Tryd.prog W .any base t v := hval0
  have hW' := hW
  obtain ⟨p, q, hA0, hV, rfl, hfz, hnd⟩ := hW
  have hA : DataW.TrodAll enc Tryd.prog W 0 (fun _ => true) true Tryd.f9.params.toList args.toList ds p := hA0
  rw [Tryd.params9] at hA hval
  obtain ⟨v0, vz0, d0, ds0, p0, q0, hargs, rfl, rfl, h0, r0⟩ := trodAll_cons hA
  obtain ⟨rfl, rfl, rfl⟩ := trodAll_nil r0
  obtain rfl : args = #[v0] := by cases args; simp_all
  obtain ⟨rfl, rfl⟩ := trodVars_none hV
  have k0 := h0
  have lt0 : ∀ x ∈ p0, x.block < W.heap.size := by obtain ⟨m, hm⟩ := k0; exact DataW.trod_lt m _ _ _ hm
  obtain ⟨k_0, v_0, i_0, w_0, Ai0, ni0, ci0, At0, nt0, ct0, Ab0, nb0, cb0, zs0, ts0, bs0, rfl, bd0, rq0⟩ := req_open (hval 0 26 v0 rfl rfl) h0
  clear hA0 hval0
  refine (protoVersions_walk hshp k_0 v_0 i_0 w_0 (by have := bd0; omega) rq0).mono fun e W' ⟨he, bel⟩ => ?_
  subst he
  exact ⟨_, rfl, _, _, _, [], _, [], hW', trodAll_mk1 (shut_bool Tryd.underlying4 _), (trodAll_cons_mk (Below.trod laidOut (by kernel_rfl) (of_decide_eq_true (by kernel_rfl)) k0 bel lt0) trodAll_mk0), rfl, bel.frame _, fun h => by cases h⟩

theorem over : Rows.protoVersionsRow.holds Tryd.pinned (OpenSpec.ofChange Rows.protoVersionsSpec) :=
  OpenClaim.holds_of_wide 9 Tryd.f9 rfl rfl rfl rfl rfl rfl rfl ⟨rfl, rfl, rfl, rfl, rfl⟩ rfl rfl rfl rfl rfl (by kernel_rfl) Tryd.func9 (by kernel_rfl)
    (of_decide_eq_true (by kernel_rfl)) (by unfold Func.isWrapper; first | (rw [if_pos (by decide +kernel)]; kernel_rfl) | (rw [if_neg (by decide +kernel)]; exact ⟨rfl, rfl⟩))
    (fun os started H enc _ => lifted os started H enc)

theorem proved : Rows.ProtoVersionsCardSaid :=
  Claim7.holds_tied_plain_at .later [] [.data] true (true, "914bd8f4ba55f588f3411a616729fba77a27d8a54981671c67a2ae6954f02f7f") false
    over (fun _ h => by cases h) (by kernel_rfl) (fun _ h => by cases h) protoVersions_row_tie rfl ⟨rfl, rfl⟩ (by kernel_rfl) rfl
    (fun f fn hf hfn => by
      obtain rfl : f = 9 := Option.some.inj ((show Tryd.prog.funcNamed "watermeet/watermeetlaw06.ProtoVersions" = some 9 by kernel_rfl).symm.trans hf) |>.symm
      obtain rfl : fn = Tryd.f9 := (Option.some.inj (Tryd.func9.symm.trans hfn)).symm
      refine ⟨by kernel_rfl, fun j t ht => ?_⟩
      rw [Tryd.params9] at ht
      have hin : t ∈ #[(26 : TypeId)].toList := by
        rw [← Array.getElem?_toList] at ht
        exact List.mem_of_getElem? ht
      simp only [List.mem_cons, List.not_mem_nil, or_false] at hin
      rcases hin with hin
      · subst hin
        exact (show Tryd.prog.wantsStandIn 26 = false by kernel_rfl))
    (by kernel_rfl)
#print axioms proved
end Go.Proofs.YtlijagbklopipaaDoor.protoVersions
