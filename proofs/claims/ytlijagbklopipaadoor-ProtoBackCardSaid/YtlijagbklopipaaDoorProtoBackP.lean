/-
  The statement of ProtoBack: the Go function answers true for every input, and each argument reads afterwards as it read before. Conditions: none.
-/
import Derived.Test.YtlijagbklopipaaDoorCards
import Derived.Test.YtlijagbklopipaaDoorTie
import Derived.SevenTiedAt
import Derived.Test.YtlijagbklopipaaDoorRowS
import Derived.Test.YtlijagbklopipaaDoorRowQ
import Derived.Test.YtlijagbklopipaaDoorProtoBack
namespace Go.Proofs.YtlijagbklopipaaDoor.protoBack
open Go.ChangeShapes Go.WideShapes Go.ChangeAt Go.RowKit
open Go.ChangeMaps (open_string shut_string)
set_option linter.unusedVariables false

theorem own : ownKnob Tryd.prog.godebug = none := by kernel_rfl
theorem laidOut : laidOutB Tryd.prog = true := by kernel_rfl

set_option maxRecDepth 100000 in
theorem lifted (os : Os) (started : os.Started) (H : Type) (enc : TypeId × Value → H) :
    ReturnsInHanded {} Tryd.checked os 6 .any (fun w args => (Rows.protoBackSpec.pre enc Tryd.prog Tryd.f6 Rows.protoBackRow.domain false w args ∧ laidMetH Tryd.prog laidL w) ∧ sizedMet enc Tryd.prog Tryd.f6 (OpenSpec.ofChange Rows.protoBackSpec) false w args) (Rows.protoBackSpec.post enc Tryd.prog Tryd.f6 false true false false) := by
  refine returnsInHanded_of_change_and (C := Tryd.checked) (X := fun w _ => laidMetH Tryd.prog laidL w) (fun _ _ _ hh h => h.of_heap hh) own started (by kernel_rfl) Tryd.func6
    (ChangeSpec.witness_shaped (enc := enc) (C := Tryd.checked) (os := os) (X := fun w _ => laidMetH Tryd.prog laidL w) false (World.doorLaid Tryd.prog 26 os) #[.agg #[.int .i64 0, .int .i64 0, .int .i64 0, .string ByteArray.empty, .slice none 0 0, .slice none 0 0, .slice none 0 0], .agg #[.int .i64 0, .int .i64 0, .int .i64 0, .int .i64 0, .int .i64 0, .slice none 0 0, .slice none 0 0, .slice none 0 0], .int .i64 0, .int .u8 0] 8 rfl (World.shaped_of_RefB (by kernel_rfl) (by kernel_rfl)) (by kernel_rfl) (by kernel_rfl) (by kernel_rfl) (door_met os _)) ?_
  intro W base args ds gs before hval0 hW hcnd hreach hL _
  have hshp := shp_of_laidH hL
  have hval : ∀ (j : Nat) t v, Tryd.f6.params[j]? = some t → args[j]? = some v → Value.okWide Tryd.prog W .any base t v := hval0
  have hW' := hW
  obtain ⟨p, q, hA0, hV, rfl, hfz, hnd⟩ := hW
  have hA : DataW.TrodAll enc Tryd.prog W 0 (fun _ => true) true Tryd.f6.params.toList args.toList ds p := hA0
  rw [Tryd.params6] at hA hval
  obtain ⟨v0, vz0, d0, ds0, p0, q0, hargs, rfl, rfl, h0, r0⟩ := trodAll_cons hA
  obtain ⟨v1, vz1, d1, ds1, p1, q1, rfl, rfl, rfl, h1, r1⟩ := trodAll_cons r0
  obtain ⟨v2, vz2, d2, ds2, p2, q2, rfl, rfl, rfl, h2, r2⟩ := trodAll_cons r1
  obtain ⟨v3, vz3, d3, ds3, p3, q3, rfl, rfl, rfl, h3, r3⟩ := trodAll_cons r2
  obtain ⟨rfl, rfl, rfl⟩ := trodAll_nil r3
  obtain rfl : args = #[v0, v1, v2, v3] := by cases args; simp_all
  obtain ⟨rfl, rfl⟩ := trodVars_none hV
  have k0 := h0
  have lt0 : ∀ x ∈ p0, x.block < W.heap.size := by obtain ⟨m, hm⟩ := k0; exact DataW.trod_lt m _ _ _ hm
  obtain ⟨k_0, v_0, i_0, w_0, Ai0, ni0, ci0, At0, nt0, ct0, Ab0, nb0, cb0, zs0, ts0, bs0, rfl, bd0, rq0⟩ := req_open (hval 0 26 v0 rfl rfl) h0
  have k1 := h1
  have lt1 : ∀ x ∈ p1, x.block < W.heap.size := by obtain ⟨m, hm⟩ := k1; exact DataW.trod_lt m _ _ _ hm
  obtain ⟨k_1, v_1, i_1, e_1, w_1, Ai1, ni1, ci1, At1, nt1, ct1, Ab1, nb1, cb1, zs1, ts1, bs1, rfl, bd1, rq1⟩ := resp_open (hval 1 38 v1 rfl rfl) h1
  obtain ⟨a2, rfl, rfl, rfl, w2⟩ := open_int Tryd.underlying3 (hval 2 3 v2 rfl rfl) h2
  obtain ⟨a3, rfl, rfl, rfl, w3⟩ := open_int Tryd.underlying5 (hval 3 5 v3 rfl rfl) h3
  have bo3 := bounds_u8 w3
  obtain ⟨y3, rfl⟩ : ∃ y : UInt8, a3 = (y.toNat : Int) := ⟨UInt8.ofNat a3.toNat, by simp; omega⟩
  clear hA0 hval0
  refine (protoBack_walk hshp k_0 v_0 i_0 w_0 (by have := bd0; omega) rq0 k_1 v_1 i_1 e_1 w_1 rq1 a2 y3).mono fun e W' ⟨he, bel⟩ => ?_
  subst he
  exact ⟨_, rfl, _, _, _, [], _, [], hW', trodAll_mk1 (shut_bool Tryd.underlying4 _), (trodAll_cons_mk (Below.trod laidOut (by kernel_rfl) (of_decide_eq_true (by kernel_rfl)) k0 bel lt0) (trodAll_cons_mk (Below.trod laidOut (by kernel_rfl) (of_decide_eq_true (by kernel_rfl)) k1 bel lt1) (trodAll_cons_mk (shut_int Tryd.underlying3 w2) (trodAll_cons_mk (shut_int Tryd.underlying5 w3) trodAll_mk0)))), rfl, bel.frame _, fun h => by cases h⟩

theorem over : Rows.protoBackRow.holds Tryd.pinned (OpenSpec.ofChange Rows.protoBackSpec) :=
  OpenClaim.holds_of_wide 6 Tryd.f6 rfl rfl rfl rfl rfl rfl rfl ⟨rfl, rfl, rfl, rfl, rfl⟩ rfl rfl rfl rfl rfl (by kernel_rfl) Tryd.func6 (by kernel_rfl)
    (of_decide_eq_true (by kernel_rfl)) (by unfold Func.isWrapper; first | (rw [if_pos (by decide +kernel)]; kernel_rfl) | (rw [if_neg (by decide +kernel)]; exact ⟨rfl, rfl⟩))
    (fun os started H enc _ => lifted os started H enc)

theorem proved : Rows.ProtoBackCardSaid :=
  Claim7.holds_tied_plain_at .later [] [.data] true (true, "914bd8f4ba55f588f3411a616729fba77a27d8a54981671c67a2ae6954f02f7f") false
    over (fun _ h => by cases h) (by kernel_rfl) (fun _ h => by cases h) protoBack_row_tie rfl ⟨rfl, rfl⟩ (by kernel_rfl) rfl
    (fun f fn hf hfn => by
      obtain rfl : f = 6 := Option.some.inj ((show Tryd.prog.funcNamed "watermeet/watermeetlaw06.ProtoBack" = some 6 by kernel_rfl).symm.trans hf) |>.symm
      obtain rfl : fn = Tryd.f6 := (Option.some.inj (Tryd.func6.symm.trans hfn)).symm
      refine ⟨by kernel_rfl, fun j t ht => ?_⟩
      rw [Tryd.params6] at ht
      have hin : t ∈ #[(26 : TypeId), (38 : TypeId), (3 : TypeId), (5 : TypeId)].toList := by
        rw [← Array.getElem?_toList] at ht
        exact List.mem_of_getElem? ht
      simp only [List.mem_cons, List.not_mem_nil, or_false] at hin
      rcases hin with hin | hin | hin | hin
      · subst hin
        exact (show Tryd.prog.wantsStandIn 26 = false by kernel_rfl)
      · subst hin
        exact (show Tryd.prog.wantsStandIn 38 = false by kernel_rfl)
      · subst hin
        exact (show Tryd.prog.wantsStandIn 3 = false by kernel_rfl)
      · subst hin
        exact (show Tryd.prog.wantsStandIn 5 = false by kernel_rfl))
    (by kernel_rfl)
#print axioms proved
end Go.Proofs.YtlijagbklopipaaDoor.protoBack
