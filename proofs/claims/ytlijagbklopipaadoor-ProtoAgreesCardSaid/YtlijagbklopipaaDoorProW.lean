/-
  Contract of proto.GetReq. Conditions: those that it states.
-/
import Derived.Deep.DeepCutAuto
import Derived.Test.YtlijagbklopipaaDoorProV
namespace Go.Proofs.YtlijagbklopipaaDoor
open Go.RowKit
set_option linter.unusedVariables false

/-- What a call answers that reads a request. -/
def GotQ (w : World) (r : RQ × Int) (e : Ending) (w' : World) : Prop :=
  ∃ (Ai : Option Addr) (ni ci : Nat) (At : Option Addr) (nt ct : Nat) (Ab : Option Addr) (nb cb : Nat), e = .returned (.tuple #[.agg #[.int .i64 r.1.kind, .int .i64 r.1.ver, .int .i64 r.1.id, .string (strOf r.1.who), .slice Ai ni ci, .slice At nt ct, .slice Ab nb cb], .int .i64 r.2]) ∧
    Rq w' w'.heap.size Ai ni ci At nt ct Ab nb cb r.1.ints r.1.texts r.1.blob ∧ Below w.heap.size w w'
theorem Rq.none (w : World) (B : Nat) : Rq w B none 0 0 none 0 0 none 0 0 [] [] [] := ⟨Rx.nil w B, Rx.nil w B, Rd.nil w B⟩
theorem GotQ.zero {w w' : World} {E : Int} {r : RQ × Int} (hr : r = (zeroQ, E)) (hb : Below w.heap.size w w') : GotQ w r (.returned (.tuple #[.agg #[.int .i64 0, .int .i64 0, .int .i64 0, .string { data := #[] }, .slice none 0 0, .slice none 0 0, .slice none 0 0], .int .i64 E])) w' := by
  subst hr
  exact ⟨none, 0, 0, none, 0, 0, none, 0, 0, rfl, Rq.none _ _, hb⟩

theorem decQ_short0 {l : List UInt8} (h : l.length < 2) : decQ l = (zeroQ, 10) := by unfold decQ decG; rw [if_pos h]
theorem decQ_known {l : List UInt8} (h : ¬ l.length < 2) (hk : knownE (kindOf l) (verOf l) ≠ 0) : decQ l = (zeroQ, knownE (kindOf l) (verOf l)) := by unfold decQ decG; rw [if_neg h, if_pos hk]
theorem decQ_steps {l : List UInt8} {K V z1 : Int} {z2 : List UInt8} {z3 : List Int} {z4 : Int} {z5 : List (List UInt8)} {z6 : List UInt8} {s1 s2 s3 s4 s5 s6 : St} (h0 : ¬ l.length < 2) (hK : kindOf l = K) (hV : verOf l = V) (hk : knownE K V = 0)
    (h1 : rnum l (2, 0) = (z1, s1)) (h2 : opt (decide (2 ≤ V)) rtxt [] l s1 = (z2, s2)) (h3 : rmany rnum (shI K) l s2 = (z3, s3)) (h4 : rtn K l s3 = (z4, s4)) (h5 : rmany rtxt z4.toNat l s4 = (z5, s5)) (h6 : opt (decide (K = 2)) (rblb 2048) [] l s5 = (z6, s6)) :
    decQ l = if endE l s6 (chkQ ⟨K, V, z1, z2, z3, z5, z6⟩) ≠ 0 then (zeroQ, endE l s6 (chkQ ⟨K, V, z1, z2, z3, z5, z6⟩)) else (⟨K, V, z1, z2, z3, z5, z6⟩, 0) := by
  unfold decQ decG
  rw [if_neg h0, hK, hV, if_neg (by omega)]
  have hb : rbodyQ K V l (2, 0) = ((z1, z2, z3, z4, z5, z6), s6) := by simp only [rbodyQ, bnd, h1, h2, h3, h4, h5, h6]
  rw [hb]
  rfl

set_option maxRecDepth 100000 in
theorem p_getQ_short {w : World} {A : Option Addr} {n c : Nat} {l : List UInt8} (h : Rd w w.heap.size A n c l) (h2 : l.length < 2) :
    Calls Tryd.prog 16 #[.slice A n c] w (GotQ w (decQ l)) := by
  have hr := h.alloc (Nat.le_refl _) (.cells #[.int .i64 0, .int .i64 0, .int .i64 0, .string { data := #[] }, .slice none 0 0, .slice none 0 0, .slice none 0 0] 26)
  have HC := Lib.hid (p_beg_short hr h2)
  have HD := Lib.hid (decQ_short0 h2)
  have hb := bput (Below.refl _ w) (.cells #[.int .i64 0, .int .i64 0, .int .i64 0, .string { data := #[] }, .slice none 0 0, .slice none 0 0, .slice none 0 0] 26)
  clear h hr h2
  go_enter Tryd.func16, Tryd.ntmps16
  go_wp2_with fail
  refine HC.out.mono ?_
  rintro e w1 ⟨rfl, rfl⟩
  go_wp2_with fail
  refine bodyPost_ret (v := .tuple #[.agg #[.int .i64 0, .int .i64 0, .int .i64 0, .string { data := #[] }, .slice none 0 0, .slice none 0 0, .slice none 0 0], .int .i64 10]) (by simp [results, Tryd.results16, go_sem]) rfl ?_
  exact GotQ.zero HD.out hb

set_option maxRecDepth 100000 in
theorem p_getQ_known {w : World} {A : Option Addr} {n c : Nat} {l : List UInt8} (h : Rd w w.heap.size A n c l) (h2 : ¬ l.length < 2) (hk : knownE (kindOf l) (verOf l) ≠ 0) :
    Calls Tryd.prog 16 #[.slice A n c] w (GotQ w (decQ l)) := by
  have hr := h.alloc (Nat.le_refl _) (.cells #[.int .i64 0, .int .i64 0, .int .i64 0, .string { data := #[] }, .slice none 0 0, .slice none 0 0, .slice none 0 0] 26)
  have HC := Lib.hid (p_beg_ok hr h2)
  have HD := Lib.hid (decQ_known h2 hk)
  have hb := bput (Below.refl _ w) (.cells #[.int .i64 0, .int .i64 0, .int .i64 0, .string { data := #[] }, .slice none 0 0, .slice none 0 0, .slice none 0 0] 26)
  have t1 : (knownE (kindOf l) (verOf l) != 0) = true := by simpa using hk
  have hw0 := heap_alloc_new w (.cells #[.int .i64 0, .int .i64 0, .int .i64 0, .string { data := #[] }, .slice none 0 0, .slice none 0 0, .slice none 0 0] 26)
  have HB := Lib.hid hb
  have HW0 := Lib.hid hw0
  clear h hr h2 hb hk hw0
  go_enter Tryd.func16, Tryd.ntmps16
  go_wp2_with fail
  refine HC.out.mono ?_
  rintro e w1 ⟨Bx, rfl, hx, hbx, hb1⟩
  have hres : w1.heap[w.heap.size]? = some (.cells #[.int .i64 0, .int .i64 0, .int .i64 0, .string { data := #[] }, .slice none 0 0, .slice none 0 0, .slice none 0 0] 26 (0, 0)) := (hb1.block w.heap.size (by simp)).trans HW0.out
  obtain ⟨⟨c0, c1, c2, c3, c4, c5, c6⟩, hf⟩ := of7 hres
  have f0 := hf 0
  have f1 := hf 1
  have f2 := hf 2
  have f3 := hf 3
  have f4 := hf 4
  have f5 := hf 5
  have f6 := hf 6
  have HBB := Lib.hid (bthen HB.out hb1)
  have HRS := Lib.hid hres
  clear hb1 hres hbx hx hf
  generalize knownE (kindOf l) (verOf l) = E at *
  go_wp2_with fail
  change bodyPost _ _ _ _ _ (set7 w1 w.heap.size (.int .i64 0) (.int .i64 0) (.int .i64 0) (.string { data := #[] }) (.slice none 0 0) (.slice none 0 0) (.slice none 0 0))
  have hs := set7_heap (a0 := .int .i64 0) (a1 := .int .i64 0) (a2 := .int .i64 0) (a3 := .string { data := #[] }) (a4 := .slice none 0 0) (a5 := .slice none 0 0) (a6 := .slice none 0 0) HRS.out
  have hg := set7_grown w1 w.heap.size (.int .i64 0) (.int .i64 0) (.int .i64 0) (.string { data := #[] }) (.slice none 0 0) (.slice none 0 0) (.slice none 0 0)
  generalize set7 w1 w.heap.size (.int .i64 0) (.int .i64 0) (.int .i64 0) (.string { data := #[] }) (.slice none 0 0) (.slice none 0 0) (.slice none 0 0) = WF at *
  obtain ⟨⟨d0, d1, d2, d3, d4, d5, d6⟩, -⟩ := of7 hs
  refine bodyPost_ret (v := .tuple #[.agg #[.int .i64 0, .int .i64 0, .int .i64 0, .string { data := #[] }, .slice none 0 0, .slice none 0 0, .slice none 0 0], .int .i64 E]) (by simp [results, Tryd.results16, go_sem, d0, d1, d2, d3, d4, d5, d6]) rfl ?_
  exact GotQ.zero HD.out (HBB.out.trans (below_grown hg HBB.out.size (fun k hk => by cases hk; exact Nat.le_refl _)))
end Go.Proofs.YtlijagbklopipaaDoor
