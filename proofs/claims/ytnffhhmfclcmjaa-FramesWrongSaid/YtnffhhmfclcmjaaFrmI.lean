/-
  frames.Split: the walk.
-/
import Derived.Stop.RegionWithIn
import Derived.Test.YtnffhhmfclcmjaaFrmE
namespace Go.Proofs.Ytnffhhmfclcmjaa
open Go.RowKit Go.Shelf
set_option linter.unusedVariables false
attribute [local go_sem] Oper.semAt_some

theorem each_in (F : Fence) (m : Nat) (hf : F.fn 24) (hro : F.round = none) (A : Option Addr) (n c : Nat) (w : World) :
    CallsIn F m Try.prog 24 #[.slice A n c] w fun e w' => e = .returned (.func (.func 28) #[] #[.pointer (some ⟨w.heap.size, 0, none⟩)]) ∧ w' = w.alloc (.cells #[.slice A n c] 22) := by
  refine callsIn_of_wp Try.func24 rfl hf ?_ hro
  simp only [Try.ntmps24, List.size_toArray, List.length_cons, List.length_nil, Nat.reduceAdd, Nat.reduceSub, Array.replicate_succ, Array.replicate_zero, List.push_toArray, List.append_toArray, List.nil_append, List.cons_append]
  gi_wp2
  go_ret
  exact ⟨rfl, rfl⟩

theorem wpHI_append {F : Fence} (hF : ∀ f, F.fn f) {n : Nat} {P : Program} {ops : Array Oper} {o : Oper} {a : Act} {w w' : World} {K : Act → World → Prop} {Q : Exit → Act → World → Prop} {V1 V2 v : Value} {E : Prop} (s x : Operand) (t : TypeId) (hg : o.guard = none)
    (ho : o.op = .call { callee := .builtin .append, args := #[s, x], argTypes := #[t, t] }) (hs : a.eval s = V1) (hx : a.eval x = V2) (hr : (Builtin.append_ #[t, t] o.type #[V1, V2]).run P w = .ok v w')
    (h : K (a.put o.dst v) w') : if Region.wanted o (yielded ops a.tmps) = true then Oper.wpIn F n P o a w K Q else E := by
  simp only [Region.wanted, hg, if_true]
  unfold Oper.wpIn
  rw [Oper.semAt_eq _ _ _ (by rw [ho]; intro c h; cases h)]
  unfold execOp
  simp only [ho, resolve, invoke, builtin, Sem.run_bind, Sem.run_pure, Result.andThen_ok, List.map_toArray, List.map_cons, List.map_nil, hs, hx, hr]
  exact ⟨fun f _ => hF f, h⟩

/-- What Split answers, where a head tells no length, and elsewhere. -/
def PartsNo (w : World) (e : Ending) (w' : World) : Prop := e = .returned (.tuple #[.slice none 0 0, .slice none 0 0, .int .i64 11]) ∧ Below w.heap.size w w'
def Parts (w : World) (ls : List (List UInt8)) (r : List UInt8) (e : Ending) (w' : World) : Prop :=
  ∃ A n c A2 n2 c2, e = .returned (.tuple #[.slice A n c, .slice A2 n2 c2, .int .i64 0]) ∧ Ol w' w.heap.size (Above w.heap.size) A n c ls ∧ Own w' w.heap.size A2 n2 c2 r ∧ Below w.heap.size w w'
def SplitPost (w : World) (l : List UInt8) (e : Ending) (w' : World) : Prop := ∃ ls r, Cuts l ls r ∧ ((bad r ∧ PartsNo w e w') ∨ (¬ bad r ∧ Parts w ls r e w'))

theorem Ob.put_other {e : TypeId} {w : World} {B : Nat} {A : Option Addr} {n c : Nat} {l : List UInt8} (h : Ob e w B A n c l) {b : Nat} (hb : b < B) (v : Value) : Ob e (w.setCell ⟨b, 0, none⟩ v) B A n c l := by
  refine h.kept (grownBy_setCell' w b v) (.inr fun he => ?_)
  have := (h.2.lt b he).1
  omega
theorem Ob.put_obj {e : TypeId} {w : World} {B : Nat} {A : Option Addr} {n c : Nat} {l : List UInt8} (h : Ob e w B A n c l) {b : Nat} {o : Obj} (hb : w.heap[b]? = some o) (ho : o.isCells = false) (o' : Obj) : Ob e (w.putObj b o') B A n c l := by
  refine h.kept (grownBy_putObj' w b o') ?_
  rcases h.2.2 with ⟨hv, _⟩ | ⟨g, cap, cur, hv, _, hh, _⟩
  · left; rw [hv]; rfl
  · right
    rw [hv]
    intro he
    have : g = b := by simpa [Value.ownBlock] using he
    subst this
    rw [hb] at hh
    cases hh
    cases ho

theorem end_good {w W w1 : World} {ls : List (List UInt8)} {r : List UInt8} {Al A' A3 : Option Addr} {nl cl n' c' m3 c3 D : Nat}
    (hb1 : W.heap[w.heap.size]? = some (.cells #[.slice Al nl cl] 28 (0, 0))) (hol : Ol W w.heap.size (Above w.heap.size) Al nl cl ls) (hap : ∀ g, Value.ownBlock (.slice Al nl cl) = some g → g ≠ w.heap.size ∧ g ≠ w.heap.size + 1 ∧ g ≠ w.heap.size + 1 + 1)
    (hb2 : W.heap[w.heap.size + 1]? = some (.cells #[.slice A' n' c'] 22 (0, 0))) (hbel : Below w.heap.size w W) (hD : w.heap.size + 3 ≤ D) (hK : W.heap[D]? = some (.deferred (some [])))
    (ho : Own w1 W.heap.size A3 m3 c3 r) (hb : Below W.heap.size W w1) :
    w1.cell? ⟨w.heap.size, 0, none⟩ = some (.slice Al nl cl) ∧ w1.frozen? ⟨w.heap.size, 0, none⟩ = false ∧
    (w1.setCell ⟨w.heap.size, 0, none⟩ (.slice Al nl cl)).cell? ⟨w.heap.size + 1, 0, none⟩ = some (.slice A' n' c') ∧ (w1.setCell ⟨w.heap.size, 0, none⟩ (.slice Al nl cl)).frozen? ⟨w.heap.size + 1, 0, none⟩ = false ∧
    ((w1.setCell ⟨w.heap.size, 0, none⟩ (.slice Al nl cl)).setCell ⟨w.heap.size + 1, 0, none⟩ (.slice A3 m3 c3)).heap[D]? = some (.deferred (some [])) ∧
    (((w1.setCell ⟨w.heap.size, 0, none⟩ (.slice Al nl cl)).setCell ⟨w.heap.size + 1, 0, none⟩ (.slice A3 m3 c3)).putObj D (.deferred none)).cell? ⟨w.heap.size, 0, none⟩ = some (.slice Al nl cl) ∧
    (((w1.setCell ⟨w.heap.size, 0, none⟩ (.slice Al nl cl)).setCell ⟨w.heap.size + 1, 0, none⟩ (.slice A3 m3 c3)).putObj D (.deferred none)).cell? ⟨w.heap.size + 1, 0, none⟩ = some (.slice A3 m3 c3) ∧
    Ol (((w1.setCell ⟨w.heap.size, 0, none⟩ (.slice Al nl cl)).setCell ⟨w.heap.size + 1, 0, none⟩ (.slice A3 m3 c3)).putObj D (.deferred none)) w.heap.size (Above w.heap.size) Al nl cl ls ∧
    Own (((w1.setCell ⟨w.heap.size, 0, none⟩ (.slice Al nl cl)).setCell ⟨w.heap.size + 1, 0, none⟩ (.slice A3 m3 c3)).putObj D (.deferred none)) w.heap.size A3 m3 c3 r ∧
    Below w.heap.size w (((w1.setCell ⟨w.heap.size, 0, none⟩ (.slice Al nl cl)).setCell ⟨w.heap.size + 1, 0, none⟩ (.slice A3 m3 c3)).putObj D (.deferred none)) := by
  have l1 := (Array.getElem?_eq_some_iff.1 hb1).1
  have l2 := (Array.getElem?_eq_some_iff.1 hb2).1
  have lD := (Array.getElem?_eq_some_iff.1 hK).1
  have e1 := (hb.block _ l1).trans hb1
  have e2 := (hb.block _ l2).trans hb2
  have eD := (hb.block _ lD).trans hK
  have s1 := heap_setCell_same w1 w.heap.size 0 #[.slice Al nl cl] _ (.slice Al nl cl) e1
  have s2 := (Below.heap_setCell w1 ⟨w.heap.size, 0, none⟩ (.slice Al nl cl) (w.heap.size + 1) (by simp)).trans e2
  have sD := (Below.heap_setCell w1 ⟨w.heap.size, 0, none⟩ (.slice Al nl cl) D (by simp; omega)).trans eD
  have u1 := (Below.heap_setCell (w1.setCell ⟨w.heap.size, 0, none⟩ (.slice Al nl cl)) ⟨w.heap.size + 1, 0, none⟩ (.slice A3 m3 c3) w.heap.size (by simp)).trans s1
  have u2 := heap_setCell_same _ (w.heap.size + 1) 0 #[.slice A' n' c'] _ (.slice A3 m3 c3) s2
  have uD := (Below.heap_setCell (w1.setCell ⟨w.heap.size, 0, none⟩ (.slice Al nl cl)) ⟨w.heap.size + 1, 0, none⟩ (.slice A3 m3 c3) D (by simp; omega)).trans sD
  refine ⟨(box_cell e1).1, (box_cell e1).2, (box_cell s2).1, (box_cell s2).2, uD, ?_, ?_, ?_, ?_, ?_⟩
  · exact (World.cell?_of_block (World.putObj_heap_other (k := w.heap.size) (by omega))).trans (box_cell u1).1
  · exact (World.cell?_of_block (World.putObj_heap_other (k := w.heap.size + 1) (by omega))).trans (box_cell u2).1
  · have h1 := (hol.kept hb).set e1 (fun g hg => (hap g hg).1) (fun z e => by cases e) (.slice Al nl cl)
    have h2 := h1.set s2 (fun g hg => (hap g hg).2.1) (fun z e => by cases e) (.slice A3 m3 c3)
    exact h2.turn (grownBy_putObj' _ D _) (fun r hr => by cases hr; exact ⟨_, uD, rfl⟩)
  · exact (((ho.put_other l1 _).put_other l2 _).put_obj uD rfl _).less hbel.size
  · have h1 : Below w.heap.size w ((w1.setCell ⟨w.heap.size, 0, none⟩ (.slice Al nl cl)).setCell ⟨w.heap.size + 1, 0, none⟩ (.slice A3 m3 c3)) := ((hbel.trans (hb.mono hbel.size)).setCell (Nat.le_refl _) _).setCell (Nat.le_succ _) _
    exact h1.grown (grownBy_putObj' _ D _) h1.size fun k e => by cases e; omega

theorem end_bad {w W : World} {A' : Option Addr} {n' c' D : Nat} {V : Value}
    (hb1 : W.heap[w.heap.size]? = some (.cells #[V] 28 (0, 0)))
    (hb2 : W.heap[w.heap.size + 1]? = some (.cells #[.slice A' n' c'] 22 (0, 0))) (hbel : Below w.heap.size w W) (hD : w.heap.size + 3 ≤ D) (hK : W.heap[D]? = some (.deferred (some []))) :
    (W.setCell ⟨w.heap.size, 0, none⟩ (.slice none 0 0)).cell? ⟨w.heap.size + 1, 0, none⟩ = some (.slice A' n' c') ∧ (W.setCell ⟨w.heap.size, 0, none⟩ (.slice none 0 0)).frozen? ⟨w.heap.size + 1, 0, none⟩ = false ∧
    ((W.setCell ⟨w.heap.size, 0, none⟩ (.slice none 0 0)).setCell ⟨w.heap.size + 1, 0, none⟩ (.slice none 0 0)).heap[D]? = some (.deferred (some [])) ∧
    (((W.setCell ⟨w.heap.size, 0, none⟩ (.slice none 0 0)).setCell ⟨w.heap.size + 1, 0, none⟩ (.slice none 0 0)).putObj D (.deferred none)).cell? ⟨w.heap.size, 0, none⟩ = some (.slice none 0 0) ∧
    (((W.setCell ⟨w.heap.size, 0, none⟩ (.slice none 0 0)).setCell ⟨w.heap.size + 1, 0, none⟩ (.slice none 0 0)).putObj D (.deferred none)).cell? ⟨w.heap.size + 1, 0, none⟩ = some (.slice none 0 0) ∧
    Below w.heap.size w (((W.setCell ⟨w.heap.size, 0, none⟩ (.slice none 0 0)).setCell ⟨w.heap.size + 1, 0, none⟩ (.slice none 0 0)).putObj D (.deferred none)) := by
  have s1 := heap_setCell_same W w.heap.size 0 #[V] _ (.slice none 0 0) hb1
  have s2 := (Below.heap_setCell W ⟨w.heap.size, 0, none⟩ (.slice none 0 0) (w.heap.size + 1) (by simp)).trans hb2
  have sD := (Below.heap_setCell W ⟨w.heap.size, 0, none⟩ (.slice none 0 0) D (by simp; omega)).trans hK
  have u1 := (Below.heap_setCell (W.setCell ⟨w.heap.size, 0, none⟩ (.slice none 0 0)) ⟨w.heap.size + 1, 0, none⟩ (.slice none 0 0) w.heap.size (by simp)).trans s1
  have u2 := heap_setCell_same _ (w.heap.size + 1) 0 #[.slice A' n' c'] _ (.slice none 0 0) s2
  have uD := (Below.heap_setCell (W.setCell ⟨w.heap.size, 0, none⟩ (.slice none 0 0)) ⟨w.heap.size + 1, 0, none⟩ (.slice none 0 0) D (by simp; omega)).trans sD
  refine ⟨(box_cell s2).1, (box_cell s2).2, uD, ?_, ?_, ?_⟩
  · exact (World.cell?_of_block (World.putObj_heap_other (k := w.heap.size) (by omega))).trans (box_cell u1).1
  · exact (World.cell?_of_block (World.putObj_heap_other (k := w.heap.size + 1) (by omega))).trans (box_cell u2).1
  · have h1 : Below w.heap.size w ((W.setCell ⟨w.heap.size, 0, none⟩ (.slice none 0 0)).setCell ⟨w.heap.size + 1, 0, none⟩ (.slice none 0 0)) := (hbel.setCell (Nat.le_refl _) _).setCell (Nat.le_succ _) _
    exact h1.grown (grownBy_putObj' _ D _) h1.size fun k e => by cases e; omega

/-- What a round is handed: a body's slice and bytes, the slice of what is behind. -/
structure Hand where
  A1 : Option Addr
  n1 : Nat
  c1 : Nat
  x : List UInt8
  A2 : Option Addr
  n2 : Nat
  c2 : Nat

set_option maxRecDepth 100000 in
theorem split_in (m : Nat) (hm : 5 ≤ m) {w : World} {A : Option Addr} {n c : Nat} {l : List UInt8} (h : Rd w w.heap.size A n c l) (hn : n ≤ 100000000) :
    CallsIn Fence.wide m Try.prog 14 #[.slice A n c] w (SplitPost w l) := by
  have h1 : 1 ≤ m := by omega
  refine callsIn_of_wp_marks Try.func14 rfl trivial ?_ rfl
  simp only [Try.ntmps14, List.size_toArray, List.length_cons, List.length_nil, Nat.reduceAdd, Nat.reduceSub, Array.replicate_succ, Array.replicate_zero, List.push_toArray, List.append_toArray, List.nil_append, List.cons_append]
  gi_wp2_with (refine ⟨trivial, ?_⟩; gi_at_call 24; refine (each_in Fence.wide (m - 1) trivial rfl _ _ _ _).mono ?_; rintro e w' ⟨rfl, rfl⟩)
  obtain ⟨W0, hW0⟩ : ∃ W0, ((w.alloc (.cells #[.slice none 0 0] 28)).alloc (.cells #[.slice A n c] 22)).alloc (.cells #[.slice A n c] 22) = W0 := ⟨_, rfl⟩
  have hs0 : W0.heap.size = w.heap.size + 3 := by rw [← hW0]; simp
  have hst0 : St w w.heap.size (w.heap.size + 1) (w.heap.size + 1 + 1) [] (.slice A n c) (.slice A n c) W0 := by
    refine ⟨⟨none, 0, 0, ?_, Ol.nil _ _ _, fun g hg => by cases hg⟩, ⟨?_, _, _, _, rfl⟩, ?_, ?_⟩
    · rw [← hW0]
      exact ((Below.heap_alloc _ _ _ (by simp; omega)).trans (Below.heap_alloc _ _ _ (by simp))).trans (World.alloc_heap_new w _)
    · rw [← hW0]
      refine (Below.heap_alloc _ _ _ (by simp)).trans ?_
      have := World.alloc_heap_new (w.alloc (.cells #[.slice none 0 0] 28)) (.cells #[.slice A n c] 22)
      rwa [World.size_alloc] at this
    · rw [← hW0]
      have := World.alloc_heap_new ((w.alloc (.cells #[.slice none 0 0] 28)).alloc (.cells #[.slice A n c] 22)) (.cells #[.slice A n c] 22)
      rwa [World.size_alloc, World.size_alloc] at this
    · rw [← hW0]
      exact bput (bput (bput (Below.refl _ w) _) _) _
  rw [hW0]
  refine range_by rfl h1 (gf := 28) (lb := #[.pointer (some ⟨w.heap.size + 1 + 1, 0, none⟩)]) rfl trivial (enters_of Try.func28 (by kernel_rfl) rfl)
    (fun x : Hand => #[.slice x.A1 x.n1 x.c1, .slice x.A2 x.n2 x.c2]) (fun _ => rfl)
    (fun (s : List (List UInt8) × Value × Value) W => St w w.heap.size (w.heap.size + 1) (w.heap.size + 1 + 1) s.1 s.2.1 s.2.2 W) (St.own (by omega) _ _ _)
    (fun s x => Rd w w.heap.size x.A1 x.n1 x.c1 x.x ∧ ok x.x ∧ s.1.length ≤ l.length) (fun s x => (s.1 ++ [x.x], .slice x.A2 x.n2 x.c2, s.2.2))
    (fun s => ∃ A' n' c' r, Rd w w.heap.size A' n' c' r ∧ Cuts l s.1 r ∧ s.2.1 = .slice A' n' c') ([], .slice A n c, .slice A n c) hst0
    (fun x => { tmps := #[.slice A n c, undef, .pointer (some ⟨w.heap.size, 0, none⟩), .pointer (some ⟨w.heap.size + 1, 0, none⟩), .int .i64 0, .slice x.A1 x.n1 x.c1, .slice x.A2 x.n2 x.c2, undef, undef, .slice A n c, .slice A n c, .func (.func 28) #[] #[.pointer (some ⟨w.heap.size + 1 + 1, 0, none⟩)], .slice x.A1 x.n1 x.c1, .slice x.A2 x.n2 x.c2, undef, undef, undef, undef, undef, undef, undef, undef, undef, undef, undef, undef, undef, undef, undef, undef, undef, undef, undef, undef, undef], defers := [] }) ?assign ?body ?iter ?done
  case assign =>
    intro lp x W K hK
    gi_wp2
    exact hK
  case iter =>
    intro lp Rc hRc hY W hst hrc
    refine (each1_in (m - 1) (by omega) lp Rc hRc h w.heap.size (w.heap.size + 1) (w.heap.size + 1 + 1) (by omega) (by omega) (by omega)
      (fun ls VR VB A1 n1 c1 x A2 n2 c2 W hx hok hll hs hr => hY (ls, VR, VB) ⟨A1, n1, c1, x, A2, n2, c2⟩ W ⟨hx, hok, hll⟩ hs hr) W hst hrc).mono ?_
    rintro e W' ⟨hv, ls, A', n', c', r, hr, hc, hs, hrc'⟩
    exact ⟨hv, (ls, .slice A' n' c', .slice A' n' c'), ⟨A', n', c', r, hr, hc, rfl⟩, hs, hrc'⟩
  case body =>
    rintro lp ⟨ls, VR, VB⟩ x W ⟨hx, hok, hll⟩ hst
    obtain ⟨⟨Al, nl, cl, hb1, hol, hap⟩, ⟨hb2, hvr⟩, hb3, hbel⟩ := hst
    obtain ⟨k1, k2⟩ := box_cell hb1
    obtain ⟨k3, k4⟩ := box_cell hb2
    gi_wp2_with fail
    refine wpIn_region_any (by kernel_rfl) ?_
    change wpAnyIn _ _ _ _ _ _ _ _ _ (World.drew _)
    have l1 : w.heap.size < W.heap.size := (Array.getElem?_eq_some_iff.1 hb1).1
    have hcl : ∀ W', Rd W' W'.heap.size x.A1 x.n1 x.c1 x.x → CallsIn (Fence.wide.inRound lp) (m - 1 - 1 - 1) Try.prog 25 #[.slice x.A1 x.n1 x.c1] W' (Gives W' x.x) := fun W' hr =>
      CallsIn.inRound lp (callsIn_wide.2 (clone_ok hr (Nat.le_refl _) (by have := hx.len; have := hok.2; omega)))
    have HCL := Lib.hid (hcl W.drew ((hx.below hbel).more hbel.size).drew)
    have hnl : nl ≤ 100000000000 := by have := hol.1; have := h.len; omega
    have TURN := Lib.hid (fun (A3 : Option Addr) (m3 c3 : Nat) (w1 : World) (ho : Own w1 W.drew.heap.size A3 m3 c3 x.x) (hb : Below W.drew.heap.size W.drew w1) => St.turn (w0 := w) (W := W.drew) (w1 := w1) (A3 := A3) (m3 := m3) (c3 := c3) (x := x.x) (Bl := w.heap.size) (Br := w.heap.size + 1) (Bb := w.heap.size + 1 + 1) (by omega) (by omega) (by omega) (by omega) (by omega) hb1 (hol.kept (Below.refl W.heap.size W).drew) hap hb2 hvr hb3 hbel.drew ho hb hnl)
    clear hcl hnl
    refine wpAnyIn_ready (rs := [0, 1]) (by kernel_rfl) (by simp) (AllReadyIn.cons rfl (fun K hK => ?_) (AllReadyIn.cons rfl (fun K hK => ?_) (AllReadyIn.nil)))
    · go_simp
      refine hK _ _ ?_
      clear hK K
      refine wpAnyIn_ready (rs := [1]) (by kernel_rfl) (by simp) (AllReadyIn.cons rfl (fun K hK => ?_) (AllReadyIn.nil))
      go_simp
      refine hK _ _ ?_
      clear hK K
      refine wpAnyIn_ready (rs := [2]) (by kernel_rfl) (by simp) (AllReadyIn.cons rfl (fun K hK => ?_) (AllReadyIn.nil))
      go_simp
      refine ⟨trivial, fun _ => by omega, ?_⟩
      refine HCL.out.mono ?_
      rintro e w1 ⟨A3, m3, c3, rfl, ho, hb⟩
      obtain ⟨A', c', w3, hrun, q3, q4, q5, q6, hfin⟩ := TURN.out _ _ _ _ ho hb
      have HFIN := Lib.hid hfin
      have q1 : w1.cell? ⟨w.heap.size, 0, none⟩ = some (.slice Al nl cl) := (hb.cell (p := ⟨w.heap.size, 0, none⟩) l1).trans k1
      have q2 : (w1.alloc (.cells #[.slice A3 m3 c3] 22)).cell? ⟨w.heap.size, 0, none⟩ = some (.slice Al nl cl) := ((Below.refl _ w1).alloc (Nat.le_refl _) _).cell (p := ⟨w.heap.size, 0, none⟩) (Nat.lt_of_lt_of_le l1 hb.size) |>.trans q1
      clear hfin ho hb
      refine hK _ _ ?_
      clear hK K
      refine wpAnyIn_ready (rs := [3]) (by kernel_rfl) (by simp) (AllReadyIn.cons rfl (fun K hK => ?_) (AllReadyIn.nil))
      go_simp
      refine hK _ _ ?_
      clear hK K
      refine wpAnyIn_ready (rs := [4]) (by kernel_rfl) (by simp) (AllReadyIn.cons rfl (fun K hK => ?_) AllReadyIn.nil)
      refine wpHI_append (fun _ => trivial) (.tmp 14) (.tmp 17) 28 rfl rfl rfl rfl hrun ?_
      refine hK _ _ ?_
      clear hK K q1 q2 hrun
      refine wpAnyIn_ready (rs := [5]) (by kernel_rfl) (by simp) (AllReadyIn.cons rfl (fun K hK => ?_) AllReadyIn.nil)
      go_simp
      refine hK _ _ ?_
      clear hK K
      refine wpAnyIn_done (by kernel_rfl) ?_ _
      gi_wp2
      exact ⟨(KeepsOthers.drew W).trans (HFIN.out _ _ _).2, (HFIN.out _ _ _).1⟩
    · go_simp
      refine hK _ _ ?_
      clear hK K
      refine wpAnyIn_ready (rs := [0, 2]) (by kernel_rfl) (by simp) (AllReadyIn.cons rfl (fun K hK => ?_) (AllReadyIn.cons rfl (fun K hK => ?_) (AllReadyIn.nil)))
      · go_simp
        refine hK _ _ ?_
        clear hK K
        refine wpAnyIn_ready (rs := [2]) (by kernel_rfl) (by simp) (AllReadyIn.cons rfl (fun K hK => ?_) (AllReadyIn.nil))
        go_simp
        refine ⟨trivial, fun _ => by omega, ?_⟩
        refine HCL.out.mono ?_
        rintro e w1 ⟨A3, m3, c3, rfl, ho, hb⟩
        obtain ⟨A', c', w3, hrun, q3, q4, q5, q6, hfin⟩ := TURN.out _ _ _ _ ho hb
        have HFIN := Lib.hid hfin
        have q1 : w1.cell? ⟨w.heap.size, 0, none⟩ = some (.slice Al nl cl) := (hb.cell (p := ⟨w.heap.size, 0, none⟩) l1).trans k1
        have q2 : (w1.alloc (.cells #[.slice A3 m3 c3] 22)).cell? ⟨w.heap.size, 0, none⟩ = some (.slice Al nl cl) := ((Below.refl _ w1).alloc (Nat.le_refl _) _).cell (p := ⟨w.heap.size, 0, none⟩) (Nat.lt_of_lt_of_le l1 hb.size) |>.trans q1
        clear hfin ho hb
        refine hK _ _ ?_
        clear hK K
        refine wpAnyIn_ready (rs := [3]) (by kernel_rfl) (by simp) (AllReadyIn.cons rfl (fun K hK => ?_) (AllReadyIn.nil))
        go_simp
        refine hK _ _ ?_
        clear hK K
        refine wpAnyIn_ready (rs := [4]) (by kernel_rfl) (by simp) (AllReadyIn.cons rfl (fun K hK => ?_) AllReadyIn.nil)
        refine wpHI_append (fun _ => trivial) (.tmp 14) (.tmp 17) 28 rfl rfl rfl rfl hrun ?_
        refine hK _ _ ?_
        clear hK K q1 q2 hrun
        refine wpAnyIn_ready (rs := [5]) (by kernel_rfl) (by simp) (AllReadyIn.cons rfl (fun K hK => ?_) AllReadyIn.nil)
        go_simp
        refine hK _ _ ?_
        clear hK K
        refine wpAnyIn_done (by kernel_rfl) ?_ _
        gi_wp2
        exact ⟨(KeepsOthers.drew W).trans (HFIN.out _ _ _).2, (HFIN.out _ _ _).1⟩
      · go_simp
        refine ⟨trivial, fun _ => by omega, ?_⟩
        refine HCL.out.mono ?_
        rintro e w1 ⟨A3, m3, c3, rfl, ho, hb⟩
        obtain ⟨A', c', w3, hrun, q3, q4, q5, q6, hfin⟩ := TURN.out _ _ _ _ ho hb
        have HFIN := Lib.hid hfin
        have q1 : w1.cell? ⟨w.heap.size, 0, none⟩ = some (.slice Al nl cl) := (hb.cell (p := ⟨w.heap.size, 0, none⟩) l1).trans k1
        have q2 : (w1.alloc (.cells #[.slice A3 m3 c3] 22)).cell? ⟨w.heap.size, 0, none⟩ = some (.slice Al nl cl) := ((Below.refl _ w1).alloc (Nat.le_refl _) _).cell (p := ⟨w.heap.size, 0, none⟩) (Nat.lt_of_lt_of_le l1 hb.size) |>.trans q1
        clear hfin ho hb
        refine hK _ _ ?_
        clear hK K
        refine wpAnyIn_ready (rs := [0, 3]) (by kernel_rfl) (by simp) (AllReadyIn.cons rfl (fun K hK => ?_) (AllReadyIn.cons rfl (fun K hK => ?_) (AllReadyIn.nil)))
        · go_simp
          refine hK _ _ ?_
          clear hK K
          refine wpAnyIn_ready (rs := [3]) (by kernel_rfl) (by simp) (AllReadyIn.cons rfl (fun K hK => ?_) (AllReadyIn.nil))
          go_simp
          refine hK _ _ ?_
          clear hK K
          refine wpAnyIn_ready (rs := [4]) (by kernel_rfl) (by simp) (AllReadyIn.cons rfl (fun K hK => ?_) AllReadyIn.nil)
          refine wpHI_append (fun _ => trivial) (.tmp 14) (.tmp 17) 28 rfl rfl rfl rfl hrun ?_
          refine hK _ _ ?_
          clear hK K q1 q2 hrun
          refine wpAnyIn_ready (rs := [5]) (by kernel_rfl) (by simp) (AllReadyIn.cons rfl (fun K hK => ?_) AllReadyIn.nil)
          go_simp
          refine hK _ _ ?_
          clear hK K
          refine wpAnyIn_done (by kernel_rfl) ?_ _
          gi_wp2
          exact ⟨(KeepsOthers.drew W).trans (HFIN.out _ _ _).2, (HFIN.out _ _ _).1⟩
        · go_simp
          refine hK _ _ ?_
          clear hK K
          refine wpAnyIn_ready (rs := [0]) (by kernel_rfl) (by simp) (AllReadyIn.cons rfl (fun K hK => ?_) (AllReadyIn.nil))
          go_simp
          refine hK _ _ ?_
          clear hK K
          refine wpAnyIn_ready (rs := [4]) (by kernel_rfl) (by simp) (AllReadyIn.cons rfl (fun K hK => ?_) AllReadyIn.nil)
          refine wpHI_append (fun _ => trivial) (.tmp 14) (.tmp 17) 28 rfl rfl rfl rfl hrun ?_
          refine hK _ _ ?_
          clear hK K q1 q2 hrun
          refine wpAnyIn_ready (rs := [5]) (by kernel_rfl) (by simp) (AllReadyIn.cons rfl (fun K hK => ?_) AllReadyIn.nil)
          go_simp
          refine hK _ _ ?_
          clear hK K
          refine wpAnyIn_done (by kernel_rfl) ?_ _
          gi_wp2
          exact ⟨(KeepsOthers.drew W).trans (HFIN.out _ _ _).2, (HFIN.out _ _ _).1⟩
  case done =>
    rintro D ⟨ls, VR, VB⟩ W hD ⟨A', n', c', r, hr, hcut, rfl⟩ hst hK
    obtain ⟨⟨Al, nl, cl, hb1, hol, hap⟩, ⟨hb2, hvr⟩, hb3, hbel⟩ := hst
    obtain ⟨k1, k2⟩ := box_cell hb1
    obtain ⟨k3, k4⟩ := box_cell hb2
    have htop := hr.top
    have hlen := hr.len
    have hrl : r.length ≤ l.length := by
      have := congrArg List.length hcut.whole.1
      rw [List.length_append] at this
      omega
    have hll := h.len
    have HCUT := Lib.hid hcut
    clear hcut
    have HCL := Lib.hid (callsIn_wide (n := m - 1).2 (clone_ok (w := W.drew) ((hr.below hbel).more hbel.size).drew (Nat.le_refl _) (by omega)))
    have END := Lib.hid (fun (A3 : Option Addr) (m3 c3 : Nat) (w1 : World) (ho : Own w1 W.drew.heap.size A3 m3 c3 r) (hb : Below W.drew.heap.size W.drew w1) =>
      end_good (w := w) (W := W.drew) (w1 := w1) (ls := ls) (r := r) (A' := A') (n' := n') (c' := c') (D := D) hb1 (hol.kept (Below.refl W.heap.size W).drew) hap hb2 hbel.drew (by omega) hK ho hb)
    have ENDB := Lib.hid (end_bad hb1 hb2 hbel (by omega) hK)
    have hrW := Lib.hid (hr.below hbel)
    clear hK hD hW0 hs0 hst0
    by_cases h4 : n' < 4
    · have hnb := Lib.hid (show ¬ bad r from fun hb => by have := hb.1; omega)
      obtain ⟨V, hg⟩ := get_less hrW.out h4
      gi_wp2_with fail
      first | refine ⟨trivial, fun _ => by omega, ?_⟩ | refine ⟨trivial, ?_⟩
      refine (callsIn_wide.2 hg).mono ?_
      rintro e w' ⟨rfl, rfl⟩
      gi_wp2_with fail
      refine ⟨trivial, ?_⟩
      gi_wp2_with fail
      refine wpIn_region_any (by kernel_rfl) ?_
      change wpAnyIn _ _ _ _ _ _ _ _ _ (World.drew _)
      refine wpAnyIn_ready (rs := [0, 1]) (by kernel_rfl) (by simp) (AllReadyIn.cons rfl (fun K hK => ?_) (AllReadyIn.cons rfl (fun K hK => ?_) (AllReadyIn.nil)))
      · go_simp
        refine hK _ _ ?_
        clear hK K
        refine wpAnyIn_ready (rs := [1]) (by kernel_rfl) (by simp) (AllReadyIn.cons rfl (fun K hK => ?_) (AllReadyIn.nil))
        go_simp
        refine hK _ _ ?_
        clear hK K
        refine wpAnyIn_ready (rs := [2]) (by kernel_rfl) (by simp) (AllReadyIn.cons rfl (fun K hK => ?_) (AllReadyIn.nil))
        go_simp
        first | refine ⟨trivial, fun _ => by omega, ?_⟩ | refine ⟨trivial, ?_⟩
        refine HCL.out.mono ?_
        rintro e w1 ⟨A3, m3, c3, rfl, ho, hb⟩
        obtain ⟨q1, q2, q3, q4, q5, q6, q7, q8, q9, q10⟩ := END.out _ _ _ _ ho hb
        have FIN := Lib.hid (show SplitPost w l _ _ from ⟨ls, r, HCUT.out, .inr ⟨hnb.out, _, _, _, _, _, _, rfl, q8, q9, q10⟩⟩)
        clear ho hb q8 q9 q10
        refine hK _ _ ?_
        clear hK K
        refine wpAnyIn_ready (rs := [3]) (by kernel_rfl) (by simp) (AllReadyIn.cons rfl (fun K hK => ?_) (AllReadyIn.nil))
        go_simp
        refine hK _ _ ?_
        clear hK K
        refine wpAnyIn_ready (rs := [4]) (by kernel_rfl) (by simp) (AllReadyIn.cons rfl (fun K hK => ?_) (AllReadyIn.nil))
        go_simp
        refine hK _ _ ?_
        clear hK K
        refine wpAnyIn_ready (rs := [5]) (by kernel_rfl) (by simp) (AllReadyIn.cons rfl (fun K hK => ?_) (AllReadyIn.nil))
        go_simp
        refine hK _ _ ?_
        clear hK K
        refine wpAnyIn_done (by kernel_rfl) ?_ _
        gi_wp2
        refine ⟨by simp, .inl ⟨_, _, rfl, run_takeDeferred q5, ?_⟩⟩
        refine ⟨.tuple #[.slice Al nl cl, .slice A3 m3 c3, .int .i64 0], ?_, FIN.out⟩
        simp [results, Try.f14, go_sem, q6, q7]
      · go_simp
        refine hK _ _ ?_
        clear hK K
        refine wpAnyIn_ready (rs := [0, 2]) (by kernel_rfl) (by simp) (AllReadyIn.cons rfl (fun K hK => ?_) (AllReadyIn.cons rfl (fun K hK => ?_) (AllReadyIn.nil)))
        · go_simp
          refine hK _ _ ?_
          clear hK K
          refine wpAnyIn_ready (rs := [2]) (by kernel_rfl) (by simp) (AllReadyIn.cons rfl (fun K hK => ?_) (AllReadyIn.nil))
          go_simp
          first | refine ⟨trivial, fun _ => by omega, ?_⟩ | refine ⟨trivial, ?_⟩
          refine HCL.out.mono ?_
          rintro e w1 ⟨A3, m3, c3, rfl, ho, hb⟩
          obtain ⟨q1, q2, q3, q4, q5, q6, q7, q8, q9, q10⟩ := END.out _ _ _ _ ho hb
          have FIN := Lib.hid (show SplitPost w l _ _ from ⟨ls, r, HCUT.out, .inr ⟨hnb.out, _, _, _, _, _, _, rfl, q8, q9, q10⟩⟩)
          clear ho hb q8 q9 q10
          refine hK _ _ ?_
          clear hK K
          refine wpAnyIn_ready (rs := [3]) (by kernel_rfl) (by simp) (AllReadyIn.cons rfl (fun K hK => ?_) (AllReadyIn.nil))
          go_simp
          refine hK _ _ ?_
          clear hK K
          refine wpAnyIn_ready (rs := [4]) (by kernel_rfl) (by simp) (AllReadyIn.cons rfl (fun K hK => ?_) (AllReadyIn.nil))
          go_simp
          refine hK _ _ ?_
          clear hK K
          refine wpAnyIn_ready (rs := [5]) (by kernel_rfl) (by simp) (AllReadyIn.cons rfl (fun K hK => ?_) (AllReadyIn.nil))
          go_simp
          refine hK _ _ ?_
          clear hK K
          refine wpAnyIn_done (by kernel_rfl) ?_ _
          gi_wp2
          refine ⟨by simp, .inl ⟨_, _, rfl, run_takeDeferred q5, ?_⟩⟩
          refine ⟨.tuple #[.slice Al nl cl, .slice A3 m3 c3, .int .i64 0], ?_, FIN.out⟩
          simp [results, Try.f14, go_sem, q6, q7]
        · go_simp
          first | refine ⟨trivial, fun _ => by omega, ?_⟩ | refine ⟨trivial, ?_⟩
          refine HCL.out.mono ?_
          rintro e w1 ⟨A3, m3, c3, rfl, ho, hb⟩
          obtain ⟨q1, q2, q3, q4, q5, q6, q7, q8, q9, q10⟩ := END.out _ _ _ _ ho hb
          have FIN := Lib.hid (show SplitPost w l _ _ from ⟨ls, r, HCUT.out, .inr ⟨hnb.out, _, _, _, _, _, _, rfl, q8, q9, q10⟩⟩)
          clear ho hb q8 q9 q10
          refine hK _ _ ?_
          clear hK K
          refine wpAnyIn_ready (rs := [0]) (by kernel_rfl) (by simp) (AllReadyIn.cons rfl (fun K hK => ?_) (AllReadyIn.nil))
          go_simp
          refine hK _ _ ?_
          clear hK K
          refine wpAnyIn_ready (rs := [3]) (by kernel_rfl) (by simp) (AllReadyIn.cons rfl (fun K hK => ?_) (AllReadyIn.nil))
          go_simp
          refine hK _ _ ?_
          clear hK K
          refine wpAnyIn_ready (rs := [4]) (by kernel_rfl) (by simp) (AllReadyIn.cons rfl (fun K hK => ?_) (AllReadyIn.nil))
          go_simp
          refine hK _ _ ?_
          clear hK K
          refine wpAnyIn_ready (rs := [5]) (by kernel_rfl) (by simp) (AllReadyIn.cons rfl (fun K hK => ?_) (AllReadyIn.nil))
          go_simp
          refine hK _ _ ?_
          clear hK K
          refine wpAnyIn_done (by kernel_rfl) ?_ _
          gi_wp2
          refine ⟨by simp, .inl ⟨_, _, rfl, run_takeDeferred q5, ?_⟩⟩
          refine ⟨.tuple #[.slice Al nl cl, .slice A3 m3 c3, .int .i64 0], ?_, FIN.out⟩
          simp [results, Try.f14, go_sem, q6, q7]
    · have hg := get_head hrW.out (by omega)
      have hN := headN_lt r
      by_cases hbad : 1 ≤ headN r ∧ headN r ≤ 4096
      · have hnb := Lib.hid (show ¬ bad r from fun hb => hb.2 hbad)
        have hfit := fun w : World => fits_yes (w := w) (headN r) hbad.1 hbad.2
        have HF := Lib.hid hfit
        have HG := Lib.hid hg
        generalize headN r = N at *
        clear hfit hg
        gi_wp2_with fail
        first | refine ⟨trivial, fun _ => by omega, ?_⟩ | refine ⟨trivial, ?_⟩
        refine (callsIn_wide.2 HG.out).mono ?_
        rintro e w' ⟨rfl, rfl⟩
        gi_wp2_with fail
        first | refine ⟨trivial, fun _ => by omega, ?_⟩ | refine ⟨trivial, ?_⟩
        refine (callsIn_wide.2 (HF.out _)).mono ?_
        rintro e w' ⟨rfl, rfl⟩
        gi_wp2_with fail
        refine wpIn_region_any (by kernel_rfl) ?_
        change wpAnyIn _ _ _ _ _ _ _ _ _ (World.drew _)
        refine wpAnyIn_ready (rs := [0, 1]) (by kernel_rfl) (by simp) (AllReadyIn.cons rfl (fun K hK => ?_) (AllReadyIn.cons rfl (fun K hK => ?_) (AllReadyIn.nil)))
        · go_simp
          refine hK _ _ ?_
          clear hK K
          refine wpAnyIn_ready (rs := [1]) (by kernel_rfl) (by simp) (AllReadyIn.cons rfl (fun K hK => ?_) (AllReadyIn.nil))
          go_simp
          refine hK _ _ ?_
          clear hK K
          refine wpAnyIn_ready (rs := [2]) (by kernel_rfl) (by simp) (AllReadyIn.cons rfl (fun K hK => ?_) (AllReadyIn.nil))
          go_simp
          first | refine ⟨trivial, fun _ => by omega, ?_⟩ | refine ⟨trivial, ?_⟩
          refine HCL.out.mono ?_
          rintro e w1 ⟨A3, m3, c3, rfl, ho, hb⟩
          obtain ⟨q1, q2, q3, q4, q5, q6, q7, q8, q9, q10⟩ := END.out _ _ _ _ ho hb
          have FIN := Lib.hid (show SplitPost w l _ _ from ⟨ls, r, HCUT.out, .inr ⟨hnb.out, _, _, _, _, _, _, rfl, q8, q9, q10⟩⟩)
          clear ho hb q8 q9 q10
          refine hK _ _ ?_
          clear hK K
          refine wpAnyIn_ready (rs := [3]) (by kernel_rfl) (by simp) (AllReadyIn.cons rfl (fun K hK => ?_) (AllReadyIn.nil))
          go_simp
          refine hK _ _ ?_
          clear hK K
          refine wpAnyIn_ready (rs := [4]) (by kernel_rfl) (by simp) (AllReadyIn.cons rfl (fun K hK => ?_) (AllReadyIn.nil))
          go_simp
          refine hK _ _ ?_
          clear hK K
          refine wpAnyIn_ready (rs := [5]) (by kernel_rfl) (by simp) (AllReadyIn.cons rfl (fun K hK => ?_) (AllReadyIn.nil))
          go_simp
          refine hK _ _ ?_
          clear hK K
          refine wpAnyIn_done (by kernel_rfl) ?_ _
          gi_wp2
          refine ⟨by simp, .inl ⟨_, _, rfl, run_takeDeferred q5, ?_⟩⟩
          refine ⟨.tuple #[.slice Al nl cl, .slice A3 m3 c3, .int .i64 0], ?_, FIN.out⟩
          simp [results, Try.f14, go_sem, q6, q7]
        · go_simp
          refine hK _ _ ?_
          clear hK K
          refine wpAnyIn_ready (rs := [0, 2]) (by kernel_rfl) (by simp) (AllReadyIn.cons rfl (fun K hK => ?_) (AllReadyIn.cons rfl (fun K hK => ?_) (AllReadyIn.nil)))
          · go_simp
            refine hK _ _ ?_
            clear hK K
            refine wpAnyIn_ready (rs := [2]) (by kernel_rfl) (by simp) (AllReadyIn.cons rfl (fun K hK => ?_) (AllReadyIn.nil))
            go_simp
            first | refine ⟨trivial, fun _ => by omega, ?_⟩ | refine ⟨trivial, ?_⟩
            refine HCL.out.mono ?_
            rintro e w1 ⟨A3, m3, c3, rfl, ho, hb⟩
            obtain ⟨q1, q2, q3, q4, q5, q6, q7, q8, q9, q10⟩ := END.out _ _ _ _ ho hb
            have FIN := Lib.hid (show SplitPost w l _ _ from ⟨ls, r, HCUT.out, .inr ⟨hnb.out, _, _, _, _, _, _, rfl, q8, q9, q10⟩⟩)
            clear ho hb q8 q9 q10
            refine hK _ _ ?_
            clear hK K
            refine wpAnyIn_ready (rs := [3]) (by kernel_rfl) (by simp) (AllReadyIn.cons rfl (fun K hK => ?_) (AllReadyIn.nil))
            go_simp
            refine hK _ _ ?_
            clear hK K
            refine wpAnyIn_ready (rs := [4]) (by kernel_rfl) (by simp) (AllReadyIn.cons rfl (fun K hK => ?_) (AllReadyIn.nil))
            go_simp
            refine hK _ _ ?_
            clear hK K
            refine wpAnyIn_ready (rs := [5]) (by kernel_rfl) (by simp) (AllReadyIn.cons rfl (fun K hK => ?_) (AllReadyIn.nil))
            go_simp
            refine hK _ _ ?_
            clear hK K
            refine wpAnyIn_done (by kernel_rfl) ?_ _
            gi_wp2
            refine ⟨by simp, .inl ⟨_, _, rfl, run_takeDeferred q5, ?_⟩⟩
            refine ⟨.tuple #[.slice Al nl cl, .slice A3 m3 c3, .int .i64 0], ?_, FIN.out⟩
            simp [results, Try.f14, go_sem, q6, q7]
          · go_simp
            first | refine ⟨trivial, fun _ => by omega, ?_⟩ | refine ⟨trivial, ?_⟩
            refine HCL.out.mono ?_
            rintro e w1 ⟨A3, m3, c3, rfl, ho, hb⟩
            obtain ⟨q1, q2, q3, q4, q5, q6, q7, q8, q9, q10⟩ := END.out _ _ _ _ ho hb
            have FIN := Lib.hid (show SplitPost w l _ _ from ⟨ls, r, HCUT.out, .inr ⟨hnb.out, _, _, _, _, _, _, rfl, q8, q9, q10⟩⟩)
            clear ho hb q8 q9 q10
            refine hK _ _ ?_
            clear hK K
            refine wpAnyIn_ready (rs := [0]) (by kernel_rfl) (by simp) (AllReadyIn.cons rfl (fun K hK => ?_) (AllReadyIn.nil))
            go_simp
            refine hK _ _ ?_
            clear hK K
            refine wpAnyIn_ready (rs := [3]) (by kernel_rfl) (by simp) (AllReadyIn.cons rfl (fun K hK => ?_) (AllReadyIn.nil))
            go_simp
            refine hK _ _ ?_
            clear hK K
            refine wpAnyIn_ready (rs := [4]) (by kernel_rfl) (by simp) (AllReadyIn.cons rfl (fun K hK => ?_) (AllReadyIn.nil))
            go_simp
            refine hK _ _ ?_
            clear hK K
            refine wpAnyIn_ready (rs := [5]) (by kernel_rfl) (by simp) (AllReadyIn.cons rfl (fun K hK => ?_) (AllReadyIn.nil))
            go_simp
            refine hK _ _ ?_
            clear hK K
            refine wpAnyIn_done (by kernel_rfl) ?_ _
            gi_wp2
            refine ⟨by simp, .inl ⟨_, _, rfl, run_takeDeferred q5, ?_⟩⟩
            refine ⟨.tuple #[.slice Al nl cl, .slice A3 m3 c3, .int .i64 0], ?_, FIN.out⟩
            simp [results, Try.f14, go_sem, q6, q7]
      · have hb := Lib.hid (show bad r from ⟨by omega, hbad⟩)
        have hfit := fun w : World => fits_no (w := w) (headN r) (by omega) hbad
        have HF := Lib.hid hfit
        have HG := Lib.hid hg
        generalize headN r = N at *
        clear hfit hg
        obtain ⟨q3, q4, q5, q6, q7, q8⟩ := ENDB.out
        have FIN := Lib.hid (show SplitPost w l _ _ from ⟨ls, r, HCUT.out, .inl ⟨hb.out, rfl, q8⟩⟩)
        clear q8
        gi_wp2_with fail
        first | refine ⟨trivial, fun _ => by omega, ?_⟩ | refine ⟨trivial, ?_⟩
        refine (callsIn_wide.2 HG.out).mono ?_
        rintro e w' ⟨rfl, rfl⟩
        gi_wp2_with fail
        first | refine ⟨trivial, fun _ => by omega, ?_⟩ | refine ⟨trivial, ?_⟩
        refine (callsIn_wide.2 (HF.out _)).mono ?_
        rintro e w' ⟨rfl, rfl⟩
        gi_wp2
        refine ⟨by simp, .inl ⟨_, _, rfl, run_takeDeferred q5, ?_⟩⟩
        refine ⟨.tuple #[.slice none 0 0, .slice none 0 0, .int .i64 11], ?_, FIN.out⟩
        simp [results, Try.f14, go_sem, q6, q7]

/-- Split, as its callers take it. -/
theorem split_any {w : World} {A : Option Addr} {n c : Nat} {l : List UInt8} (h : Rd w w.heap.size A n c l) (hn : n ≤ 100000000) : Calls Try.prog 14 #[.slice A n c] w (SplitPost w l) :=
  callsIn_wide.1 (split_in 5 (Nat.le_refl _) h hn)
theorem split_bad {w : World} {A : Option Addr} {n c : Nat} {l : List UInt8} (h : Rd w w.heap.size A n c l) (hn : n ≤ 100000000) {ls : List (List UInt8)} {r : List UInt8} (hc : Cuts l ls r) (hb : bad r) : Calls Try.prog 14 #[.slice A n c] w (PartsNo w) := by
  refine (split_any h hn).mono ?_
  rintro e w' ⟨ls', r', hc', h⟩
  obtain ⟨rfl, rfl⟩ := cuts_one hc hc'
  rcases h with ⟨_, h⟩ | ⟨hn, _⟩
  · exact h
  · exact absurd hb hn
theorem split_ok {w : World} {A : Option Addr} {n c : Nat} {l : List UInt8} (h : Rd w w.heap.size A n c l) (hn : n ≤ 100000000) {ls : List (List UInt8)} {r : List UInt8} (hc : Cuts l ls r) (hb : ¬ bad r) : Calls Try.prog 14 #[.slice A n c] w (Parts w ls r) := by
  refine (split_any h hn).mono ?_
  rintro e w' ⟨ls', r', hc', h⟩
  obtain ⟨rfl, rfl⟩ := cuts_one hc hc'
  rcases h with ⟨hb', _⟩ | ⟨_, h⟩
  · exact absurd hb' hb
  · exact h
end Go.Proofs.Ytnffhhmfclcmjaa
