/-
  A range over a function whose iterator keeps a state of its own in cells: the statement by an invariant over the iterator's state and the body's together. The body never leaves early. Conditions: those that the theorem states.
-/
import Derived.RangeFuncNested
import Derived.RangeFuncBound
import Derived.RangeFuncCalls
import Derived.RangeFuncLeaves
import Derived.WalkKit
import Derived.OwnWalkIn
import Derived.TacticsInMore
import Derived.LoopNIn
import Derived.LoopIn
import Derived.Shelf.Abstract
namespace Go.Proofs.Ytnffhhmfclcmjaa
open Go.RowKit Go.Shelf
set_option linter.unusedVariables false

/-- How a round's body may end: it goes on. -/
def roundOn (J : World → Prop) (W : World) : Exit → Act → World → Prop
  | .normal, _, W' => KeepsOthers W W' ∧ J W'
  | _, _, _ => False

theorem range_by {F : Fence} {n : Nat} {P : Program} {σ χ : Type} {g : Operand} {ps : Array Tmp} {assign body : Code} {Q : Exit → Act → World → Prop} {a : Act} {w : World}
    (hro : F.round = none) (h1 : 1 ≤ n) {gf : Nat} {lb : Array Value} (hg : a.eval g = .func (.func gf) #[] lb) (hFg : F.fn gf) (eg : ∀ args w, (callFunc gf args).run P w = .ok (.enter gf args) w)
    (encs : χ → Array Value) (hps : ∀ x, (encs x).size = ps.size) (I : σ → World → Prop) (hI : OwnFrom w.heap.size I) (Pre : σ → χ → Prop) (upd : σ → χ → σ) (Done : σ → Prop) (s0 : σ) (h0 : I s0 w) (a₁ : χ → Act)
    (hassign : ∀ (l : Nat) (x : χ) (W : World) (K : Act → World → Prop), K (a₁ x) W →
      assign.wpIn (F.inRound l) (n - 1 - 1) P (Exit.then K (fun _ _ _ => False)) { tmps := (ps.zip (encs x)).foldl (fun t (p, v) => t.setIfInBounds p v) a.tmps, defers := [] } W)
    (hbody : ∀ (l : Nat) (s : σ) (x : χ) (W : World), Pre s x → I s W → body.wpIn (F.inRound l) (n - 1 - 1) P (roundOn (I (upd s x)) W) (a₁ x) W)
    (hiter : ∀ (l : Nat) (Rc : World → Prop), (∀ W W', Rc W → KeepsOthers W W' → Rc W') →
      (∀ s x W, Pre s x → I s W → Rc W → YieldAt F (n - 1 - 1) P l (encs x) W fun e W' => e = .returned (.bool true) ∧ I (upd s x) W' ∧ Rc W') →
      ∀ W, I s0 W → Rc W → CallsIn F (n - 1) P gf (#[.func (.yield l) #[] #[]] ++ lb) W fun e W' => (∃ v, e = .returned v) ∧ ∃ s, Done s ∧ I s W' ∧ Rc W')
    (hdone : ∀ (D : Nat) (s : σ) (W : World), w.heap.size ≤ D → Done s → I s W → W.heap[D]? = some (.deferred (some [])) → Q .normal { a with defers := { target := .collected D, args := #[] } :: a.defers } W) :
    (Code.rangeFunc g ps assign body).wpIn F n P Q a w := by
  refine wpIn_rangeFunc ?_
  intro fn hfn
  rw [hro]
  obtain ⟨rec, hrec⟩ : ∃ rec : LoopState → Loop, rec = fun st => { state := st, pending := none, fn, tmps := a.tmps, params := ps, assign, body, defers := w.heap.size } := ⟨_, rfl⟩
  have hRec : ∀ st st', { rec st with state := st' } = rec st' := fun st st' => by rw [hrec]
  obtain ⟨W1, hW1⟩ : ∃ W1, (w.alloc (.deferred (some []))).alloc (.loop (rec .ready)) = W1 := ⟨_, rfl⟩
  have hL1 : W1.heap[w.heap.size + 1]? = some (.loop (rec .ready)) := by
    rw [← hW1]
    have := World.alloc_heap_new (w.alloc (.deferred (some []))) (.loop (rec .ready))
    rwa [World.size_alloc] at this
  have hK1 : W1.heap[w.heap.size]? = some (.deferred (some [])) := by
    rw [← hW1]
    exact (Below.heap_alloc _ _ _ (by simp)).trans (World.alloc_heap_new w _)
  have hI1 : I s0 W1 := by rw [← hW1]; exact hI.alloc _ (hI.alloc _ h0)
  refine ⟨w.heap.size + 1, [{ target := .collected w.heap.size, args := #[] }], W1, { target := .fn (.func gf) lb, args := #[.func (.yield (w.heap.size + 1)) #[] #[]] }, W1, gf,
    #[.func (.yield (w.heap.size + 1)) #[] #[]] ++ lb, W1, ?_, ?_, ?_, ?_, fun _ => h1, ?_⟩
  · rw [← hW1, hrec]; exact run_enterLoop_outer _ _ _ _ _
  · simp only [resolve, hg]
    simp [go_sem]
  · intro f' hf'
    simp [Target.leads] at hf'
    subst hf'
    exact hFg
  · simp [invoke, go_sem, eg]
  · refine (hiter (w.heap.size + 1) (fun W => W.heap[w.heap.size + 1]? = some (.loop (rec .ready)) ∧ W.heap[w.heap.size]? = some (.deferred (some [])))
      (fun W W' h hk => ⟨hk.same _ _ h.1 rfl, hk.same _ _ h.2 rfl⟩) ?_ W1 hI1 ⟨hL1, hK1⟩).mono ?_
    · rintro s x W hp hi ⟨hl, hk⟩
      have hlt : w.heap.size + 1 < W.heap.size := (Array.getElem?_eq_some_iff.1 hl).1
      have hy := run_yield (P := P) (args := encs x) hl (by rw [hrec]; exact hps x)
      rw [hrec] at hy
      refine ⟨fn, _, assign, body, hy, roundIn_of_wpIn hfn (hassign _ x W _ ⟨_, run_beginRound hl (by rw [hrec]), ?_⟩)⟩
      rw [hRec]
      have hl2 : (W.putObj (w.heap.size + 1) (.loop (rec .busy))).heap[w.heap.size + 1]? = some (.loop (rec .busy)) := World.putObj_heap_same hlt
      have hk2 : (W.putObj (w.heap.size + 1) (.loop (rec .busy))).heap[w.heap.size]? = some (.deferred (some [])) := (World.putObj_heap_other (by omega)).trans hk
      refine wpIn_mono (hbody _ s x _ hp (hI.putObj _ hi (by omega) hl rfl)) ?_
      rintro e a3 W3 hq
      cases e with
      | normal =>
        obtain ⟨hk3, hi3⟩ := hq
        have hl3 := hk3.same _ _ hl2 rfl
        have hr := run_endRound (P := P) none hl3
        have hlt3 : w.heap.size + 1 < W3.heap.size := (Array.getElem?_eq_some_iff.1 hl3).1
        refine ⟨_, _, hr, rfl, hI.putObj _ hi3 (by omega) hl3 rfl, ?_, (World.putObj_heap_other (by omega)).trans (hk3.same _ _ hk2 rfl)⟩
        have := World.putObj_heap_same (w := W3) (o := .loop (rec .ready)) hlt3
        rw [hrec] at this ⊢
        exact this
      | ret => exact hq.elim
      | exit id => exact hq.elim
      | goto t => exact hq.elim
      | panic ch => exact hq.elim
      | outgrown => exact hq.elim
    · rintro e W2 ⟨⟨v, rfl⟩, s, hd, hi, hl, hk⟩
      have hend := run_endLoop (P := P) hl (by rw [hrec]; simp)
      obtain ⟨o, hend'⟩ : ∃ o, (Instr.endLoop (w.heap.size + 1)).run P W2 = .ok none (W2.putObj (w.heap.size + 1) o) := by
        have hp : (rec .ready).pending = none := by rw [hrec]
        rw [hp] at hend
        exact ⟨_, hend⟩
      exact ⟨none, _, hend', hdone _ s _ (Nat.le_refl _) hd (hI.putObj o hi (by omega) hl rfl) ((World.putObj_heap_other (by omega)).trans hk)⟩
end Go.Proofs.Ytnffhhmfclcmjaa
