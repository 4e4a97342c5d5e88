/-
  Regions that draw their order, whose calls may make memory: one walk of the text's order, in the class of the worlds that leave W as it is. Conditions: those that each states.
-/
import Derived.BigQuiet
import Derived.Test.YtlijagbklopipaaDoorProA
namespace Go.Proofs.YtlijagbklopipaaDoor
open Go.RowKit
set_option linter.unusedVariables false

/-- A world that leaves W as it is. -/
structure Lows (W : World) where
  w : World
  b : Below W.heap.size W w
instance (W : World) : Nonempty (Lows W) := ⟨⟨W, Below.refl _ _⟩⟩
theorem wp_region_low {P : Program} {id : Nat} {Q : Exit → Act → World → Prop} {a : Act} {w W : World} {l : List Oper} (hm : P.follows .mixedOrders = true) (hB : Region.lexB .any l.toArray = true) (h0 : Below W.heap.size W w)
    (h : wpQuiet P l.toArray (fun w' => ∃ n : Lows W, w' = n.w) (fun a' => ∀ w', (∃ n : Lows W, w' = n.w) → Q .normal a' w') l a) : (Code.region id l.toArray true).wp P Q a w :=
  wp_region_quiet (C := fun w' => ∃ n : Lows W, w' = n.w) hm hB ⟨⟨_, h0.drew⟩, rfl⟩ (by simpa using h)
theorem wpList_of_quiet {P : Program} {ops : Array Oper} {C : World → Prop} {Q : Act → Prop} {Q' : Exit → Act → World → Prop} (hQ : ∀ a w, C w → Q a → Q' .normal a w) : ∀ (l : List Oper) (a : Act) (w : World), C w → wpQuiet P ops C Q l a → wpList P ops Q' l a w
  | [], a, w, hw, h => hQ a w hw h
  | o :: rest, a, w, hw, h => by
    unfold wpQuiet at h
    unfold wpList
    by_cases hwant : Region.wanted o (yielded ops a.tmps) = true
    · rw [if_pos hwant] at h ⊢
      exact .inl (Oper.wp_of_quiet hw (fun a' w' hw' h' => wpList_of_quiet hQ rest a' w' hw' h') h)
    · rw [if_neg hwant] at h ⊢
      exact wpList_of_quiet hQ rest _ w hw h
theorem wp_region_low_plain {P : Program} {id : Nat} {Q : Exit → Act → World → Prop} {a : Act} {w W : World} {l : List Oper} (h0 : Below W.heap.size W w)
    (h : wpQuiet P l.toArray (fun w' => ∃ n : Lows W, w' = n.w) (fun a' => ∀ w', (∃ n : Lows W, w' = n.w) → Q .normal a' w') l a) : (Code.region id l.toArray false).wp P Q a w :=
  wp_region_lit (wpList_of_quiet (Q := fun a' => ∀ w', (∃ n : Lows W, w' = n.w) → Q .normal a' w') (fun _ w' hw' h => h w' hw') l a w ⟨⟨w, h0⟩, rfl⟩ h)
theorem low_tells {P : Program} {f : FuncId} {args : Array Value} {W : World} {n : Lows W} {v : Value} (h : Calls P f args n.w (Tells n.w v)) : Calls P f args n.w fun e w'' => e = .returned v ∧ ∃ m : Lows W, w'' = m.w :=
  h.mono fun _ _ ⟨he, hw⟩ => ⟨he, n, hw.symm⟩
theorem low_says {P : Program} {f : FuncId} {args : Array Value} {W : World} {n : Lows W} {v : Value} (h : Calls P f args n.w (Says n.w v)) : Calls P f args n.w fun e w'' => e = .returned v ∧ ∃ m : Lows W, w'' = m.w :=
  h.mono fun _ _ ⟨he, hb⟩ => ⟨he, ⟨_, bthen n.b hb⟩, rfl⟩
theorem rin_yes {w : World} {B : Nat} {A : Option Addr} {n c : Nat} {zs : List Int} (h : Rx w B A n c (iv zs)) {lo hi : Int} (hb : anyOut lo hi zs = false) : Calls Tryd.prog 67 #[.slice A n c, .int .i64 lo, .int .i64 hi] w (Tells w (.bool true)) := by
  have := rin_all h lo hi; rw [hb] at this; exact this
theorem rin_no {w : World} {B : Nat} {A : Option Addr} {n c : Nat} {zs : List Int} (h : Rx w B A n c (iv zs)) {lo hi : Int} (hb : anyOut lo hi zs = true) : Calls Tryd.prog 67 #[.slice A n c, .int .i64 lo, .int .i64 hi] w (Tells w (.bool false)) := by
  have := rin_all h lo hi; rw [hb] at this; exact this
theorem rshort_yes {w : World} {B : Nat} {A : Option Addr} {n c : Nat} {ts : List (List UInt8)} (h : Rx w B A n c (sv ts)) (hb : anyLong 64 ts = false) : Calls Tryd.prog 68 #[.slice A n c] w (Tells w (.bool true)) := by
  have := rshort_all h; rw [hb] at this; exact this
theorem rshort_no {w : World} {B : Nat} {A : Option Addr} {n c : Nat} {ts : List (List UInt8)} (h : Rx w B A n c (sv ts)) (hb : anyLong 64 ts = true) : Calls Tryd.prog 68 #[.slice A n c] w (Tells w (.bool false)) := by
  have := rshort_all h; rw [hb] at this; exact this
end Go.Proofs.YtlijagbklopipaaDoor
