/-
  Requests and answers in memory, and the contract of proto.CheckReq. Conditions: those that each states.
-/
import Derived.IntWalk
import Derived.BigQuiet
import Derived.Deep.DrawnRows
import Derived.Deep.QuietTactic
import Derived.Deep.RegionHeld3
import Derived.Test.YtlijagbklopipaaDoorProB
namespace Go.Proofs.YtlijagbklopipaaDoor
open Go.RowKit
set_option linter.unusedVariables false

/-- The package's table of what a kind has. -/
def shapesL : List Int := [0, 0, 0, 0, 0, 1, 0, 0, 2, 1, 0, 2048, 4, 2, 0, 0, 5, 3, 0, 0, 3, 1, 0, 0, 5, 1, 0, 0, 0, 3, 12, 0, 1, 2, 0, 0, 1, 2, 0, 0, 0, 2, 0, 0, 4, 3, 0, 0, 2, 2, 0, 0]
def Shp (w : World) : Prop := 0 < w.heap.size ∧ ∀ j < 52, w.cell? ⟨0, j, none⟩ = some (.int .i64 (shapesL.getD j 0))
theorem Shp.step {w w' : World} {B : Nat} (h : Shp w) (hb : Below B w w') (hB : 0 < B) : Shp w' :=
  ⟨Nat.lt_of_lt_of_le h.1 hb.size, fun j hj => (hb.cell (p := ⟨0, j, none⟩) hB).trans (h.2 j hj)⟩
theorem Shp.on {w w' : World} (h : Shp w) (hb : Below w.heap.size w w') : Shp w' := h.step hb h.1
theorem sh_at : ∀ k : Fin 13, shapesL.getD (k.val * 4) 0 = (shI k.val : Int) ∧ shapesL.getD (k.val * 4 + 1) 0 = (shT k.val : Int) ∧ shapesL.getD (k.val * 4 + 2) 0 = (shM k.val : Int) ∧ shapesL.getD (k.val * 4 + 3) 0 = (shB k.val : Int) := by decide +kernel
theorem Shp.at {w : World} (h : Shp w) {k : Nat} (hk : k < 13) :
    w.cell? ⟨0, k * 4, none⟩ = some (.int .i64 (shI k)) ∧ w.cell? ⟨0, k * 4 + 1, none⟩ = some (.int .i64 (shT k)) ∧ w.cell? ⟨0, k * 4 + 2, none⟩ = some (.int .i64 (shM k)) ∧ w.cell? ⟨0, k * 4 + 3, none⟩ = some (.int .i64 (shB k)) := by
  obtain ⟨e1, e2, e3, e4⟩ := sh_at ⟨k, hk⟩
  simp only at e1 e2 e3 e4
  exact ⟨by rw [h.2 _ (by omega), e1], by rw [h.2 _ (by omega), e2], by rw [h.2 _ (by omega), e3], by rw [h.2 _ (by omega), e4]⟩

/-- A request's three lists, and an answer's, can be read below block B. -/
structure Rq (w : World) (B : Nat) (Ai : Option Addr) (ni ci : Nat) (At : Option Addr) (nt ct : Nat) (Ab : Option Addr) (nb cb : Nat) (zs : List Int) (ts : List (List UInt8)) (bs : List UInt8) : Prop where
  ints : Rx w B Ai ni ci (iv zs)
  texts : Rx w B At nt ct (sv ts)
  blob : Rd w B Ab nb cb bs
theorem Rq.below {w w' : World} {B : Nat} {Ai At Ab : Option Addr} {ni ci nt ct nb cb : Nat} {zs ts bs} (h : Rq w B Ai ni ci At nt ct Ab nb cb zs ts bs) (hb : Below B w w') : Rq w' B Ai ni ci At nt ct Ab nb cb zs ts bs := ⟨h.ints.below hb, h.texts.below hb, h.blob.below hb⟩
theorem Rq.more {w : World} {B B' : Nat} {Ai At Ab : Option Addr} {ni ci nt ct nb cb : Nat} {zs ts bs} (h : Rq w B Ai ni ci At nt ct Ab nb cb zs ts bs) (hB : B ≤ B') : Rq w B' Ai ni ci At nt ct Ab nb cb zs ts bs := ⟨h.ints.more hB, h.texts.more hB, h.blob.more hB⟩
theorem Rq.step {w w' : World} {B : Nat} {Ai At Ab : Option Addr} {ni ci nt ct nb cb : Nat} {zs ts bs} (h : Rq w B Ai ni ci At nt ct Ab nb cb zs ts bs) (hb : Below w.heap.size w w') (hB : B ≤ w.heap.size) : Rq w' B Ai ni ci At nt ct Ab nb cb zs ts bs := h.below (hb.mono hB)

/-- What makes a request none. -/
theorem chkQ_known {r : RQ} (h : knownE r.kind r.ver ≠ 0) : chkQ r = knownE r.kind r.ver := by unfold chkQ; rw [if_pos h]
theorem chkQ_bad {r : RQ} (h : knownE r.kind r.ver = 0) (h2 : ¬ mayQ r) : chkQ r = 1 := by unfold chkQ; rw [if_neg (by omega), if_neg h2]
theorem chkQ_good {r : RQ} (h : knownE r.kind r.ver = 0) (h2 : mayQ r) : chkQ r = 0 := by unfold chkQ; rw [if_neg (by omega), if_pos h2]
theorem mem_out {lo hi : Int} {zs : List Int} : anyOut lo hi zs = false ↔ ∀ n ∈ zs, lo ≤ n ∧ n ≤ hi := by
  unfold anyOut
  rw [Bool.eq_false_iff]
  simp only [ne_eq, List.any_eq_true, not_exists, not_and, Bool.or_eq_true, decide_eq_true_eq]
  constructor
  · intro h n hn; have := h n hn; omega
  · intro h n hn; have := h n hn; omega
theorem mem_long {m : Nat} {ts : List (List UInt8)} : anyLong m ts = false ↔ ∀ t ∈ ts, t.length ≤ m := by
  unfold anyLong
  rw [Bool.eq_false_iff]
  simp only [ne_eq, List.any_eq_true, not_exists, not_and, decide_eq_true_eq]
  constructor
  · intro h n hn; have := h n hn; omega
  · intro h n hn; have := h n hn; omega

/-- The nine looks at a request. -/
structure Looks (r : RQ) (a b c d e f g h i : Bool) : Prop where
  a : (decide (r.id < 0) || decide (1099511627776 < r.id)) = a
  b : decide (64 < r.who.length) = b
  c : (decide (r.ver < 2) && decide (r.who ≠ [])) = c
  d : decide (r.ints.length ≠ shI r.kind) = d
  e : anyOut (-1) 1099511627776 r.ints = e
  f : decide (r.texts.length < shT r.kind) = f
  g : decide (shT r.kind + shM r.kind < r.texts.length) = g
  h : anyLong 64 r.texts = h
  i : decide (shB r.kind < r.blob.length) = i
theorem mayQ_iff {r : RQ} {a b c d e f g h i : Bool} (L : Looks r a b c d e f g h i) : mayQ r ↔ (a || b || c || d || e || f || g || h || i) = false := by
  obtain ⟨rfl, rfl, rfl, rfl, rfl, rfl, rfl, rfl, rfl⟩ := L
  simp only [Bool.or_eq_false_iff, Bool.and_eq_false_iff, decide_eq_false_iff_not, mem_out, mem_long, ne_eq, Decidable.not_not, Int.not_lt, Nat.not_lt]
  unfold mayQ
  constructor
  · rintro ⟨⟨h1, h2⟩, ⟨h3, h4⟩, ⟨h5, h6⟩, ⟨h7, h8, h9⟩, h10⟩
    refine ⟨⟨⟨⟨⟨⟨⟨⟨⟨h1, h2⟩, h3⟩, ?_⟩, h5⟩, h6⟩, h7⟩, h8⟩, h9⟩, h10⟩
    by_cases hv : r.ver < 2
    · exact .inr (h4 hv)
    · exact .inl (by omega)
  · rintro ⟨⟨⟨⟨⟨⟨⟨⟨⟨h1, h2⟩, h3⟩, h4⟩, h5⟩, h6⟩, h7⟩, h8⟩, h9⟩, h10⟩
    refine ⟨⟨h1, h2⟩, ⟨h3, fun hv => ?_⟩, ⟨h5, h6⟩, ⟨h7, h8, h9⟩, h10⟩
    rcases h4 with h4 | h4
    · omega
    · exact h4
theorem chkQ_is {r : RQ} {a b c d e f g h i : Bool} (L : Looks r a b c d e f g h i) (hk : knownE r.kind r.ver = 0) : chkQ r = if (a || b || c || d || e || f || g || h || i) = false then 0 else 1 := by
  split
  · rename_i h0; exact chkQ_good hk ((mayQ_iff L).2 h0)
  · rename_i h0; exact chkQ_bad hk (fun h1 => h0 ((mayQ_iff L).1 h1))

/-- The cells of what has been boxed, wherever what lay there lies as it lay. -/
theorem boxed7 (w : World) (T : TypeId) (a0 a1 a2 a3 a4 a5 a6 : Value) {w' : World} (h : Below (w.heap.size + 1) (w.alloc (.cells #[a0, a1, a2, a3, a4, a5, a6] T)) w') :
    w'.cell? ⟨w.heap.size, 0, none⟩ = some a0 ∧ w'.cell? ⟨w.heap.size, 1, none⟩ = some a1 ∧ w'.cell? ⟨w.heap.size, 2, none⟩ = some a2 ∧ w'.cell? ⟨w.heap.size, 3, none⟩ = some a3 ∧ w'.cell? ⟨w.heap.size, 4, none⟩ = some a4 ∧ w'.cell? ⟨w.heap.size, 5, none⟩ = some a5 ∧ w'.cell? ⟨w.heap.size, 6, none⟩ = some a6 := by
  have key : ∀ j, w'.cell? ⟨w.heap.size, j, none⟩ = (#[a0, a1, a2, a3, a4, a5, a6])[j]? := fun j => by
    rw [h.cell (p := ⟨w.heap.size, j, none⟩) (Nat.lt_succ_self _), cell_of_row _ w.heap.size j _ _ _ (heap_alloc_new w _)]
  exact ⟨key 0, key 1, key 2, key 3, key 4, key 5, key 6⟩
theorem boxed4 (w : World) (T : TypeId) (a0 a1 a2 a3 : Value) {w' : World} (h : Below (w.heap.size + 1) (w.alloc (.cells #[a0, a1, a2, a3] T)) w') :
    w'.cell? ⟨w.heap.size, 0, none⟩ = some a0 ∧ w'.cell? ⟨w.heap.size, 1, none⟩ = some a1 ∧ w'.cell? ⟨w.heap.size, 2, none⟩ = some a2 ∧ w'.cell? ⟨w.heap.size, 3, none⟩ = some a3 := by
  have key : ∀ j, w'.cell? ⟨w.heap.size, j, none⟩ = (#[a0, a1, a2, a3])[j]? := fun j => by
    rw [h.cell (p := ⟨w.heap.size, j, none⟩) (Nat.lt_succ_self _), cell_of_row _ w.heap.size j _ _ _ (heap_alloc_new w _)]
  exact ⟨key 0, key 1, key 2, key 3⟩

theorem set4 {w : World} {b : Nat} {T : TypeId} {x0 x1 x2 x3 a0 a1 a2 a3 : Value} (h : w.heap[b]? = some (.cells #[x0, x1, x2, x3] T (0, 0))) :
    ((((w.setCell ⟨b, 0, none⟩ a0).setCell ⟨b, 1, none⟩ a1).setCell ⟨b, 2, none⟩ a2).setCell ⟨b, 3, none⟩ a3).heap[b]? = some (.cells #[a0, a1, a2, a3] T (0, 0)) :=
  heap_setCell_same _ b 3 _ _ _ (heap_setCell_same _ b 2 _ _ _ (heap_setCell_same _ b 1 _ _ _ (heap_setCell_same _ b 0 _ _ _ h)))
theorem of4 {w : World} {b : Nat} {T : TypeId} {a0 a1 a2 a3 : Value} (h : w.heap[b]? = some (.cells #[a0, a1, a2, a3] T (0, 0))) :
    w.cell? ⟨b, 0, none⟩ = some a0 ∧ w.cell? ⟨b, 1, none⟩ = some a1 ∧ w.cell? ⟨b, 2, none⟩ = some a2 ∧ w.cell? ⟨b, 3, none⟩ = some a3 := by
  have key : ∀ j, w.cell? ⟨b, j, none⟩ = (#[a0, a1, a2, a3])[j]? := fun j => cell_of_row _ b j _ _ _ h
  exact ⟨key 0, key 1, key 2, key 3⟩
theorem Bey.lt {w : World} {f : Value} {b1 b2 : Nat} {lo hi : Int} (h : Bey w f b1 b2 lo hi) : b1 < w.heap.size ∧ b2 < w.heap.size := ⟨block_lt_of_cell h.2.1, block_lt_of_cell h.2.2⟩
theorem Bey.set {w : World} {f : Value} {b1 b2 : Nat} {lo hi : Int} (h : Bey w f b1 b2 lo hi) {p : Addr} (h1 : p.block < b1) (h2 : p.block < b2) (x : Value) : Bey (w.setCell p x) f b1 b2 lo hi := by
  have key : ∀ b, p.block < b → (w.setCell p x).cell? ⟨b, 0, none⟩ = w.cell? ⟨b, 0, none⟩ := fun b hb => by
    unfold World.cell?
    rw [Below.heap_setCell w p x b (by omega)]
  exact ⟨h.1, (key _ h1).trans h.2.1, (key _ h2).trans h.2.2⟩
theorem Bey.keep {w w' : World} {f : Value} {b1 b2 : Nat} {lo hi : Int} (h : Bey w f b1 b2 lo hi) {B : Nat} (hb : Below B w w') (h1 : b1 < B) (h2 : b2 < B) : Bey w' f b1 b2 lo hi :=
  ⟨h.1, (hb.cell (p := ⟨b1, 0, none⟩) h1).trans h.2.1, (hb.cell (p := ⟨b2, 0, none⟩) h2).trans h.2.2⟩
theorem badI {w w' : World} {C z : Int} (h : C = z) (hb : Below w.heap.size w w') : Says w (.int .i64 C) (.returned (.int .i64 z)) w' := ⟨by rw [h], hb⟩
end Go.Proofs.YtlijagbklopipaaDoor
