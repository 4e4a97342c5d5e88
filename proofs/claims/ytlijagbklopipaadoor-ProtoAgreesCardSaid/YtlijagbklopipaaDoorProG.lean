/-
  Slices of numbers and of texts in memory, as the walks of layer 6 speak of them: what can be read, what is the call's own, and append of one. Conditions: none beyond those that each theorem states.
-/
import Derived.RangeFuncBox
import Derived.Test.YtlijagbklopipaaDoorPrim
namespace Go.Proofs.YtlijagbklopipaaDoor
open Go.RowKit
set_option linter.unusedVariables false

/-- The slice (A, n, c) reads as the values vs, and lies below block B. -/
structure Rx (w : World) (B : Nat) (A : Option Addr) (n c : Nat) (vs : List Value) : Prop where
  len : vs.length = n
  cap : n ≤ c
  top : c ≤ 9223372036854775807
  cells : 0 < n → ∃ b off, A = some ⟨b, off, none⟩ ∧ b < B ∧ ∀ j, j < n → w.cell? ⟨b, off + j, none⟩ = vs[j]?

theorem Rx.nil (w : World) (B : Nat) : Rx w B none 0 0 [] := ⟨rfl, Nat.le_refl _, by omega, fun h => absurd h (by omega)⟩
theorem Rx.below {w w' : World} {B : Nat} {A : Option Addr} {n c : Nat} {vs : List Value} (h : Rx w B A n c vs) (hb : Below B w w') : Rx w' B A n c vs :=
  ⟨h.len, h.cap, h.top, fun hn => by
    obtain ⟨b, off, e, hlt, hc⟩ := h.cells hn
    exact ⟨b, off, e, hlt, fun j hj => (hb.cell (p := ⟨b, off + j, none⟩) hlt).trans (hc j hj)⟩⟩
theorem Rx.more {w : World} {B B' : Nat} {A : Option Addr} {n c : Nat} {vs : List Value} (h : Rx w B A n c vs) (hB : B ≤ B') : Rx w B' A n c vs :=
  ⟨h.len, h.cap, h.top, fun hn => by
    obtain ⟨b, off, e, hlt, hc⟩ := h.cells hn
    exact ⟨b, off, e, by omega, hc⟩⟩
theorem Rx.lit (w : World) (t : TypeId) (vs : List Value) (hl : vs.length ≤ 9223372036854775807) : Rx (w.alloc (.cells vs.toArray t)) (w.heap.size + 1) (some ⟨w.heap.size, 0, none⟩) vs.length vs.length vs := by
  refine ⟨rfl, Nat.le_refl _, hl, fun _ => ⟨w.heap.size, 0, rfl, by omega, fun j hj => ?_⟩⟩
  rw [cell_of_row _ w.heap.size (0 + j) vs.toArray t (0, 0) (heap_alloc_new w _)]
  simp

/-- Numbers, and texts, as values. -/
def iv (zs : List Int) : List Value := zs.map (Value.int .i64)
def sv (ts : List (List UInt8)) : List Value := ts.map fun t => Value.string (strOf t)
theorem iv_at {zs : List Int} {j : Nat} (h : j < zs.length) : (iv zs)[j]? = some (.int .i64 (zs.getD j 0)) := by simp [iv, h]
theorem sv_at {ts : List (List UInt8)} {j : Nat} (h : j < ts.length) : (sv ts)[j]? = some (.string (strOf (ts.getD j []))) := by simp [sv, h]
theorem iv_len (zs : List Int) : (iv zs).length = zs.length := by simp [iv]
theorem sv_len (ts : List (List UInt8)) : (sv ts).length = ts.length := by simp [sv]
theorem iv_snoc (zs : List Int) (z : Int) : iv zs ++ [.int .i64 z] = iv (zs ++ [z]) := by simp [iv]
theorem sv_snoc (ts : List (List UInt8)) (t : List UInt8) : sv ts ++ [.string (strOf t)] = sv (ts ++ [t]) := by simp [sv]

/-- The slice (A, n, c) is the call's own, from block B on, and holds vs. -/
def Ow (e : TypeId) (w : World) (B : Nat) (A : Option Addr) (n c : Nat) (vs : List Value) : Prop := w.ownsRow B e 1 (.slice A n c) n vs
namespace Ow
variable {e : TypeId} {w w' : World} {B B' : Nat} {A : Option Addr} {n c : Nat} {vs : List Value}
theorem nil (e : TypeId) (w : World) (B : Nat) : Ow e w B none 0 0 [] := World.ownsRow_nil w B e 1
theorem len (h : Ow e w B A n c vs) : vs.length = n := by simpa using h.1
theorem rx (h : Ow e w B A n c vs) : Rx w w.heap.size A n c vs := by
  rcases h.2 with ⟨hv, h0⟩ | ⟨g, cap, cur, hv, hg, hh, hn, hc, hcs, htake⟩
  · injection hv with h1 h2 h3
    subst h1; subst h2; subst h3
    exact ⟨h.len, Nat.le_refl _, by omega, fun hh => absurd hh (by omega)⟩
  · injection hv with h1 h2 h3
    subst h1; subst h3
    refine ⟨h.len, hn, by simpa [maxLen] using hc, fun h0 => ⟨g, 0, rfl, (Array.getElem?_eq_some_iff.1 hh).1, fun j hj => ?_⟩⟩
    rw [cell_of_row w g (0 + j) cur e (0, 0) hh, ← htake, List.getElem?_take, if_pos (by omega)]
    simp
theorem kept {row : Option Nat} (h : Ow e w B A n c vs) (hg : w.grownBy w' row) (hr : ∀ k, row = some k → k < B) : Ow e w' B A n c vs := by
  refine World.ownsRow.kept h hg ?_
  rcases hk : Value.ownBlock (.slice A n c) with _ | k
  · exact .inl rfl
  · refine .inr fun e => ?_
    have h1 := (World.ownsRow.lt h k hk).1
    have h2 := hr k e.symm
    omega
theorem step (h : Ow e w B A n c vs) (hb : Below w.heap.size w w') : Ow e w' B A n c vs := by
  refine ⟨h.1, ?_⟩
  rcases h.2 with hn | ⟨g, cap, cur, hv, hg, hh, r⟩
  · exact .inl hn
  · exact .inr ⟨g, cap, cur, hv, hg, (hb.block g (Array.getElem?_eq_some_iff.1 hh).1).trans hh, r⟩
theorem alloc (h : Ow e w B A n c vs) (o : Obj) : Ow e (w.alloc o) B A n c vs := World.ownsRow.alloc h o
end Ow

/-- append of one value that has just been laid in a block of its own. -/
theorem wpList_appV {P : Program} {w : World} {ops : Array Oper} {rest : List Oper} {o : Oper} {a : Act} {Q : Exit → Act → World → Prop} (hgd : o.guard = none) (s x : Operand) {t e : TypeId} {z : Value} {bytes : Nat}
    (ho : o.op = .call { callee := .builtin .append, args := #[s, x], argTypes := #[t, t] }) (ht : P.underlying t = some (.slice e)) (he : (P.info? e).map (fun i => (i.zero, i.size, i.bytes)) = some (some z, 1, bytes)) (hz : z.cells.size = 1) (hby : bytes ≤ 24)
    {B : Nat} {A : Option Addr} {n c : Nat} {vs : List Value} (hs : a.eval s = .slice A n c) (hown : Ow e w B A n c vs) {T : TypeId} {v : Value} (hv : v.oneCell' = true)
    (hx : a.eval x = .slice (some ⟨w.heap.size, 0, none⟩) 1 1) (hn : n ≤ 1000000000000) (hB : B ≤ w.heap.size)
    (h : ∀ A' c' w', Ow e w' B A' (n + 1) c' (vs ++ [v]) → Below B w w' → wpList P ops Q rest (a.put o.dst (.slice A' (n + 1) c')) w') : wpList P ops Q (o :: rest) a (w.alloc (.cells #[v] T)) := by
  refine wpList_plain hgd fun K hK => ?_
  obtain ⟨i, hi, hz0, hs0, hb0⟩ := info_parts he
  have hbytes : (n + 1) * bytes ≤ 140737488355328 := Nat.le_trans (Nat.mul_le_mul_left _ hby) (by omega)
  obtain ⟨v', w', hrun, h2, h3, _⟩ := run_append_own (P := P) (w.alloc (.cells #[v] T)) B t o.type e i z 1 bytes ht hi hz0 hs0 hb0 hz (by omega) (.slice A n c) n vs (World.ownsRow.alloc hown _) ⟨w.heap.size, 0, none⟩ 1 1 [v] (by simp)
    (by
      intro j u hj
      have : j = 0 := by
        have := (List.getElem?_eq_some_iff.1 hj).1
        simp at this
        omega
      subst this
      rw [add_plain, cell_of_row _ w.heap.size (0 + 0) #[v] T (0, 0) (heap_alloc_new w _)]
      simpa using hj)
    (fun u hu => by rcases List.mem_singleton.1 hu with rfl; exact hv) (by simp only [maxLen]; omega) hbytes (by simp; omega)
  have hbel : Below B w w' := ((Below.refl B w).alloc hB _).grown h3 (by simp; omega) fun k hk => (World.ownsRow.lt hown k hk).1
  have fin : ∃ A' c', v' = .slice A' (n + 1) c' := by
    rcases h2.2 with ⟨hv', h0⟩ | ⟨g, cap, cur, hv', _⟩
    · omega
    · exact ⟨_, _, hv'⟩
  obtain ⟨A', c', rfl⟩ := fin
  unfold Oper.wp execOp
  simp only [ho, resolve, invoke, builtin, Sem.run_bind, Sem.run_pure, Result.andThen_ok, List.map_toArray, List.map_cons, List.map_nil, hs, hx, hrun]
  exact hK _ _ (h A' c' w' h2 hbel)

theorem intInfo : (Tryd.prog.info? 3).map (fun i => (i.zero, i.size, i.bytes)) = some (some (.int .i64 0), 1, 8) := by kernel_rfl
theorem strInfo : (Tryd.prog.info? 9).map (fun i => (i.zero, i.size, i.bytes)) = some (some (.string ByteArray.empty), 1, 16) := by kernel_rfl

theorem grown_trans {a b c : World} {row : Option Nat} (h : a.grownBy b row) (k : b.grownBy c row) : a.grownBy c row :=
  ⟨k.os.trans h.os, k.tape.trans h.tape, k.output.trans h.output, Nat.le_trans h.size k.size, fun j hj hne => (k.block j (Nat.lt_of_lt_of_le hj h.size) hne).trans (h.block j hj hne)⟩
theorem grown_below {a b c : World} {row : Option Nat} (h : a.grownBy b row) (k : Below a.heap.size b c) : a.grownBy c row :=
  ⟨k.os.trans h.os, k.tape.trans h.tape, k.output.trans h.output, Nat.le_trans h.size k.size, fun j hj hne => (k.block j hj).trans (h.block j hj hne)⟩
theorem below_grown {a b : World} {row : Option Nat} (h : a.grownBy b row) {B : Nat} (hB : B ≤ a.heap.size) (hr : ∀ k, row = some k → B ≤ k) : Below B a b := (Below.refl B a).grown h hB hr
theorem grown_set (W : World) (b j : Nat) (v : Value) : W.grownBy (W.setCell ⟨b, j, none⟩ v) (some b) := by
  refine ⟨rfl, rfl, rfl, by rw [World.size_setCell]; exact Nat.le_refl _, fun k hk hne => Below.heap_setCell W ⟨b, j, none⟩ v k (fun e => hne (by rw [e]))⟩

/-- A reader's block stands so (T: its type); nothing else has turned. -/
structure Reads (T : TypeId) (w w' : World) (Bx : Nat) (A : Option Addr) (n c : Nat) (s : Int × Int) : Prop where
  grown : w.grownBy w' (some Bx)
  box : w'.heap[Bx]? = some (.cells #[.slice A n c, .int .i64 s.1, .int .i64 s.2] T (0, 0))
theorem Reads.cells {T : TypeId} {w w' : World} {Bx : Nat} {A : Option Addr} {n c : Nat} {s : Int × Int} (h : Reads T w w' Bx A n c s) :
    w'.cell? ⟨Bx, 0, none⟩ = some (.slice A n c) ∧ w'.cell? ⟨Bx, 1, none⟩ = some (.int .i64 s.1) ∧ w'.cell? ⟨Bx, 2, none⟩ = some (.int .i64 s.2) ∧ w'.frozen? ⟨Bx, 1, none⟩ = false ∧ w'.frozen? ⟨Bx, 2, none⟩ = false := by
  refine ⟨?_, ?_, ?_, ?_, ?_⟩
  · rw [cell_of_row _ Bx 0 _ _ _ h.box]; rfl
  · rw [cell_of_row _ Bx 1 _ _ _ h.box]; rfl
  · rw [cell_of_row _ Bx 2 _ _ _ h.box]; rfl
  · simp [World.frozen?, h.box]
  · simp [World.frozen?, h.box]
theorem Reads.refl {T : TypeId} {w : World} {Bx : Nat} {A : Option Addr} {n c : Nat} {s : Int × Int} (h : w.heap[Bx]? = some (.cells #[.slice A n c, .int .i64 s.1, .int .i64 s.2] T (0, 0))) : Reads T w w Bx A n c s := ⟨World.grownBy.refl w (some Bx), h⟩
theorem Reads.trans {T : TypeId} {w w1 w2 : World} {Bx : Nat} {A : Option Addr} {n c : Nat} {s t : Int × Int} (h : Reads T w w1 Bx A n c s) (k : Reads T w1 w2 Bx A n c t) : Reads T w w2 Bx A n c t := ⟨grown_trans h.grown k.grown, k.box⟩
theorem Reads.put {T : TypeId} {w : World} {Bx : Nat} {A : Option Addr} {n c : Nat} {s t : Int × Int} (h : w.heap[Bx]? = some (.cells #[.slice A n c, .int .i64 s.1, .int .i64 s.2] T (0, 0))) :
    Reads T w ((w.drew.setCell ⟨Bx, 1, none⟩ (.int .i64 t.1)).setCell ⟨Bx, 2, none⟩ (.int .i64 t.2)) Bx A n c t ∧ Reads T w ((w.drew.setCell ⟨Bx, 2, none⟩ (.int .i64 t.2)).setCell ⟨Bx, 1, none⟩ (.int .i64 t.1)) Bx A n c t := by
  have h0 : w.drew.heap[Bx]? = some (.cells #[.slice A n c, .int .i64 s.1, .int .i64 s.2] T (0, 0)) := h
  have g0 : w.grownBy w.drew (some Bx) := ⟨rfl, rfl, rfl, Nat.le_refl _, fun _ _ _ => rfl⟩
  constructor
  · refine ⟨grown_trans (grown_trans g0 (grown_set _ _ _ _)) (grown_set _ _ _ _), ?_⟩
    exact heap_setCell_same _ Bx 2 _ _ _ (heap_setCell_same _ Bx 1 _ _ _ h0)
  · refine ⟨grown_trans (grown_trans g0 (grown_set _ _ _ _)) (grown_set _ _ _ _), ?_⟩
    exact heap_setCell_same _ Bx 1 _ _ _ (heap_setCell_same _ Bx 2 _ _ _ h0)
/-- The same without a draw; and the error alone; and the place alone. -/
theorem Reads.put2 {T : TypeId} {w : World} {Bx : Nat} {A : Option Addr} {n c : Nat} {s t : Int × Int} (h : w.heap[Bx]? = some (.cells #[.slice A n c, .int .i64 s.1, .int .i64 s.2] T (0, 0))) :
    Reads T w ((w.setCell ⟨Bx, 1, none⟩ (.int .i64 t.1)).setCell ⟨Bx, 2, none⟩ (.int .i64 t.2)) Bx A n c t := by
  refine ⟨grown_trans (grown_set _ _ _ _) (grown_set _ _ _ _), ?_⟩
  exact heap_setCell_same _ Bx 2 _ _ _ (heap_setCell_same _ Bx 1 _ _ _ h)
theorem Reads.putE {T : TypeId} {w : World} {Bx : Nat} {A : Option Addr} {n c : Nat} {s : Int × Int} (h : w.heap[Bx]? = some (.cells #[.slice A n c, .int .i64 s.1, .int .i64 s.2] T (0, 0))) (e : Int) :
    Reads T w (w.setCell ⟨Bx, 2, none⟩ (.int .i64 e)) Bx A n c (s.1, e) := ⟨grown_set _ _ _ _, heap_setCell_same _ Bx 2 _ _ _ h⟩
theorem Reads.putA {T : TypeId} {w : World} {Bx : Nat} {A : Option Addr} {n c : Nat} {s : Int × Int} (h : w.heap[Bx]? = some (.cells #[.slice A n c, .int .i64 s.1, .int .i64 s.2] T (0, 0))) (a : Int) :
    Reads T w (w.setCell ⟨Bx, 1, none⟩ (.int .i64 a)) Bx A n c (a, s.2) := ⟨grown_set _ _ _ _, heap_setCell_same _ Bx 1 _ _ _ h⟩
def Gets (T : TypeId) (w : World) (Bx : Nat) (A : Option Addr) (n c : Nat) (V : Value) (s : Int × Int) (en : Ending) (w' : World) : Prop := en = .returned V ∧ Reads T w w' Bx A n c s
end Go.Proofs.YtlijagbklopipaaDoor
