/-
  Lists of slices of bytes in memory: what can be read, what is the call's own, and append of one. Conditions: none beyond those that each theorem states.
-/
import Derived.Deep.AppendLies
import Derived.Test.YtnffhhmfclcmjaaPrim
namespace Go.Proofs.Ytnffhhmfclcmjaa
open Go.RowKit
set_option linter.unusedVariables false

/-- The slice (A, n, c) of slices of bytes can be read as ls; all of it lies below block B. -/
structure Rl (w : World) (B : Nat) (A : Option Addr) (n c : Nat) (ls : List (List UInt8)) : Prop where
  len : ls.length = n
  cap : n ≤ c
  top : c ≤ 9223372036854775807
  cells : 0 < n → ∃ b off, A = some ⟨b, off, none⟩ ∧ b < B ∧ ∀ j, j < n → ∃ A' n' c', w.cell? ⟨b, off + j, none⟩ = some (.slice A' n' c') ∧ Rd w B A' n' c' (ls.getD j [])

theorem Rl.nil (w : World) (B : Nat) : Rl w B none 0 0 [] := ⟨rfl, Nat.le_refl _, by omega, fun h => absurd h (by omega)⟩
theorem Rl.below {w w' : World} {B : Nat} {A : Option Addr} {n c : Nat} {ls : List (List UInt8)} (h : Rl w B A n c ls) (hb : Below B w w') : Rl w' B A n c ls :=
  ⟨h.len, h.cap, h.top, fun hn => by
    obtain ⟨b, off, e, hlt, hc⟩ := h.cells hn
    refine ⟨b, off, e, hlt, fun j hj => ?_⟩
    obtain ⟨A', n', c', h1, h2⟩ := hc j hj
    exact ⟨A', n', c', (hb.cell (p := ⟨b, off + j, none⟩) hlt).trans h1, h2.below hb⟩⟩
theorem Rl.more {w : World} {B B' : Nat} {A : Option Addr} {n c : Nat} {ls : List (List UInt8)} (h : Rl w B A n c ls) (hB : B ≤ B') : Rl w B' A n c ls :=
  ⟨h.len, h.cap, h.top, fun hn => by
    obtain ⟨b, off, e, hlt, hc⟩ := h.cells hn
    refine ⟨b, off, e, by omega, fun j hj => ?_⟩
    obtain ⟨A', n', c', h1, h2⟩ := hc j hj
    exact ⟨A', n', c', h1, h2.more hB⟩⟩
theorem Rl.step {w w' : World} {B : Nat} {A : Option Addr} {n c : Nat} {ls : List (List UInt8)} (h : Rl w B A n c ls) (hb : Below w.heap.size w w') (hB : B ≤ w.heap.size) : Rl w' B A n c ls := h.below (hb.mono hB)

/-- Where bytes may lie: from block B on; below it. -/
def Above (B : Nat) : Nat → Prop := fun b => B ≤ b
def Under (B : Nat) : Nat → Prop := fun b => b < B
/-- A slice of bytes that lies in a block of D, and not in block g. -/
def Off (D : Nat → Prop) (g : Option Nat) (A : Option Addr) (n : Nat) : Prop := 0 < n → ∀ a : Addr, A = some a → D a.block ∧ some a.block ≠ g
/-- An element: it reads as x, and lies in a block of D, and not in block g. -/
def El (w : World) (D : Nat → Prop) (g : Option Nat) (v : Value) (x : List UInt8) : Prop := ∃ A n c, v = .slice A n c ∧ Rd w w.heap.size A n c x ∧ Off D g A n

theorem El.keep {w w' : World} {D : Nat → Prop} {g : Option Nat} {v : Value} {x : List UInt8} (h : El w D g v x) (hs : w.heap.size ≤ w'.heap.size) (hk : ∀ (p : Addr) (z : Int), p.block < w.heap.size → some p.block ≠ g → w.cell? p = some (.int .u8 z) → w'.cell? p = some (.int .u8 z)) {g' : Option Nat} (hg : ∀ b, b < w.heap.size → some b ≠ g → some b ≠ g') : El w' D g' v x := by
  obtain ⟨A, n, c, rfl, hr, ho⟩ := h
  refine ⟨A, n, c, rfl, ⟨hr.len, hr.cap, hr.top, fun hn => ?_⟩, fun hn a ha => ?_⟩
  · obtain ⟨b, off, rfl, hlt, hc⟩ := hr.cells hn
    exact ⟨b, off, rfl, by omega, fun j hj => hk ⟨b, off + j, none⟩ _ hlt (ho hn ⟨b, off, none⟩ rfl).2 (hc j hj)⟩
  · obtain ⟨b, off, rfl, hlt, hc⟩ := hr.cells hn
    cases ha
    exact ⟨(ho hn ⟨b, off, none⟩ rfl).1, hg _ hlt (ho hn ⟨b, off, none⟩ rfl).2⟩

/-- The slice (A, n, c) of slices of bytes is the call's own (its row lies at block B or later) and holds ls. -/
def Ol (w : World) (B : Nat) (D : Nat → Prop) (A : Option Addr) (n c : Nat) (ls : List (List UInt8)) : Prop :=
  ls.length = n ∧ ∃ vs, w.ownsRow B 22 1 (.slice A n c) n vs ∧ ∀ j v, vs[j]? = some v → El w D (Value.ownBlock (.slice A n c)) v (ls.getD j [])

theorem Ol.nil (w : World) (B : Nat) (D : Nat → Prop) : Ol w B D none 0 0 [] := ⟨rfl, [], World.ownsRow_nil w B _ 1, fun j v h => by simp at h⟩
theorem Ol.kept {w w' : World} {B : Nat} {D : Nat → Prop} {A : Option Addr} {n c : Nat} {ls : List (List UInt8)} (h : Ol w B D A n c ls) (hb : Below w.heap.size w w') : Ol w' B D A n c ls := by
  obtain ⟨hl, vs, ho, he⟩ := h
  refine ⟨hl, vs, ⟨ho.1, ?_⟩, fun j v hv => (he j v hv).keep hb.size (fun p u hp _ h => (hb.cell hp).trans h) (fun b _ hb => hb)⟩
  rcases ho.2 with hn | ⟨g, cap, cur, hv, hg, hh, r⟩
  · exact .inl hn
  · refine .inr ⟨g, cap, cur, hv, hg, ?_, r⟩
    exact (hb.block g (Array.getElem?_eq_some_iff.1 hh).1).trans hh
theorem Ol.less {w : World} {B B' : Nat} {D D' : Nat → Prop} {A : Option Addr} {n c : Nat} {ls : List (List UInt8)} (h : Ol w B D A n c ls) (hB : B' ≤ B) (hE : ∀ b, D b → D' b) : Ol w B' D' A n c ls := by
  obtain ⟨hl, vs, ho, he⟩ := h
  refine ⟨hl, vs, ⟨ho.1, ?_⟩, fun j v hv => by
    obtain ⟨A1, n1, c1, e, hr, hoff⟩ := he j v hv
    exact ⟨A1, n1, c1, e, hr, fun hn a ha => ⟨hE _ (hoff hn a ha).1, (hoff hn a ha).2⟩⟩⟩
  rcases ho.2 with hn | ⟨g, cap, cur, hv, hg, r⟩
  · exact .inl hn
  · exact .inr ⟨g, cap, cur, hv, by omega, r⟩
theorem Ol.rl {w : World} {B : Nat} {D : Nat → Prop} {A : Option Addr} {n c : Nat} {ls : List (List UInt8)} (h : Ol w B D A n c ls) : Rl w w.heap.size A n c ls := by
  obtain ⟨hl, vs, ho, he⟩ := h
  rcases ho.2 with ⟨hv, h0⟩ | ⟨g, cap, cur, hv, hg, hh, hnc, hcm, hcs, htake⟩
  · cases hv
    exact ⟨hl, by omega, by omega, fun h => absurd h (by omega)⟩
  · injection hv with h1 h2 h3
    subst h1
    subst h3
    have hlt := (Array.getElem?_eq_some_iff.1 hh).1
    refine ⟨hl, hnc, by simpa [maxLen] using hcm, fun hn => ⟨g, 0, rfl, hlt, fun j hj => ?_⟩⟩
    have hvl : vs.length = n := by simpa using ho.1
    obtain ⟨v, hv⟩ : ∃ v, vs[j]? = some v := ⟨vs[j]'(by omega), List.getElem?_eq_getElem _⟩
    obtain ⟨A', n', c', rfl, hr, _⟩ := he j v hv
    refine ⟨A', n', c', ?_, hr⟩
    rw [Nat.zero_add, ho.cellAt j (by omega), hv]

theorem bytesInfo : (Try.prog.info? 22).map (fun i => (i.zero, i.size, i.bytes)) = some (some (.slice none 0 0), 1, 24) := by kernel_rfl

/-- append of one slice of bytes. -/
theorem run_appL {w : World} {B : Nat} {D : Nat → Prop} {A : Option Addr} {n c : Nat} {ls : List (List UInt8)} (hown : Ol w B D A n c ls) {v : Value} {x : List UInt8} (hel : El w D (Value.ownBlock (.slice A n c)) v x) {ad : Addr} {c1 : Nat}
    (hc : ∀ j u, [v][j]? = some u → w.cell? (ad.add j) = some u) (hn : n ≤ 100000000000) (hB : B ≤ w.heap.size) :
    ∃ A' c' w', (Builtin.append_ #[28, 28] 28 #[.slice A n c, .slice (some ad) 1 c1]).run Try.prog w = .ok (.slice A' (n + 1) c') w' ∧ Ol w' B D A' (n + 1) c' (ls ++ [x]) ∧
      w.grownBy w' (Value.ownBlock (.slice A n c)) ∧ Below B w w' ∧ (∀ k, Value.ownBlock (.slice A' (n + 1) c') = some k → Value.ownBlock (.slice A n c) = some k ∨ k = w.heap.size) := by
  obtain ⟨hl, vs, ho, he⟩ := hown
  obtain ⟨i, hi, hz, hs, hb⟩ := info_parts bytesInfo
  have hone : v.oneCell' = true := by obtain ⟨_, _, _, rfl, _⟩ := hel; rfl
  have hvl : vs.length = n := by simpa using ho.1
  obtain ⟨g, cap, w', hrun, h2, h3, h4, h5⟩ := run_append_lies (P := Try.prog) w 28 28 B 22 i (.slice none 0 0) 1 24 Try.underlying28 hi hz hs hb rfl (by omega) (.slice A n c) n vs ho ad 1 c1 [v] rfl hc
    (fun u hu => by rcases List.mem_singleton.1 hu with rfl; exact hone) (by omega) (by simp only [maxLen]; omega) (by omega) hB _ rfl
  have hkeep : ∀ {u : Value} {y : List UInt8}, El w D (Value.ownBlock (.slice A n c)) u y → El w' D (some g) u y := fun h => h.keep h3.size (fun p u hp hne h => (h3.cell_far p hp hne).trans h) (fun b hb hne => by
    rcases h4 with h4 | h4
    · rw [← h4]; exact hne
    · rw [h4]; intro e; cases e; omega)
  refine ⟨_, cap, w', hrun, ⟨by simp [hl], vs ++ [v], h2, fun j u hu => ?_⟩, h3, ?_⟩
  · show El w' D (some g) u _
    rcases Nat.lt_or_ge j n with hj | hj
    · rw [List.getElem?_append_left (by omega)] at hu
      have := hkeep (he j u hu)
      rw [List.getD_eq_getElem?_getD, List.getElem?_append_left (by omega), ← List.getD_eq_getElem?_getD]
      exact this
    · have hjn : j = n := by
        have := (List.getElem?_eq_some_iff.1 hu).1
        simp at this
        omega
      subst hjn
      rw [List.getElem?_append_right (by omega), hvl, Nat.sub_self] at hu
      have hu' : v = u := by simpa using hu
      subst hu'
      have := hkeep hel
      rw [List.getD_eq_getElem?_getD, List.getElem?_append_right (by omega), hl, Nat.sub_self]
      exact this
  · refine ⟨(Below.refl B w).grown h3 hB fun k hk => (ho.lt k hk).1, fun k hk => ?_⟩
    have hgk : g = k := by simpa [Value.ownBlock] using hk
    subst hgk
    exact h4

/-- A store into a box that is neither the row's block nor a byte's. -/
theorem Ol.set {w : World} {B : Nat} {D : Nat → Prop} {A : Option Addr} {n c : Nat} {ls : List (List UInt8)} (h : Ol w B D A n c ls) {b : Nat} {V0 : Value} {t : TypeId} (hbox : w.heap[b]? = some (.cells #[V0] t (0, 0))) (hne : ∀ g, Value.ownBlock (.slice A n c) = some g → g ≠ b)
    (hni : ∀ z, V0 ≠ .int .u8 z) (V : Value) : Ol (w.setCell ⟨b, 0, none⟩ V) B D A n c ls := by
  obtain ⟨hlen, vs, ho, he⟩ := h
  refine ⟨hlen, vs, ⟨ho.1, ?_⟩, fun j v hv => (he j v hv).keep (by rw [World.size_setCell]; exact Nat.le_refl _) (fun p z hp _ hz => ?_) (fun b _ hb => hb)⟩
  · rcases ho.2 with hn | ⟨g, cap, cur, hv, hgb, hh, r⟩
    · exact .inl hn
    · refine .inr ⟨g, cap, cur, hv, hgb, ?_, r⟩
      exact (Below.heap_setCell w ⟨b, 0, none⟩ V g (hne g (by rw [hv]; rfl))).trans hh
  · by_cases hp : p.block = b
    · exfalso
      obtain ⟨pb, po, ps⟩ := p
      simp only at hp
      subst hp
      have hps : ps = none := by simpa using World.cell?_spot hz
      subst hps
      rw [cell_of_row w pb po _ _ _ hbox] at hz
      rcases po with _ | po
      · simp at hz
        exact hni z hz
      · simp at hz
    · exact (World.cell?_of_block (Below.heap_setCell w ⟨b, 0, none⟩ V p.block hp)).trans hz

/-- Bytes that were made behind a list are apart from its row. -/
theorem El.fresh {w w1 : World} {B E : Nat} {D' : Nat → Prop} {A : Option Addr} {n c : Nat} {ls : List (List UInt8)} (h : Ol w B D' A n c ls) {A1 : Option Addr} {n1 c1 : Nat} {x : List UInt8} (ho : Own w1 w.heap.size A1 n1 c1 x) (hE : E ≤ w.heap.size) : El w1 (Above E) (Value.ownBlock (.slice A n c)) (.slice A1 n1 c1) x := by
  refine ⟨A1, n1, c1, rfl, ho.rd, fun h0 a ha => ?_⟩
  obtain ⟨g, hg, hge, _⟩ := ho.spot h0
  rw [hg] at ha
  cases ha
  refine ⟨Nat.le_trans hE hge, fun e => ?_⟩
  obtain ⟨_, vs, hr, _⟩ := h
  have := (hr.lt g e.symm).2
  omega
/-- Bytes that lie below the call are apart from a list of the call's own. -/
theorem El.old {w : World} {B : Nat} {D : Nat → Prop} {A : Option Addr} {n c : Nat} {ls : List (List UInt8)} (h : Ol w B D A n c ls) {A1 : Option Addr} {n1 c1 : Nat} {x : List UInt8} (hr : Rd w B A1 n1 c1 x) (hB : B ≤ w.heap.size) : El w (Under B) (Value.ownBlock (.slice A n c)) (.slice A1 n1 c1) x := by
  refine ⟨A1, n1, c1, rfl, hr.more hB, fun h0 a ha => ?_⟩
  obtain ⟨b, off, hb, hlt, _⟩ := hr.cells h0
  rw [hb] at ha
  cases ha
  refine ⟨hlt, fun e => ?_⟩
  obtain ⟨_, vs, hr, _⟩ := h
  have := (hr.lt b e.symm).1
  omega

theorem wpList_appLG {w : World} {ops : Array Oper} {rest : List Oper} {o : Oper} {a : Act} {Q : Exit → Act → World → Prop} (hgd : o.guard = none) (s x : Operand)
    (hop : o.op = .call { callee := .builtin .append, args := #[s, x], argTypes := #[28, 28] })
    {B : Nat} {D : Nat → Prop} {A : Option Addr} {n c : Nat} {ls : List (List UInt8)} (hs : a.eval s = .slice A n c) (hown : Ol w B D A n c ls) {v : Value} {y : List UInt8} (hx : a.eval x = .slice (some ⟨w.heap.size, 0, none⟩) 1 1)
    (hel : El w D (Value.ownBlock (.slice A n c)) v y) (hn : n ≤ 100000000000) (hB : B ≤ w.heap.size) {T : TypeId}
    (h : ∀ A' c' w', Ol w' B D A' (n + 1) c' (ls ++ [y]) → (w.alloc (.cells #[v] T)).grownBy w' (Value.ownBlock (.slice A n c)) → Below B w w' → wpList Try.prog ops Q rest (a.put o.dst (.slice A' (n + 1) c')) w') : wpList Try.prog ops Q (o :: rest) a (w.alloc (.cells #[v] T)) := by
  have hb := (Below.refl w.heap.size w).alloc (Nat.le_refl _) (.cells #[v] T)
  have hvc : ∀ j u, [v][j]? = some u → (w.alloc (.cells #[v] T)).cell? ((⟨w.heap.size, 0, none⟩ : Addr).add j) = some u := by
    intro j u hu
    rcases j with _ | j
    · rw [add_plain, cell_of_row _ w.heap.size (0 + 0) _ _ _ (heap_alloc_new w _)]
      simpa using hu
    · simp at hu
  obtain ⟨A', c', w', hr', h2, h3, h4, _⟩ := run_appL (hown.kept hb) (hel.keep hb.size (fun p u hp _ h => (hb.cell hp).trans h) (fun b _ h => h)) hvc hn (Nat.le_trans hB hb.size) (c1 := 1)
  refine wpList_plain hgd fun K hK => ?_
  have hr2 : ∀ ty, (Builtin.append_ #[28, 28] ty #[.slice A n c, .slice (some ⟨w.heap.size, 0, none⟩) 1 1]).run Try.prog (w.alloc (.cells #[v] T)) = .ok (.slice A' (n + 1) c') w' := fun ty => hr'
  unfold Oper.wp execOp
  simp only [hop, resolve, invoke, builtin, Sem.run_bind, Sem.run_pure, Result.andThen_ok, List.map_toArray, List.map_cons, List.map_nil, hs, hx, hr2]
  exact hK _ _ (h A' c' w' h2 h3 ((hb.mono hB).trans h4))
theorem wpList_appL {w : World} {ops : Array Oper} {rest : List Oper} {o : Oper} {a : Act} {Q : Exit → Act → World → Prop} (hgd : o.guard = none) (s x : Operand)
    (hop : o.op = .call { callee := .builtin .append, args := #[s, x], argTypes := #[28, 28] })
    {B : Nat} {D : Nat → Prop} {A : Option Addr} {n c : Nat} {ls : List (List UInt8)} (hs : a.eval s = .slice A n c) (hown : Ol w B D A n c ls) {v : Value} {y : List UInt8} (hx : a.eval x = .slice (some ⟨w.heap.size, 0, none⟩) 1 1)
    (hel : El w D (Value.ownBlock (.slice A n c)) v y) (hn : n ≤ 100000000000) (hB : B ≤ w.heap.size) {T : TypeId}
    (h : ∀ A' c' w', Ol w' B D A' (n + 1) c' (ls ++ [y]) → Below B w w' → wpList Try.prog ops Q rest (a.put o.dst (.slice A' (n + 1) c')) w') : wpList Try.prog ops Q (o :: rest) a (w.alloc (.cells #[v] T)) :=
  wpList_appLG hgd s x hop hs hown hx hel hn hB fun A' c' w' h1 _ h2 => h A' c' w' h1 h2
/-- append of bytes, with what is kept told in full. -/
theorem wpList_appG {w : World} {ops : Array Oper} {rest : List Oper} {o : Oper} {a : Act} {Q : Exit → Act → World → Prop} (hgd : o.guard = none) (s x : Operand)
    (ho : o.op = .call { callee := .builtin .append, args := #[s, x], argTypes := #[22, 22] })
    {B : Nat} {A : Option Addr} {n c : Nat} {l : List UInt8} (hs : a.eval s = .slice A n c) (hown : Own w B A n c l)
    {B2 : Nat} {A2 : Option Addr} {m c2 : Nat} {l2 : List UInt8} (hx : a.eval x = .slice A2 m c2) (hr : Rd w B2 A2 m c2 l2) (hbytes : n + m ≤ 140737488355328) (hB : B ≤ w.heap.size)
    (h : ∀ A' c' w', Own w' B A' (n + m) c' (l ++ l2) → w.grownBy w' (Value.ownBlock (.slice A n c)) → Below B w w' → wpList Try.prog ops Q rest (a.put o.dst (.slice A' (n + m) c')) w') : wpList Try.prog ops Q (o :: rest) a w := by
  refine wpList_plain hgd fun K hK => ?_
  obtain ⟨A', c', w', hr', h2, h3⟩ := run_app (P := Try.prog) (ty := o.type) Try.underlying22 byteInfo hown hr hbytes hB
  unfold Oper.wp execOp
  simp only [ho, resolve, invoke, builtin, Sem.run_bind, Sem.run_pure, Result.andThen_ok, List.map_toArray, List.map_cons, List.map_nil, hs, hx, hr']
  exact hK _ _ (h A' c' w' h2 h3 (below_of_own hown hB h3))
end Go.Proofs.Ytnffhhmfclcmjaa
