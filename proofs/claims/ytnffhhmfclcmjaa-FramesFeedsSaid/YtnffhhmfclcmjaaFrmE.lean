/-
  The iterator of frames.each: whatever is kept between rounds, body by body.
-/
import Derived.Test.YtnffhhmfclcmjaaFrmW
import Derived.Test.YtnffhhmfclcmjaaLst
import Derived.Test.YtnffhhmfclcmjaaRng
import Derived.WalkMore
namespace Go.Proofs.Ytnffhhmfclcmjaa
open Go.RowKit Go.Shelf
set_option linter.unusedVariables false
attribute [local go_sem] Oper.semAt_some

/-- Between two rounds: the bodies so far in l's box, what is behind in rest's box, what is ahead in b's box; what lay below as it lay. -/
def St (w0 : World) (Bl Br Bb : Nat) (ls : List (List UInt8)) (VR VB : Value) (W : World) : Prop :=
  (∃ A n c, W.heap[Bl]? = some (.cells #[.slice A n c] 28 (0, 0)) ∧ Ol W w0.heap.size (Above w0.heap.size) A n c ls ∧ (∀ g, Value.ownBlock (.slice A n c) = some g → g ≠ Bl ∧ g ≠ Br ∧ g ≠ Bb)) ∧
  (W.heap[Br]? = some (.cells #[VR] 22 (0, 0)) ∧ ∃ A n c, VR = .slice A n c) ∧ W.heap[Bb]? = some (.cells #[VB] 22 (0, 0)) ∧ Below w0.heap.size w0 W

theorem box_cell {W : World} {b : Nat} {v : Value} {t : TypeId} (h : W.heap[b]? = some (.cells #[v] t (0, 0))) : W.cell? ⟨b, 0, none⟩ = some v ∧ W.frozen? ⟨b, 0, none⟩ = false := by
  constructor <;> simp [World.cell?, World.frozen?, h]

theorem Ol.turn {W W' : World} {B : Nat} {D : Nat → Prop} {A : Option Addr} {n c : Nat} {ls : List (List UInt8)} {row : Option Nat} (h : Ol W B D A n c ls) (hg : W.grownBy W' row) (hr : ∀ r, row = some r → ∃ o : Obj, W.heap[r]? = some o ∧ o.isCells = false) : Ol W' B D A n c ls := by
  obtain ⟨hl, vs, ho, he⟩ := h
  refine ⟨hl, vs, ho.kept hg ?_, fun j v hv => (he j v hv).keep hg.size (fun p u _ _ hu => cell_kept hu hg hr) (fun b _ hb => hb)⟩
  rcases ho.2 with ⟨hv, _⟩ | ⟨g, cap, cur, hv, _, hh, _⟩
  · left; rw [hv]; rfl
  · right
    rw [hv]
    intro e
    obtain ⟨o, ho, hoc⟩ := hr g e.symm
    rw [hh] at ho
    cases ho
    cases hoc
theorem St.own {w0 : World} {B : Nat} (hB : w0.heap.size ≤ B) (Bl Br Bb : Nat) : OwnFrom B (fun (s : List (List UInt8) × Value × Value) W => St w0 Bl Br Bb s.1 s.2.1 s.2.2 W) := by
  rintro s W W' row ⟨⟨A, n, c, h1, h2, h3⟩, ⟨h4, h4'⟩, h5, h6⟩ hg hr
  have hr' : ∀ r, row = some r → ∃ o : Obj, W.heap[r]? = some o ∧ o.isCells = false := fun r e => (hr r e).2
  exact ⟨⟨A, n, c, (grownBy_keeps_cells hg hr' h1 rfl).trans h1, h2.turn hg hr', h3⟩, ⟨(grownBy_keeps_cells hg hr' h4 rfl).trans h4, h4'⟩, (grownBy_keeps_cells hg hr' h5 rfl).trans h5, h6.grown hg h6.size fun k e => Nat.le_trans hB (hr k e).1⟩
theorem St.ahead {w0 : World} {Bl Br Bb : Nat} (hB : w0.heap.size ≤ Bb) (hl : Bb ≠ Bl) (hr : Bb ≠ Br) {ls : List (List UInt8)} {VR V : Value} {A1 : Option Addr} {n1 c1 : Nat} {W : World} (h : St w0 Bl Br Bb ls VR (.slice A1 n1 c1) W) : St w0 Bl Br Bb ls VR V (W.setCell ⟨Bb, 0, none⟩ V) := by
  obtain ⟨⟨A, n, c, h1, h2, h3⟩, ⟨h4, h4'⟩, h5, h6⟩ := h
  refine ⟨⟨A, n, c, (Below.heap_setCell W ⟨Bb, 0, none⟩ V Bl (Ne.symm hl)).trans h1, h2.set h5 (fun g hg => (h3 g hg).2.2) (fun z e => by cases e) V, h3⟩, ⟨(Below.heap_setCell W ⟨Bb, 0, none⟩ V Br (Ne.symm hr)).trans h4, h4'⟩, heap_setCell_same W Bb 0 #[.slice A1 n1 c1] _ V h5, h6.setCell hB V⟩

/-- The round's own work: a copy of the body is appended to l, and rest is told. -/
theorem St.turn {w0 W w1 : World} {Bl Br Bb : Nat} (hBl : w0.heap.size ≤ Bl) (hBr : w0.heap.size ≤ Br) (n1 : Bl ≠ Br) (n2 : Bl ≠ Bb) (n3 : Br ≠ Bb) {ls : List (List UInt8)} {VR VB : Value} {Al : Option Addr} {nl cl : Nat}
    (hb1 : W.heap[Bl]? = some (.cells #[.slice Al nl cl] 28 (0, 0))) (hol : Ol W w0.heap.size (Above w0.heap.size) Al nl cl ls) (hap : ∀ g, Value.ownBlock (.slice Al nl cl) = some g → g ≠ Bl ∧ g ≠ Br ∧ g ≠ Bb)
    (hb2 : W.heap[Br]? = some (.cells #[VR] 22 (0, 0))) (hvr : ∃ A n c, VR = .slice A n c) (hb3 : W.heap[Bb]? = some (.cells #[VB] 22 (0, 0))) (hbel : Below w0.heap.size w0 W)
    {A3 : Option Addr} {m3 c3 : Nat} {x : List UInt8} (ho : Own w1 W.heap.size A3 m3 c3 x) (hb : Below W.heap.size W w1) (hn : nl ≤ 100000000000) :
    ∃ A' c' w3, (Builtin.append_ #[28, 28] 28 #[.slice Al nl cl, .slice (some ⟨w1.heap.size, 0, none⟩) 1 1]).run Try.prog (w1.alloc (.cells #[.slice A3 m3 c3] 22)) = .ok (.slice A' (nl + 1) c') w3 ∧
      w3.cell? ⟨Bl, 0, none⟩ = some (.slice Al nl cl) ∧ w3.frozen? ⟨Bl, 0, none⟩ = false ∧ (w3.setCell ⟨Bl, 0, none⟩ (.slice A' (nl + 1) c')).cell? ⟨Br, 0, none⟩ = some VR ∧ (w3.setCell ⟨Bl, 0, none⟩ (.slice A' (nl + 1) c')).frozen? ⟨Br, 0, none⟩ = false ∧
      ∀ AR nR cR, St w0 Bl Br Bb (ls ++ [x]) (.slice AR nR cR) VB ((w3.setCell ⟨Bl, 0, none⟩ (.slice A' (nl + 1) c')).setCell ⟨Br, 0, none⟩ (.slice AR nR cR)) ∧ KeepsOthers W ((w3.setCell ⟨Bl, 0, none⟩ (.slice A' (nl + 1) c')).setCell ⟨Br, 0, none⟩ (.slice AR nR cR)) := by
  have hb' := bput hb (.cells #[.slice A3 m3 c3] 22)
  have l1 := (Array.getElem?_eq_some_iff.1 hb1).1
  have l2 := (Array.getElem?_eq_some_iff.1 hb2).1
  have l3 := (Array.getElem?_eq_some_iff.1 hb3).1
  have hol2 := hol.kept hb'
  have hs2 : (w1.alloc (.cells #[.slice A3 m3 c3] 22)).heap.size = w1.heap.size + 1 := by simp
  have hnew := heap_alloc_new w1 (.cells #[.slice A3 m3 c3] 22)
  generalize hw2 : w1.alloc (.cells #[.slice A3 m3 c3] 22) = w2 at *
  have hown3 : Own w2 W.heap.size A3 m3 c3 x := by rw [← hw2]; exact ho.alloc _
  have hlt : ∀ k, Value.ownBlock (.slice Al nl cl) = some k → w0.heap.size ≤ k ∧ k < W.heap.size := by
    intro k hk
    obtain ⟨_, vs, hr, _⟩ := hol
    exact hr.lt k hk
  have hel : El w2 (Above w0.heap.size) (Value.ownBlock (.slice Al nl cl)) (.slice A3 m3 c3) x := El.fresh hol hown3 hbel.size
  have hvc : ∀ j u, [Value.slice A3 m3 c3][j]? = some u → w2.cell? ((⟨w1.heap.size, 0, none⟩ : Addr).add j) = some u := by
    intro j u hu
    rcases j with _ | j
    · rw [add_plain, cell_of_row w2 w1.heap.size (0 + 0) _ _ _ hnew]
      simpa using hu
    · simp at hu
  obtain ⟨A', c', w3, hrun, h4, h5, h6, h7⟩ := run_appL hol2 hel hvc hn (Nat.le_trans hbel.size hb'.size) (c1 := 1)
  have hk : ∀ k, k < W.heap.size → Value.ownBlock (.slice Al nl cl) ≠ some k → w3.heap[k]? = W.heap[k]? := fun k hk hne =>
    (h5.block k (Nat.lt_of_lt_of_le hk hb'.size) (fun e => hne e.symm)).trans (hb'.block k hk)
  have e1 := (hk Bl l1 (fun e => (hap _ e).1 rfl)).trans hb1
  have e2 := (hk Br l2 (fun e => (hap _ e).2.1 rfl)).trans hb2
  have e3 := (hk Bb l3 (fun e => (hap _ e).2.2 rfl)).trans hb3
  have hap' : ∀ g, Value.ownBlock (.slice A' (nl + 1) c') = some g → g ≠ Bl ∧ g ≠ Br ∧ g ≠ Bb := by
    intro g hg
    rcases h7 g hg with h | h
    · exact hap g h
    · have := hb'.size
      omega
  have s1 := heap_setCell_same w3 Bl 0 #[.slice Al nl cl] _ (.slice A' (nl + 1) c') e1
  have s2 := (Below.heap_setCell w3 ⟨Bl, 0, none⟩ (.slice A' (nl + 1) c') Br (Ne.symm n1)).trans e2
  have s3 := (Below.heap_setCell w3 ⟨Bl, 0, none⟩ (.slice A' (nl + 1) c') Bb (Ne.symm n2)).trans e3
  have hol3 := h4.set e1 (fun g hg => (hap' g hg).1) (fun z e => by cases e) (.slice A' (nl + 1) c')
  have b3 : Below w0.heap.size w0 w3 := (hbel.trans (hb'.mono hbel.size)).trans h6
  have k3 : KeepsOthers W w3 := by
    refine (KeepsOthers.mk hb'.size fun k o hk _ => (hb'.block k (Array.getElem?_eq_some_iff.1 hk).1).trans hk).trans (KeepsOthers.of_grownBy h5 fun j o hj ho => ?_)
    obtain ⟨_, vs, hr, _⟩ := hol2
    rcases hr.2 with ⟨hv, _⟩ | ⟨g, cap, cur, hv, _, hh, _⟩
    · rw [hv] at hj; cases hj
    · rw [hv] at hj
      cases hj
      rw [hh] at ho
      cases ho
      rfl
  obtain ⟨AR0, nR0, cR0, hVR⟩ := hvr
  refine ⟨A', c', w3, hrun, (box_cell e1).1, (box_cell e1).2, (box_cell s2).1, (box_cell s2).2, fun AR nR cR => ⟨⟨⟨A', nl + 1, c', ?_, ?_, hap'⟩, ⟨?_, _, _, _, rfl⟩, ?_, ?_⟩, ?_⟩⟩
  · exact (Below.heap_setCell _ ⟨Br, 0, none⟩ _ Bl n1).trans s1
  · exact hol3.set s2 (fun g hg => (hap' g hg).2.1) (fun z e => by rw [hVR] at e; cases e) _
  · exact heap_setCell_same _ Br 0 #[VR] _ _ s2
  · exact (Below.heap_setCell _ ⟨Br, 0, none⟩ _ Bb (Ne.symm n3)).trans s3
  · exact (b3.setCell hBl _).setCell hBr _
  · exact (k3.trans (KeepsOthers.setCell _ _ _)).trans (KeepsOthers.setCell _ _ _)

/-- How long the slice in a cell is. -/
def lenAt (W : World) (b : Nat) : Nat := match W.cell? ⟨b, 0, none⟩ with
  | some (.slice _ n _) => n
  | _ => 0

theorem run_from_u {P : Program} {w : World} {t e : TypeId} (ht : P.underlying t = some (.slice e)) (he : ByteInfo P e) {B : Nat} {A : Option Addr} {n c : Nat} {l : List UInt8} (h : Rd w B A n c l) (k : Nat) (hk : k ≤ n) :
    ∃ A', (∀ W, (Instr.sliceAt t (.slice A n c) (some (.int .u64 (k : Int))) none none).run P W = .ok (.slice A' (n - k) (c - k)) W) ∧ Rd w B A' (n - k) (c - k) (l.drop k) := by
  have hte : P.underlying t = some (.slice (P.elem t)) := by rw [ht]; simp [Program.elem, ht]
  have hee : P.elem t = e := by simp [Program.elem, ht]
  refine ⟨_, fun W => ?_, h.cut hk⟩
  rw [run_sliceAt_slice W t _ _ _ _ hte, run_slice_l W t A n c hte .u64 (k : Int) (by omega) (by omega), hee, cellsOf_byte he W]
  simp [sliced]
theorem run_mid_u {P : Program} {w : World} {t e : TypeId} (ht : P.underlying t = some (.slice e)) (he : ByteInfo P e) {B : Nat} {A : Option Addr} {n c : Nat} {l : List UInt8} (h : Rd w B A n c l) (i j : Nat) (hij : i ≤ j) (hj : j ≤ n) :
    ∃ A', (∀ W, (Instr.sliceAt t (.slice A n c) (some (.int .i64 (i : Int))) (some (.int .u64 (j : Int))) none).run P W = .ok (.slice A' (j - i) (c - i)) W) ∧ Rd w B A' (j - i) (c - i) ((l.drop i).take (j - i)) := by
  have hte : P.underlying t = some (.slice (P.elem t)) := by rw [ht]; simp [Program.elem, ht]
  have hee : P.elem t = e := by simp [Program.elem, ht]
  have hc := h.cap
  refine ⟨_, fun W => ?_, (h.cut (k := i) (by omega)).take (k := j - i) (by omega)⟩
  rw [run_sliceAt_slice W t _ _ _ _ hte, run_slice_lh W t A n c hte .i64 .u64 (i : Int) (j : Int) (by omega) (by omega) (by omega), hee, cellsOf_byte he W]
  simp [sliced]

theorem get_head {w : World} {B : Nat} {A : Option Addr} {n c : Nat} {l : List UInt8} (h : Rd w B A n c l) (h4 : 4 ≤ n) :
    Calls Try.prog 21 #[.slice A n c, .int .i64 0, .int .i64 4] w (Tells w (.tuple #[.int .u64 ((headN l : Nat) : Int), .int .i64 0])) := by
  have := get_ok h 0 4
  have hl := h.len
  have e1 : getN l 0 4 = ((headN l : Nat) : Int) := by
    rw [getN, if_neg (by omega), show ((0 : Int)).toNat = 0 from rfl, List.drop_zero, show ((4 : Int)).toNat = 4 from rfl, headN]
  have e2 : getE l 0 4 = 0 := by rw [getE, if_neg (by omega), if_neg (by omega)]
  unfold GetPost at this
  rw [e1, e2] at this
  exact this
theorem get_less {w : World} {B : Nat} {A : Option Addr} {n c : Nat} {l : List UInt8} (h : Rd w B A n c l) (h4 : n < 4) :
    ∃ V, Calls Try.prog 21 #[.slice A n c, .int .i64 0, .int .i64 4] w (Tells w (.tuple #[.int .u64 V, .int .i64 10])) := by
  have := get_ok h 0 4
  have hl := h.len
  have e2 : getE l 0 4 = 10 := by rw [getE, if_neg (by omega), if_pos (by omega)]
  unfold GetPost at this
  rw [e2] at this
  exact ⟨_, this⟩
theorem headN_lt (l : List UInt8) : headN l < 4294967296 := by
  have := num_lt (l.take 4) 0 0 (by omega)
  have h2 : (256 : Nat) ^ (0 + (l.take 4).length) ≤ 256 ^ 4 := Nat.pow_le_pow_right (by omega) (by rw [List.length_take]; omega)
  unfold headN
  omega

set_option maxRecDepth 100000 in
theorem each1_in (m : Nat) (hm : 2 ≤ m) (lp : Nat) (Rc : World → Prop) (hRc : ∀ W W', Rc W → KeepsOthers W W' → Rc W')
    {w0 : World} {A : Option Addr} {n c : Nat} {b : List UInt8} (h : Rd w0 w0.heap.size A n c b) (Bl Br Bb : Nat) (hB : w0.heap.size ≤ Bb) (hl : Bb ≠ Bl) (hr : Bb ≠ Br)
    (hY : ∀ ls VR VB A1 n1 c1 x A2 n2 c2 W, Rd w0 w0.heap.size A1 n1 c1 x → ok x → ls.length ≤ b.length → St w0 Bl Br Bb ls VR VB W → Rc W →
      YieldAt Fence.wide (m - 1) Try.prog lp #[.slice A1 n1 c1, .slice A2 n2 c2] W fun e W' => e = .returned (.bool true) ∧ St w0 Bl Br Bb (ls ++ [x]) (.slice A2 n2 c2) VB W' ∧ Rc W')
    (W : World) (h0 : St w0 Bl Br Bb [] (.slice A n c) (.slice A n c) W) (hR : Rc W) :
    CallsIn Fence.wide m Try.prog 28 #[.func (.yield lp) #[] #[], .pointer (some ⟨Bb, 0, none⟩)] W fun e W' => (∃ v, e = .returned v) ∧
      ∃ ls A' n' c' r, Rd w0 w0.heap.size A' n' c' r ∧ Cuts b ls r ∧ St w0 Bl Br Bb ls (.slice A' n' c') (.slice A' n' c') W' ∧ Rc W' := by
  refine callsIn_of_wp Try.func28 rfl trivial ?_ rfl
  simp only [Try.ntmps28, List.size_toArray, List.length_cons, List.length_nil, Nat.reduceAdd, Nat.reduceSub, Array.replicate_succ, Array.replicate_zero, List.push_toArray, List.append_toArray, List.nil_append, List.cons_append]
  gi_wp2
  refine wpIn_wide.2 ?_
  apply wp_scope_straight
  refine wpIn_wide (n := m).1 ?_
  refine wpIn_seq ?_
  refine wpIn_label ?_
  show Code.wpIn _ _ _ _ _ _ _
  gi_wp2_with fail
  gi_loopw [3] (fun _ wr => ∃ ls A' n' c' r, Rd w0 w0.heap.size A' n' c' r ∧ (∀ ms s, Cuts r ms s → Cuts b (ls ++ ms) s) ∧ St w0 Bl Br Bb ls (.slice A' n' c') (.slice A' n' c') wr ∧ Rc wr) (fun _ wr => lenAt wr Bb)
  case atStart => exact ⟨[], A, n, c, b, h, fun ms s hc => hc, h0, hR⟩
  case round =>
    obtain ⟨ls, A', n', c', r, hr', hcut, hst, hrc⟩ := hrel
    obtain ⟨k1, k2⟩ := box_cell hst.2.2.1
    have hbel := hst.2.2.2
    have hlen := hr'.len
    by_cases hs : stops r
    · have FIN : Hid (∃ ls A' n' c' r, Rd w0 w0.heap.size A' n' c' r ∧ Cuts b ls r ∧ St w0 Bl Br Bb ls (.slice A' n' c') (.slice A' n' c') wr ∧ Rc wr) :=
        ⟨ls, A', n', c', r, hr', by have := hcut [] r (Cuts.done r hs); rw [List.append_nil] at this; exact this, hst, hrc⟩
      by_cases h4 : n' < 4
      · obtain ⟨V, hg⟩ := get_less (hr'.below hbel) h4
        gi_wp2_with fail
        refine ⟨trivial, fun _ => by omega, ?_⟩
        refine (callsIn_wide.2 hg).mono ?_
        rintro e w' ⟨rfl, rfl⟩
        gi_wp2
        refine ⟨trivial, ?_⟩
        gi_wp2
        rw [Exit.noGoto_normal]
        refine bodyPost_end (results_none rfl _ _ _) rfl ?_
        exact ⟨⟨_, rfl⟩, FIN.out⟩
      · have hg := get_head (hr'.below hbel) (by omega)
        have hN := headN_lt r
        have hs' := hs
        unfold stops bad at hs'
        by_cases hbad : 1 ≤ headN r ∧ headN r ≤ 4096
        · have hshort : r.length - 4 < headN r := by
            rcases hs' with h1 | h1 | h1
            · omega
            · exact absurd hbad h1.2
            · exact h1
          have hfit := fun w : World => fits_yes (w := w) (headN r) hbad.1 hbad.2
          have HF := Lib.hid hfit
          have HG := Lib.hid hg
          have htop := hr'.top
          have hcap := hr'.cap
          generalize headN r = N at *
          have t1 : decide ((n' : Int) - 4 < (N : Int)) = true := by simp only [decide_eq_true_eq]; omega
          have g1 : IntKind.i64.wrap ((n' : Int) - 4) = (n' : Int) - 4 := IntWalk.i64_in _ (by omega)
          have g2 : (4 : Int) ≤ (n' : Int) := by omega
          clear hs' hs hshort hfit hg
          gi_wp2_with fail
          refine ⟨trivial, fun _ => by omega, ?_⟩
          refine (callsIn_wide.2 HG.out).mono ?_
          rintro e w' ⟨rfl, rfl⟩
          gi_wp2_with fail
          refine ⟨trivial, fun _ => by omega, ?_⟩
          refine (callsIn_wide.2 (HF.out _)).mono ?_
          rintro e w' ⟨rfl, rfl⟩
          gi_wp2
          rw [Exit.noGoto_normal]
          refine bodyPost_end (results_none rfl _ _ _) rfl ?_
          exact ⟨⟨_, rfl⟩, FIN.out⟩
        · have hfit := fun w : World => fits_no (w := w) (headN r) (by omega) hbad
          have HF := Lib.hid hfit
          have HG := Lib.hid hg
          generalize headN r = N at *
          clear hs' hs hfit hg
          gi_wp2_with fail
          refine ⟨trivial, fun _ => by omega, ?_⟩
          refine (callsIn_wide.2 HG.out).mono ?_
          rintro e w' ⟨rfl, rfl⟩
          gi_wp2_with fail
          refine ⟨trivial, fun _ => by omega, ?_⟩
          refine (callsIn_wide.2 (HF.out _)).mono ?_
          rintro e w' ⟨rfl, rfl⟩
          gi_wp2
          rw [Exit.noGoto_normal]
          refine bodyPost_end (results_none rfl _ _ _) rfl ?_
          exact ⟨⟨_, rfl⟩, FIN.out⟩
    · obtain ⟨hok, hfr, hbl⟩ := split_one r hs
      have h4 : 4 ≤ n' := by
        rcases Nat.lt_or_ge r.length 4 with h1 | h1
        · exact absurd (.inl h1) hs
        · omega
      have hok' := hok
      unfold ok at hok'
      rw [hbl] at hok'
      have hfit := fun w : World => fits_yes (w := w) (headN r) hok'.1 hok'.2
      have HF := Lib.hid hfit
      have HG := Lib.hid (get_head (hr'.below hbel) h4)
      have HLEN : ls.length ≤ b.length := by
        obtain ⟨ms, s, hcs⟩ := cuts_any r
        exact Nat.le_trans (by rw [List.length_append]; omega) (hcut ms s hcs).count
      have htop := hr'.top
      have hcap := hr'.cap
      have hle : headN r ≤ n' - 4 := by
        have := hbl
        rw [List.length_take, List.length_drop] at this
        omega
      obtain ⟨A1, u1, r1⟩ := run_mid_u (P := Try.prog) (t := 22) Try.underlying22 byteInfo hr' 4 (4 + headN r) (by omega) (by omega)
      obtain ⟨A2, u2, r2⟩ := run_from_u (P := Try.prog) (t := 22) Try.underlying22 byteInfo hr' (4 + headN r) (by omega)
      have hcut2 : ∀ ms s, Cuts (r.drop (4 + headN r)) ms s → Cuts b ((ls ++ [(r.drop 4).take (headN r)]) ++ ms) s := by
        intro ms s hc
        have := Cuts.more _ _ _ _ hok hc
        rw [hfr] at this
        have := hcut _ _ this
        rw [List.append_assoc]
        exact this
      have HC := Lib.hid hcut2
      rw [Nat.add_sub_cancel_left] at r1
      simp only [Nat.add_sub_cancel_left] at u1
      have e0 : ((4 + headN r : Nat) : Int) = 4 + (headN r : Int) := by omega
      simp only [e0, show ((4 : Nat) : Int) = 4 from rfl] at u1 u2
      generalize hx : (r.drop 4).take (headN r) = x at *
      generalize hr2 : r.drop (4 + headN r) = r' at *
      generalize headN r = N at *
      have hst2 := St.ahead (V := .slice A2 (n' - (4 + N)) (c' - (4 + N))) hB hl hr hst
      have hrc2 := hRc _ _ hrc (KeepsOthers.setCell wr ⟨Bb, 0, none⟩ (.slice A2 (n' - (4 + N)) (c' - (4 + N))))
      obtain ⟨fn, tmps, assign, body, hy, hR'⟩ := hY ls _ _ A1 N (c' - 4) x A2 (n' - (4 + N)) (c' - (4 + N)) _ r1 hok HLEN hst2 hrc2
      have k3 := (box_cell hst2.2.2.1).1
      have t1 : decide ((n' : Int) - 4 < (N : Int)) = false := by simp only [decide_eq_false_iff_not]; omega
      have g1 : IntKind.i64.wrap ((n' : Int) - 4) = (n' : Int) - 4 := IntWalk.i64_in _ (by omega)
      have g2 : (4 : Int) ≤ (n' : Int) := by omega
      have hlt : n' - (4 + N) < lenAt wr Bb := by rw [lenAt, k1]; simp only []; omega
      have HLT := Lib.hid hlt
      have HR2 := Lib.hid r2
      clear HLEN hs hfit hcut2 hcut hfr hbl hx hr2 hok hst2 hrc2 e0 hlt hst hrc r1 r2
      gi_wp2_with fail
      refine ⟨trivial, fun _ => by omega, ?_⟩
      refine (callsIn_wide.2 HG.out).mono ?_
      rintro e w' ⟨rfl, rfl⟩
      gi_wp2_with fail
      refine ⟨trivial, fun _ => by omega, ?_⟩
      refine (callsIn_wide.2 (HF.out _)).mono ?_
      rintro e w' ⟨rfl, rfl⟩
      gi_wp2_with fail
      refine ⟨fun _ => by omega, ?_⟩
      refine hR'.mono ?_
      rintro e W' ⟨rfl, hst3, hrc3⟩
      gi_wp2
      go_roundw
      case rel => exact ⟨ls ++ [x], A2, _, _, r', HR2.out, HC.out, hst3, hrc3⟩
      case measure => rw [show lenAt W' Bb = n' - (4 + N) by rw [lenAt, (box_cell hst3.2.2.1).1]]; exact HLT.out
end Go.Proofs.Ytnffhhmfclcmjaa
