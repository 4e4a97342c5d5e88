/-
  append of a list of slices onto one of the call's own; the walk of FramesStream.
-/
import Derived.Test.YtnffhhmfclcmjaaFrmZ
namespace Go.Proofs.Ytnffhhmfclcmjaa
open Go.RowKit
set_option linter.unusedVariables false

theorem run_append_none {w : World} {B : Nat} {D : Nat → Prop} {A : Option Addr} {n c : Nat} {ls : List (List UInt8)} (hown : Ol w B D A n c ls) (A2 : Option Addr) (c2 : Nat) (ty : TypeId) :
    (Builtin.append_ #[28, 28] ty #[.slice A n c, .slice A2 0 c2]).run Try.prog w = .ok (.slice A n c) w := by
  obtain ⟨i, hi, hz, hs, hb⟩ := info_parts bytesInfo
  have hnc : n ≤ c := hown.rl.cap
  obtain ⟨hl, vs, ho, he⟩ := hown
  rcases ho.2 with ⟨hv, h0⟩ | ⟨g, cap, cur, hv, _⟩
  · injection hv with h1 h2 h3
    subst h1; subst h2; subst h3
    cases A2 <;> simp [Builtin.append_, run_underlying Try.underlying28, sizeOf, typeInfo, hi, Builtin.lenOf, Builtin.firstCells, loadCells, loadCellsFrom]
  · injection hv with h1 h2 h3
    subst h1; subst h3
    cases A2 <;> simp [Builtin.append_, run_underlying Try.underlying28, sizeOf, typeInfo, hi, Builtin.lenOf, Builtin.firstCells, loadCells, loadCellsFrom, storeCells, hnc]

/-- A list of the call's own, if there is anything, as cells. -/
theorem Ol.spread {w : World} {B : Nat} {D : Nat → Prop} {A : Option Addr} {n c : Nat} {ls : List (List UInt8)} (h : Ol w B D A n c ls) (hn : 0 < n) :
    ∃ (g : Nat) (vs : List Value), A = some ⟨g, 0, none⟩ ∧ vs.length = n ∧ (∀ j u, vs[j]? = some u → w.cell? ((⟨g, 0, none⟩ : Addr).add j) = some u) ∧ ∀ j v, vs[j]? = some v → ∃ A' n' c', v = .slice A' n' c' ∧ Rd w w.heap.size A' n' c' (ls.getD j []) ∧ (0 < n' → ∀ a : Addr, A' = some a → D a.block) := by
  obtain ⟨hl, vs, ho, he⟩ := h
  have hvl : vs.length = n := by simpa using ho.1
  rcases ho.2 with ⟨hv, h0⟩ | ⟨g, cap, cur, hv, hg, hh, hnc, hcm, hcs, htake⟩
  · omega
  · injection hv with h1 h2 h3
    subst h1
    refine ⟨g, vs, rfl, hvl, fun j u hu => ?_, fun j v hv => ?_⟩
    · have hj := (List.getElem?_eq_some_iff.1 hu).1
      rw [add_plain, Nat.zero_add, ho.cellAt j (by omega), hu]
    · obtain ⟨A', n', c', e, hr, hoff⟩ := he j v hv
      exact ⟨A', n', c', e, hr, fun h a ha => (hoff h a ha).1⟩

theorem run_appLs {w : World} {B : Nat} {D : Nat → Prop} {A : Option Addr} {n c : Nat} {ls : List (List UInt8)} (hown : Ol w B D A n c ls) {B2 : Nat} {D2 : Nat → Prop} {A2 : Option Addr} {m c2 : Nat} {ms : List (List UInt8)} (h2 : Ol w B2 D2 A2 m c2 ms)
    (hD : ∀ b, D2 b → D b ∧ some b ≠ Value.ownBlock (.slice A n c)) (hn : n + m ≤ 100000000000) (hB : B ≤ w.heap.size) (ty : TypeId) :
    ∃ A' c' w', (Builtin.append_ #[28, 28] ty #[.slice A n c, .slice A2 m c2]).run Try.prog w = .ok (.slice A' (n + m) c') w' ∧ Ol w' B D A' (n + m) c' (ls ++ ms) ∧
      w.grownBy w' (Value.ownBlock (.slice A n c)) ∧ Below B w w' := by
  rcases Nat.eq_zero_or_pos m with h0 | h0
  · subst h0
    have hms : ms = [] := List.eq_nil_of_length_eq_zero h2.1
    subst hms
    exact ⟨A, c, w, run_append_none hown A2 c2 ty, by simpa using hown, World.grownBy.refl w _, Below.refl B w⟩
  obtain ⟨g2, vs2, rfl, hvl2, hcell2, hel2⟩ := h2.spread h0
  have hml := h2.1
  obtain ⟨hl, vs, ho, he⟩ := hown
  obtain ⟨i, hi, hz, hs, hb⟩ := info_parts bytesInfo
  have hvl : vs.length = n := by simpa using ho.1
  obtain ⟨g, cap, w', hrun, h2, h3, h4, h5⟩ := run_append_lies (P := Try.prog) w 28 ty B 22 i (.slice none 0 0) 1 24 Try.underlying28 hi hz hs hb rfl (by omega) (.slice A n c) n vs ho ⟨g2, 0, none⟩ m c2 vs2 (by omega) hcell2
    (fun u hu => by
      obtain ⟨j, hj⟩ := List.mem_iff_getElem?.1 hu
      obtain ⟨_, _, _, rfl, _⟩ := hel2 j u hj
      rfl) h0 (by simp only [maxLen]; omega) (by omega) hB _ rfl
  have hkeep : ∀ {u : Value} {y : List UInt8}, El w D (Value.ownBlock (.slice A n c)) u y → El w' D (some g) u y := fun h => h.keep h3.size (fun p u hp hne h => (h3.cell_far p hp hne).trans h) (fun b hb hne => by
    rcases h4 with h4 | h4
    · rw [← h4]; exact hne
    · rw [h4]; intro e; cases e; omega)
  refine ⟨_, cap, w', hrun, ⟨by simp [hl, hml], vs ++ vs2, h2, fun j u hu => ?_⟩, h3, (Below.refl B w).grown h3 hB fun k hk => (ho.lt k hk).1⟩
  show El w' D (some g) u _
  rcases Nat.lt_or_ge j n with hj | hj
  · rw [List.getElem?_append_left (by omega)] at hu
    have := hkeep (he j u hu)
    rw [List.getD_eq_getElem?_getD, List.getElem?_append_left (by omega), ← List.getD_eq_getElem?_getD]
    exact this
  · rw [List.getElem?_append_right (by omega), hvl] at hu
    obtain ⟨A', n', c', e, hr, hoff⟩ := hel2 _ u hu
    have : El w D (Value.ownBlock (.slice A n c)) u (ms.getD (j - n) []) := ⟨A', n', c', e, hr, fun h a ha => hD _ (hoff h a ha)⟩
    have := hkeep this
    rw [List.getD_eq_getElem?_getD, List.getElem?_append_right (by omega), hl, ← List.getD_eq_getElem?_getD]
    exact this

theorem wpList_appLs {w : World} {ops : Array Oper} {rest : List Oper} {o : Oper} {a : Act} {Q : Exit → Act → World → Prop} (hgd : o.guard = none) (s x : Operand)
    (hop : o.op = .call { callee := .builtin .append, args := #[s, x], argTypes := #[28, 28] })
    {B : Nat} {D : Nat → Prop} {A : Option Addr} {n c : Nat} {ls : List (List UInt8)} (hs : a.eval s = .slice A n c) (hown : Ol w B D A n c ls)
    {B2 : Nat} {D2 : Nat → Prop} {A2 : Option Addr} {m c2 : Nat} {ms : List (List UInt8)} (hx : a.eval x = .slice A2 m c2) (h2 : Ol w B2 D2 A2 m c2 ms)
    (hD : ∀ b, D2 b → D b ∧ some b ≠ Value.ownBlock (.slice A n c)) (hn : n + m ≤ 100000000000) (hB : B ≤ w.heap.size)
    (h : ∀ A' c' w', Ol w' B D A' (n + m) c' (ls ++ ms) → w.grownBy w' (Value.ownBlock (.slice A n c)) → Below B w w' → wpList Try.prog ops Q rest (a.put o.dst (.slice A' (n + m) c')) w') : wpList Try.prog ops Q (o :: rest) a w := by
  refine wpList_plain hgd fun K hK => ?_
  obtain ⟨A', c', w', hr', h3, h4, h5⟩ := run_appLs hown h2 hD hn hB o.type
  unfold Oper.wp execOp
  simp only [hop, resolve, invoke, builtin, Sem.run_bind, Sem.run_pure, Result.andThen_ok, List.map_toArray, List.map_cons, List.map_nil, hs, hx, hr']
  exact hK _ _ (h A' c' w' h3 h4 h5)

/-- A slice of numbers that can be read. -/
structure Ri (w : World) (B : Nat) (A : Option Addr) (n c : Nat) (zs : List Int) : Prop where
  len : zs.length = n
  cap : n ≤ c
  top : c ≤ 9223372036854775807
  cells : 0 < n → ∃ b off, A = some ⟨b, off, none⟩ ∧ b < B ∧ ∀ j, j < n → w.cell? ⟨b, off + j, none⟩ = some (.int .i64 (zs.getD j 0))
theorem Ri.below {w w' : World} {B : Nat} {A : Option Addr} {n c : Nat} {zs : List Int} (h : Ri w B A n c zs) (hb : Below B w w') : Ri w' B A n c zs :=
  ⟨h.len, h.cap, h.top, fun hn => by
    obtain ⟨b, off, e, hlt, hc⟩ := h.cells hn
    exact ⟨b, off, e, hlt, fun j hj => (hb.cell (p := ⟨b, off + j, none⟩) hlt).trans (hc j hj)⟩⟩

theorem stream_step {l : List UInt8} {ls : List (List UInt8)} {r : List UInt8} (hc : Cuts l ls r) (hb : ¬ bad r) {at_ to_ : Nat} {gs : List (List UInt8)} {hl : List UInt8} (h : Cuts (l.take at_) gs hl) (h1 : at_ ≤ to_) :
    ∃ ms s, Cuts (hl ++ (l.drop at_).take (to_ - at_)) ms s ∧ ¬ bad s ∧ Cuts (l.take to_) (gs ++ ms) s := by
  obtain ⟨ms, s, hm⟩ := cuts_any (hl ++ (l.drop at_).take (to_ - at_))
  have h2 := h.behind hm
  have e : l.take at_ ++ (l.drop at_).take (to_ - at_) = l.take to_ := by
    rw [← List.take_add]
    congr 1
    omega
  rw [e] at h2
  refine ⟨ms, s, hm, fun hbs => ?_, h2⟩
  have h3 := h2.bad_behind hbs (l.drop to_)
  rw [List.take_append_drop] at h3
  obtain ⟨_, e⟩ := cuts_one hc h3
  exact hb (e ▸ bad_behind hbs _)
theorem cuts_small {l : List UInt8} {k : Nat} {gs : List (List UInt8)} {hl : List UInt8} (h : Cuts (l.take k) gs hl) : gs.length ≤ l.length ∧ hl.length ≤ l.length := by
  have h1 := h.count
  have h2 := congrArg List.length h.whole.1
  rw [List.length_append] at h2
  have h3 : (l.take k).length ≤ l.length := by rw [List.length_take]; omega
  omega

/-- What is kept between two rounds. -/
structure Held (w2 wr : World) (l : List UInt8) (k : Nat) (A1 : Option Addr) (n1 c1 : Nat) (A2 : Option Addr) (n2 c2 : Nat) (gs : List (List UInt8)) (hl : List UInt8) : Prop where
  got : Ol wr w2.heap.size (Above w2.heap.size) A1 n1 c1 gs
  held : Own wr w2.heap.size A2 n2 c2 hl
  bel : Below w2.heap.size w2 wr
  cut : Cuts (l.take k) gs hl

set_option maxRecDepth 100000 in
theorem framesStream_walk {w : World} {A : Option Addr} {n c : Nat} {l : List UInt8} (h : Rd w w.heap.size A n c l) {A' : Option Addr} {m c' : Nat} {zs : List Int} (h' : Ri w w.heap.size A' m c' zs) :
    Calls Try.prog 7 #[.slice A n c, .slice A' m c'] w (Yes w) := by
  have hlen := h.len
  have htop := h.top
  have hcap := h.cap
  have htop' := h'.top
  have hcap' := h'.cap
  by_cases h1 : 3000 < n
  · have t1 : decide ((3000 : Int) < (n : Int)) = true := by simp only [decide_eq_true_eq]; omega
    go_enter Try.func7, Try.ntmps7
    go_wp2_with fail
    refine (live_ok w).mono ?_
    rintro e w1 ⟨rfl, b1⟩
    go_wp2
    go_ret
    exact ⟨rfl, b1⟩
  have t1 : decide ((3000 : Int) < (n : Int)) = false := by simp only [decide_eq_false_iff_not]; omega
  by_cases h2 : 60 < m
  · have t2 : decide ((60 : Int) < (m : Int)) = true := by simp only [decide_eq_true_eq]; omega
    go_enter Try.func7, Try.ntmps7
    go_wp2_with fail
    refine (live_ok w).mono ?_
    rintro e w1 ⟨rfl, b1⟩
    go_wp2
    go_ret
    exact ⟨rfl, b1⟩
  have t2 : decide ((60 : Int) < (m : Int)) = false := by simp only [decide_eq_false_iff_not]; omega
  obtain ⟨ls, r, hc⟩ := cuts_any l
  have HN : Hid (n ≤ 100000000) := Lib.hid (by omega)
  have HC := Lib.hid hc
  by_cases hb : bad r
  · have HB := Lib.hid hb
    clear hb hc
    go_enter Try.func7, Try.ntmps7
    go_wp2_with fail
    refine (live_ok w).mono ?_
    rintro e w1 ⟨rfl, b1⟩
    go_wp2_with fail
    refine (split_bad ((h.below b1).more b1.size) HN.out HC.out HB.out).mono ?_
    rintro e w2 ⟨rfl, hb2⟩
    have b2 := bthen b1 hb2
    go_wp2
    go_ret
    exact ⟨rfl, b2⟩
  · have HB := Lib.hid hb
    have HST := Lib.hid (fun (k t : Nat) (gs : List (List UInt8)) (hl : List UInt8) (h : Cuts (l.take k) gs hl) (h1 : k ≤ t) => stream_step hc hb h h1)
    clear hb hc
    go_enter Try.func7, Try.ntmps7
    go_wp2_with fail
    refine (live_ok w).mono ?_
    rintro e w1 ⟨rfl, b1⟩
    go_wp2_with fail
    refine (split_ok ((h.below b1).more b1.size) HN.out HC.out HB.out).mono ?_
    rintro e w2 ⟨A3, n3, c3, A4, n4, c4, rfl, ho3, ho4, hb2⟩
    have b2 := bthen b1 hb2
    have r3 := Lib.hid ho3.rl
    have r4 := Lib.hid ho4.rd
    have rb := h.below b2
    have ri := h'.below b2
    clear ho3 ho4 hb2
    go_wp2_with fail
    go_loopw [9, 10, 11, 12] (fun g d a i wr => ∃ (q k : Nat) (A1 : Option Addr) (n1 c1 : Nat) (A2 : Option Addr) (n2 c2 : Nat) (gs : List (List UInt8)) (hl : List UInt8), q ≤ m + 1 ∧ k ≤ n ∧ i = .int .i64 q ∧ a = .int .i64 k ∧ g = .slice A1 n1 c1 ∧ d = .slice A2 n2 c2 ∧ Held w2 wr l k A1 n1 c1 A2 n2 c2 gs hl ∧ (q = m + 1 → k = n))
      (fun _ _ _ i _ => m + 1 - (intOf i).toNat)
    case atStart => exact ⟨0, 0, _, _, _, _, _, _, [], [], by omega, by omega, rfl, rfl, rfl, rfl, ⟨Ol.nil _ _ _, Ob.nil _ _ _, Below.refl _ _, Cuts.done _ (.inl (by simp))⟩, by omega⟩
    case round =>
      obtain ⟨q, k, A1, n1, c1, A2, n2, c2, gs, hl, hq, hk, rfl, rfl, rfl, rfl, hheld, hend⟩ := hrel
      by_cases hqm : q ≤ m
      · have tq : decide (q ≤ m) = true := by simp only [decide_eq_true_eq]; omega
        by_cases hlt : q < m
        · have tl : decide (q < m) = true := by simp only [decide_eq_true_eq]; omega
          obtain ⟨bz, oz, rfl, hbz, hcz⟩ := ri.cells (by omega)
          have kz := (hheld.bel.cell (p := ⟨bz, oz + q, none⟩) (Nat.lt_of_lt_of_le hbz b2.size)).trans (hcz q hlt)
          generalize zs.getD q 0 = z at *
          clear hcz h' ri
          by_cases hz1 : (k : Int) ≤ z
          · have tz1 : decide ((k : Int) ≤ z) = true := by simp only [decide_eq_true_eq]; omega
            obtain ⟨t, rfl⟩ := Int.eq_ofNat_of_zero_le (show 0 ≤ z by omega)
            have tz1' : decide (k ≤ t) = true := by simp only [decide_eq_true_eq]; omega
            by_cases hz2 : (t : Int) ≤ (n : Int)
            · have tz2 : decide ((t : Int) ≤ (n : Int)) = true := by simp only [decide_eq_true_eq]; omega
              have tz2' : decide (t ≤ n) = true := by simp only [decide_eq_true_eq]; omega
              have hcs := cuts_small hheld.cut
              have hl2 := hheld.held.len
              have hg1 := hheld.got.1
              obtain ⟨ms, s, hm1, hm2, hm3⟩ := HST.out k t gs hl hheld.cut (by omega)
              have hcs3 := cuts_small hm3
              rw [List.length_append] at hcs3
              obtain ⟨A7, u7, r7⟩ := run_mid (P := Try.prog) (t := 22) Try.underlying22 byteInfo rb k t (by omega) (by omega)
              have HFEED := Lib.hid (feed_ok hheld.held.rd ((r7.below (hheld.bel.mono b2.size)).more (Nat.le_trans b2.size hheld.bel.size)) (by omega) hm1 hm2)
              have HM3 := Lib.hid hm3
              have HH := Lib.hid hheld
              have HQ : Hid (q + 1 ≤ m + 1) := Lib.hid (by omega)
              have HNX : Hid (t ≤ n ∧ (q + 1 = m + 1 → t = n)) := Lib.hid (by omega)
              have HSM : Hid (n1 + ms.length ≤ 100000000000) := Lib.hid (by omega)
              clear hm1 hm2 hm3 r7 hcs hcs3 hheld hg1 hl2 h1 h2
              go_wp2_with fail
              refine HFEED.out.mono ?_
              rintro e w5 ⟨A5, n5, c5, A6, n6, c6, rfl, ho5, ho6, hb5⟩
              have B5 := bthen HH.out.bel hb5
              have hms := ho5.1
              go_wp2_with (at_builtin; refine wpList_appLs rfl (.tmp 94) (.tmp 95) rfl rfl (HH.out.got.kept hb5) rfl ho5 ?_ ?_ ?_ ?_)
              · intro b hb
                refine ⟨Nat.le_trans HH.out.bel.size hb, fun e => ?_⟩
                obtain ⟨_, vs, hr, _⟩ := HH.out.got
                have := (hr.lt b e.symm).2
                unfold Above at hb
                omega
              · have := HSM.out
                omega
              · exact B5.size
              · intro A8 c8 w8 ho8 hg8 hb8
                have o6 := Ob.grownL (HH.out.got.kept hb5) (ho6.less HH.out.bel.size) hg8
                go_wp2
                go_roundw
                case rel => exact ⟨q + 1, t, _, _, _, _, _, _, _, _, HQ.out, HNX.out.1, by go_num, rfl, rfl, rfl, ⟨ho8, o6, B5.trans hb8, HM3.out⟩, HNX.out.2⟩
                case measure => have := HQ.out; simp [intOf]; omega
            · have tz2 : decide ((t : Int) ≤ (n : Int)) = false := by simp only [decide_eq_false_iff_not]; omega
              have tz2' : decide (t ≤ n) = false := by simp only [decide_eq_false_iff_not]; omega
              have hcs := cuts_small hheld.cut
              have hl2 := hheld.held.len
              have hg1 := hheld.got.1
              obtain ⟨ms, s, hm1, hm2, hm3⟩ := HST.out k n gs hl hheld.cut (by omega)
              have hcs3 := cuts_small hm3
              rw [List.length_append] at hcs3
              obtain ⟨A7, u7, r7⟩ := run_mid (P := Try.prog) (t := 22) Try.underlying22 byteInfo rb k n (by omega) (by omega)
              have HFEED := Lib.hid (feed_ok hheld.held.rd ((r7.below (hheld.bel.mono b2.size)).more (Nat.le_trans b2.size hheld.bel.size)) (by omega) hm1 hm2)
              have HM3 := Lib.hid hm3
              have HH := Lib.hid hheld
              have HQ : Hid (q + 1 ≤ m + 1) := Lib.hid (by omega)
              have HNX : Hid (n ≤ n ∧ (q + 1 = m + 1 → n = n)) := Lib.hid (by omega)
              have HSM : Hid (n1 + ms.length ≤ 100000000000) := Lib.hid (by omega)
              clear hm1 hm2 hm3 r7 hcs hcs3 hheld hg1 hl2 h1 h2
              go_wp2_with fail
              refine HFEED.out.mono ?_
              rintro e w5 ⟨A5, n5, c5, A6, n6, c6, rfl, ho5, ho6, hb5⟩
              have B5 := bthen HH.out.bel hb5
              have hms := ho5.1
              go_wp2_with (at_builtin; refine wpList_appLs rfl (.tmp 94) (.tmp 95) rfl rfl (HH.out.got.kept hb5) rfl ho5 ?_ ?_ ?_ ?_)
              · intro b hb
                refine ⟨Nat.le_trans HH.out.bel.size hb, fun e => ?_⟩
                obtain ⟨_, vs, hr, _⟩ := HH.out.got
                have := (hr.lt b e.symm).2
                unfold Above at hb
                omega
              · have := HSM.out
                omega
              · exact B5.size
              · intro A8 c8 w8 ho8 hg8 hb8
                have o6 := Ob.grownL (HH.out.got.kept hb5) (ho6.less HH.out.bel.size) hg8
                go_wp2
                go_roundw
                case rel => exact ⟨q + 1, n, _, _, _, _, _, _, _, _, HQ.out, Nat.le_refl _, by go_num, rfl, rfl, rfl, ⟨ho8, o6, B5.trans hb8, HM3.out⟩, fun _ => rfl⟩
                case measure => have := HQ.out; simp [intOf]; omega
          · have tz1 : decide ((k : Int) ≤ z) = false := by simp only [decide_eq_false_iff_not]; omega
            have hcs := cuts_small hheld.cut
            have hl2 := hheld.held.len
            have hg1 := hheld.got.1
            obtain ⟨ms, s, hm1, hm2, hm3⟩ := HST.out k n gs hl hheld.cut (by omega)
            have hcs3 := cuts_small hm3
            rw [List.length_append] at hcs3
            obtain ⟨A7, u7, r7⟩ := run_mid (P := Try.prog) (t := 22) Try.underlying22 byteInfo rb k n (by omega) (by omega)
            have HFEED := Lib.hid (feed_ok hheld.held.rd ((r7.below (hheld.bel.mono b2.size)).more (Nat.le_trans b2.size hheld.bel.size)) (by omega) hm1 hm2)
            have HM3 := Lib.hid hm3
            have HH := Lib.hid hheld
            have HQ : Hid (q + 1 ≤ m + 1) := Lib.hid (by omega)
            have HNX : Hid (n ≤ n ∧ (q + 1 = m + 1 → n = n)) := Lib.hid (by omega)
            have HSM : Hid (n1 + ms.length ≤ 100000000000) := Lib.hid (by omega)
            clear hm1 hm2 hm3 r7 hcs hcs3 hheld hg1 hl2 h1 h2
            go_wp2_with fail
            refine HFEED.out.mono ?_
            rintro e w5 ⟨A5, n5, c5, A6, n6, c6, rfl, ho5, ho6, hb5⟩
            have B5 := bthen HH.out.bel hb5
            have hms := ho5.1
            go_wp2_with (at_builtin; refine wpList_appLs rfl (.tmp 94) (.tmp 95) rfl rfl (HH.out.got.kept hb5) rfl ho5 ?_ ?_ ?_ ?_)
            · intro b hb
              refine ⟨Nat.le_trans HH.out.bel.size hb, fun e => ?_⟩
              obtain ⟨_, vs, hr, _⟩ := HH.out.got
              have := (hr.lt b e.symm).2
              unfold Above at hb
              omega
            · have := HSM.out
              omega
            · exact B5.size
            · intro A8 c8 w8 ho8 hg8 hb8
              have o6 := Ob.grownL (HH.out.got.kept hb5) (ho6.less HH.out.bel.size) hg8
              go_wp2
              go_roundw
              case rel => exact ⟨q + 1, n, _, _, _, _, _, _, _, _, HQ.out, Nat.le_refl _, by go_num, rfl, rfl, rfl, ⟨ho8, o6, B5.trans hb8, HM3.out⟩, fun _ => rfl⟩
              case measure => have := HQ.out; simp [intOf]; omega
        · have tl : decide (q < m) = false := by simp only [decide_eq_false_iff_not]; omega
          have hcs := cuts_small hheld.cut
          have hl2 := hheld.held.len
          have hg1 := hheld.got.1
          obtain ⟨ms, s, hm1, hm2, hm3⟩ := HST.out k n gs hl hheld.cut (by omega)
          have hcs3 := cuts_small hm3
          rw [List.length_append] at hcs3
          obtain ⟨A7, u7, r7⟩ := run_mid (P := Try.prog) (t := 22) Try.underlying22 byteInfo rb k n (by omega) (by omega)
          have HFEED := Lib.hid (feed_ok hheld.held.rd ((r7.below (hheld.bel.mono b2.size)).more (Nat.le_trans b2.size hheld.bel.size)) (by omega) hm1 hm2)
          have HM3 := Lib.hid hm3
          have HH := Lib.hid hheld
          have HQ : Hid (q + 1 ≤ m + 1) := Lib.hid (by omega)
          have HNX : Hid (n ≤ n ∧ (q + 1 = m + 1 → n = n)) := Lib.hid (by omega)
          have HSM : Hid (n1 + ms.length ≤ 100000000000) := Lib.hid (by omega)
          have hq60 : q ≤ 60 := by omega
          clear hm1 hm2 hm3 r7 hcs hcs3 hheld hg1 hl2 h1 h2
          go_wp2_with fail
          refine HFEED.out.mono ?_
          rintro e w5 ⟨A5, n5, c5, A6, n6, c6, rfl, ho5, ho6, hb5⟩
          have B5 := bthen HH.out.bel hb5
          have hms := ho5.1
          go_wp2_with (at_builtin; refine wpList_appLs rfl (.tmp 94) (.tmp 95) rfl rfl (HH.out.got.kept hb5) rfl ho5 ?_ ?_ ?_ ?_)
          · intro b hb
            refine ⟨Nat.le_trans HH.out.bel.size hb, fun e => ?_⟩
            obtain ⟨_, vs, hr, _⟩ := HH.out.got
            have := (hr.lt b e.symm).2
            unfold Above at hb
            omega
          · have := HSM.out
            omega
          · exact B5.size
          · intro A8 c8 w8 ho8 hg8 hb8
            have o6 := Ob.grownL (HH.out.got.kept hb5) (ho6.less HH.out.bel.size) hg8
            go_wp2
            go_roundw
            case rel => exact ⟨q + 1, n, _, _, _, _, _, _, _, _, HQ.out, Nat.le_refl _, by go_num, rfl, rfl, rfl, ⟨ho8, o6, B5.trans hb8, HM3.out⟩, fun _ => rfl⟩
            case measure => have := HQ.out; simp [intOf]; omega
      · have tq : decide (q ≤ m) = false := by simp only [decide_eq_false_iff_not]; omega
        obtain rfl : k = n := hend (by omega)
        have hcut := hheld.cut
        rw [List.take_of_length_le (by omega)] at hcut
        obtain ⟨e1, e2⟩ := cuts_one hcut HC.out
        subst e1
        subst e2
        have HH := Lib.hid hheld
        obtain ⟨s, hs⟩ : ∃ s, strOf hl = s := ⟨_, rfl⟩
        clear hheld hcut
        go_wp2_with fail
        refine (same_is HH.out.got.rl ((r3.out.below HH.out.bel).more HH.out.bel.size)).mono ?_
        rintro e w5 ⟨rfl, hb5⟩
        have s1 := str_eq (HH.out.held.step hb5).rd hs
        have s2 := str_eq (r4.out.below (bthen HH.out.bel hb5)) hs
        have B5 := bthen b2 (bthen HH.out.bel hb5)
        go_wp2
        go_ret
        exact ⟨rfl, B5⟩
end Go.Proofs.Ytnffhhmfclcmjaa
