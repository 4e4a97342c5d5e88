/-
  Contracts of the reference's Split, Feed, Same, Few.
-/
import Derived.Deep.QuietTactic
import Derived.BigQuiet
import Derived.Test.YtnffhhmfclcmjaaFrmC
namespace Go.Proofs.Ytnffhhmfclcmjaa
open Go.RowKit
set_option linter.unusedVariables false

/-- The head's four bytes as a number. -/
theorem head_four (r : List UInt8) (h : 4 ≤ r.length) : ((headN r : Nat) : Int) = ((r.getD 0 0).toNat : Int) * 16777216 + ((r.getD 1 0).toNat : Int) * 65536 + ((r.getD 2 0).toNat : Int) * 256 + ((r.getD 3 0).toNat : Int) := by
  match r, h with
  | a :: b :: c :: d :: t, _ =>
    simp only [headN, List.take_succ_cons, List.take_zero, num_cons, num_nil, List.getD_cons_zero, List.getD_cons_succ]
    omega
theorem drop_getD (l : List UInt8) (i k : Nat) : (l.drop i).getD k 0 = l.getD (i + k) 0 := by simp [List.getD, List.getElem?_drop]

/-- Where the reference stands: i bytes are split. -/
structure At (w wr : World) (b : List UInt8) (i : Nat) (A : Option Addr) (n c : Nat) (ls : List (List UInt8)) : Prop where
  own : Ol wr w.heap.size (Above w.heap.size) A n c ls
  bel : Below w.heap.size w wr
  cut : ∀ ms s, Cuts (b.drop i) ms s → Cuts b (ls ++ ms) s
  few : ls.length ≤ b.length

theorem At.ends {w wr : World} {b : List UInt8} {i : Nat} {A : Option Addr} {n c : Nat} {ls : List (List UInt8)} (h : At w wr b i A n c ls) (hs : stops (b.drop i)) : Cuts b ls (b.drop i) := by
  have := h.cut [] _ (Cuts.done _ hs)
  rw [List.append_nil] at this
  exact this
theorem At.drew {w wr : World} {b : List UInt8} {i : Nat} {A : Option Addr} {n c : Nat} {ls : List (List UInt8)} (h : At w wr b i A n c ls) (k : Nat) : At w (wr.drewN k) b i A n c ls :=
  ⟨h.own.kept (bdrewN (Below.refl _ _) k), bdrewN h.bel k, h.cut, h.few⟩
theorem step_cut {b : List UInt8} {i N : Nat} {ls : List (List UInt8)} (hN : headN (b.drop i) = N) (h1 : 1 ≤ N) (h2 : N ≤ 4096) (h3 : i + 4 + N ≤ b.length) (hc : ∀ ms s, Cuts (b.drop i) ms s → Cuts b (ls ++ ms) s) :
    ∀ ms s, Cuts (b.drop (i + 4 + N)) ms s → Cuts b ((ls ++ [(b.drop (i + 4)).take N]) ++ ms) s := by
  intro ms s hcs
  have hns : ¬ stops (b.drop i) := by
    rintro (h | ⟨_, h⟩ | h)
    · rw [List.length_drop] at h; omega
    · rw [hN] at h; omega
    · rw [hN, List.length_drop] at h; omega
  obtain ⟨g1, g2, g3⟩ := split_one _ hns
  rw [hN, List.drop_drop] at g1 g2
  rw [List.drop_drop, show i + (4 + N) = i + 4 + N by omega] at g2
  have := Cuts.more _ _ _ _ g1 hcs
  rw [g2] at this
  rw [List.append_assoc]
  exact hc _ _ this

set_option maxRecDepth 100000 in
theorem rSplit_any {w : World} {A : Option Addr} {n c : Nat} {l : List UInt8} (h : Rd w w.heap.size A n c l) (hn : n ≤ 100000000) : Calls Try.prog 15 #[.slice A n c] w (SplitPost w l) := by
  have hlen := h.len
  have htop := h.top
  have hcap := h.cap
  go_enter Try.func15, Try.ntmps15
  go_wp2_with fail
  go_loopw [5, 6] (fun v i wr => ∃ (q : Nat) (A2 : Option Addr) (n2 c2 : Nat) (ls : List (List UInt8)), q ≤ n ∧ i = .int .i64 q ∧ v = .slice A2 n2 c2 ∧ At w wr l q A2 n2 c2 ls) (fun _ i _ => n - (intOf i).toNat)
  case atStart => exact ⟨0, _, _, _, [], by omega, rfl, rfl, ⟨Ol.nil _ _ _, Below.refl _ _, fun ms s hc => hc, by simp⟩⟩
  case round =>
    obtain ⟨q, A2, n2, c2, ls, hq, rfl, rfl, hat⟩ := hrel
    by_cases h4 : q + 4 ≤ n
    · obtain ⟨b, off, rfl, hlt, hc⟩ := h.cells (by omega)
      have cell : ∀ k, k < n → wr.cell? ⟨b, off + k, none⟩ = some (.int .u8 ((l.getD k 0).toNat : Int)) := fun k hk => (hat.bel.cell (p := ⟨b, off + k, none⟩) hlt).trans (hc k hk)
      have c0 := cell q (by omega)
      have c1 := cell (q + 1) (by omega)
      have c2' := cell (q + 2) (by omega)
      have c3 := cell (q + 3) (by omega)
      have hH := head_four (l.drop q) (by rw [List.length_drop]; omega)
      rw [drop_getD, drop_getD, drop_getD, drop_getD, Nat.add_zero] at hH
      have b0 := (l.getD q 0).toNat_lt
      have b1 := (l.getD (q + 1) 0).toNat_lt
      have b2 := (l.getD (q + 2) 0).toNat_lt
      have b3 := (l.getD (q + 3) 0).toNat_lt
      have HAT := Lib.hid hat
      have HN := Lib.hid hn
      have hbadI : ¬ (1 ≤ headN (l.drop q) ∧ headN (l.drop q) ≤ 4096) → bad (l.drop q) := fun h => ⟨by rw [List.length_drop]; omega, h⟩
      have hshI : 1 ≤ headN (l.drop q) → headN (l.drop q) ≤ 4096 → n < q + 4 + headN (l.drop q) → stops (l.drop q) ∧ ¬ bad (l.drop q) := fun g1 g2 g3 => ⟨.inr (.inr (by rw [List.length_drop]; omega)), fun hb => hb.2 ⟨g1, g2⟩⟩
      have hgoI := fun g1 g2 g3 => step_cut (b := l) (i := q) (ls := ls) rfl g1 g2 g3 hat.cut
      generalize headN (l.drop q) = N at *
      generalize l.getD q 0 = x0 at *
      generalize l.getD (q + 1) 0 = x1 at *
      generalize l.getD (q + 2) 0 = x2 at *
      generalize l.getD (q + 3) 0 = x3 at *
      have hN32 : (N : Int) < 4294967296 := by omega
      have i1 : (0 : Int) ≤ (q : Int) + 1 := by omega
      have i2 : (q : Int) + 1 < (n : Int) := by omega
      have i3 : (0 : Int) ≤ (q : Int) + 2 := by omega
      have i4 : (q : Int) + 2 < (n : Int) := by omega
      have i5 : (0 : Int) ≤ (q : Int) + 3 := by omega
      have i6 : (q : Int) + 3 < (n : Int) := by omega
      have Hw1 : Hid (IntKind.i64.wrap ((q : Int) + 1) = (q : Int) + 1) := Lib.hid (IntWalk.i64_in _ (by omega))
      have Hw2 : Hid (IntKind.i64.wrap ((q : Int) + 2) = (q : Int) + 2) := Lib.hid (IntWalk.i64_in _ (by omega))
      have Hw3 : Hid (IntKind.i64.wrap ((q : Int) + 3) = (q : Int) + 3) := Lib.hid (IntWalk.i64_in _ (by omega))
      have n1 : ((q : Int) + 1).toNat = q + 1 := by omega
      have n2' : ((q : Int) + 2).toNat = q + 2 := by omega
      have n3 : ((q : Int) + 3).toNat = q + 3 := by omega
      have Hm0 : Hid (IntKind.i64.wrap ((x0.toNat : Int) * 16777216) = (x0.toNat : Int) * 16777216) := Lib.hid (IntWalk.i64_in _ (by omega))
      have Hm1 : Hid (IntKind.i64.wrap ((x1.toNat : Int) * 65536) = (x1.toNat : Int) * 65536) := Lib.hid (IntWalk.i64_in _ (by omega))
      have Hm2 : Hid (IntKind.i64.wrap ((x2.toNat : Int) * 256) = (x2.toNat : Int) * 256) := Lib.hid (IntWalk.i64_in _ (by omega))
      have Hs1 : Hid (IntKind.i64.wrap ((x0.toNat : Int) * 16777216 + (x1.toNat : Int) * 65536) = (x0.toNat : Int) * 16777216 + (x1.toNat : Int) * 65536) := Lib.hid (IntWalk.i64_in _ (by omega))
      have Hs2 : Hid (IntKind.i64.wrap ((x0.toNat : Int) * 16777216 + (x1.toNat : Int) * 65536 + (x2.toNat : Int) * 256) = (x0.toNat : Int) * 16777216 + (x1.toNat : Int) * 65536 + (x2.toNat : Int) * 256) := Lib.hid (IntWalk.i64_in _ (by omega))
      have Hs3 : Hid (IntKind.i64.wrap ((x0.toNat : Int) * 16777216 + (x1.toNat : Int) * 65536 + (x2.toNat : Int) * 256 + (x3.toNat : Int)) = (N : Int)) := Lib.hid (by rw [hH]; exact IntWalk.i64_in _ (by omega))
      have t4 : decide ((q : Int) + 4 ≤ (n : Int)) = true := by simp only [decide_eq_true_eq]; omega
      have HB := Lib.hid hbadI
      have HS := Lib.hid hshI
      have HG := Lib.hid hgoI
      clear hat cell hc hH hbadI hshI hgoI
      by_cases hok : 1 ≤ N ∧ N ≤ 4096
      · obtain ⟨ok1, ok2⟩ := hok
        have t5 : decide ((N : Int) < 1) = false := by simp only [decide_eq_false_iff_not]; omega
        have t6 : decide ((4096 : Int) < (N : Int)) = false := by simp only [decide_eq_false_iff_not]; omega
        by_cases hsh : n < q + 4 + N
        · have t7 : decide ((n : Int) < (q : Int) + 4 + (N : Int)) = true := by simp only [decide_eq_true_eq]; omega
          have HST := Lib.hid (HS.out ok1 ok2 hsh)
          obtain ⟨A7, u7, r7⟩ := run_from (P := Try.prog) (t := 22) Try.underlying22 byteInfo h q hq
          clear HB HS HG
          go_wp2_with fail
          have w1 := Hw1.out
          have w2 := Hw2.out
          have w3 := Hw3.out
          have m0 := Hm0.out
          have m1 := Hm1.out
          have m2 := Hm2.out
          have s1 := Hs1.out
          have s2 := Hs2.out
          have s3 := Hs3.out
          go_quiet (fail)
          clear w1 w2 w3 m0 m1 m2 s1 s2 s3 Hw1 Hw2 Hw3 Hm0 Hm1 Hm2 Hs1 Hs2 Hs3
          have hat := HAT.out.drew nq
          generalize wr.drewN nq = wq at *
          have HAT2 := Lib.hid hat
          have hm := Ob.made (e := 5) wq (Nat.le_refl _)
          have r8 := (r7.below hat.bel).alloc hat.bel.size (.cells #[] 5)
          clear hat r7 c0 c1 c2' c3
          go_wp2_with (at_builtin; refine wpList_app rfl (.tmp 73) (.tmp 76) rfl Try.underlying22 byteInfo rfl hm rfl r8 ?_ ?_ ?_)
          · omega
          · simp
          · intro A8 c8 w8 ho8 hb8
            have b8 : Below wq.heap.size wq w8 := (bput (Below.refl _ wq) _).trans hb8
            go_wp2
            go_ret3
            exact ⟨ls, _, HAT2.out.ends HST.out.1, .inr ⟨HST.out.2, _, _, _, _, _, _, rfl, HAT2.out.own.kept b8, (by simpa using ho8.less HAT2.out.bel.size), bthen HAT2.out.bel b8⟩⟩
        · have t7 : decide ((n : Int) < (q : Int) + 4 + (N : Int)) = false := by simp only [decide_eq_false_iff_not]; omega
          have hcut := HG.out ok1 ok2 (by omega)
          have HC := Lib.hid hcut
          obtain ⟨A7, u7, r7⟩ := run_mid (P := Try.prog) (t := 22) Try.underlying22 byteInfo h (q + 4) (q + 4 + N) (by omega) (by omega)
          rw [Nat.add_sub_cancel_left] at r7
          simp only [Nat.add_sub_cancel_left] at u7
          have e0 : ((q + 4 + N : Nat) : Int) = (q : Int) + 4 + (N : Int) := by omega
          have e1 : ((q + 4 : Nat) : Int) = (q : Int) + 4 := by omega
          simp only [e0, e1] at u7
          have l7 := r7.len
          have HR := Lib.hid r7
          generalize (l.drop (q + 4)).take N = x at *
          clear HB HS HG hcut e0 e1 r7
          go_wp2_with fail
          have w1 := Hw1.out
          have w2 := Hw2.out
          have w3 := Hw3.out
          have m0 := Hm0.out
          have m1 := Hm1.out
          have m2 := Hm2.out
          have s1 := Hs1.out
          have s2 := Hs2.out
          have s3 := Hs3.out
          go_quiet (fail)
          clear w1 w2 w3 m0 m1 m2 s1 s2 s3 Hw1 Hw2 Hw3 Hm0 Hm1 Hm2 Hs1 Hs2 Hs3
          have hat := HAT.out.drew nq
          generalize wr.drewN nq = wq at *
          have HAT2 := Lib.hid hat
          have hm := Ob.made (e := 5) wq (Nat.le_refl _)
          have r8 := (HR.out.below hat.bel).alloc hat.bel.size (.cells #[] 5)
          have o2 := hat.own
          have hfew := hat.few
          have hl2 := o2.1
          clear hat c0 c1 c2' c3
          go_wp2_with (at_builtin; refine wpList_app rfl (.tmp 56) (.tmp 64) rfl Try.underlying22 byteInfo rfl hm rfl r8 ?_ ?_ ?_)
          · omega
          · simp
          · intro A8 c8 w8 ho8 hb8
            have b8 : Below wq.heap.size wq w8 := (bput (Below.refl _ wq) _).trans hb8
            have ho8' : Own w8 wq.heap.size A8 N c8 x := by simpa using ho8
            have hel := El.fresh (E := w.heap.size) o2 ho8' HAT2.out.bel.size
            have B8 := bthen HAT2.out.bel b8
            go_wp2_with (at_builtin; refine wpList_appL rfl (.tmp 55) (.tmp 66) rfl rfl (o2.kept b8) rfl hel ?_ ?_ ?_)
            · omega
            · exact B8.size
            · intro A9 c9 w9 ho9 hb9
              go_wp2
              go_roundw
              case rel => exact ⟨q + 4 + N, A9, _, c9, _, by omega, by go_num, rfl, ⟨ho9, B8.trans hb9, HC.out, by
                obtain ⟨ms, s, hms⟩ := cuts_any (l.drop (q + 4 + N))
                exact Nat.le_trans (by simp only [List.length_append]; omega) (HC.out ms s hms).count⟩⟩
              case measure => simp [intOf]; omega
      · have HBD := Lib.hid (HB.out hok)
        have FIN := Lib.hid (fun k => show SplitPost w l (.returned (.tuple #[.slice none 0 0, .slice none 0 0, .int .i64 11])) (wr.drewN k) from ⟨ls, _, HAT.out.ends (.inr (.inl HBD.out)), .inl ⟨HBD.out, rfl, bdrewN HAT.out.bel k⟩⟩)
        clear HB HS HG
        by_cases h1 : N < 1
        · have t5 : decide ((N : Int) < 1) = true := by simp only [decide_eq_true_eq]; omega
          go_wp2_with fail
          have w1 := Hw1.out
          have w2 := Hw2.out
          have w3 := Hw3.out
          have m0 := Hm0.out
          have m1 := Hm1.out
          have m2 := Hm2.out
          have s1 := Hs1.out
          have s2 := Hs2.out
          have s3 := Hs3.out
          go_quiet (fail)
          clear w1 w2 w3 m0 m1 m2 s1 s2 s3 Hw1 Hw2 Hw3 Hm0 Hm1 Hm2 Hs1 Hs2 Hs3
          go_wp2
          go_ret3
          exact FIN.out _
        · have t5 : decide ((N : Int) < 1) = false := by simp only [decide_eq_false_iff_not]; omega
          have t6 : decide ((4096 : Int) < (N : Int)) = true := by simp only [decide_eq_true_eq]; omega
          go_wp2_with fail
          have w1 := Hw1.out
          have w2 := Hw2.out
          have w3 := Hw3.out
          have m0 := Hm0.out
          have m1 := Hm1.out
          have m2 := Hm2.out
          have s1 := Hs1.out
          have s2 := Hs2.out
          have s3 := Hs3.out
          go_quiet (fail)
          clear w1 w2 w3 m0 m1 m2 s1 s2 s3 Hw1 Hw2 Hw3 Hm0 Hm1 Hm2 Hs1 Hs2 Hs3
          go_wp2
          go_ret3
          exact FIN.out _
    · have t4 : decide ((q : Int) + 4 ≤ (n : Int)) = false := by simp only [decide_eq_false_iff_not]; omega
      have HST := Lib.hid (show stops (l.drop q) ∧ ¬ bad (l.drop q) from ⟨.inl (by rw [List.length_drop]; omega), fun hb => by have := hb.1; rw [List.length_drop] at this; omega⟩)
      obtain ⟨A7, u7, r7⟩ := run_from (P := Try.prog) (t := 22) Try.underlying22 byteInfo h q hq
      have HAT2 := Lib.hid hat
      have hm := Ob.made (e := 5) wr (Nat.le_refl _)
      have r8 := (r7.below hat.bel).alloc hat.bel.size (.cells #[] 5)
      clear hat r7
      go_wp2_with (at_builtin; refine wpList_app rfl (.tmp 73) (.tmp 76) rfl Try.underlying22 byteInfo rfl hm rfl r8 ?_ ?_ ?_)
      · omega
      · simp
      · intro A8 c8 w8 ho8 hb8
        have b8 : Below wr.heap.size wr w8 := (bput (Below.refl _ wr) _).trans hb8
        go_wp2
        go_ret3
        exact ⟨ls, _, HAT2.out.ends HST.out.1, .inr ⟨HST.out.2, _, _, _, _, _, _, rfl, HAT2.out.own.kept b8, (by simpa using ho8.less HAT2.out.bel.size), bthen HAT2.out.bel b8⟩⟩

theorem rFeed_any {w : World} {A : Option Addr} {n c : Nat} {l : List UInt8} (h : Rd w w.heap.size A n c l) {A' : Option Addr} {n' c' : Nat} {l' : List UInt8} (h' : Rd w w.heap.size A' n' c' l') (hn : n + n' ≤ 100000000) :
    Calls Try.prog 18 #[.slice A n c, .slice A' n' c'] w (SplitPost w (l ++ l')) := by
  have hlen := h.len
  have hlen' := h'.len
  have hm := Ob.made (e := 5) w (Nat.le_refl _)
  have r1 := h.alloc (Nat.le_refl _) (.cells #[] 5)
  go_enter Try.func18, Try.ntmps18
  go_wp2_with (at_builtin; refine wpList_app rfl (.tmp 7) (.tmp 8) rfl Try.underlying22 byteInfo rfl hm rfl r1 ?_ ?_ ?_)
  · omega
  · simp
  · intro A8 c8 w8 ho8 hb8
    have b8 : Below w.heap.size w w8 := (bput (Below.refl _ w) _).trans hb8
    have ho : Own w8 w.heap.size A8 n c8 l := by simpa using ho8
    have r2 := h'.below b8
    clear ho8 hb8 r1 hm h h'
    go_wp2_with (at_builtin; refine wpList_app rfl (.tmp 9) (.tmp 10) rfl Try.underlying22 byteInfo rfl ho rfl r2 ?_ ?_ ?_)
    · omega
    · exact b8.size
    · intro A9 c9 w9 ho9 hb9
      have b9 := b8.trans hb9
      have HS := Lib.hid (rSplit_any ho9.rd hn)
      clear ho ho9 r2
      go_wp2_with fail
      refine HS.out.mono ?_
      rintro e w' ⟨ls, r, hc, (⟨hb, hp⟩ | ⟨hb, hp⟩)⟩
      · obtain ⟨rfl, b3⟩ := hp.back b9
        have FIN := Lib.hid (show SplitPost w (l ++ l') _ w' from ⟨ls, r, hc, .inl ⟨hb, rfl, b3⟩⟩)
        go_wp2
        go_ret3
        exact FIN.out
      · obtain ⟨Al, nl, cl, Ar, nr, cr, rfl, o1, o2, b3⟩ := hp.back b9
        have FIN := Lib.hid (show SplitPost w (l ++ l') _ w' from ⟨ls, r, hc, .inr ⟨hb, _, _, _, _, _, _, rfl, o1, o2, b3⟩⟩)
        go_wp2
        go_ret3
        exact FIN.out

theorem str_eq {w : World} {B : Nat} {A : Option Addr} {n c : Nat} {l : List UInt8} {s : ByteArray} (h : Rd w B A n c l) (hs : strOf l = s) : (convert 22 9 (.slice A n c)).run Try.prog w = .ok (.string s) w := by
  subst hs
  exact run_str Try.underlying22 Try.underlying5 Try.underlying9 h

theorem same_yes {w : World} {B : Nat} {A A' : Option Addr} {n c n' c' : Nat} {ls : List (List UInt8)} (h : Rl w B A n c ls) (h' : Rl w B A' n' c' ls) :
    Calls Try.prog 16 #[.slice A n c, .slice A' n' c'] w (fun e w' => e = .returned (.bool true) ∧ ∃ k, w' = w.drewN k) := by
  have htop := h.top
  have hcap := h.cap
  have hcap' := h'.cap
  have htop' := h'.top
  obtain rfl : n = n' := h.len.symm.trans h'.len
  go_enter Try.func16, Try.ntmps16
  go_wp2_with fail
  go_loopw [5] (fun i wr => ∃ q k : Nat, q ≤ n ∧ i = .int .i64 q ∧ wr = w.drewN k) (fun i _ => n - (intOf i).toNat)
  case atStart => exact ⟨0, 0, by omega, rfl, rfl⟩
  case round =>
    obtain ⟨q, k, hq, rfl, rfl⟩ := hrel
    by_cases hqn : q < n
    · obtain ⟨b, off, rfl, _, hc⟩ := h.cells (by omega)
      obtain ⟨b', off', rfl, _, hc'⟩ := h'.cells (by omega)
      obtain ⟨A1, n1, c1, k1, r1⟩ := hc q hqn
      obtain ⟨A2, n2, c2, k2, r2⟩ := hc' q hqn
      obtain ⟨s, hs⟩ : ∃ s, strOf (ls.getD q []) = s := ⟨_, rfl⟩
      have k6 := fun N => str_eq (r1.below (bdrewN (Below.refl _ w) N)) hs
      have k7 := fun N => str_eq (r2.below (bdrewN (Below.refl _ w) N)) hs
      clear h h' hc hc' r1 r2 hs
      go_wp2_with fail
      go_quiet (fail)
      go_wp2
      go_roundw
      case rel => exact ⟨q + 1, _, by omega, by go_num, rfl⟩
      case measure => simp [intOf]; omega
    · obtain rfl : q = n := by omega
      go_wp2
      go_ret
      exact ⟨rfl, k, rfl⟩

/-- How much bodies are, and that they are few. -/
def much (ls : List (List UInt8)) : Nat := (ls.map fun x => 1 + x.length).sum
theorem much_snoc (ls : List (List UInt8)) (q : Nat) (h : q < ls.length) : much (ls.take (q + 1)) = much (ls.take q) + (1 + (ls.getD q []).length) := by
  unfold much
  rw [List.take_succ_eq_append_getElem h, List.map_append, List.sum_append, List.getD_eq_getElem?_getD, List.getElem?_eq_getElem h]
  simp only [List.map_cons, List.map_nil, List.sum_cons, List.sum_nil, Option.getD_some, Nat.add_zero]
theorem much_le (ls : List (List UInt8)) (q : Nat) : much (ls.take q) ≤ much ls := by
  have := congrArg much (List.take_append_drop q ls)
  unfold much at this ⊢
  rw [List.map_append, List.sum_append] at this
  omega

theorem few_yes {w : World} {B : Nat} {A : Option Addr} {n c : Nat} {ls : List (List UInt8)} (h : Rl w B A n c ls) (hm : much ls ≤ 3000) : Calls Try.prog 19 #[.slice A n c] w (Tells w (.bool true)) := by
  have htop := h.top
  have hcap := h.cap
  have hlen := h.len
  have HML := Lib.hid (much_le ls)
  have HMS := Lib.hid (much_snoc ls)
  go_enter Try.func19, Try.ntmps19
  go_wp2_with fail
  go_loop [3, 4] (fun v i => ∃ q : Nat, q ≤ n ∧ i = .int .i64 q ∧ v = .int .i64 ((much (ls.take q) : Nat) : Int)) (fun _ i => n - (intOf i).toNat)
  case atStart => exact ⟨0, by omega, rfl, rfl⟩
  case round =>
    obtain ⟨q, hq, rfl, rfl⟩ := hrel
    by_cases hqn : q < n
    · obtain ⟨b, off, rfl, _, hc⟩ := h.cells (by omega)
      obtain ⟨A1, n1, c1, k1, r1⟩ := hc q hqn
      have hs := HMS.out q (by omega)
      have hl1 := r1.len
      rw [hl1] at hs
      have hle := HML.out (q + 1)
      rw [hs] at hle
      have HS := Lib.hid hs
      generalize much (ls.take q) = M at *
      have t1 : decide ((3000 : Int) < (M : Int) + 1 + (n1 : Int)) = false := by simp only [decide_eq_false_iff_not]; omega
      clear hs hl1 r1 hc h
      go_wp2
      go_round
      case rel => exact ⟨q + 1, by omega, by go_num, by rw [HS.out]; go_num⟩
      case measure => simp [intOf]; omega
    · obtain rfl : q = n := by omega
      go_wp2
      go_ret
      exact ⟨rfl, rfl⟩
end Go.Proofs.Ytnffhhmfclcmjaa
