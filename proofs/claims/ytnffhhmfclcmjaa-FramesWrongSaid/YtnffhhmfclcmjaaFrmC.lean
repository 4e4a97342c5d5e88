/-
  Contracts of slices.Grow at no bytes, slices.Concat, frames' joined and Feed.
-/
import Derived.Lib.AppendZerosOnto
import Derived.Test.YtnffhhmfclcmjaaFrmI
namespace Go.Proofs.Ytnffhhmfclcmjaa
open Go.RowKit Go.Lib
set_option linter.unusedVariables false

theorem Rl.two {w : World} {B : Nat} {A : Option Addr} {n c : Nat} {l : List UInt8} {A' : Option Addr} {n' c' : Nat} {l' : List UInt8} (h : Rd w B A n c l) (h' : Rd w B A' n' c' l') (hB : B ≤ w.heap.size) (t : TypeId) :
    Rl (w.alloc (.cells #[.slice A n c, .slice A' n' c'] t)) (w.heap.size + 1) (some ⟨w.heap.size, 0, none⟩) 2 2 [l, l'] := by
  refine ⟨rfl, Nat.le_refl _, by omega, fun _ => ⟨w.heap.size, 0, rfl, by omega, fun j hj => ?_⟩⟩
  have h1 := (h.alloc hB (.cells #[.slice A n c, .slice A' n' c'] t)).more (B' := w.heap.size + 1) (by omega)
  have h2 := (h'.alloc hB (.cells #[.slice A n c, .slice A' n' c'] t)).more (B' := w.heap.size + 1) (by omega)
  rcases j with _ | _ | j
  · exact ⟨_, _, _, by rw [cell_of_row _ w.heap.size (0 + 0) _ _ _ (heap_alloc_new w _)]; rfl, h1⟩
  · exact ⟨_, _, _, by rw [cell_of_row _ w.heap.size (0 + (0 + 1)) _ _ _ (heap_alloc_new w _)]; rfl, h2⟩
  · omega

theorem grow_ok {w : World} (n : Nat) (hn : n ≤ 100000000) : Calls Try.prog 30 #[.slice none 0 0, .int .i64 (n : Int)] w (Gives w []) := by
  rcases Nat.eq_zero_or_pos n with h0 | h0
  · subst h0
    go_enter Try.func30, Try.ntmps30
    go_wp2
    go_ret
    exact ⟨none, 0, 0, rfl, Ob.nil _ _ _, Below.refl _ _⟩
  · obtain ⟨i0, hi0, hz0, hs0, hb0⟩ := info_parts byteInfo
    have hnc : ¬ ((n : Int) < 0) := by omega
    have hgt : ((n : Int) > 0) := by omega
    have hold : (Builtin.firstCells i0.size 0 (.slice none 0 0)).run Try.prog w.drew = .ok ([] : List Value).toArray w.drew := run_firstCells_none w.drew i0.size 0 0 0
    have hrz : ∀ ty, (Builtin.append_ #[22, 3] ty #[.slice none 0 0, .int .i64 (n : Int)]).run Try.prog w =
        .ok (.slice (some ⟨w.heap.size, 0, none⟩) n (grownCap w n 0 5)) (w.drew.alloc (.cells (([] : List Value).toArray ++ Builtin.zeroCells (Value.int .u8 0).cells n ++ Builtin.zeroCells (Value.int .u8 0).cells (grownCap w n 0 5 - n)) 5)) := fun ty => by
      have h := Lib.run_append_grow_zeros (P := Try.prog) w 22 3 ty 5 i0 (.int .u8 0) .i64 .i64 Try.underlying22 Try.underlying3 hi0 hz0 none 0 0 [] hold n (by omega) (by omega) (by omega) (by omega)
        (by rw [hb0]; omega)
        (by rw [Nat.zero_add]; exact growslice_fits (by omega) (by rw [hb0]; omega))
      rw [Nat.zero_add] at h
      exact h
    have hGn : n ≤ grownCap w n 0 5 := grownCap_ge w _ _ _
    obtain ⟨G, hG⟩ : ∃ G, G = grownCap w n 0 5 := ⟨_, rfl⟩
    rw [← hG] at hrz hGn
    have hG63 : G ≤ 9223372036854775807 := by
      have := grownCap_le_maxLen w n 0 5 (by unfold maxLen; omega)
      rw [← hG] at this
      unfold maxLen at this
      omega
    have FIN : Hid (∀ cs : Array Value, cs.size = G → Gives w [] (.returned (.slice (some ⟨w.heap.size, 0, none⟩) 0 G)) (w.drew.alloc (.cells cs 5))) := by
      intro cs hcs
      refine ⟨_, _, _, rfl, ⟨rfl, ?_⟩, ((Below.refl _ w).drew).alloc (Nat.le_refl _) _⟩
      exact ⟨rfl, .inr ⟨w.heap.size, G, cs, rfl, Nat.le_refl _, heap_alloc_new w.drew _, Nat.zero_le _, by simpa [maxLen] using hG63, by simpa using hcs, by simp [bcs]⟩⟩
    have hsz : ([].toArray ++ Builtin.zeroCells (Value.int .u8 0).cells n ++ Builtin.zeroCells (Value.int .u8 0).cells (G - n)).size = G := by
      simp [Builtin.zeroCells, Value.cells]
      omega
    clear hold hG hsz
    go_enter Try.func30, Try.ntmps30
    go_wp2_with (at_builtin; refine Lib.wpList_append_run _ rfl _ _ _ _ rfl _ _ rfl rfl _ _ (hrz _) ?_)
    go_ret
    refine FIN.out _ ?_
    simp [Builtin.zeroCells]
    omega

theorem flat_snoc (ls : List (List UInt8)) (j : Nat) (h : j < ls.length) : (ls.take (j + 1)).flatten = (ls.take j).flatten ++ ls.getD j [] := by
  rw [List.take_succ_eq_append_getElem h, List.flatten_append, List.getD_eq_getElem?_getD, List.getElem?_eq_getElem h]
  simp only [List.flatten_cons, List.flatten_nil, List.append_nil, Option.getD_some]
theorem flat_le (ls : List (List UInt8)) (j : Nat) : (ls.take j).flatten.length ≤ ls.flatten.length := by
  have := congrArg (fun l => l.flatten.length) (List.take_append_drop j ls)
  simp only [List.flatten_append, List.length_append] at this
  omega

set_option maxRecDepth 100000 in
theorem concat_ok {w : World} {A : Option Addr} {n c : Nat} {ls : List (List UInt8)} (h : Rl w w.heap.size A n c ls) (hpos : 0 < n) (hN : ls.flatten.length ≤ 100000000) :
    Calls Try.prog 29 #[.slice A n c] w (Gives w ls.flatten) := by
  obtain ⟨b, off, rfl, hlt, hc⟩ := h.cells hpos
  have hlen := h.len
  have htop := h.top
  have hcap := h.cap
  clear h
  have HFL := Lib.hid (flat_le ls)
  have HFS := Lib.hid (flat_snoc ls)
  go_enter Try.func29, Try.ntmps29
  go_wp2_with fail
  go_loop [3, 11] (fun v i => ∃ j : Nat, j ≤ n ∧ i = .int .i64 j ∧ v = .int .i64 (((ls.take j).flatten.length : Nat) : Int)) (fun _ i => n - (intOf i).toNat)
  case atStart => exact ⟨0, by omega, rfl, rfl⟩
  case round =>
    obtain ⟨j, hj, rfl, rfl⟩ := hrel
    have hle := HFL.out j
    by_cases hjn : j < n
    · obtain ⟨A', n', c', hcell, hr⟩ := hc j hjn
      have hs := congrArg List.length (HFS.out j (by omega))
      have hl' := hr.len
      have hle2 := HFL.out (j + 1)
      rw [List.length_append, hl'] at hs
      have HS := Lib.hid hs
      generalize (ls.take j).flatten.length = S at *
      rw [hs] at hle2
      have htop' := hr.top
      have hcap' := hr.cap
      have t1 : decide ((S : Int) + (n' : Int) < 0) = false := by simp only [decide_eq_false_iff_not]; omega
      clear hs hr hc hl'
      go_wp2
      go_round
      case rel => exact ⟨j + 1, by omega, by go_num, by rw [HS.out]; go_num⟩
      case measure => simp [intOf]; omega
    · obtain rfl : j = n := by omega
      have hall : ls.take j = ls := List.take_of_length_le (by omega)
      rw [hall] at hle ⊢
      have HG := Lib.hid (fun w : World => grow_ok (w := w) ls.flatten.length hN)
      generalize hS : ls.flatten.length = S at *
      clear hall
      go_wp2_with fail
      refine (HG.out _).mono ?_
      rintro e w1 ⟨A1, n1, c1, rfl, ho, hb⟩
      obtain rfl : n1 = 0 := ho.len.symm
      go_wp2_with fail
      go_loopw [6, 27] (fun v i wr => ∃ (q : Nat) (A2 : Option Addr) (n2 c2 : Nat), q ≤ j ∧ i = .int .i64 q ∧ v = .slice A2 n2 c2 ∧ Own wr w.heap.size A2 n2 c2 (ls.take q).flatten ∧ Below w.heap.size w wr) (fun _ i _ => j - (intOf i).toNat)
      case atStart => exact ⟨0, _, _, _, by omega, rfl, rfl, ho, hb⟩
      case round =>
        obtain ⟨q, A2, n2, c2, hq, rfl, rfl, ho2, hb2⟩ := hrel
        by_cases hqn : q < j
        · obtain ⟨A', n', c', hcell, hr⟩ := hc q hqn
          have hcell2 := (hb2.cell (p := ⟨b, off + q, none⟩) hlt).trans hcell
          have hl2 := ho2.len
          have hle2 := HFL.out (q + 1)
          have HS := Lib.hid (HFS.out q (by omega))
          rw [HS.out, List.length_append, hr.len, hl2] at hle2
          clear hcell hc
          generalize ls.getD q [] = x at *
          go_wp2_with (at_builtin; refine wpList_app rfl (.tmp 31) (.tmp 32) rfl Try.underlying22 byteInfo rfl ho2 rfl (hr.below hb2) ?_ ?_ ?_)
          · omega
          · exact hb2.size
          · intro A3 c3 w3 ho3 hb3
            go_wp2
            go_roundw
            case rel => exact ⟨q + 1, A3, _, c3, by omega, by go_num, rfl, by rw [HS.out]; exact ho3, hb2.trans hb3⟩
            case measure => simp [intOf]; omega
        · obtain rfl : q = j := by omega
          have hall : ls.take q = ls := List.take_of_length_le (by omega)
          rw [hall] at ho2
          clear hall
          go_wp2
          go_ret
          exact ⟨_, _, _, rfl, ho2, hb2⟩

theorem joined_ok {w : World} {A : Option Addr} {n c : Nat} {ls : List (List UInt8)} (h : Rl w w.heap.size A n c ls) (hpos : 0 < n) (hN : ls.flatten.length ≤ 100000000) :
    Calls Try.prog 26 #[.slice A n c] w (Gives w ls.flatten) := by
  have HC := Lib.hid (concat_ok h hpos hN)
  clear h hpos hN
  go_enter Try.func26, Try.ntmps26
  go_wp2_with fail
  refine HC.out.mono ?_
  rintro e w1 ⟨A1, n1, c1, rfl, ho, hb⟩
  go_wp2
  go_ret
  exact ⟨_, _, _, rfl, ho, hb⟩

theorem PartsNo.back {w a : World} {e : Ending} {w' : World} (h : PartsNo a e w') (hb : Below w.heap.size w a) : PartsNo w e w' := ⟨h.1, hb.trans (h.2.mono hb.size)⟩
theorem Parts.back {w a : World} {ls : List (List UInt8)} {r : List UInt8} {e : Ending} {w' : World} (h : Parts a ls r e w') (hb : Below w.heap.size w a) : Parts w ls r e w' := by
  obtain ⟨A, n, c, A2, n2, c2, rfl, h1, h2, h3⟩ := h
  exact ⟨A, n, c, A2, n2, c2, rfl, h1.less hb.size (fun b h => Nat.le_trans hb.size h), h2.less hb.size, hb.trans (h3.mono hb.size)⟩

theorem feed_bad {w : World} {A : Option Addr} {n c : Nat} {l : List UInt8} (h : Rd w w.heap.size A n c l) {A' : Option Addr} {n' c' : Nat} {l' : List UInt8} (h' : Rd w w.heap.size A' n' c' l') (hn : n + n' ≤ 100000000)
    {ls : List (List UInt8)} {r : List UInt8} (hc : Cuts (l ++ l') ls r) (hb : bad r) : Calls Try.prog 17 #[.slice A n c, .slice A' n' c'] w (PartsNo w) := by
  have hfl : [l, l'].flatten = l ++ l' := by simp
  have hlen : (l ++ l').length = n + n' := by rw [List.length_append, h.len, h'.len]
  have HJ := Lib.hid (joined_ok (Rl.two h h' (Nat.le_refl _) 22 |>.more (by simp)) (by omega) (by rw [hfl, hlen]; omega))
  rw [hfl] at HJ
  have b1 := bput (Below.refl _ w) (.cells #[.slice A n c, .slice A' n' c'] 22)
  clear h h'
  go_enter Try.func17, Try.ntmps17
  go_wp2_with fail
  refine HJ.out.mono ?_
  rintro e w1 ⟨A1, n1, c1, rfl, ho, hb1⟩
  have b2 := bthen b1 hb1
  have hl1 := ho.len
  rw [hlen] at hl1
  subst hl1
  have HS := Lib.hid (split_bad ho.rd hn hc hb)
  clear ho hb1 hlen
  go_wp2_with fail
  refine HS.out.mono ?_
  rintro e w2 h2
  have h3 := h2.back b2
  obtain ⟨rfl, hb3⟩ := h3
  go_wp2
  go_ret3
  exact ⟨rfl, hb3⟩

theorem feed_ok {w : World} {A : Option Addr} {n c : Nat} {l : List UInt8} (h : Rd w w.heap.size A n c l) {A' : Option Addr} {n' c' : Nat} {l' : List UInt8} (h' : Rd w w.heap.size A' n' c' l') (hn : n + n' ≤ 100000000)
    {ls : List (List UInt8)} {r : List UInt8} (hc : Cuts (l ++ l') ls r) (hb : ¬ bad r) : Calls Try.prog 17 #[.slice A n c, .slice A' n' c'] w (Parts w ls r) := by
  have hfl : [l, l'].flatten = l ++ l' := by simp
  have hlen : (l ++ l').length = n + n' := by rw [List.length_append, h.len, h'.len]
  have HJ := Lib.hid (joined_ok (Rl.two h h' (Nat.le_refl _) 22 |>.more (by simp)) (by omega) (by rw [hfl, hlen]; omega))
  rw [hfl] at HJ
  have b1 := bput (Below.refl _ w) (.cells #[.slice A n c, .slice A' n' c'] 22)
  clear h h'
  go_enter Try.func17, Try.ntmps17
  go_wp2_with fail
  refine HJ.out.mono ?_
  rintro e w1 ⟨A1, n1, c1, rfl, ho, hb1⟩
  have b2 := bthen b1 hb1
  have hl1 := ho.len
  rw [hlen] at hl1
  subst hl1
  have HS := Lib.hid (split_ok ho.rd hn hc hb)
  clear ho hb1 hlen
  go_wp2_with fail
  refine HS.out.mono ?_
  rintro e w2 h2
  have h3 := h2.back b2
  obtain ⟨Al, nl, cl, Ar, nr, cr, rfl, ho1, ho2, hb3⟩ := h3
  go_wp2
  go_ret3
  exact ⟨_, _, _, _, _, _, rfl, ho1, ho2, hb3⟩
end Go.Proofs.Ytnffhhmfclcmjaa
