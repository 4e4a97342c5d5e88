/-
  Contracts of the reference's Few (no), and of the law's framed.
-/
import Derived.Test.YtnffhhmfclcmjaaFrmR
namespace Go.Proofs.Ytnffhhmfclcmjaa
open Go.RowKit
set_option linter.unusedVariables false

theorem few_no {w : World} {B : Nat} {A : Option Addr} {n c : Nat} {ls : List (List UInt8)} (h : Rl w B A n c ls) (hs : ∀ x ∈ ls, x.length ≤ 140737488355328) (hm : 3000 < much ls) : Calls Try.prog 19 #[.slice A n c] w (Tells w (.bool false)) := by
  have htop := h.top
  have hcap := h.cap
  have hlen := h.len
  have HMS := Lib.hid (much_snoc ls)
  have HX := Lib.hid (fun q (hq : q < n) => hs (ls.getD q []) (by rw [List.getD_eq_getElem?_getD, List.getElem?_eq_getElem (by omega)]; simp))
  clear hs
  go_enter Try.func19, Try.ntmps19
  go_wp2_with fail
  go_loop [3, 4] (fun v i => ∃ q : Nat, q ≤ n ∧ i = .int .i64 q ∧ v = .int .i64 ((much (ls.take q) : Nat) : Int) ∧ much (ls.take q) ≤ 3000) (fun _ i => n - (intOf i).toNat)
  case atStart => exact ⟨0, by omega, rfl, rfl, by simp [much]⟩
  case round =>
    obtain ⟨q, hq, rfl, rfl, hle⟩ := hrel
    by_cases hqn : q < n
    · obtain ⟨b, off, rfl, _, hc⟩ := h.cells (by omega)
      obtain ⟨A1, n1, c1, k1, r1⟩ := hc q hqn
      have hs := HMS.out q (by omega)
      have hl1 := r1.len
      have hx := HX.out q hqn
      rw [hl1] at hs hx
      have HS := Lib.hid hs
      generalize much (ls.take q) = M at *
      by_cases hbig : 3000 < M + 1 + n1
      · have t1 : decide ((3000 : Int) < (M : Int) + 1 + (n1 : Int)) = true := by simp only [decide_eq_true_eq]; omega
        clear hs hl1 r1 hc h hm
        go_wp2
        go_ret
        exact ⟨rfl, rfl⟩
      · have t1 : decide ((3000 : Int) < (M : Int) + 1 + (n1 : Int)) = false := by simp only [decide_eq_false_iff_not]; omega
        clear hs hl1 r1 hc h
        go_wp2
        go_round
        case rel => exact ⟨q + 1, by omega, by go_num, by rw [HS.out]; go_num, by rw [HS.out]; omega⟩
        case measure => simp [intOf]; omega
    · exfalso
      obtain rfl : q = n := by omega
      rw [List.take_of_length_le (by omega)] at hle
      omega

/-- The bodies that can be framed. -/
def okb (x : List UInt8) : Bool := decide (1 ≤ x.length) && decide (x.length ≤ 4096)
theorem okb_ok (x : List UInt8) : okb x = true ↔ ok x := by simp [okb, ok]
def good (ls : List (List UInt8)) : List (List UInt8) := ls.filter okb
theorem good_snoc (ls : List (List UInt8)) (q : Nat) (h : q < ls.length) : (ok (ls.getD q []) → good (ls.take (q + 1)) = good (ls.take q) ++ [ls.getD q []]) ∧ (¬ ok (ls.getD q []) → good (ls.take (q + 1)) = good (ls.take q)) := by
  unfold good
  rw [List.take_succ_eq_append_getElem h, List.filter_append, List.getD_eq_getElem?_getD, List.getElem?_eq_getElem h, Option.getD_some]
  refine ⟨fun hk => ?_, fun hk => ?_⟩
  · rw [List.filter_cons_of_pos ((okb_ok _).2 hk)]; rfl
  · rw [List.filter_cons_of_neg (fun h => hk ((okb_ok _).1 h))]; simp
theorem good_ok (ls : List (List UInt8)) : ∀ x ∈ good ls, ok x := fun x hx => (okb_ok x).1 (List.mem_filter.1 hx).2
theorem good_all {ls : List (List UInt8)} (h : ∀ x ∈ ls, ok x) : good ls = ls := by
  unfold good
  rw [List.filter_eq_self]
  exact fun x hx => (okb_ok x).2 (h x hx)
theorem stream_app (a b : List (List UInt8)) : stream (a ++ b) = stream a ++ stream b := by simp [stream]
theorem stream_good_le (ls : List (List UInt8)) (q : Nat) : (stream (good (ls.take q))).length ≤ (stream (good ls)).length := by
  have : good ls = good (ls.take q) ++ good (ls.drop q) := by
    unfold good
    rw [← List.filter_append, List.take_append_drop]
  rw [this, stream_app, List.length_append]
  omega
theorem stream_much (ls : List (List UInt8)) : (stream (good ls)).length ≤ 4 * much ls := by
  induction ls with
  | nil => simp [stream, good]
  | cons x ls ih =>
    have e : much (x :: ls) = 1 + x.length + much ls := by simp [much]
    rw [e]
    unfold good at ih ⊢
    rw [List.filter_cons]
    split
    · rw [stream_cons, List.length_append, frame_len]; omega
    · omega
theorem much_len (ls : List (List UInt8)) : ls.length ≤ much ls := by
  induction ls with
  | nil => simp [much]
  | cons x ls ih =>
    have e : much (x :: ls) = 1 + x.length + much ls := by simp [much]
    rw [e, List.length_cons]
    omega
theorem stream_count (ls : List (List UInt8)) : ls.length ≤ (stream ls).length := by
  induction ls with
  | nil => simp
  | cons x ls ih => rw [stream_cons, List.length_append, List.length_cons, frame_len]; omega

/-- A list of the call's own is kept where bytes of the call's own grow. -/
theorem Ol.grown {w w' : World} {B : Nat} {A : Option Addr} {n c : Nat} {ls : List (List UInt8)} (h : Ol w B (Under B) A n c ls) {A2 : Option Addr} {n2 c2 : Nat} {b : List UInt8} (ho : Own w B A2 n2 c2 b) (hg : w.grownBy w' (Value.ownBlock (.slice A2 n2 c2))) : Ol w' B (Under B) A n c ls := by
  obtain ⟨hl, vs, hr, he⟩ := h
  refine ⟨hl, vs, hr.kept hg ?_, fun j v hv => ?_⟩
  · rcases hr.2 with ⟨hv, _⟩ | ⟨g, cap, cur, hv, _, hh, _⟩
    · left; rw [hv]; rfl
    · right
      rw [hv]
      intro e
      rcases ho.2.2 with ⟨hv2, _⟩ | ⟨g2, cap2, cur2, hv2, _, hh2, _⟩
      · rw [hv2] at e; cases e
      · rw [hv2] at e
        have : g = g2 := by simpa [Value.ownBlock] using e
        subst this
        rw [hh] at hh2
        cases hh2
  · obtain ⟨A3, n3, c3, rfl, hrd, hoff⟩ := he j v hv
    refine ⟨A3, n3, c3, rfl, ⟨hrd.len, hrd.cap, hrd.top, fun hn => ?_⟩, hoff⟩
    obtain ⟨b3, off, rfl, hlt, hc⟩ := hrd.cells hn
    have hun := (hoff hn _ rfl).1
    refine ⟨b3, off, rfl, Nat.lt_of_lt_of_le hlt hg.size, fun k hk => hg.cell (hc k hk) fun e => ?_⟩
    have := (ho.2.lt b3 e.symm).1
    unfold Under at hun
    simp only at hun this
    omega
theorem Ob.grownL {w w' : World} {B : Nat} {A : Option Addr} {n c : Nat} {ls : List (List UInt8)} {D : Nat → Prop} (h : Ol w B D A n c ls) {A2 : Option Addr} {n2 c2 : Nat} {b : List UInt8} (ho : Own w B A2 n2 c2 b) (hg : w.grownBy w' (Value.ownBlock (.slice A n c))) : Own w' B A2 n2 c2 b := by
  obtain ⟨hl, vs, hr, he⟩ := h
  refine ho.kept hg ?_
  rcases ho.2.2 with ⟨hv2, _⟩ | ⟨g2, cap2, cur2, hv2, _, hh2, _⟩
  · left; rw [hv2]; rfl
  · right
    rw [hv2]
    intro e
    rcases hr.2 with ⟨hv, _⟩ | ⟨g, cap, cur, hv, _, hh, _⟩
    · rw [hv] at e; cases e
    · rw [hv] at e
      have : g2 = g := by simpa [Value.ownBlock] using e
      subst this
      rw [hh] at hh2
      cases hh2

/-- What framed answers. -/
def FramedPost (w : World) (ls : List (List UInt8)) (e : Ending) (w' : World) : Prop :=
  ∃ A n c A2 n2 c2, e = .returned (.tuple #[.slice A n c, .slice A2 n2 c2]) ∧ Ol w' w.heap.size (Under w.heap.size) A n c (good ls) ∧ Own w' w.heap.size A2 n2 c2 (stream (good ls)) ∧ Below w.heap.size w w'

set_option maxRecDepth 100000 in
theorem framed_ok {w : World} {A : Option Addr} {n c : Nat} {ls : List (List UInt8)} (h : Rl w w.heap.size A n c ls) (hn : (stream (good ls)).length ≤ 100000000) :
    Calls Try.prog 20 #[.slice A n c] w (FramedPost w ls) := by
  have htop := h.top
  have hcap := h.cap
  have hlen := h.len
  have HSN := Lib.hid (good_snoc ls)
  have HLE := Lib.hid (stream_good_le ls)
  go_enter Try.func20, Try.ntmps20
  go_wp2_with fail
  go_loopw [4, 5, 6] (fun v b i wr => ∃ (q : Nat) (A1 : Option Addr) (n1 c1 : Nat) (A2 : Option Addr) (n2 c2 : Nat), q ≤ n ∧ i = .int .i64 q ∧ v = .slice A1 n1 c1 ∧ b = .slice A2 n2 c2 ∧ Ol wr w.heap.size (Under w.heap.size) A1 n1 c1 (good (ls.take q)) ∧ Own wr w.heap.size A2 n2 c2 (stream (good (ls.take q))) ∧ Below w.heap.size w wr)
    (fun _ _ i _ => n - (intOf i).toNat)
  case atStart => exact ⟨0, _, _, _, _, _, _, by omega, rfl, rfl, rfl, Ol.nil _ _ _, Ob.nil _ _ _, Below.refl _ _⟩
  case round =>
    obtain ⟨q, A1, n1, c1, A2, n2, c2, hq, rfl, rfl, rfl, ho1, ho2, hb⟩ := hrel
    by_cases hqn : q < n
    · obtain ⟨b, off, rfl, hlt, hc⟩ := h.cells (by omega)
      obtain ⟨A3, n3, c3, k1, r3⟩ := hc q hqn
      have k2 := (hb.cell (p := ⟨b, off + q, none⟩) hlt).trans k1
      have hs := HSN.out q (by omega)
      have hle := HLE.out (q + 1)
      generalize ls.getD q [] = x at *
      by_cases hx : ok x
      · have hs1 := hs.1 hx
        rw [hs1, stream_snoc, List.length_append, ho2.len] at hle
        have HS := Lib.hid hs1
        have hcnt := stream_count (good (ls.take q))
        rw [ho2.len] at hcnt
        have hl1 := ho1.1
        generalize good (ls.take q) = G at *
        clear hs hs1 hc k1
        go_wp2_with fail
        refine (fPut_ok (r3.below hb) hb.size hx).mono ?_
        rintro e w4 ⟨A4, n4, c4, rfl, ho4, hb4⟩
        have b4 := bthen hb hb4
        have k3 := (hb4.cell (p := ⟨b, off + q, none⟩) (Nat.lt_of_lt_of_le hlt hb.size)).trans k2
        have o1 := ho1.kept hb4
        have hl4 := ho4.len
        have hel := El.old o1 (r3.below b4) b4.size
        clear ho1 k2
        go_wp2_with (at_builtin; refine wpList_appLG rfl (.tmp 25) (.tmp 30) rfl rfl o1 rfl hel ?_ ?_ ?_)
        · omega
        · exact b4.size
        · intro A5 c5 w5 ho5 hg5 hb5
          have o2 := Ob.grownL (o1.kept (bput (Below.refl _ w4) _)) ((ho2.step hb4).alloc _) hg5
          have r4 := (ho4.less hb.size).alloc (.cells #[.slice A3 n3 c3] 22)
          have b5 := b4.trans hb5
          have o4 : Own w5 w.heap.size A4 n4 c4 (frame x) := Ob.grownL (o1.kept (bput (Below.refl _ w4) _)) r4 hg5
          have l2 := o2.len
          go_wp2_with (at_builtin; refine wpList_appG rfl (.tmp 32) (.tmp 33) rfl rfl o2 rfl o4.rd ?_ ?_ ?_)
          · rw [← hl4]; omega
          · exact b5.size
          · intro A6 c6 w6 ho6 hg6 hb6
            have o6 := ho5.grown o2 hg6
            go_wp2
            go_roundw
            case rel => exact ⟨q + 1, _, _, _, _, _, _, by omega, by go_num, rfl, rfl, by rw [HS.out]; exact o6, by rw [HS.out, stream_snoc]; exact ho6, b5.trans hb6⟩
            case measure => simp [intOf]; omega
      · have HS := Lib.hid (hs.2 hx)
        clear hs hc k1
        go_wp2_with fail
        refine (fPut_no (r3.below hb) hx).mono ?_
        rintro e w4 ⟨A4, n4, c4, rfl, ho4, hb4⟩
        go_wp2
        go_roundw
        case rel => exact ⟨q + 1, _, _, _, _, _, _, by omega, by go_num, rfl, rfl, by rw [HS.out]; exact ho1.kept hb4, by rw [HS.out]; exact ho2.step hb4, bthen hb hb4⟩
        case measure => simp [intOf]; omega
    · obtain rfl : q = n := by omega
      rw [List.take_of_length_le (by omega)] at ho1 ho2
      go_wp2
      go_ret2
      exact ⟨_, _, _, _, _, _, rfl, ho1, ho2, hb⟩
end Go.Proofs.Ytnffhhmfclcmjaa
