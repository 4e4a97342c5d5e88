/-
  Contracts of the two readers of layer 6: so many numbers, so many texts.
-/
import Derived.Test.YtlijagbklopipaaDoorProD
namespace Go.Proofs.YtlijagbklopipaaDoor
open Go.RowKit
set_option linter.unusedVariables false

def Many (e : TypeId) (T : TypeId) (w : World) (Bx : Nat) (A : Option Addr) (n c : Nat) (vs : List Value) (s : St) (en : Ending) (w' : World) : Prop :=
  ∃ A' n' c', en = .returned (.slice A' n' c') ∧ Ow e w' w.heap.size A' n' c' vs ∧ Reads T w w' Bx A n c s
/-- Between two rounds: j were read. -/
structure Midst {α : Type} (e : TypeId) (f : List α → List Value) (R : Rdr α) (T : TypeId) (w wr : World) (Bx : Nat) (A : Option Addr) (n c : Nat) (l : List UInt8) (K j : Nat) (A' : Option Addr) (n' c' : Nat) (zs : List α) (st : St) (ZS : List α) (ST : St) : Prop where
  own : Ow e wr w.heap.size A' n' c' (f zs)
  rd : Reads T w wr Bx A n c st
  len : zs.length = j
  le : j ≤ K
  val : zs ++ (rmany R (K - j) l st).1 = ZS
  fin : (rmany R (K - j) l st).2 = ST
theorem Midst.stop {α : Type} {e : TypeId} {f : List α → List Value} {R : Rdr α} {T : TypeId} {w wr : World} {Bx : Nat} {A : Option Addr} {n c : Nat} {l : List UInt8} {K j : Nat} {A' : Option Addr} {n' c' : Nat} {zs : List α} {st : St} {ZS : List α} {ST : St}
    (h : Midst e f R T w wr Bx A n c l K j A' n' c' zs st ZS ST) (hs : st.2 ≠ 0 ∨ j = K) : Ow e wr w.heap.size A' n' c' (f ZS) ∧ Reads T w wr Bx A n c ST := by
  have hk : rmany R (K - j) l st = ([], st) := by
    rcases hs with hs | hs
    · exact rmany_stuck R _ l hs
    · rw [hs, Nat.sub_self]; rfl
  have h1 := h.val
  have h2 := h.fin
  rw [hk] at h1 h2
  rw [List.append_nil] at h1
  subst h1
  subst h2
  exact ⟨h.own, h.rd⟩
theorem Midst.on {α : Type} {e : TypeId} {f : List α → List Value} {R : Rdr α} {T : TypeId} {w wr w2 : World} {Bx : Nat} {A : Option Addr} {n c : Nat} {l : List UInt8} {K j : Nat} {A' : Option Addr} {n' c' : Nat} {zs : List α} {st : St} {ZS : List α} {ST : St}
    (h : Midst e f R T w wr Bx A n c l K j A' n' c' zs st ZS ST) (hs : st.2 = 0) (hj : j < K) {A2 : Option Addr} {n2 c2 : Nat} (ho : Ow e w2 w.heap.size A2 n2 c2 (f (zs ++ [(R l st).1]))) (hr : Reads T w w2 Bx A n c (R l st).2) :
    Midst e f R T w w2 Bx A n c l K (j + 1) A2 n2 c2 (zs ++ [(R l st).1]) (R l st).2 ZS ST := by
  have hk := rmany_on R (K - (j + 1)) l hs
  rw [show K - (j + 1) + 1 = K - j by omega] at hk
  have h1 := h.val
  have h2 := h.fin
  rw [hk] at h1 h2
  refine ⟨ho, hr, by simp [h.len], by omega, ?_, h2⟩
  rw [← h1]
  simp

set_option maxHeartbeats 1000000 in
theorem p_nums_ok {w : World} {Bx : Nat} {A : Option Addr} {n c : Nat} {s : Int × Int} {l : List UInt8} (h : w.heap[Bx]? = some (.cells #[.slice A n c, .int .i64 s.1, .int .i64 s.2] 77 (0, 0))) (hr : Rd w Bx A n c l) (k : Int) (hk : k ≤ 1000 ∨ s.2 ≠ 0) (hk2 : k ≤ 9223372036854775807) :
    Calls Tryd.prog 47 #[.pointer (some ⟨Bx, 0, none⟩), .int .i64 k, .func (.func 45) #[.pointer (some ⟨Bx, 0, none⟩)] #[]] w (Many 3 77 w Bx A n c (iv (rmany rnum k.toNat l s).1) (rmany rnum k.toNat l s).2) := by
  have hBx : Bx < w.heap.size := (Array.getElem?_eq_some_iff.1 h).1
  obtain ⟨k0, k1, k2, f1, f2⟩ := Reads.cells (Reads.refl h)
  have HM : Hid (Midst 3 iv rnum 77 w w Bx A n c l k.toNat 0 none 0 0 [] s (rmany rnum k.toNat l s).1 (rmany rnum k.toNat l s).2) := ⟨Ow.nil _ _ _, Reads.refl h, rfl, by omega, rfl, rfl⟩
  generalize (rmany rnum k.toNat l s).1 = ZS at *
  generalize (rmany rnum k.toNat l s).2 = ST at *
  by_cases hk0 : k ≤ 0
  · have t0 : decide ((0 : Int) < k) = false := by simp only [decide_eq_false_iff_not]; omega
    have HS := Lib.hid (HM.out.stop (.inr (by omega)))
    clear HM h hr hk
    go_enter Tryd.func47, Tryd.ntmps47
    go_wp2_with fail
    refine wp_loop_rounds 1 ?_
    rw [rounds_succ]
    go_wp2
    go_ret
    exact ⟨_, _, _, rfl, HS.out.1, HS.out.2⟩
  obtain ⟨K, rfl⟩ := Int.eq_ofNat_of_zero_le (show 0 ≤ k by omega)
  rw [Int.toNat_natCast] at HM
  have HS0 := Lib.hid (show (K : Int) ≤ 1000 ∨ s.2 ≠ 0 from hk)
  clear h hk k0 k1 k2 f1 f2
  go_enter Tryd.func47, Tryd.ntmps47
  go_wp2_with fail
  go_loopw [7, 9] (fun v i wr => ∃ (j : Nat) (A' : Option Addr) (n' c' : Nat) (zs : List (Int)) (st : St), i = .int .i64 j ∧ v = .slice A' n' c' ∧ Hid (Midst 3 iv rnum 77 w wr Bx A n c l K j A' n' c' zs st ZS ST) ∧ Hid ((K : Int) ≤ 1000 ∨ st.2 ≠ 0)) (fun _ i _ => K - (intOf i).toNat)
  case atStart => exact ⟨0, _, _, _, [], s, rfl, rfl, HM, HS0⟩
  case round =>
    obtain ⟨j, A', n', c', zs, st, rfl, rfl, HM, HK⟩ := hrel
    have hle := HM.out.le
    have hzl := HM.out.len
    have hnl := HM.out.own.len
    obtain ⟨k0, k1, k2, f1, f2⟩ := HM.out.rd.cells
    by_cases hlt : j < K
    · have t0 : decide ((j : Int) < (K : Int)) = true := by simp only [decide_eq_true_eq]; omega
      by_cases hs : st.2 ≠ 0
      · clear HK hnl hzl
        have t1 : (st.2 != 0) = true := by simpa using hs
        have HS := Lib.hid (HM.out.stop (.inl hs))
        clear HM hs
        go_wp2
        go_ret
        exact ⟨_, _, _, rfl, HS.out.1, HS.out.2⟩
      have hs0 : st.2 = 0 := Decidable.not_not.1 hs
      have hK1 : (K : Int) ≤ 1000 := by rcases HK.out with h | h; exact h; exact absurd hs0 h
      have t1 : (st.2 != 0) = false := by simp [hs0]
      have HN := Lib.hid (p_num_ok HM.out.rd.box (B := Bx) (hr.below (below_grown HM.out.rd.grown (Nat.le_of_lt hBx) (fun k hk => by cases hk; exact Nat.le_refl _))))
      have hn' : n' ≤ 1000 := by
        have : n' = zs.length := by rw [← hnl]; simp [iv]
        omega
      have HS := Lib.hid hs0
      clear hs hs0 hnl hzl HK
      go_wp2_with fail
      refine HN.out.mono ?_
      rintro e1 w1 ⟨rfl, hrd⟩
      have hsz := hrd.grown.size
      have hsz0 := HM.out.rd.grown.size
      go_wp2_with (at_builtin; refine wpList_appV rfl (.tmp 16) (.tmp 19) rfl Tryd.underlying22 intInfo rfl (by omega) rfl (HM.out.own.kept hrd.grown (fun k hk => by cases hk; exact hBx)) rfl rfl ?_ ?_ ?_)
      · omega
      · omega
      · intro A2 c2 w2 ho hb
        have hrd2 : Reads 77 w w2 Bx A n c (rnum l st).2 := ⟨grown_below (grown_trans HM.out.rd.grown hrd.grown) hb, (hb.block Bx hBx).trans hrd.box⟩
        rw [iv_snoc] at ho
        have HM2 := Lib.hid (HM.out.on HS.out hlt ho hrd2)
        clear HM HN hrd hrd2 ho hb
        go_wp2
        go_roundw
        case rel => exact ⟨j + 1, _, _, _, _, _, by go_num, rfl, HM2, .inl hK1⟩
        case measure => simp only [intOf]; omega
    · have t0 : decide ((j : Int) < (K : Int)) = false := by simp only [decide_eq_false_iff_not]; omega
      have HS := Lib.hid (HM.out.stop (.inr (by omega)))
      clear HM HK
      go_wp2
      go_ret
      exact ⟨_, _, _, rfl, HS.out.1, HS.out.2⟩

set_option maxHeartbeats 1000000 in
theorem p_txts_ok {w : World} {Bx : Nat} {A : Option Addr} {n c : Nat} {s : Int × Int} {l : List UInt8} (h : w.heap[Bx]? = some (.cells #[.slice A n c, .int .i64 s.1, .int .i64 s.2] 77 (0, 0))) (hr : Rd w Bx A n c l) (k : Int) (hk : k ≤ 1000 ∨ s.2 ≠ 0) (hk2 : k ≤ 9223372036854775807) :
    Calls Tryd.prog 48 #[.pointer (some ⟨Bx, 0, none⟩), .int .i64 k, .func (.func 46) #[.pointer (some ⟨Bx, 0, none⟩)] #[]] w (Many 9 77 w Bx A n c (sv (rmany rtxt k.toNat l s).1) (rmany rtxt k.toNat l s).2) := by
  have hBx : Bx < w.heap.size := (Array.getElem?_eq_some_iff.1 h).1
  obtain ⟨k0, k1, k2, f1, f2⟩ := Reads.cells (Reads.refl h)
  have HM : Hid (Midst 9 sv rtxt 77 w w Bx A n c l k.toNat 0 none 0 0 [] s (rmany rtxt k.toNat l s).1 (rmany rtxt k.toNat l s).2) := ⟨Ow.nil _ _ _, Reads.refl h, rfl, by omega, rfl, rfl⟩
  generalize (rmany rtxt k.toNat l s).1 = ZS at *
  generalize (rmany rtxt k.toNat l s).2 = ST at *
  by_cases hk0 : k ≤ 0
  · have t0 : decide ((0 : Int) < k) = false := by simp only [decide_eq_false_iff_not]; omega
    have HS := Lib.hid (HM.out.stop (.inr (by omega)))
    clear HM h hr hk
    go_enter Tryd.func48, Tryd.ntmps48
    go_wp2_with fail
    refine wp_loop_rounds 1 ?_
    rw [rounds_succ]
    go_wp2
    go_ret
    exact ⟨_, _, _, rfl, HS.out.1, HS.out.2⟩
  obtain ⟨K, rfl⟩ := Int.eq_ofNat_of_zero_le (show 0 ≤ k by omega)
  rw [Int.toNat_natCast] at HM
  have HS0 := Lib.hid (show (K : Int) ≤ 1000 ∨ s.2 ≠ 0 from hk)
  clear h hk k0 k1 k2 f1 f2
  go_enter Tryd.func48, Tryd.ntmps48
  go_wp2_with fail
  go_loopw [7, 9] (fun v i wr => ∃ (j : Nat) (A' : Option Addr) (n' c' : Nat) (zs : List (List UInt8)) (st : St), i = .int .i64 j ∧ v = .slice A' n' c' ∧ Hid (Midst 9 sv rtxt 77 w wr Bx A n c l K j A' n' c' zs st ZS ST) ∧ Hid ((K : Int) ≤ 1000 ∨ st.2 ≠ 0)) (fun _ i _ => K - (intOf i).toNat)
  case atStart => exact ⟨0, _, _, _, [], s, rfl, rfl, HM, HS0⟩
  case round =>
    obtain ⟨j, A', n', c', zs, st, rfl, rfl, HM, HK⟩ := hrel
    have hle := HM.out.le
    have hzl := HM.out.len
    have hnl := HM.out.own.len
    obtain ⟨k0, k1, k2, f1, f2⟩ := HM.out.rd.cells
    by_cases hlt : j < K
    · have t0 : decide ((j : Int) < (K : Int)) = true := by simp only [decide_eq_true_eq]; omega
      by_cases hs : st.2 ≠ 0
      · clear HK hnl hzl
        have t1 : (st.2 != 0) = true := by simpa using hs
        have HS := Lib.hid (HM.out.stop (.inl hs))
        clear HM hs
        go_wp2
        go_ret
        exact ⟨_, _, _, rfl, HS.out.1, HS.out.2⟩
      have hs0 : st.2 = 0 := Decidable.not_not.1 hs
      have hK1 : (K : Int) ≤ 1000 := by rcases HK.out with h | h; exact h; exact absurd hs0 h
      have t1 : (st.2 != 0) = false := by simp [hs0]
      have HN := Lib.hid (p_txt_ok HM.out.rd.box (B := Bx) (hr.below (below_grown HM.out.rd.grown (Nat.le_of_lt hBx) (fun k hk => by cases hk; exact Nat.le_refl _))))
      have hn' : n' ≤ 1000 := by
        have : n' = zs.length := by rw [← hnl]; simp [sv]
        omega
      have HS := Lib.hid hs0
      clear hs hs0 hnl hzl HK
      go_wp2_with fail
      refine HN.out.mono ?_
      rintro e1 w1 ⟨rfl, hrd⟩
      have hsz := hrd.grown.size
      have hsz0 := HM.out.rd.grown.size
      go_wp2_with (at_builtin; refine wpList_appV rfl (.tmp 16) (.tmp 19) rfl Tryd.underlying23 strInfo rfl (by omega) rfl (HM.out.own.kept hrd.grown (fun k hk => by cases hk; exact hBx)) rfl rfl ?_ ?_ ?_)
      · omega
      · omega
      · intro A2 c2 w2 ho hb
        have hrd2 : Reads 77 w w2 Bx A n c (rtxt l st).2 := ⟨grown_below (grown_trans HM.out.rd.grown hrd.grown) hb, (hb.block Bx hBx).trans hrd.box⟩
        rw [sv_snoc] at ho
        have HM2 := Lib.hid (HM.out.on HS.out hlt ho hrd2)
        clear HM HN hrd hrd2 ho hb
        go_wp2
        go_roundw
        case rel => exact ⟨j + 1, _, _, _, _, _, by go_num, rfl, HM2, .inl hK1⟩
        case measure => simp only [intOf]; omega
    · have t0 : decide ((j : Int) < (K : Int)) = false := by simp only [decide_eq_false_iff_not]; omega
      have HS := Lib.hid (HM.out.stop (.inr (by omega)))
      clear HM HK
      go_wp2
      go_ret
      exact ⟨_, _, _, rfl, HS.out.1, HS.out.2⟩

set_option maxHeartbeats 1000000 in
theorem r_nums_ok {w : World} {Bx : Nat} {A : Option Addr} {n c : Nat} {s : Int × Int} {l : List UInt8} (h : w.heap[Bx]? = some (.cells #[.slice A n c, .int .i64 s.1, .int .i64 s.2] 88 (0, 0))) (hr : Rd w Bx A n c l) (k : Int) (hk : k ≤ 1000 ∨ s.2 ≠ 0) (hk2 : k ≤ 9223372036854775807) :
    Calls Tryd.prog 55 #[.pointer (some ⟨Bx, 0, none⟩), .int .i64 k] w (Many 3 88 w Bx A n c (iv (rmany rnum k.toNat l s).1) (rmany rnum k.toNat l s).2) := by
  have hBx : Bx < w.heap.size := (Array.getElem?_eq_some_iff.1 h).1
  obtain ⟨k0, k1, k2, f1, f2⟩ := Reads.cells (Reads.refl h)
  have HM : Hid (Midst 3 iv rnum 88 w w Bx A n c l k.toNat 0 none 0 0 [] s (rmany rnum k.toNat l s).1 (rmany rnum k.toNat l s).2) := ⟨Ow.nil _ _ _, Reads.refl h, rfl, by omega, rfl, rfl⟩
  generalize (rmany rnum k.toNat l s).1 = ZS at *
  generalize (rmany rnum k.toNat l s).2 = ST at *
  by_cases hk0 : k ≤ 0
  · have t0 : decide ((0 : Int) < k) = false := by simp only [decide_eq_false_iff_not]; omega
    have HS := Lib.hid (HM.out.stop (.inr (by omega)))
    clear HM h hr hk
    go_enter Tryd.func55, Tryd.ntmps55
    go_wp2_with fail
    refine wp_loop_rounds 1 ?_
    rw [rounds_succ]
    go_wp2
    go_ret
    exact ⟨_, _, _, rfl, HS.out.1, HS.out.2⟩
  obtain ⟨K, rfl⟩ := Int.eq_ofNat_of_zero_le (show 0 ≤ k by omega)
  rw [Int.toNat_natCast] at HM
  have HS0 := Lib.hid (show (K : Int) ≤ 1000 ∨ s.2 ≠ 0 from hk)
  clear h hk k0 k1 k2 f1 f2
  go_enter Tryd.func55, Tryd.ntmps55
  go_wp2_with fail
  go_loopw [5, 6] (fun v i wr => ∃ (j : Nat) (A' : Option Addr) (n' c' : Nat) (zs : List (Int)) (st : St), i = .int .i64 j ∧ v = .slice A' n' c' ∧ Hid (Midst 3 iv rnum 88 w wr Bx A n c l K j A' n' c' zs st ZS ST) ∧ Hid ((K : Int) ≤ 1000 ∨ st.2 ≠ 0)) (fun _ i _ => K - (intOf i).toNat)
  case atStart => exact ⟨0, _, _, _, [], s, rfl, rfl, HM, HS0⟩
  case round =>
    obtain ⟨j, A', n', c', zs, st, rfl, rfl, HM, HK⟩ := hrel
    have hle := HM.out.le
    have hzl := HM.out.len
    have hnl := HM.out.own.len
    obtain ⟨k0, k1, k2, f1, f2⟩ := HM.out.rd.cells
    by_cases hlt : j < K
    · have t0 : decide ((j : Int) < (K : Int)) = true := by simp only [decide_eq_true_eq]; omega
      by_cases hs : st.2 ≠ 0
      · clear HK hnl hzl
        have t1 : (st.2 == 0) = false := by simpa using hs
        have HS := Lib.hid (HM.out.stop (.inl hs))
        clear HM hs
        go_wp2
        go_ret
        exact ⟨_, _, _, rfl, HS.out.1, HS.out.2⟩
      have hs0 : st.2 = 0 := Decidable.not_not.1 hs
      have hK1 : (K : Int) ≤ 1000 := by rcases HK.out with h | h; exact h; exact absurd hs0 h
      have t1 : (st.2 == 0) = true := by simp [hs0]
      have HN := Lib.hid (r_num_ok HM.out.rd.box (B := Bx) (hr.below (below_grown HM.out.rd.grown (Nat.le_of_lt hBx) (fun k hk => by cases hk; exact Nat.le_refl _))))
      have hn' : n' ≤ 1000 := by
        have : n' = zs.length := by rw [← hnl]; simp [iv]
        omega
      have HS := Lib.hid hs0
      clear hs hs0 hnl hzl HK
      go_wp2_with fail
      refine HN.out.mono ?_
      rintro e1 w1 ⟨rfl, hrd⟩
      have hsz := hrd.grown.size
      have hsz0 := HM.out.rd.grown.size
      go_wp2_with (at_builtin; refine wpList_appV rfl (.tmp 19) (.tmp 22) rfl Tryd.underlying22 intInfo rfl (by omega) rfl (HM.out.own.kept hrd.grown (fun k hk => by cases hk; exact hBx)) rfl rfl ?_ ?_ ?_)
      · omega
      · omega
      · intro A2 c2 w2 ho hb
        have hrd2 : Reads 88 w w2 Bx A n c (rnum l st).2 := ⟨grown_below (grown_trans HM.out.rd.grown hrd.grown) hb, (hb.block Bx hBx).trans hrd.box⟩
        rw [iv_snoc] at ho
        have HM2 := Lib.hid (HM.out.on HS.out hlt ho hrd2)
        clear HM HN hrd hrd2 ho hb
        go_wp2
        go_roundw
        case rel => exact ⟨j + 1, _, _, _, _, _, by go_num, rfl, HM2, .inl hK1⟩
        case measure => simp only [intOf]; omega
    · have t0 : decide ((j : Int) < (K : Int)) = false := by simp only [decide_eq_false_iff_not]; omega
      have HS := Lib.hid (HM.out.stop (.inr (by omega)))
      clear HM HK
      go_wp2
      go_ret
      exact ⟨_, _, _, rfl, HS.out.1, HS.out.2⟩

set_option maxHeartbeats 1000000 in
theorem r_txts_ok {w : World} {Bx : Nat} {A : Option Addr} {n c : Nat} {s : Int × Int} {l : List UInt8} (h : w.heap[Bx]? = some (.cells #[.slice A n c, .int .i64 s.1, .int .i64 s.2] 88 (0, 0))) (hr : Rd w Bx A n c l) (k : Int) (hk : k ≤ 1000 ∨ s.2 ≠ 0) (hk2 : k ≤ 9223372036854775807) :
    Calls Tryd.prog 58 #[.pointer (some ⟨Bx, 0, none⟩), .int .i64 k] w (Many 9 88 w Bx A n c (sv (rmany rtxt k.toNat l s).1) (rmany rtxt k.toNat l s).2) := by
  have hBx : Bx < w.heap.size := (Array.getElem?_eq_some_iff.1 h).1
  obtain ⟨k0, k1, k2, f1, f2⟩ := Reads.cells (Reads.refl h)
  have HM : Hid (Midst 9 sv rtxt 88 w w Bx A n c l k.toNat 0 none 0 0 [] s (rmany rtxt k.toNat l s).1 (rmany rtxt k.toNat l s).2) := ⟨Ow.nil _ _ _, Reads.refl h, rfl, by omega, rfl, rfl⟩
  generalize (rmany rtxt k.toNat l s).1 = ZS at *
  generalize (rmany rtxt k.toNat l s).2 = ST at *
  by_cases hk0 : k ≤ 0
  · have t0 : decide ((0 : Int) < k) = false := by simp only [decide_eq_false_iff_not]; omega
    have HS := Lib.hid (HM.out.stop (.inr (by omega)))
    clear HM h hr hk
    go_enter Tryd.func58, Tryd.ntmps58
    go_wp2_with fail
    refine wp_loop_rounds 1 ?_
    rw [rounds_succ]
    go_wp2
    go_ret
    exact ⟨_, _, _, rfl, HS.out.1, HS.out.2⟩
  obtain ⟨K, rfl⟩ := Int.eq_ofNat_of_zero_le (show 0 ≤ k by omega)
  rw [Int.toNat_natCast] at HM
  have HS0 := Lib.hid (show (K : Int) ≤ 1000 ∨ s.2 ≠ 0 from hk)
  clear h hk k0 k1 k2 f1 f2
  go_enter Tryd.func58, Tryd.ntmps58
  go_wp2_with fail
  go_loopw [5, 6] (fun v i wr => ∃ (j : Nat) (A' : Option Addr) (n' c' : Nat) (zs : List (List UInt8)) (st : St), i = .int .i64 j ∧ v = .slice A' n' c' ∧ Hid (Midst 9 sv rtxt 88 w wr Bx A n c l K j A' n' c' zs st ZS ST) ∧ Hid ((K : Int) ≤ 1000 ∨ st.2 ≠ 0)) (fun _ i _ => K - (intOf i).toNat)
  case atStart => exact ⟨0, _, _, _, [], s, rfl, rfl, HM, HS0⟩
  case round =>
    obtain ⟨j, A', n', c', zs, st, rfl, rfl, HM, HK⟩ := hrel
    have hle := HM.out.le
    have hzl := HM.out.len
    have hnl := HM.out.own.len
    obtain ⟨k0, k1, k2, f1, f2⟩ := HM.out.rd.cells
    by_cases hlt : j < K
    · have t0 : decide ((j : Int) < (K : Int)) = true := by simp only [decide_eq_true_eq]; omega
      by_cases hs : st.2 ≠ 0
      · clear HK hnl hzl
        have t1 : (st.2 == 0) = false := by simpa using hs
        have HS := Lib.hid (HM.out.stop (.inl hs))
        clear HM hs
        go_wp2
        go_ret
        exact ⟨_, _, _, rfl, HS.out.1, HS.out.2⟩
      have hs0 : st.2 = 0 := Decidable.not_not.1 hs
      have hK1 : (K : Int) ≤ 1000 := by rcases HK.out with h | h; exact h; exact absurd hs0 h
      have t1 : (st.2 == 0) = true := by simp [hs0]
      have HN := Lib.hid (r_txt_ok HM.out.rd.box (B := Bx) (hr.below (below_grown HM.out.rd.grown (Nat.le_of_lt hBx) (fun k hk => by cases hk; exact Nat.le_refl _))))
      have hn' : n' ≤ 1000 := by
        have : n' = zs.length := by rw [← hnl]; simp [sv]
        omega
      have HS := Lib.hid hs0
      clear hs hs0 hnl hzl HK
      go_wp2_with fail
      refine HN.out.mono ?_
      rintro e1 w1 ⟨rfl, hrd⟩
      have hsz := hrd.grown.size
      have hsz0 := HM.out.rd.grown.size
      go_wp2_with (at_builtin; refine wpList_appV rfl (.tmp 19) (.tmp 22) rfl Tryd.underlying23 strInfo rfl (by omega) rfl (HM.out.own.kept hrd.grown (fun k hk => by cases hk; exact hBx)) rfl rfl ?_ ?_ ?_)
      · omega
      · omega
      · intro A2 c2 w2 ho hb
        have hrd2 : Reads 88 w w2 Bx A n c (rtxt l st).2 := ⟨grown_below (grown_trans HM.out.rd.grown hrd.grown) hb, (hb.block Bx hBx).trans hrd.box⟩
        rw [sv_snoc] at ho
        have HM2 := Lib.hid (HM.out.on HS.out hlt ho hrd2)
        clear HM HN hrd hrd2 ho hb
        go_wp2
        go_roundw
        case rel => exact ⟨j + 1, _, _, _, _, _, by go_num, rfl, HM2, .inl hK1⟩
        case measure => simp only [intOf]; omega
    · have t0 : decide ((j : Int) < (K : Int)) = false := by simp only [decide_eq_false_iff_not]; omega
      have HS := Lib.hid (HM.out.stop (.inr (by omega)))
      clear HM HK
      go_wp2
      go_ret
      exact ⟨_, _, _, rfl, HS.out.1, HS.out.2⟩
end Go.Proofs.YtlijagbklopipaaDoor
