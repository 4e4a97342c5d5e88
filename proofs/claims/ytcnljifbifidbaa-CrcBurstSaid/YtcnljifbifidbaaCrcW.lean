/-
  Contracts of crc's half, times, adder and Sum: what the Go text computes is what the plain functions say.
-/
import Derived.Test.YtcnljifbifidbaaPrim
import Derived.Test.YtcnljifbifidbaaCrcP
namespace Go.Proofs.Ytcnljifbifidbaa
open Go.RowKit
set_option linter.unusedVariables false

/-- A step, as the walk spells it. -/
theorem st_walk (v : Nat) (h : v < 2 ^ 32) : bits BinOp.xor IntKind.u32 ((v : Int) / 2) (bits BinOp.and IntKind.u32 3988292384 (-bits BinOp.and IntKind.u32 (v : Int) 1 % 4294967296)) = ((st v : Nat) : Int) := by
  have e1 : bits BinOp.and IntKind.u32 (v : Int) 1 = ((v % 2 : Nat) : Int) := by
    have := u32_and_nat v 1 (by omega) (by omega)
    rw [nat_mask1] at this
    exact this
  have e2 : ((v : Int) / 2) = ((v / 2 : Nat) : Int) := by omega
  rw [e1, e2]
  unfold st
  by_cases hb : v % 2 = 1
  · rw [hb, if_pos rfl]
    have e3 : (-((1 : Nat) : Int)) % 4294967296 = ((4294967295 : Nat) : Int) := by omega
    have e4 := u32_and_nat 3988292384 4294967295 (by omega) (by omega)
    rw [nat_mask32] at e4
    rw [e3, show (3988292384 : Int) = ((3988292384 : Nat) : Int) from rfl, e4, u32_xor_nat _ _ (by omega) (by omega)]
  · have h0 : v % 2 = 0 := by omega
    rw [h0, if_neg (by omega)]
    have e3 : (-((0 : Nat) : Int)) % 4294967296 = ((0 : Nat) : Int) := by omega
    have e4 := u32_and_nat 3988292384 0 (by omega) (by omega)
    rw [Nat.and_zero] at e4
    rw [e3, show (3988292384 : Int) = ((3988292384 : Nat) : Int) from rfl, e4, u32_xor_nat _ _ (by omega) (by omega)]

set_option maxRecDepth 100000 in
theorem half_ok {w : World} (v : Nat) (hv : v < 2 ^ 32) :
    Calls Try.prog 28 #[.int .u32 (v : Int)] w (Tells w (.int .u32 ((its 4 v : Nat) : Int))) := by
  go_enter Try.func28, Try.ntmps28
  go_wp2_with fail
  go_loop [0, 3] (fun x i => ∃ (k u : Nat), k ≤ 4 ∧ u < 2 ^ 32 ∧ i = .int .i64 (k : Int) ∧ x = .int .u32 (u : Int) ∧ its (4 - k) u = its 4 v) (fun _ i => 4 - (intOf i).toNat)
  case atStart => exact ⟨0, v, by omega, hv, rfl, rfl, rfl⟩
  case round =>
    obtain ⟨k, u, hk, hu, rfl, rfl, heq⟩ := hrel
    have hst := st_walk u hu
    have HU := Lib.hid hu
    have HE := Lib.hid heq
    clear hu heq hv
    by_cases hlt : k < 4
    · go_wp2
      go_round
      case rel => exact ⟨k + 1, st u, by omega, st_lt HU.out, by go_num, rfl, by rw [← HE.out, show 4 - k = (4 - (k + 1)) + 1 by omega]; rfl⟩
      case measure => simp [intOf]; omega
    · have h4 : k = 4 := by omega
      subst h4
      go_wp2
      go_ret
      have := HE.out
      rw [Nat.sub_self] at this
      rw [← this]
      exact ⟨rfl, rfl⟩

/-- A table of the closure's, in block g. -/
def Tab (w : World) (g : Nat) : Prop := ∀ i, i < 16 → w.cell? ⟨g, i, none⟩ = some (.int .u32 ((its 4 i : Nat) : Int))

theorem Tab.keep {w w' : World} {g B : Nat} (h : Tab w g) (hb : Below B w w') (hg : g < B) : Tab w' g := fun i hi => (hb.cell (p := ⟨g, i, none⟩) hg).trans (h i hi)

theorem and_15 (x : Nat) (h : x < 2 ^ 32) : bits BinOp.and IntKind.u32 (x : Int) 15 = ((x % 16 : Nat) : Int) := by
  have := u32_and_nat x 15 (by omega) (by omega)
  rw [nat_mask4] at this
  exact this
theorem xor_walk (a b : Nat) (ha : a < 2 ^ 32) (hb : b < 2 ^ 32) : bits BinOp.xor IntKind.u32 (a : Int) (b : Int) = ((a ^^^ b : Nat) : Int) := u32_xor_nat a b (by omega) (by omega)
theorem nib_walk (x : Nat) (h : x < 2 ^ 32) : bits BinOp.xor IntKind.u32 ((its 4 (x % 16) : Nat) : Int) ((x : Int) / 16) = ((its 4 x : Nat) : Int) := by
  have e : (x : Int) / 16 = ((x / 16 : Nat) : Int) := by omega
  rw [e, xor_walk _ _ (its_lt 4 (by omega)) (by omega), ← its_four]

set_option maxRecDepth 100000 in
theorem add_ok {w : World} (g v : Nat) (c : UInt8) (hv : v < 2 ^ 32) (ht : Tab w g) :
    Calls Try.prog 29 #[.int .u32 (v : Int), .int .u8 (c.toNat : Int), .pointer (some ⟨g, 0, none⟩)] w (Tells w (.int .u32 ((upd v c : Nat) : Int))) := by
  have hc := byte_lt c
  have k1 := xor_walk v c.toNat hv hc
  obtain ⟨x, hx⟩ : ∃ x, x = v ^^^ c.toNat := ⟨_, rfl⟩
  have hx1 : x < 2 ^ 32 := by rw [hx]; exact Nat.xor_lt_two_pow hv hc
  rw [← hx] at k1
  have k2 := and_15 x hx1
  have k3 := nib_walk x hx1
  have c1 := ht (x % 16) (by omega)
  have i1 : x % 16 < 16 := by omega
  obtain ⟨y, hy⟩ : ∃ y, y = its 4 x := ⟨_, rfl⟩
  rw [← hy] at k3
  have hy1 : y < 2 ^ 32 := by rw [hy]; exact its_lt 4 hx1
  have k4 := and_15 y hy1
  have k5 := nib_walk y hy1
  have c2 := ht (y % 16) (by omega)
  have i2 : y % 16 < 16 := by omega
  have hz : its 4 y = upd v c := by rw [hy, ← its_add]; unfold upd; rw [hx]
  have HZ := Lib.hid hz
  generalize x % 16 = i at *
  generalize y % 16 = j at *
  generalize its 4 y = z at *
  generalize its 4 i = t at *
  generalize its 4 j = u at *
  clear hx hy hz hx1 hy1 hv hc ht
  have hc := c.toNat_lt
  go_enter Try.func29, Try.ntmps29
  go_wp2
  go_ret
  rw [← HZ.out]
  exact ⟨rfl, rfl⟩

/-- A block that is so many cells, the first of which are the table's. -/
def Fill (w : World) (g j : Nat) : Prop := ∃ cs T, w.heap[g]? = some (.cells cs T (0, 0)) ∧ cs.size = 16 ∧ ∀ m, m < j → cs[m]? = some (.int .u32 ((its 4 m : Nat) : Int))

theorem Fill.cell {w : World} {g j : Nat} (h : Fill w g j) (m : Nat) (hm : m < 16) : ∃ v, w.cell? ⟨g, m, none⟩ = some v := by
  obtain ⟨cs, T, hh, hs, _⟩ := h
  exact ⟨cs[m], by rw [cell_of_row w g m cs T (0, 0) hh]; simp [hs, hm]⟩
theorem Fill.free {w : World} {g j : Nat} (h : Fill w g j) (m : Nat) : w.frozen? ⟨g, m, none⟩ = false := by
  obtain ⟨cs, T, hh, hs, _⟩ := h
  simp [World.frozen?, hh]
theorem Fill.put {w : World} {g j : Nat} (h : Fill w g j) (hj : j < 16) : Fill (w.setCell ⟨g, j, none⟩ (.int .u32 ((its 4 j : Nat) : Int))) g (j + 1) := by
  obtain ⟨cs, T, hh, hs, hc⟩ := h
  refine ⟨_, T, heap_setCell_same w g j cs T _ hh, by simpa using hs, fun m hm => ?_⟩
  rw [Array.getElem?_setIfInBounds]
  by_cases e : j = m
  · subst e; simp [hs, hj]
  · rw [if_neg e]; exact hc m (by omega)
theorem Fill.tab {w : World} {g : Nat} (h : Fill w g 16) : Tab w g := by
  obtain ⟨cs, T, hh, hs, hc⟩ := h
  intro m hm
  rw [cell_of_row w g m cs T (0, 0) hh, hc m hm]

/-- What adder answers: a closure over a table of its own. -/
def AdderPost (w : World) (e : Ending) (w' : World) : Prop :=
  ∃ g, e = .returned (.func (.func 29) #[] #[.pointer (some ⟨g, 0, none⟩)]) ∧ Tab w' g ∧ w.heap.size ≤ g ∧ g < w'.heap.size ∧ Below w.heap.size w w'

set_option maxRecDepth 100000 in
theorem adder_ok (w : World) : Calls Try.prog 22 #[] w (AdderPost w) := by
  have hmf : ∀ (fn : Fn) (first cap : Array Value) (w : World), (Instr.makeFunc fn first cap).run Try.prog w = .ok (.func fn first cap) w := fun _ _ _ _ => rfl
  go_enter Try.func22, Try.ntmps22
  go_wp2_with fail
  go_loopw [3] (fun i wr => ∃ j : Nat, j ≤ 16 ∧ i = .int .i64 (j : Int) ∧ Fill wr w.heap.size j ∧ Below w.heap.size w wr) (fun i _ => 16 - (intOf i).toNat)
  case atStart =>
    refine ⟨0, by omega, rfl, ⟨_, _, heap_alloc_new w _, rfl, fun m hm => absurd hm (by omega)⟩, bput (Below.refl _ _) _⟩
  case round =>
    obtain ⟨j, hj, rfl, hf, hb⟩ := hrel
    by_cases hlt : j < 16
    · obtain ⟨v0, hcell⟩ := hf.cell j hlt
      have hfree := hf.free j
      go_wp2_with (go_at_call 28; refine (half_ok j (by omega)).mono ?_; rintro e w2 ⟨rfl, rfl⟩)
      go_roundw
      case rel => exact ⟨j + 1, by omega, by go_num, hf.put hlt, bset hb (Nat.le_refl _) _⟩
      case measure => simp [intOf]; omega
    · have h16 : j = 16 := by omega
      subst h16
      go_wp2
      go_ret
      exact ⟨_, rfl, hf.tab, Nat.le_refl _, by obtain ⟨cs, T, hh, _⟩ := hf; exact (Array.getElem?_eq_some_iff.1 hh).1, hb⟩

/-- A call that answers a number of 32 bits and leaves what was there as it was. -/
def Sums (w : World) (v : Nat) (e : Ending) (w' : World) : Prop := e = .returned (.int .u32 (v : Int)) ∧ Below w.heap.size w w'

theorem not_walk (v : Nat) (h : v < 2 ^ 32) : bits BinOp.xor IntKind.u32 IntKind.u32.max (v : Int) = ((v ^^^ 4294967295 : Nat) : Int) := by
  have e : IntKind.u32.max = ((4294967295 : Nat) : Int) := by decide
  rw [e, xor_walk _ _ (by omega) h, Nat.xor_comm]

set_option maxRecDepth 100000 in
theorem sum_ok {w : World} {B : Nat} {A : Option Addr} {n c : Nat} {l : List UInt8} (h : Rd w B A n c l) (hB : B ≤ w.heap.size) :
    Calls Try.prog 13 #[.slice A n c] w (Sums w (crc l)) := by
  have hlen := h.len
  have htop := h.top
  have hcap := h.cap
  go_enter Try.func13, Try.ntmps13
  go_wp2_with fail
  refine (adder_ok w).mono ?_
  rintro e w1 ⟨g, rfl, ht, hg1, hg2, hb⟩
  have hr := h.below (hb.mono hB)
  rcases hr.part with ⟨hn0, hL0⟩ | ⟨hn0, b, off, hA, hbb, hc⟩
  · subst hn0
    subst hL0
    go_wp2_with fail
    refine wp_loop_rounds 1 ?_
    rw [rounds_succ]
    have hz := not_walk 4294967295 (by omega)
    rw [show ((4294967295 : Nat) : Int) = 4294967295 from rfl] at hz
    go_wp2
    go_ret
    exact ⟨rfl, hb⟩
  · subst hA
    clear h hr
    go_wp2_with fail
    go_loop [4, 10] (fun v i => ∃ k : Nat, k ≤ n ∧ i = .int .i64 (k : Int) ∧ v = .int .u32 ((reg 4294967295 (l.take k) : Nat) : Int)) (fun _ i => n - (intOf i).toNat)
    case atStart => exact ⟨0, by omega, rfl, rfl⟩
    case round =>
      obtain ⟨k, hk, rfl, rfl⟩ := hrel
      by_cases hlt : k < n
      · have hcell := hc k hlt
        obtain ⟨x, hx⟩ : ∃ x, x = l.getD k 0 := ⟨_, rfl⟩
        rw [← hx] at hcell
        have hs : reg 4294967295 (l.take (k + 1)) = upd (reg 4294967295 (l.take k)) x := by
          rw [List.take_succ_eq_append_getElem (by omega), reg_snoc, hx]
          simp [List.getD, show k < l.length by omega]
        have hR := reg_lt (l.take k) (v := 4294967295) (by omega)
        generalize reg 4294967295 (l.take k) = R at *
        have HX := Lib.hid hx
        have HS := Lib.hid hs
        have HR := Lib.hid hR
        clear hx hs hR hc
        go_wp2_with (go_at_call 29; refine (add_ok g R x HR.out ht).mono ?_; rintro e w2 ⟨rfl, rfl⟩)
        go_round
        case rel => exact ⟨k + 1, by omega, by go_num, by rw [HS.out]⟩
        case measure => simp [intOf]; omega
      · have hkn : k = n := by omega
        subst hkn
        have : l.take k = l := List.take_of_length_le (by omega)
        rw [this]
        have hR := reg_lt l (v := 4294967295) (by omega)
        have hz := not_walk _ hR
        have hfin : reg 4294967295 l ^^^ 4294967295 = crc l := rfl
        have HF := Lib.hid hfin
        clear this hfin hR
        generalize reg 4294967295 l ^^^ 4294967295 = R2 at *
        generalize reg 4294967295 l = R at *
        go_wp2
        go_ret
        rw [← HF.out]
        exact ⟨rfl, hb⟩
end Go.Proofs.Ytcnljifbifidbaa
