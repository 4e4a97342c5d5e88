/-
  Contracts of octet's PutVar and GetVar: what the Go text computes is what the plain functions say.
-/
import Derived.Test.YtlijagbklopipaaDoorPrim
import Derived.Test.YtlijagbklopipaaDoorOctN
namespace Go.Proofs.YtlijagbklopipaaDoor
open Go.RowKit

set_option linter.unusedVariables false
theorem wrap_byte (z : Nat) : IntKind.u8.wrap (z : Int) = ((UInt8.ofNat z).toNat : Int) := by
  rw [IntKind.wrap_u8', UInt8.toNat_ofNat']
  omega

set_option maxRecDepth 20000 in
theorem putVar_ok {w : World} {B : Nat} {A : Option Addr} {n c : Nat} {l : List UInt8} (h : Rd w B A n c l) (hB : B ≤ w.heap.size) (hn : n ≤ 140737488350000) (m : Int) (hm1 : -9223372036854775808 ≤ m) (hm2 : m ≤ 9223372036854775807) :
    Calls Tryd.prog 78 #[.slice A n c, .int .i64 m] w (Gives w (l ++ enc (zig m))) := by
  have hlen := h.len
  have HZ := Lib.hid (zig_bits m hm1 hm2)
  have hzl := zig_lt m hm1 hm2
  have hel := enc_ten (zig m) hzl
  go_enter Tryd.func78, Tryd.ntmps78
  go_wp2_with fail
  rw [HZ.out]
  generalize m / 9223372036854775808 = g1
  generalize IntKind.u64.wrap (IntKind.u64.wrap m * 2) = g2
  refine (clone_ok h hB (by omega)).mono ?_
  rintro e w1 ⟨A1, n1, c1, rfl, ho, hb⟩
  have hn1 := ho.len
  go_wp2_with fail
  go_loopw [5, 6] (fun z v wr => ∃ (q : Nat) (A2 : Option Addr) (n2 c2 : Nat) (out : List UInt8), q ≤ zig m ∧ z = .int .u64 (q : Int) ∧ v = .slice A2 n2 c2 ∧ Own wr w.heap.size A2 n2 c2 out ∧ Below w.heap.size w wr ∧ out ++ enc q = l ++ enc (zig m))
    (fun z _ _ => (intOf z).toNat)
  case atStart => exact ⟨zig m, A1, n1, c1, l, Nat.le_refl _, rfl, rfl, ho, hb, rfl⟩
  case round =>
    obtain ⟨q, A2, n2, c2, out, hq, rfl, rfl, ho2, hb2, heq⟩ := hrel
    have hn2 : n2 ≤ n + 10 := by
      have h3 := congrArg List.length heq
      have h4 := ho2.len
      simp only [List.length_append] at h3
      omega
    have HE := Lib.hid heq
    clear heq HZ hzl hm1 hm2
    have HQ := Lib.hid hq
    clear hq hel
    by_cases hr0 : q < 128
    · go_wp2_with (at_builtin; go_must (refine wpList_app1 rfl (.tmp 26) (.tmp 29) rfl Tryd.underlying24 byteInfo rfl ho2 rfl (UInt8.ofNat q) ?_ ?_ ?_ ?_))
      · rw [UInt8.toNat_ofNat']; omega
      · omega
      · exact hb2.size
      · intro A3 c3 w3 ho3 hb3
        go_wp2
        go_ret
        refine ⟨_, _, _, rfl, ?_, hb2.trans hb3⟩
        rw [← HE.out, enc_lt hr0]
        exact ho3
    · go_wp2_with (at_builtin; refine wpList_app1 rfl (.tmp 20) (.tmp 24) rfl Tryd.underlying24 byteInfo rfl ho2 rfl (UInt8.ofNat (q % 128 + 128)) ?_ ?_ ?_ ?_)
      · exact or_more q
      · omega
      · exact hb2.size
      · intro A3 c3 w3 ho3 hb3
        go_wp2
        go_roundw
        case rel =>
          have hq := HQ.out
          have e : UInt8.ofNat (q % 128) + 128 = UInt8.ofNat (q % 128 + 128) := by simp
          refine ⟨q / 128, A3, _, c3, _, by omega, by go_num, rfl, ho3, hb2.trans hb3, ?_⟩
          rw [← HE.out, enc_ge (z := q) (by omega)]
          simp
        case measure => simp [intOf]; omega


/-- What octet.GetVar answers. -/
def three (r : Int × Int × Int) : Value := .tuple #[.int .i64 r.1, .int .i64 r.2.1, .int .i64 r.2.2]
def VarPost (w : World) (r : Int × Int × Int) (e : Ending) (w' : World) : Prop := e = .returned (three r) ∧ w = w'

theorem VarPost.out {w : World} {r : Int × Int × Int} {e : Ending} {w' : World} (h : VarPost w r e w') : ∃ a b c : Int, r = (a, b, c) ∧ e = .returned (.tuple #[.int .i64 a, .int .i64 b, .int .i64 c]) ∧ w = w' := by
  obtain ⟨a, b, c⟩ := r
  exact ⟨a, b, c, rfl, h.1, h.2⟩

set_option maxRecDepth 100000 in
theorem getVar_ok {w : World} {B : Nat} {A : Option Addr} {n c : Nat} {l : List UInt8} (h : Rd w B A n c l) (at_ : Int) :
    Calls Tryd.prog 81 #[.slice A n c, .int .i64 at_] w (VarPost w (getV l at_)) := by
  have hlen := h.len
  have htop := h.top
  have hcap := h.cap
  by_cases h0 : at_ < 0
  · have FIN : Hid (VarPost w (getV l at_) (.returned (.tuple #[.int .i64 0, .int .i64 0, .int .i64 1])) w) := by
      unfold getV
      rw [if_pos h0]
      exact ⟨rfl, rfl⟩
    go_enter Tryd.func81, Tryd.ntmps81
    go_wp2
    go_ret3
    exact FIN.out
  have hat : decide (at_ < 0) = false := by simp; omega
  have HV : Hid (getV l at_ = gv 0 0 at_ (l.drop at_.toNat)) := by
    unfold getV
    rw [if_neg h0]
    exact rfl
  go_enter Tryd.func81, Tryd.ntmps81
  go_wp2_with fail
  refine (from_ok h at_ (by omega)).mono ?_
  rintro e w1 ⟨A1, n1, c1, rfl, hr1, rfl⟩
  have hl1 := hr1.len
  rw [List.length_drop] at hl1
  have htop1 := hr1.top
  have hcap1 := hr1.cap
  have hl2 := hr1.len
  generalize getV l at_ = V at *
  generalize l.drop at_.toNat = L at *
  have hsum : 0 < n1 → at_ + n1 ≤ 9223372036854775807 := by omega
  rcases hr1.part with ⟨hn0, hL0⟩ | ⟨hn0, b, off, hA, hb, hc⟩
  · subst hn0
    subst hL0
    have FIN : Hid (VarPost w V (.returned (.tuple #[.int .i64 0, .int .i64 0, .int .i64 10])) w) := by
      rw [HV.out]
      exact ⟨rfl, rfl⟩
    clear h hr1
    go_wp2_with fail
    refine wp_loop_rounds 1 ?_
    rw [rounds_succ]
    go_wp2
    go_ret3
    exact FIN.out
  · subst hA
    clear h hr1
    have hs1 := hsum hn0
    go_wp2_with fail
    go_loop [7, 16] (fun v i => ∃ (k z : Nat), k ≤ n1 ∧ k ≤ 9 ∧ z < 128 ^ k ∧ i = .int .i64 k ∧ v = .int .u64 z ∧ V = gv k z at_ (L.drop k)) (fun _ i => n1 - (intOf i).toNat)
    case atStart => exact ⟨0, 0, by omega, by omega, by simp, rfl, rfl, HV.out⟩
    case round =>
      obtain ⟨k, z, hk, hk9, hz, rfl, rfl, hV⟩ := hrel
      by_cases hlt : k < n1
      · have hcell := hc k hlt
        obtain ⟨x, hx⟩ : ∃ x, x = L.getD k 0 := ⟨_, rfl⟩
        rw [← hx] at hcell
        have hdr : L.drop k = x :: L.drop (k + 1) := by
          rw [List.drop_eq_getElem_cons (by omega), hx]
          simp [List.getD, show k < L.length by omega]
        rw [hdr] at hV
        have hx256 := x.toNat_lt
        have HX := Lib.hid hx
        have HDR := Lib.hid hdr
        clear hx hdr hc HV
        by_cases hbad : (k = 9 ∧ 1 < x.toNat) ∨ (0 < k ∧ x.toNat = 0)
        · rw [gv_bad hbad] at hV
          have FIN : Hid (VarPost w V (.returned (.tuple #[.int .i64 0, .int .i64 0, .int .i64 11])) w) := by
            rw [hV]
            exact ⟨rfl, rfl⟩
          clear hV
          rcases hbad with ⟨rfl, h1⟩ | ⟨h1, h2⟩
          · have t1 : decide ((1 : Int) < (x.toNat : Int)) = true := by simp; omega
            go_wp2
            go_ret3
            exact FIN.out
          · have t1 : ((x.toNat : Int) == 0) = true := by simp; omega
            have t2 : decide ((0 : Int) < (k : Int)) = true := by simp; omega
            have t3 : decide ((1 : Int) < (x.toNat : Int)) = false := by simp; omega
            by_cases h9 : k = 9
            · subst h9
              go_wp2
              go_ret3
              exact FIN.out
            · have t4 : ((k : Int) == 9) = false := by simp; omega
              go_wp2
              go_ret3
              exact FIN.out
        · have hj := join_walk k z x hk9 hz (by omega)
          have hl := join_lt64 k z x hk9 hz (by omega)
          by_cases h128 : x.toNat < 128
          · rw [gv_ret hbad h128] at hV
            generalize z + x.toNat % 128 * 128 ^ k = z' at *
            have hu := unz_walk z' hl
            have FIN : Hid (VarPost w V (.returned (.tuple #[.int .i64 (unz z'), .int .i64 (at_ + k + 1), .int .i64 0])) w) := by
              rw [hV]
              exact ⟨rfl, rfl⟩
            clear hV hl
            by_cases h9 : k = 9
            · subst h9
              rw [show (2 : Int) ^ (7 * 9) = 9223372036854775808 from by decide] at hj
              have t1 : decide ((1 : Int) < (x.toNat : Int)) = false := by simp; omega
              have t2 : ((x.toNat : Int) == 0) = false := by simp; omega
              clear hbad
              go_wp2
              go_ret3
              exact FIN.out
            · have t4 : ((k : Int) == 9) = false := by simp; omega
              by_cases hk0 : k = 0
              · subst hk0
                simp at hj
                rw [Nat.add_zero] at hcell
                clear hbad
                go_wp2
                go_ret3
                have F := FIN.out
                rw [show at_ + ((0 : Nat) : Int) + 1 = at_ + 1 from by omega] at F
                exact F
              · have t2 : ((x.toNat : Int) == 0) = false := by simp; omega
                have t3 : decide ((0 : Int) < (k : Int)) = true := by simp; omega
                clear hbad
                go_wp2
                go_ret3
                exact FIN.out
          · rw [gv_on hbad (by omega)] at hV
            have hlt' := join_lt k z x hk9 hz
            generalize z + x.toNat % 128 * 128 ^ k = z' at *
            have HVV := Lib.hid hV
            have HLT := Lib.hid hlt'
            clear hV hl hlt'
            have t4 : ((k : Int) == 9) = false := by simp; omega
            by_cases hk0 : k = 0
            · subst hk0
              simp at hj
              rw [Nat.add_zero] at hcell
              clear hbad
              go_wp2
              go_round
              case rel => exact ⟨1, z', by omega, by omega, HLT.out, rfl, rfl, HVV.out⟩
              case measure => simp [intOf]; omega
            · have t2 : ((x.toNat : Int) == 0) = false := by simp; omega
              have t3 : decide ((0 : Int) < (k : Int)) = true := by simp; omega
              have hk8 : k + 1 ≤ 9 := by omega
              clear hbad
              go_wp2
              go_round
              case rel => exact ⟨k + 1, z', by omega, hk8, HLT.out, by go_num, rfl, HVV.out⟩
              case measure => simp [intOf]; omega
      · obtain rfl : k = n1 := by omega
        rw [List.drop_eq_nil_of_le (by omega)] at hV
        have FIN : Hid (VarPost w V (.returned (.tuple #[.int .i64 0, .int .i64 0, .int .i64 10])) w) := by
          rw [hV]
          exact ⟨rfl, rfl⟩
        clear hV
        go_wp2
        go_ret3
        exact FIN.out
end Go.Proofs.YtlijagbklopipaaDoor
