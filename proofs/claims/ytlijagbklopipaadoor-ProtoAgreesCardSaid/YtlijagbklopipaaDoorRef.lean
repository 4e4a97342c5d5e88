/-
  Contracts of the reference of layer 1: PutVar, GetVar, PutText, GetText answer what the plain functions say.
-/
import Derived.Test.YtlijagbklopipaaDoorText
import Derived.Test.YtlijagbklopipaaDoorCopy
namespace Go.Proofs.YtlijagbklopipaaDoor
open Go.RowKit
set_option linter.unusedVariables false

/-- The loop of PutVar, for both signs. -/
def Outs (w : World) (n : Nat) (l : List UInt8) (Z : Nat) (z v : Value) (wr : World) : Prop :=
  ∃ (q : Nat) (A2 : Option Addr) (n2 c2 : Nat) (out : List UInt8), q ≤ Z ∧ z = .int .u64 (q : Int) ∧ v = .slice A2 n2 c2 ∧ Own wr w.heap.size A2 n2 c2 out ∧ Below w.heap.size w wr ∧ out ++ enc q = l ++ enc Z

set_option maxRecDepth 100000 in
theorem rPutVar_ok {w : World} {B : Nat} {A : Option Addr} {n c : Nat} {l : List UInt8} (h : Rd w B A n c l) (hn : n ≤ 140737488350000) (m : Int) (hm1 : -9223372036854775808 ≤ m) (hm2 : m ≤ 9223372036854775807) :
    Calls Tryd.prog 40 #[.slice A n c, .int .i64 m] w (Gives w (l ++ enc (zig m))) := by
  have hlen := h.len
  have hzl := zig_lt m hm1 hm2
  have hel := enc_ten (zig m) hzl
  have HZL := Lib.hid hzl
  have HEL := Lib.hid hel
  clear hel hzl
  have hcase : (m < 0 ∧ Hid (2 * -(m + 1) + 1 = ((zig m : Nat) : Int))) ∨ (¬ m < 0 ∧ Hid (2 * m = ((zig m : Nat) : Int))) := by
    by_cases hm : m < 0
    · exact .inl ⟨hm, by unfold zig Hid; rw [if_pos hm]; omega⟩
    · exact .inr ⟨hm, by unfold zig Hid; rw [if_neg hm]; omega⟩
  rcases hcase with ⟨hm, HE0⟩ | ⟨hm, HE0⟩
  all_goals
    go_enter Tryd.func40, Tryd.ntmps40
    go_wp2_with fail
    rw [HE0.out]
    clear HE0
    generalize zig m = Z at *
    refine (copy_ok h (by omega)).mono ?_
    rintro e w1 ⟨A1, n1, c1, rfl, ho, hb⟩
    have hn1 := ho.len
    clear hm1 hm2
    go_wp2_with fail
    go_loopw [5, 6] (fun z v wr => Outs w n l Z z v wr) (fun z _ _ => (intOf z).toNat)
    case atStart => exact ⟨Z, A1, n1, c1, l, Nat.le_refl _, rfl, rfl, ho, hb, rfl⟩
    case round =>
      obtain ⟨q, A2, n2, c2, out, hq, rfl, rfl, ho2, hb2, heq⟩ := hrel
      have hn2 : n2 ≤ n + 10 := by
        have h3 := congrArg List.length heq
        have h4 := ho2.len
        have h5 := HEL.out
        simp only [List.length_append] at h3
        omega
      have HE := Lib.hid heq
      have HQ := Lib.hid hq
      clear heq hq
      by_cases hr0 : q < 128
      · go_wp2_with (at_builtin; refine wpList_app1 rfl (.tmp 31) (.tmp 34) rfl Tryd.underlying24 byteInfo rfl ho2 rfl (UInt8.ofNat q) ?_ ?_ ?_ ?_)
        · rw [UInt8.toNat_ofNat']; omega
        · omega
        · exact hb2.size
        · intro A3 c3 w3 ho3 hb3
          go_wp2
          go_ret
          refine ⟨_, _, _, rfl, ?_, hb2.trans hb3⟩
          rw [← HE.out, enc_lt hr0]
          exact ho3
      · go_wp2_with (at_builtin; refine wpList_app1 rfl (.tmp 22) (.tmp 27) rfl Tryd.underlying24 byteInfo rfl ho2 rfl (UInt8.ofNat (q % 128 + 128)) ?_ ?_ ?_ ?_)
        · rw [UInt8.toNat_ofNat']; omega
        · omega
        · exact hb2.size
        · intro A3 c3 w3 ho3 hb3
          go_wp2
          go_roundw
          case rel =>
            have hq := HQ.out
            have hz := HZL.out
            refine ⟨q / 128, A3, _, c3, _, by omega, ?_, rfl, ho3, hb2.trans hb3, ?_⟩
            · first | go_num | (rw [IntKind.wrap_u64, Int.emod_eq_of_lt (by omega) (by omega)]; rfl)
            · rw [← HE.out, enc_ge (z := q) (by omega)]
              simp
          case measure =>
            have hq := HQ.out
            have hz := HZL.out
            simp only [intOf, IntKind.wrap_u64]
            omega

theorem rjoin_walk (k z : Nat) (x : UInt8) (hk : k ≤ 9) (hz : z < 128 ^ k) (h9 : k = 9 → x.toNat ≤ 1) :
    IntKind.u64.wrap ((z : Int) + IntKind.u64.wrap (((128 ^ k : Nat) : Int) * ((x.toNat : Int) % 128))) = ((z + x.toNat % 128 * 128 ^ k : Nat) : Int) := by
  have h1 := join_lt64 k z x hk hz h9
  have e : (x.toNat : Int) % 128 = ((x.toNat % 128 : Nat) : Int) := by omega
  rw [e, ← Int.natCast_mul, Nat.mul_comm (128 ^ k)]
  generalize x.toNat % 128 * 128 ^ k = y at *
  simp only [IntKind.wrap_u64]
  omega

theorem unit_walk (k : Nat) (hk : k ≤ 8) : IntKind.u64.wrap (((128 ^ k : Nat) : Int) * 128) = ((128 ^ (k + 1) : Nat) : Int) := by
  have hc : k = 0 ∨ k = 1 ∨ k = 2 ∨ k = 3 ∨ k = 4 ∨ k = 5 ∨ k = 6 ∨ k = 7 ∨ k = 8 := by omega
  rcases hc with rfl | rfl | rfl | rfl | rfl | rfl | rfl | rfl | rfl <;> decide

set_option maxRecDepth 100000 in
theorem rGetVar_ok {w : World} {B : Nat} {A : Option Addr} {n c : Nat} {l : List UInt8} (h : Rd w B A n c l) (at_ : Int) :
    Calls Tryd.prog 84 #[.slice A n c, .int .i64 at_] w (VarPost w (getV l at_)) := by
  have hlen := h.len
  have htop := h.top
  have hcap := h.cap
  by_cases h0 : at_ < 0
  · have FIN : Hid (VarPost w (getV l at_) (.returned (.tuple #[.int .i64 0, .int .i64 0, .int .i64 1])) w) := by
      unfold getV
      rw [if_pos h0]
      exact ⟨rfl, rfl⟩
    go_enter Tryd.func84, Tryd.ntmps84
    go_wp2
    go_ret3
    exact FIN.out
  have hat : decide (at_ < 0) = false := by simp; omega
  obtain ⟨a, rfl⟩ := Int.eq_ofNat_of_zero_le (show 0 ≤ at_ by omega)
  have HV : Hid (getV l a = gv 0 0 a (l.drop a)) := by
    unfold getV
    rw [if_neg h0, Int.toNat_natCast]
    exact rfl
  generalize getV l a = V at *
  by_cases ha : n ≤ a
  · have FIN : Hid (VarPost w V (.returned (.tuple #[.int .i64 0, .int .i64 0, .int .i64 10])) w) := by
      rw [HV.out, List.drop_eq_nil_of_le (by omega)]
      exact ⟨rfl, rfl⟩
    have t1 : decide ((n : Int) ≤ (a : Int)) = true := by simp; omega
    go_enter Tryd.func84, Tryd.ntmps84
    go_wp2_with fail
    refine wp_loop_rounds 1 ?_
    rw [rounds_succ]
    go_wp2
    go_ret3
    exact FIN.out
  have t1 : decide ((n : Int) ≤ (a : Int)) = false := by simp; omega
  obtain ⟨b, off, rfl, hb, hc⟩ := h.cells (by omega)
  clear h
  go_enter Tryd.func84, Tryd.ntmps84
  go_wp2_with fail
  go_loop [7, 8, 9] (fun v u i => ∃ (k z : Nat), a + k ≤ n ∧ k ≤ 9 ∧ z < 128 ^ k ∧ i = .int .i64 k ∧ v = .int .u64 z ∧ u = .int .u64 ((128 ^ k : Nat) : Int) ∧ V = gv k z a (l.drop (a + k))) (fun _ _ i => n - (intOf i).toNat)
  case atStart => exact ⟨0, 0, by omega, by omega, by simp, rfl, rfl, rfl, HV.out⟩
  case round =>
    obtain ⟨k, z, hk, hk9, hz, rfl, rfl, rfl, hV⟩ := hrel
    have hkn : (k : Int) ≤ n := by omega
    by_cases hlt : a + k < n
    · have hcell := hc (a + k) hlt
      obtain ⟨x, hx⟩ : ∃ x, x = l.getD (a + k) 0 := ⟨_, rfl⟩
      rw [← hx] at hcell
      have hdr : l.drop (a + k) = x :: l.drop (a + k + 1) := by
        rw [List.drop_eq_getElem_cons (by omega), hx]
        simp [List.getD, show a + k < l.length by omega]
      rw [hdr] at hV
      have hx256 := x.toNat_lt
      have HX := Lib.hid hx
      have HDR := Lib.hid hdr
      have t2 : decide ((n : Int) - a ≤ (k : Int)) = false := by simp; omega
      clear hx hdr hc HV
      by_cases hbad : (k = 9 ∧ 1 < x.toNat) ∨ (0 < k ∧ x.toNat = 0)
      · rw [gv_bad hbad] at hV
        have FIN : Hid (VarPost w V (.returned (.tuple #[.int .i64 0, .int .i64 0, .int .i64 11])) w) := by
          rw [hV]
          exact ⟨rfl, rfl⟩
        clear hV
        generalize 128 ^ k = U at *
        rcases hbad with ⟨rfl, h1⟩ | ⟨h1, h2⟩
        · have t1 : decide ((1 : Int) < (x.toNat : Int)) = true := by simp; omega
          go_wp2
          go_ret3
          exact FIN.out
        · have t1 : ((x.toNat : Int) == 0) = true := by simp; omega
          have t2 : decide ((0 : Int) < (k : Int)) = true := by simp; omega
          have t3 : decide ((1 : Int) < (x.toNat : Int)) = false := by simp; omega
          by_cases h9 : k = 9
          · subst h9
            go_wp2
            go_ret3
            exact FIN.out
          · have t4 : ((k : Int) == 9) = false := by simp; omega
            go_wp2
            go_ret3
            exact FIN.out
      · have hj := rjoin_walk k z x hk9 hz (by omega)
        have hl := join_lt64 k z x hk9 hz (by omega)
        by_cases h128 : x.toNat < 128
        · rw [gv_ret hbad h128] at hV
          generalize 128 ^ k = U at *
          generalize z + x.toNat % 128 * U = z' at *
          have hu : (z' % 2 = 1 → unz z' = -((z' / 2 : Nat) : Int) - 1) ∧ (z' % 2 = 0 → unz z' = ((z' / 2 : Nat) : Int)) := by
            constructor
            · intro h; rw [unz, if_pos h]
            · intro h; rw [unz, if_neg (by omega)]
          have HU := Lib.hid hu
          have FIN : Hid (VarPost w V (.returned (.tuple #[.int .i64 (unz z'), .int .i64 (a + k + 1), .int .i64 0])) w) := by
            rw [hV]
            exact ⟨rfl, rfl⟩
          have hz2 : (z' : Int) / 2 ≤ 9223372036854775807 := by omega
          clear hV hl hu hz
          by_cases hodd : z' % 2 = 1
          · have p1 : ((z' : Int) % 2 == 1) = true := by simp; omega
            have F := FIN.out
            rw [HU.out.1 hodd] at F
            have FF := Lib.hid F
            clear F HU FIN
            by_cases h9 : k = 9
            · subst h9
              have t1 : decide ((1 : Int) < (x.toNat : Int)) = false := by simp; omega
              have t2 : ((x.toNat : Int) == 0) = false := by simp; omega
              clear hbad hodd
              go_wp2
              go_ret3
              exact FF.out
            · have t4 : ((k : Int) == 9) = false := by simp; omega
              by_cases hk0 : k = 0
              · subst hk0
                clear hbad hodd
                have F := FF.out
                rw [show (a : Int) + ((0 : Nat) : Int) + 1 = (a : Int) + 1 from by omega] at F
                have FG := Lib.hid F
                clear F FF
                rw [Nat.add_zero] at hcell hlt
                go_wp2
                go_ret3
                exact FG.out
              · have t2 : ((x.toNat : Int) == 0) = false := by simp; omega
                have t3 : decide ((0 : Int) < (k : Int)) = true := by simp; omega
                clear hbad hodd
                go_wp2
                go_ret3
                exact FF.out
          · have p1 : ((z' : Int) % 2 == 1) = false := by simp; omega
            have F := FIN.out
            rw [HU.out.2 (by omega)] at F
            have FF := Lib.hid F
            clear F HU FIN
            by_cases h9 : k = 9
            · subst h9
              have t1 : decide ((1 : Int) < (x.toNat : Int)) = false := by simp; omega
              have t2 : ((x.toNat : Int) == 0) = false := by simp; omega
              clear hbad hodd
              go_wp2
              go_ret3
              exact FF.out
            · have t4 : ((k : Int) == 9) = false := by simp; omega
              by_cases hk0 : k = 0
              · subst hk0
                clear hbad hodd
                have F := FF.out
                rw [show (a : Int) + ((0 : Nat) : Int) + 1 = (a : Int) + 1 from by omega] at F
                have FG := Lib.hid F
                clear F FF
                rw [Nat.add_zero] at hcell hlt
                go_wp2
                go_ret3
                exact FG.out
              · have t2 : ((x.toNat : Int) == 0) = false := by simp; omega
                have t3 : decide ((0 : Int) < (k : Int)) = true := by simp; omega
                clear hbad hodd
                go_wp2
                go_ret3
                exact FF.out
        · rw [gv_on hbad (by omega)] at hV
          have hlt' := join_lt k z x hk9 hz
          have hun := unit_walk k (by omega)
          generalize z + x.toNat % 128 * 128 ^ k = z' at *
          have HVV := Lib.hid hV
          have HLT := Lib.hid hlt'
          clear hV hl hlt'
          have t4 : ((k : Int) == 9) = false := by simp; omega
          have hk8 : k + 1 ≤ 9 := by omega
          generalize 128 ^ k = U at *
          generalize hU2 : 128 ^ (k + 1) = U2 at *
          have HU2 := Lib.hid hU2
          clear hU2
          by_cases hk0 : k = 0
          · subst hk0
            clear hbad
            rw [Nat.add_zero] at hcell hlt
            go_wp2
            go_round
            case rel => exact ⟨1, z', by omega, by omega, by have := HLT.out; rw [← HU2.out] at this; exact this, rfl, rfl, by rw [← HU2.out], HVV.out⟩
            case measure => simp [intOf]; omega
          · have t2 : ((x.toNat : Int) == 0) = false := by simp; omega
            have t3 : decide ((0 : Int) < (k : Int)) = true := by simp; omega
            clear hbad
            go_wp2
            go_round
            case rel => exact ⟨k + 1, z', by omega, hk8, by have := HLT.out; rw [← HU2.out] at this; exact this, by go_num, rfl, by rw [← HU2.out], HVV.out⟩
            case measure => simp [intOf]; omega
    · have hke : a + k = n := by omega
      rw [List.drop_eq_nil_of_le (by omega)] at hV
      have FIN : Hid (VarPost w V (.returned (.tuple #[.int .i64 0, .int .i64 0, .int .i64 10])) w) := by
        rw [hV]
        exact ⟨rfl, rfl⟩
      have t2 : decide ((n : Int) - a ≤ (k : Int)) = true := by simp; omega
      clear hV hke
      go_wp2
      go_ret3
      exact FIN.out

theorem rPutText_ok {w : World} {B : Nat} {A : Option Addr} {n c : Nat} {l : List UInt8} (h : Rd w B A n c l) (s : ByteArray) (hn : n + s.size ≤ 140737488340000) :
    Calls Tryd.prog 41 #[.slice A n c, .string s] w (Gives w (l ++ putT s.data.toList)) := by
  have hlen := h.len
  go_enter Tryd.func41, Tryd.ntmps41
  go_wp2_with fail
  refine (rPutVar_ok h (by omega) (s.size : Int) (by omega) (by omega)).mono ?_
  rintro e w1 ⟨A1, n1, c1, rfl, ho, hb⟩
  have hn1 := ho.len
  have he := enc_ten (zig (s.size : Int)) (zig_lt _ (by omega) (by omega))
  rw [List.length_append] at hn1
  have hb46 : n1 + s.size ≤ 140737488355328 := by omega
  clear hlen he hn1
  go_wp2_with (at_builtin; refine wpList_appS rfl (.tmp 8) (.tmp 9) rfl Tryd.underlying24 Tryd.underlying9 byteInfo rfl ho s rfl ?_ ?_ ?_)
  · omega
  · exact hb.size
  · intro A3 c3 w3 ho3 hb3
    go_wp2
    go_ret
    refine ⟨_, _, _, rfl, ?_, hb.trans hb3⟩
    have e : s.data.toList.length = s.size := by rw [Array.length_toList]; rfl
    unfold putT
    rw [e]
    exact ho3

set_option maxRecDepth 100000 in
theorem rGetText_ok {w : World} {B : Nat} {A : Option Addr} {n c : Nat} {l : List UInt8} (h : Rd w B A n c l) (at_ most : Int) :
    Calls Tryd.prog 85 #[.slice A n c, .int .i64 at_, .int .i64 most] w (TextPost w (getT l at_ most)) := by
  have hlen := h.len
  have htop := h.top
  have hcap := h.cap
  go_enter Tryd.func85, Tryd.ntmps85
  go_wp2_with fail
  refine (rGetVar_ok h at_).mono ?_
  intro e w1 hv
  obtain ⟨vn, vt, ve, hV, rfl, rfl⟩ := hv.out
  have HT : Hid (getT l at_ most = (if ve ≠ 0 then ([], 0, ve) else if vn < 0 then ([], 0, 11) else if most < vn then ([], 0, 2) else if (l.length : Int) - vt < vn then ([], 0, 10) else ((l.drop vt.toNat).take vn.toNat, vt + vn, 0))) := by
    unfold getT
    rw [hV]
    exact rfl
  have hok : ve = 0 → 0 ≤ vt ∧ vt ≤ n := by
    intro h0
    have := getV_next (l := l) (at_ := at_) (by rw [hV]; exact h0)
    rw [hV] at this
    simp only at this
    omega
  have HOK := Lib.hid hok
  generalize getT l at_ most = T at *
  clear hv hV hok
  by_cases h0 : ve = 0
  · have hb := HOK.out h0
    obtain ⟨j, rfl⟩ := Int.eq_ofNat_of_zero_le hb.1
    have hjn : j ≤ n := by omega
    subst h0
    clear hb HOK
    by_cases h1 : vn < 0
    · have FIN : Hid (TextPost w T (.returned (.tuple #[.string { data := #[] }, .int .i64 0, .int .i64 11])) w) := by
        rw [HT.out, if_neg (by simp), if_pos h1]
        exact ⟨_, _, _, rfl, rfl, rfl⟩
      clear HT
      go_wp2
      go_ret3
      exact FIN.out
    obtain ⟨q, rfl⟩ := Int.eq_ofNat_of_zero_le (show 0 ≤ vn by omega)
    by_cases h2 : most < q
    · have FIN : Hid (TextPost w T (.returned (.tuple #[.string { data := #[] }, .int .i64 0, .int .i64 2])) w) := by
        rw [HT.out, if_neg (by simp), if_neg h1, if_pos h2]
        exact ⟨_, _, _, rfl, rfl, rfl⟩
      clear HT
      go_wp2
      go_ret3
      exact FIN.out
    by_cases h3 : n - j < q
    · have FIN : Hid (TextPost w T (.returned (.tuple #[.string { data := #[] }, .int .i64 0, .int .i64 10])) w) := by
        rw [HT.out, if_neg (by simp), if_neg h1, if_neg h2, if_pos (by omega)]
        exact ⟨_, _, _, rfl, rfl, rfl⟩
      clear HT
      go_wp2
      go_ret3
      exact FIN.out
    · have FIN : Hid (TextPost w T (.returned (.tuple #[.string (strOf ((l.drop j).take q)), .int .i64 ((j : Int) + q), .int .i64 0])) w) := by
        rw [HT.out, if_neg (by simp), if_neg h1, if_neg h2, if_neg (by omega), Int.toNat_natCast, Int.toNat_natCast]
        exact ⟨_, _, _, rfl, rfl, rfl⟩
      obtain ⟨A2, hrun, hr2⟩ := run_part (P := Tryd.prog) (t := 24) Tryd.underlying24 byteInfo h j q (by omega)
      have hstr := run_str (P := Tryd.prog) (src := 24) (dst := 9) Tryd.underlying24 Tryd.underlying5 Tryd.underlying9 hr2
      clear HT hr2 h
      generalize (l.drop j).take q = L at *
      go_wp2
      go_ret3
      exact FIN.out
  · have FIN : Hid (TextPost w T (.returned (.tuple #[.string { data := #[] }, .int .i64 0, .int .i64 ve])) w) := by
      rw [HT.out, if_pos h0]
      exact ⟨_, _, _, rfl, rfl, rfl⟩
    have t0 : (ve != 0) = true := by simp; exact h0
    clear HT HOK
    go_wp2
    go_ret3
    exact FIN.out
end Go.Proofs.YtlijagbklopipaaDoor
