/-
  Contracts of the reference's Put, and of both Sizes.
-/
import Derived.Test.YteamnapboophiaaRecW
namespace Go.Proofs.Yteamnapboophiaa
open Go.RowKit
set_option linter.unusedVariables false

theorem rput_bad {w : World} (off : Int) (k v : ByteArray) (dead : Bool) (stamp base st : Int) (hk : k.size ≤ 9223372036854775807) (hv : v.size ≤ 9223372036854775807) (h : (chkN off k.size v.size dead stamp && inR base && inR st) = false) :
    Calls Try.prog 15 #[.agg #[.int .i64 off, .string k, .string v, .bool dead, .int .i64 stamp], .int .i64 base, .int .i64 st] w (Both w [] 1) := by
  cases h1 : chkN off k.size v.size dead stamp with
  | false =>
    go_enter Try.func15, Try.ntmps15
    go_wp2_with fail
    refine (rcheck_is hk hv h1).mono ?_
    rintro e w1 ⟨rfl, hb1⟩
    have b1 := bthen (bput (Below.refl _ w) _) hb1
    have e1 : errI false = 1 := rfl
    go_wp2
    go_ret2
    exact ⟨none, 0, 0, rfl, Ob.nil _ _ _, b1⟩
  | true =>
  cases h2 : inR base with
  | false =>
    go_enter Try.func15, Try.ntmps15
    go_wp2_with fail
    refine (rcheck_is hk hv h1).mono ?_
    rintro e w1 ⟨rfl, hb1⟩
    have b1 := bthen (bput (Below.refl _ w) _) hb1
    have e1 : errI true = 0 := rfl
    go_wp2_with fail
    refine (rin_is _ _ h2).mono ?_
    rintro e w2 ⟨rfl, rfl⟩
    go_wp2
    go_ret2
    exact ⟨none, 0, 0, rfl, Ob.nil _ _ _, b1⟩
  | true =>
    have h3 : inR st = false := by simpa [h1, h2] using h
    go_enter Try.func15, Try.ntmps15
    go_wp2_with fail
    refine (rcheck_is hk hv h1).mono ?_
    rintro e w1 ⟨rfl, hb1⟩
    have b1 := bthen (bput (Below.refl _ w) _) hb1
    have e1 : errI true = 0 := rfl
    go_wp2_with fail
    refine (rin_is _ _ h2).mono ?_
    rintro e w2 ⟨rfl, rfl⟩
    go_wp2_with fail
    refine (rin_is _ _ h3).mono ?_
    rintro e w2 ⟨rfl, rfl⟩
    go_wp2
    go_ret2
    exact ⟨none, 0, 0, rfl, Ob.nil _ _ _, b1⟩

set_option maxRecDepth 100000 in
set_option maxHeartbeats 2000000 in
theorem rput_good {w : World} (off : Int) (k v : ByteArray) (dead : Bool) (stamp base st : Int) (h1 : chkN off k.size v.size dead stamp = true) (h2 : inR base = true) (h3 : inR st = true) :
    Calls Try.prog 15 #[.agg #[.int .i64 off, .string k, .string v, .bool dead, .int .i64 stamp], .int .i64 base, .int .i64 st] w (Both w (putB off k v dead stamp base st) 0) := by
  have hc := h1
  simp only [chkN, Bool.and_eq_true, decide_eq_true_eq] at hc
  obtain ⟨⟨⟨⟨g1, g2⟩, g3⟩, g4⟩, _⟩ := hc
  have r1 := inR_true g1
  have r2 := inR_true g2
  have r3 := inR_true h2
  have r4 := inR_true h3
  have hzk := enc_ten (zig (off - base)) (zig_lt _ (by omega) (by omega))
  have hzs := enc_ten (zig (stamp - st)) (zig_lt _ (by omega) (by omega))
  have hbytes : ∀ d : UInt8, (enc (zig (off - base)) ++ (enc (zig (stamp - st)) ++ [d])).length ≤ 21 := fun d => by simp only [List.length_append, List.length_singleton]; omega
  have d1 : IntKind.i64.wrap (off - base) = off - base := IntWalk.i64_in _ (by omega)
  have d2 : IntKind.i64.wrap (stamp - st) = stamp - st := IntWalk.i64_in _ (by omega)
  have D1 := Lib.hid d1
  have D2 := Lib.hid d2
  have hpk : ∀ w1 : World, Calls Try.prog 26 #[.slice none 0 0, .int .i64 (off - base)] w1 (Gives w1 (enc (zig (off - base)))) := fun w1 => by
    have := rPutVar_ok (Rd.nil w1 0) (by omega) (off - base) (by omega) (by omega)
    rw [List.nil_append] at this
    exact this
  have HPK := Lib.hid hpk
  have HPS := Lib.hid (fun (w1 : World) (A : Option Addr) (n c : Nat) (l : List UInt8) (h : Rd w1 w1.heap.size A n c l) (hn : n ≤ 100) => rPutVar_ok h (by omega) (stamp - st) (by omega) (by omega))
  have HC1 := Lib.hid h1
  have HI1 := Lib.hid h2
  have HI2 := Lib.hid h3
  have HBX := Lib.hid (fun (w' : World) (h : Below (w.heap.size + 1) (w.alloc (.cells #[.int .i64 off, .string k, .string v, .bool dead, .int .i64 stamp] 23)) w') => boxed5 w off k v dead stamp h)
  have hk : k.size ≤ 9223372036854775807 := by omega
  have hv : v.size ≤ 9223372036854775807 := by omega
  have hkt := putT_len k g3
  have hl2 : (enc (zig (off - base))).length ≤ 100 := by omega
  clear hpk d1 d2 h1 h2 h3 g1 g2 r1 r2 r3 r4
  go_enter Try.func15, Try.ntmps15
  go_wp2_with fail
  refine (rcheck_is hk hv HC1.out).mono ?_
  rintro e w1 ⟨rfl, hb1⟩
  have b1 := bthen (bput (Below.refl _ w) _) hb1
  have e1 : errI true = 0 := rfl
  have hb1' : Below (w.heap.size + 1) _ w1 := hb1.mono (by simp)
  have bx := HBX.out _ hb1'
  have hsz : w.heap.size + 1 ≤ w1.heap.size := by have := hb1.size; simpa using this
  obtain ⟨q0, q1, q2, q3, q4⟩ := bx
  go_wp2_with fail
  refine (rin_is _ _ HI1.out).mono ?_
  rintro e w2 ⟨rfl, rfl⟩
  go_wp2_with fail
  refine (rin_is _ _ HI2.out).mono ?_
  rintro e w2 ⟨rfl, rfl⟩
  cases dead with
  | false =>
    have z1 := (Below.refl w1.heap.size w1)
    have d1 := D1.out
    have d2 := D2.out
    go_wp2_with fail
    refine (HPK.out _).mono ?_
    rintro e w2 ⟨A2, n2, c2, rfl, ho2, hb2⟩
    have z2 := z1.trans (hb2.mono z1.size)
    have l2 : n2 ≤ 100 := Nat.le_trans (Nat.le_of_eq ho2.len.symm) hl2
    have u2 := boxed5 w off k v false stamp (hb1'.trans (z2.mono hsz))
    obtain ⟨q0, q1, q2, q3, q4⟩ := u2
    go_wp2_with fail
    refine (HPS.out _ _ _ _ _ ho2.rd l2).mono ?_
    rintro e w3 ⟨A3, n3, c3, rfl, ho3, hb3⟩
    have z3 := z2.trans (hb3.mono z2.size)
    have u3 := boxed5 w off k v false stamp (hb1'.trans (z3.mono hsz))
    obtain ⟨q0, q1, q2, q3, q4⟩ := u3
    have l3 := ho3.len
    have hb21 := hbytes 0
    have hn3 : n3 ≤ 20 := by simp only [List.length_append, List.length_singleton] at l3 hb21; omega
    clear hb21 l3 d1 d2
    go_wp2_with (at_builtin; refine wpList_app1 rfl (.tmp 39) (.tmp 40) rfl Try.underlying26 byteInfo rfl ho3 rfl 0 rfl ?_ ?_ ?_)
    · omega
    · exact hb3.size
    · intro A4 c4 w4 ho4 hb4
      have z4 := z3.trans (hb4.mono z2.size)
      have u4 := boxed5 w off k v false stamp (hb1'.trans (z4.mono hsz))
      obtain ⟨q0, q1, q2, q3, q4⟩ := u4
      have HP4 := Lib.hid (rPutText_ok ho4.rd k (by omega))
      go_wp2_with fail
      refine HP4.out.mono ?_
      rintro e w5 ⟨A5, n5, c5, rfl, ho5, hb5⟩
      have z5 := z4.trans (hb5.mono z4.size)
      have u5 := boxed5 w off k v false stamp (hb1'.trans (z5.mono hsz))
      obtain ⟨q0, q1, q2, q3, q4⟩ := u5
      have h4 := ho4.len
      have h5 := ho5.len
      have hbb := hbytes 0
      simp only [List.length_append, List.length_singleton] at h4 h5 hbb
      have HP5 := Lib.hid (rPutText_ok ho5.rd v (by omega))
      clear h4 h5 hbb
      go_wp2_with fail
      refine HP5.out.mono ?_
      rintro e w6 ⟨A6, n6, c6, rfl, ho6, hb6⟩
      have z6 := z5.trans (hb6.mono z5.size)
      go_wp2
      go_ret2
      exact ⟨_, _, _, rfl, (by have := ho6.less (Nat.le_trans b1.size z5.size); unfold putB; simp only [List.append_assoc] at this ⊢; exact this), b1.trans (z6.mono b1.size)⟩
  | true =>
    have z1 := (Below.refl w1.heap.size w1)
    have d1 := D1.out
    have d2 := D2.out
    go_wp2_with fail
    refine (HPK.out _).mono ?_
    rintro e w2 ⟨A2, n2, c2, rfl, ho2, hb2⟩
    have z2 := z1.trans (hb2.mono z1.size)
    have l2 : n2 ≤ 100 := Nat.le_trans (Nat.le_of_eq ho2.len.symm) hl2
    have u2 := boxed5 w off k v true stamp (hb1'.trans (z2.mono hsz))
    obtain ⟨q0, q1, q2, q3, q4⟩ := u2
    go_wp2_with fail
    refine (HPS.out _ _ _ _ _ ho2.rd l2).mono ?_
    rintro e w3 ⟨A3, n3, c3, rfl, ho3, hb3⟩
    have z3 := z2.trans (hb3.mono z2.size)
    have u3 := boxed5 w off k v true stamp (hb1'.trans (z3.mono hsz))
    obtain ⟨q0, q1, q2, q3, q4⟩ := u3
    have l3 := ho3.len
    have hb21 := hbytes 0
    have hn3 : n3 ≤ 20 := by simp only [List.length_append, List.length_singleton] at l3 hb21; omega
    clear hb21 l3 d1 d2
    go_wp2_with (at_builtin; refine wpList_app1 rfl (.tmp 36) (.tmp 37) rfl Try.underlying26 byteInfo rfl ho3 rfl 1 rfl ?_ ?_ ?_)
    · omega
    · exact hb3.size
    · intro A4 c4 w4 ho4 hb4
      have z4 := z3.trans (hb4.mono z2.size)
      have u4 := boxed5 w off k v true stamp (hb1'.trans (z4.mono hsz))
      obtain ⟨q0, q1, q2, q3, q4⟩ := u4
      have HP4 := Lib.hid (rPutText_ok ho4.rd k (by omega))
      go_wp2_with fail
      refine HP4.out.mono ?_
      rintro e w5 ⟨A5, n5, c5, rfl, ho5, hb5⟩
      have z5 := z4.trans (hb5.mono z4.size)
      have u5 := boxed5 w off k v true stamp (hb1'.trans (z5.mono hsz))
      obtain ⟨q0, q1, q2, q3, q4⟩ := u5
      have h4 := ho4.len
      have h5 := ho5.len
      have hbb := hbytes 1
      simp only [List.length_append, List.length_singleton] at h4 h5 hbb
      have HP5 := Lib.hid (rPutText_ok ho5.rd v (by omega))
      clear h4 h5 hbb
      go_wp2_with fail
      refine HP5.out.mono ?_
      rintro e w6 ⟨A6, n6, c6, rfl, ho6, hb6⟩
      have z6 := z5.trans (hb6.mono z5.size)
      go_wp2
      go_ret2
      exact ⟨_, _, _, rfl, (by have := ho6.less (Nat.le_trans b1.size z5.size); unfold putB; simp only [List.append_assoc] at this ⊢; exact this), b1.trans (z6.mono b1.size)⟩

theorem size_good {w : World} (off : Int) (k v : ByteArray) (dead : Bool) (stamp base st : Int) (h1 : chkN off k.size v.size dead stamp = true) (h2 : inR base = true) (h3 : inR st = true) :
    Calls Try.prog 18 #[.agg #[.int .i64 off, .string k, .string v, .bool dead, .int .i64 stamp], .int .i64 base, .int .i64 st] w (SaysI w (((putB off k v dead stamp base st).length : Nat) : Int)) := by
  have HP := Lib.hid (fun w1 : World => put_good (w := w1) off k v dead stamp base st h1 h2 h3)
  clear h1 h2 h3
  go_enter Try.func18, Try.ntmps18
  go_wp2_with fail
  refine (HP.out _).mono ?_
  rintro e w1 ⟨A1, n1, c1, rfl, ho1, hb1⟩
  have b1 := bthen (bput (Below.refl _ w) _) hb1
  have hl := Lib.hid ho1.len
  go_wp2
  go_ret
  exact ⟨by rw [hl.out]; rfl, b1⟩
theorem size_bad {w : World} (off : Int) (k v : ByteArray) (dead : Bool) (stamp base st : Int) (hk : k.size ≤ 9223372036854775807) (hv : v.size ≤ 9223372036854775807) (h : (chkN off k.size v.size dead stamp && inR base && inR st) = false) :
    Calls Try.prog 18 #[.agg #[.int .i64 off, .string k, .string v, .bool dead, .int .i64 stamp], .int .i64 base, .int .i64 st] w (SaysI w 0) := by
  have HP := Lib.hid (fun w1 : World => put_bad (w := w1) off k v dead stamp base st hk hv h)
  clear h
  go_enter Try.func18, Try.ntmps18
  go_wp2_with fail
  refine (HP.out _).mono ?_
  rintro e w1 ⟨A1, n1, c1, rfl, ho1, hb1⟩
  have b1 := bthen (bput (Below.refl _ w) _) hb1
  obtain rfl : n1 = 0 := ho1.len.symm
  go_wp2
  go_ret
  exact ⟨rfl, b1⟩

theorem rsize_good {w : World} (off : Int) (k v : ByteArray) (dead : Bool) (stamp base st : Int) (h1 : chkN off k.size v.size dead stamp = true) (h2 : inR base = true) (h3 : inR st = true) :
    Calls Try.prog 19 #[.agg #[.int .i64 off, .string k, .string v, .bool dead, .int .i64 stamp], .int .i64 base, .int .i64 st] w (SaysI w (((putB off k v dead stamp base st).length : Nat) : Int)) := by
  have HP := Lib.hid (fun w1 : World => rput_good (w := w1) off k v dead stamp base st h1 h2 h3)
  clear h1 h2 h3
  go_enter Try.func19, Try.ntmps19
  go_wp2_with fail
  refine (HP.out _).mono ?_
  rintro e w1 ⟨A1, n1, c1, rfl, ho1, hb1⟩
  have b1 := bthen (bput (Below.refl _ w) _) hb1
  have hl := Lib.hid ho1.len
  go_wp2
  go_ret
  exact ⟨by rw [hl.out]; rfl, b1⟩
theorem rsize_bad {w : World} (off : Int) (k v : ByteArray) (dead : Bool) (stamp base st : Int) (hk : k.size ≤ 9223372036854775807) (hv : v.size ≤ 9223372036854775807) (h : (chkN off k.size v.size dead stamp && inR base && inR st) = false) :
    Calls Try.prog 19 #[.agg #[.int .i64 off, .string k, .string v, .bool dead, .int .i64 stamp], .int .i64 base, .int .i64 st] w (SaysI w 0) := by
  have HP := Lib.hid (fun w1 : World => rput_bad (w := w1) off k v dead stamp base st hk hv h)
  clear h
  go_enter Try.func19, Try.ntmps19
  go_wp2_with fail
  refine (HP.out _).mono ?_
  rintro e w1 ⟨A1, n1, c1, rfl, ho1, hb1⟩
  have b1 := bthen (bput (Below.refl _ w) _) hb1
  obtain rfl : n1 = 0 := ho1.len.symm
  go_wp2
  go_ret
  exact ⟨rfl, b1⟩
end Go.Proofs.Yteamnapboophiaa
