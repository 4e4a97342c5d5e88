/-
  Contract of the law's alone. Conditions: those that it states.
-/
import Derived.Laws.BitsLemmas
import Derived.Test.YtlijagbklopipaaDoorLivB
namespace Go.Proofs.YtlijagbklopipaaDoor
open Go.RowKit
set_option linter.unusedVariables false

theorem and65535 (n : Int) : bits .and .i64 n 65535 = n % 65536 := by
  have h127 : (BitVec.ofInt 64 65535).toNat = 2 ^ 16 - 1 := by decide
  have key : (BitVec.ofInt 64 n &&& BitVec.ofInt 64 65535).toNat = (n % ((2 ^ 64 : Nat) : Int)).toNat % 2 ^ 16 := by
    rw [BitVec.toNat_and, BitVec.toNat_ofInt, h127, Nat.and_two_pow_sub_one_eq_mod]
  show IntKind.i64.wrap ((BitVec.ofInt 64 n &&& BitVec.ofInt 64 65535).toNat : Nat) = n % 65536
  rw [key, IntKind.wrap_i64]
  omega
theorem cut_at (cut : Int) {n : Nat} (h0 : 0 < n) : ∃ k : Nat, k < n ∧ (bits .and .i64 cut 65535).tmod (n : Int) = (k : Int) := by
  rw [and65535]
  have h1 : 0 ≤ cut % 65536 := by omega
  rw [Int.tmod_eq_emod_of_nonneg h1]
  have h2 := Int.emod_nonneg (cut % 65536) (show (n : Int) ≠ 0 by omega)
  have h3 := Int.emod_lt_of_pos (cut % 65536) (show (0 : Int) < n by omega)
  exact ⟨(cut % 65536 % (n : Int)).toNat, by omega, by omega⟩

set_option maxRecDepth 100000 in
set_option maxHeartbeats 4000000 in
theorem aloneQ_ok {w : World} (hs : Shp w) {B : Nat} {A : Option Addr} {n c : Nat} {l : List UInt8} (h : Rd w B A n c l) (hB : B ≤ w.heap.size) (cut : Int) (y : UInt8) (h0 : 0 < n) (hn : n ≤ 1000000)
    (hsh : ∀ k, k < l.length → (decQ (l.take k)).2 = 10) (hlo : (decQ (l ++ [y])).2 = 11) :
    Calls Tryd.prog 32 #[.slice A n c, .int .i64 cut, .int .u8 (y.toNat : Int), .bool true] w (Says w (.bool true)) := by
  have hcap := h.cap
  have htop := h.top
  have hlen := h.len
  have t1 : ((n : Int) == 0) = false := by simp; omega
  obtain ⟨k, hk, hx⟩ := cut_at cut h0
  obtain ⟨A1, hrun, hr1⟩ := run_upto (P := Tryd.prog) (t := 24) Tryd.underlying24 byteInfo h k (Nat.le_of_lt hk)
  have h10 := hsh k (by omega)
  have hm := Ob.made (e := 5) w (Nat.le_refl _)
  have hb := h.alloc hB (.cells #[] 5)
  have hsz : (w.alloc (.cells #[] 5)).heap.size = w.heap.size + 1 := by simp
  have b1 := bput (Below.refl _ w) (.cells #[] 5)
  have H10 := Lib.hid h10
  have HLO := Lib.hid hlo
  have HR1 := Lib.hid (hr1)
  have HSH := Lib.hid hs
  have HM := Lib.hid hm
  have HB := Lib.hid hb
  have B1 := Lib.hid b1
  have HBB := Lib.hid hB
  have q1 : (k : Int) ≤ (c : Int) := by omega
  clear h hsh hlo h10 hr1 hs hm hb b1 hB hlen
  go_enter Tryd.func32, Tryd.ntmps32
  go_wp2_with (at_builtin; go_must (refine wpList_app rfl (.tmp 29) (.tmp 30) rfl Tryd.underlying24 byteInfo rfl HM.out rfl HB.out (by omega) B1.out.size ?_))
  intro A2 c2 w2 ho2 hb2
  have B2 := Lib.hid (B1.out.trans hb2)
  have HO2 := Lib.hid ho2
  clear ho2 hb2 hrun hx q1
  go_wp2_with (at_builtin; go_must (refine wpList_app1 rfl (.tmp 32) (.tmp 34) rfl Tryd.underlying24 byteInfo rfl HO2.out rfl y rfl (by omega) B2.out.size ?_))
  intro A3 c3 w3 ho3 hb3
  have B3 := Lib.hid (B2.out.trans hb3)
  have HO3 := Lib.hid ho3
  have hc4 := p_getQ_ok (HSH.out.on B3.out) ((HR1.out.step B3.out HBB.out).more (Nat.le_trans HBB.out B3.out.size))
  have HC4 := Lib.hid hc4
  clear ho3 hb3 hc4
  go_wp2_with fail
  refine HC4.out.mono ?_
  rintro e w4 ⟨Ai, ni, ci, At, nt, ct, Ab, nb, cb, rfl, -, b4⟩
  rw [H10.out]
  have b5 := bput b4 (.cells #[.int .i64 (decQ (l.take k)).1.kind, .int .i64 (decQ (l.take k)).1.ver, .int .i64 (decQ (l.take k)).1.id, .string (strOf (decQ (l.take k)).1.who), .slice Ai ni ci, .slice At nt ct, .slice Ab nb cb] 26)
  have B5 := Lib.hid (bthen B3.out b5)
  have hc6 := p_getQ_ok (HSH.out.on B5.out) ((HO3.out.step b5).rd)
  have HC6 := Lib.hid hc6
  have B35 := Lib.hid b5
  clear b4 b5 hc6
  go_wp2_with fail
  refine HC6.out.mono ?_
  rintro e w6 ⟨Bi, mi, di, Bt, mt, dt, Bb, mb, db, rfl, -, b6⟩
  rw [HLO.out]
  have B7 := Lib.hid (bput (bthen B5.out b6) (.cells #[.int .i64 (decQ (l ++ [y])).1.kind, .int .i64 (decQ (l ++ [y])).1.ver, .int .i64 (decQ (l ++ [y])).1.id, .string (strOf (decQ (l ++ [y])).1.who), .slice Bi mi di, .slice Bt mt dt, .slice Bb mb db] 26))
  clear b6
  go_wp2
  go_ret
  exact ⟨rfl, B7.out⟩

set_option maxRecDepth 100000 in
set_option maxHeartbeats 4000000 in
theorem aloneS_ok {w : World} (hs : Shp w) {B : Nat} {A : Option Addr} {n c : Nat} {l : List UInt8} (h : Rd w B A n c l) (hB : B ≤ w.heap.size) (cut : Int) (y : UInt8) (h0 : 0 < n) (hn : n ≤ 1000000)
    (hsh : ∀ k, k < l.length → (decS (l.take k)).2 = 10) (hlo : (decS (l ++ [y])).2 = 11) :
    Calls Tryd.prog 32 #[.slice A n c, .int .i64 cut, .int .u8 (y.toNat : Int), .bool false] w (Says w (.bool true)) := by
  have hcap := h.cap
  have htop := h.top
  have hlen := h.len
  have t1 : ((n : Int) == 0) = false := by simp; omega
  obtain ⟨k, hk, hx⟩ := cut_at cut h0
  obtain ⟨A1, hrun, hr1⟩ := run_upto (P := Tryd.prog) (t := 24) Tryd.underlying24 byteInfo h k (Nat.le_of_lt hk)
  have h10 := hsh k (by omega)
  have hm := Ob.made (e := 5) w (Nat.le_refl _)
  have hb := h.alloc hB (.cells #[] 5)
  have hsz : (w.alloc (.cells #[] 5)).heap.size = w.heap.size + 1 := by simp
  have b1 := bput (Below.refl _ w) (.cells #[] 5)
  have H10 := Lib.hid h10
  have HLO := Lib.hid hlo
  have HR1 := Lib.hid (hr1)
  have HSH := Lib.hid hs
  have HM := Lib.hid hm
  have HB := Lib.hid hb
  have B1 := Lib.hid b1
  have HBB := Lib.hid hB
  have q1 : (k : Int) ≤ (c : Int) := by omega
  clear h hsh hlo h10 hr1 hs hm hb b1 hB hlen
  go_enter Tryd.func32, Tryd.ntmps32
  go_wp2_with (at_builtin; go_must (refine wpList_app rfl (.tmp 29) (.tmp 30) rfl Tryd.underlying24 byteInfo rfl HM.out rfl HB.out (by omega) B1.out.size ?_))
  intro A2 c2 w2 ho2 hb2
  have B2 := Lib.hid (B1.out.trans hb2)
  have HO2 := Lib.hid ho2
  clear ho2 hb2 hrun hx q1
  go_wp2_with (at_builtin; go_must (refine wpList_app1 rfl (.tmp 32) (.tmp 34) rfl Tryd.underlying24 byteInfo rfl HO2.out rfl y rfl (by omega) B2.out.size ?_))
  intro A3 c3 w3 ho3 hb3
  have B3 := Lib.hid (B2.out.trans hb3)
  have HO3 := Lib.hid ho3
  have hc4 := p_getQ_ok (HSH.out.on B3.out) ((HR1.out.step B3.out HBB.out).more (Nat.le_trans HBB.out B3.out.size))
  have HC4 := Lib.hid hc4
  clear ho3 hb3 hc4
  go_wp2_with fail
  refine HC4.out.mono ?_
  rintro e w4 ⟨Ai, ni, ci, At, nt, ct, Ab, nb, cb, rfl, -, b4⟩
  have b5 := bput b4 (.cells #[.int .i64 (decQ (l.take k)).1.kind, .int .i64 (decQ (l.take k)).1.ver, .int .i64 (decQ (l.take k)).1.id, .string (strOf (decQ (l.take k)).1.who), .slice Ai ni ci, .slice At nt ct, .slice Ab nb cb] 26)
  have B5 := Lib.hid (bthen B3.out b5)
  have hc6 := p_getQ_ok (HSH.out.on B5.out) ((HO3.out.step b5).rd)
  have HC6 := Lib.hid hc6
  have B35 := Lib.hid b5
  clear b4 b5 hc6
  go_wp2_with fail
  refine HC6.out.mono ?_
  rintro e w6 ⟨Bi, mi, di, Bt, mt, dt, Bb, mb, db, rfl, -, b6⟩
  have b7 := bput b6 (.cells #[.int .i64 (decQ (l ++ [y])).1.kind, .int .i64 (decQ (l ++ [y])).1.ver, .int .i64 (decQ (l ++ [y])).1.id, .string (strOf (decQ (l ++ [y])).1.who), .slice Bi mi di, .slice Bt mt dt, .slice Bb mb db] 26)
  have B7 := Lib.hid (bthen B5.out b7)
  have B37 := Lib.hid (bthen B35.out b7)
  have hc8 := p_getS_ok ((HR1.out.step B7.out HBB.out).more (Nat.le_trans HBB.out B7.out.size))
  have HC8 := Lib.hid hc8
  clear b6 b7 hc8
  go_wp2_with fail
  refine HC8.out.mono ?_
  rintro e w8 ⟨Ci, ki, fi, Ct, kt, ft, Cb, kb, fb, rfl, -, b8⟩
  rw [H10.out]
  have b9 := bput b8 (.cells #[.int .i64 (decS (l.take k)).1.kind, .int .i64 (decS (l.take k)).1.ver, .int .i64 (decS (l.take k)).1.id, .int .i64 (decS (l.take k)).1.er, .int .i64 (decS (l.take k)).1.wait, .slice Ci ki fi, .slice Ct kt ft, .slice Cb kb fb] 38)
  have B9 := Lib.hid (bthen B7.out b9)
  have hc10 := p_getS_ok ((HO3.out.step (bthen B37.out b9)).rd)
  have HC10 := Lib.hid hc10
  clear b8 b9 hc10
  go_wp2_with fail
  refine HC10.out.mono ?_
  rintro e w10 ⟨Di, ji, gi, Dt, jt, gt, Db, jb, gb, rfl, -, b10⟩
  rw [HLO.out]
  have B11 := Lib.hid (bput (bthen B9.out b10) (.cells #[.int .i64 (decS (l ++ [y])).1.kind, .int .i64 (decS (l ++ [y])).1.ver, .int .i64 (decS (l ++ [y])).1.id, .int .i64 (decS (l ++ [y])).1.er, .int .i64 (decS (l ++ [y])).1.wait, .slice Di ji gi, .slice Dt jt gt, .slice Db jb gb] 38))
  clear b10
  go_wp2
  go_ret
  exact ⟨rfl, B11.out⟩
end Go.Proofs.YtlijagbklopipaaDoor
