/-
  Contracts of rec's and the reference's Put and Size.
-/
import Derived.Deep.RegionHeld3
import Derived.Deep.DrawnRows
import Derived.Test.YteamnapboophiaaRecC
namespace Go.Proofs.Yteamnapboophiaa
open Go.RowKit
set_option linter.unusedVariables false

theorem wpH_append {P : Program} {ops : Array Oper} {o : Oper} {a : Act} {w w' : World} {K : Act → World → Prop} {Q : Exit → Act → World → Prop} {V1 V2 v : Value} (s x : Operand) (t : TypeId) (hg : o.guard = none)
    (ho : o.op = .call { callee := .builtin .append, args := #[s, x], argTypes := #[t, t] }) (hs : a.eval s = V1) (hx : a.eval x = V2) (hr : (Builtin.append_ #[t, t] o.type #[V1, V2]).run P w = .ok v w')
    (h : K (a.put o.dst v) w') : if Region.wanted o (yielded ops a.tmps) = true then Oper.wp P o a w K Q else K (a.put o.dst undef) w := by
  simp only [Region.wanted, hg, if_true]
  unfold Oper.wp execOp
  simp only [ho, resolve, invoke, builtin, Sem.run_bind, Sem.run_pure, Result.andThen_ok, List.map_toArray, List.map_cons, List.map_nil, hs, hx, hr]
  exact h

/-- An answer of bytes and an error. -/
def Both (w : World) (L : List UInt8) (E : Int) (e : Ending) (w' : World) : Prop :=
  ∃ A n c, e = .returned (.tuple #[.slice A n c, .int .i64 E]) ∧ Own w' w.heap.size A n c L ∧ Below w.heap.size w w'

theorem check_is {w : World} {off : Int} {k v : ByteArray} {dead : Bool} {stamp : Int} (hk : k.size ≤ 9223372036854775807) (hv : v.size ≤ 9223372036854775807) {b : Bool} (h : chkN off k.size v.size dead stamp = b) :
    Calls Try.prog 16 #[.agg #[.int .i64 off, .string k, .string v, .bool dead, .int .i64 stamp]] w (SaysI w (errI b)) := by
  subst h
  exact check_ok off k v dead stamp hk hv
theorem rcheck_is {w : World} {off : Int} {k v : ByteArray} {dead : Bool} {stamp : Int} (hk : k.size ≤ 9223372036854775807) (hv : v.size ≤ 9223372036854775807) {b : Bool} (h : chkN off k.size v.size dead stamp = b) :
    Calls Try.prog 17 #[.agg #[.int .i64 off, .string k, .string v, .bool dead, .int .i64 stamp]] w (SaysI w (errI b)) := by
  subst h
  exact rcheck_ok off k v dead stamp hk hv

/-- The cells of a boxed record, wherever what lay there lies as it lay. -/
structure Boxed5 (w' : World) (b : Nat) (off : Int) (k v : ByteArray) (dead : Bool) (stamp : Int) : Prop where
  c0 : w'.cell? ⟨b, 0, none⟩ = some (.int .i64 off)
  c1 : w'.cell? ⟨b, 1, none⟩ = some (.string k)
  c2 : w'.cell? ⟨b, 2, none⟩ = some (.string v)
  c3 : w'.cell? ⟨b, 3, none⟩ = some (.bool dead)
  c4 : w'.cell? ⟨b, 4, none⟩ = some (.int .i64 stamp)
theorem boxed5 (w : World) (off : Int) (k v : ByteArray) (dead : Bool) (stamp : Int) {w' : World} (h : Below (w.heap.size + 1) (w.alloc (.cells #[.int .i64 off, .string k, .string v, .bool dead, .int .i64 stamp] 23)) w') : Boxed5 w' w.heap.size off k v dead stamp := by
  have key : ∀ j, w'.cell? ⟨w.heap.size, j, none⟩ = (#[Value.int .i64 off, .string k, .string v, .bool dead, .int .i64 stamp])[j]? := fun j => by
    rw [h.cell (p := ⟨w.heap.size, j, none⟩) (Nat.lt_succ_self _), cell_of_row _ w.heap.size j _ _ _ (heap_alloc_new w _)]
  exact ⟨key 0, key 1, key 2, key 3, key 4⟩

/-- A record's bytes, of strings. -/
def putB (off : Int) (k v : ByteArray) (dead : Bool) (stamp base st : Int) : List UInt8 := enc (zig (off - base)) ++ enc (zig (stamp - st)) ++ [flagB dead] ++ putT k.data.toList ++ putT v.data.toList

theorem putT_len (s : ByteArray) (h : s.size ≤ 64) : (putT s.data.toList).length ≤ 74 := by
  have hl : s.data.toList.length = s.size := by rw [Array.length_toList]; rfl
  have h10 := enc_ten (zig (s.data.toList.length : Int)) (zig_lt _ (by omega) (by omega))
  unfold putT
  rw [List.length_append]
  omega

theorem put_bad {w : World} (off : Int) (k v : ByteArray) (dead : Bool) (stamp base st : Int) (hk : k.size ≤ 9223372036854775807) (hv : v.size ≤ 9223372036854775807) (h : (chkN off k.size v.size dead stamp && inR base && inR st) = false) :
    Calls Try.prog 14 #[.agg #[.int .i64 off, .string k, .string v, .bool dead, .int .i64 stamp], .int .i64 base, .int .i64 st] w (Both w [] 1) := by
  cases h1 : chkN off k.size v.size dead stamp with
  | false =>
    go_enter Try.func14, Try.ntmps14
    go_wp2_with fail
    refine (check_is hk hv h1).mono ?_
    rintro e w1 ⟨rfl, hb1⟩
    have b1 := bthen (bput (Below.refl _ w) _) hb1
    have e1 : errI false = 1 := rfl
    go_wp2
    go_ret2
    exact ⟨none, 0, 0, rfl, Ob.nil _ _ _, b1⟩
  | true =>
  cases h2 : inR base with
  | false =>
    go_enter Try.func14, Try.ntmps14
    go_wp2_with fail
    refine (check_is hk hv h1).mono ?_
    rintro e w1 ⟨rfl, hb1⟩
    have b1 := bthen (bput (Below.refl _ w) _) hb1
    have e1 : errI true = 0 := rfl
    go_wp2_with fail
    refine (in_is _ _ h2).mono ?_
    rintro e w2 ⟨rfl, rfl⟩
    go_wp2
    go_ret2
    exact ⟨none, 0, 0, rfl, Ob.nil _ _ _, b1⟩
  | true =>
    have h3 : inR st = false := by simpa [h1, h2] using h
    go_enter Try.func14, Try.ntmps14
    go_wp2_with fail
    refine (check_is hk hv h1).mono ?_
    rintro e w1 ⟨rfl, hb1⟩
    have b1 := bthen (bput (Below.refl _ w) _) hb1
    have e1 : errI true = 0 := rfl
    go_wp2_with fail
    refine (in_is _ _ h2).mono ?_
    rintro e w2 ⟨rfl, rfl⟩
    go_wp2_with fail
    refine (in_is _ _ h3).mono ?_
    rintro e w2 ⟨rfl, rfl⟩
    go_wp2
    go_ret2
    exact ⟨none, 0, 0, rfl, Ob.nil _ _ _, b1⟩

set_option maxRecDepth 100000 in
set_option maxHeartbeats 2000000 in
theorem put_good {w : World} (off : Int) (k v : ByteArray) (dead : Bool) (stamp base st : Int) (h1 : chkN off k.size v.size dead stamp = true) (h2 : inR base = true) (h3 : inR st = true) :
    Calls Try.prog 14 #[.agg #[.int .i64 off, .string k, .string v, .bool dead, .int .i64 stamp], .int .i64 base, .int .i64 st] w (Both w (putB off k v dead stamp base st) 0) := by
  have hc := h1
  simp only [chkN, Bool.and_eq_true, decide_eq_true_eq] at hc
  obtain ⟨⟨⟨⟨g1, g2⟩, g3⟩, g4⟩, _⟩ := hc
  have r1 := inR_true g1
  have r2 := inR_true g2
  have r3 := inR_true h2
  have r4 := inR_true h3
  have hzk := enc_ten (zig (off - base)) (zig_lt _ (by omega) (by omega))
  have hzs := enc_ten (zig (stamp - st)) (zig_lt _ (by omega) (by omega))
  have hbytes : ∀ d : UInt8, (enc (zig (off - base)) ++ (enc (zig (stamp - st)) ++ [d])).length ≤ 21 := fun d => by simp only [List.length_append, List.length_singleton]; omega
  have d1 : IntKind.i64.wrap (off - base) = off - base := IntWalk.i64_in _ (by omega)
  have d2 : IntKind.i64.wrap (stamp - st) = stamp - st := IntWalk.i64_in _ (by omega)
  have D1 := Lib.hid d1
  have D2 := Lib.hid d2
  have hpk : ∀ w1 : World, Calls Try.prog 23 #[.slice none 0 0, .int .i64 (off - base)] w1 (Gives w1 (enc (zig (off - base)))) := fun w1 => by
    have := putVar_ok (Rd.nil w1 0) (Nat.zero_le _) (by omega) (off - base) (by omega) (by omega)
    rw [List.nil_append] at this
    exact this
  have HPK := Lib.hid hpk
  have HPS := Lib.hid (fun (w1 : World) (A : Option Addr) (n c : Nat) (l : List UInt8) (h : Rd w1 w1.heap.size A n c l) (hn : n ≤ 100) => putVar_ok h (Nat.le_refl _) (by omega) (stamp - st) (by omega) (by omega))
  have HC1 := Lib.hid h1
  have HI1 := Lib.hid h2
  have HI2 := Lib.hid h3
  have HBX := Lib.hid (fun (w' : World) (h : Below (w.heap.size + 1) (w.alloc (.cells #[.int .i64 off, .string k, .string v, .bool dead, .int .i64 stamp] 23)) w') => boxed5 w off k v dead stamp h)
  have hk : k.size ≤ 9223372036854775807 := by omega
  have hv : v.size ≤ 9223372036854775807 := by omega
  have hkt := putT_len k g3
  have hl2 : (enc (zig (off - base))).length ≤ 100 := by omega
  clear hpk d1 d2 h1 h2 h3 g1 g2 r1 r2 r3 r4
  go_enter Try.func14, Try.ntmps14
  go_wp2_with fail
  refine (check_is hk hv HC1.out).mono ?_
  rintro e w1 ⟨rfl, hb1⟩
  have b1 := bthen (bput (Below.refl _ w) _) hb1
  have e1 : errI true = 0 := rfl
  have hb1' : Below (w.heap.size + 1) _ w1 := hb1.mono (by simp)
  have bx := HBX.out _ hb1'
  have hsz : w.heap.size + 1 ≤ w1.heap.size := by have := hb1.size; simpa using this
  obtain ⟨q0, q1, q2, q3, q4⟩ := bx
  go_wp2_with fail
  refine (in_is _ _ HI1.out).mono ?_
  rintro e w2 ⟨rfl, rfl⟩
  go_wp2_with fail
  refine (in_is _ _ HI2.out).mono ?_
  rintro e w2 ⟨rfl, rfl⟩
  cases dead with
  | false =>
    go_wp2_with fail
    have HS : Hid (∀ w', Below w1.heap.size w1 w' → w'.cell? ⟨w.heap.size, 0, none⟩ = some (.int .i64 off) ∧ w'.cell? ⟨w.heap.size, 4, none⟩ = some (.int .i64 stamp)) := Lib.hid fun w' h => ⟨(h.cell (p := ⟨w.heap.size, 0, none⟩) hsz).trans q0, (h.cell (p := ⟨w.heap.size, 4, none⟩) hsz).trans q4⟩
    have HT : Hid (∀ w', Below w1.heap.size w1 w' → w'.cell? ⟨w.heap.size, 1, none⟩ = some (.string k) ∧ w'.cell? ⟨w.heap.size, 2, none⟩ = some (.string v)) := Lib.hid fun w' h => ⟨(h.cell (p := ⟨w.heap.size, 1, none⟩) hsz).trans q1, (h.cell (p := ⟨w.heap.size, 2, none⟩) hsz).trans q2⟩
    clear q0 q1 q2 q3 q4
    have z1 := (Below.refl w1.heap.size w1).drew
    have d1 := D1.out
    have d2 := D2.out
    go_region_held3 (fun w' => w'.cell? ⟨w.heap.size, 0, none⟩ = some (.int .i64 off) ∧ w'.cell? ⟨w.heap.size, 4, none⟩ = some (.int .i64 stamp)) (first | exact HS.out _ z1 | exact HS.out _ z2 | exact HS.out _ z3 | fail) (first
      | (go_at_call 23; (with_reducible refine (HPK.out _).mono ?_); rintro e w2 ⟨A2, n2, c2, rfl, ho2, hb2⟩; have z2 := z1.trans (hb2.mono z1.size); have l2 : n2 ≤ 100 := Nat.le_trans (Nat.le_of_eq ho2.len.symm) hl2)
      | (go_at_call 23; (with_reducible refine (HPS.out _ _ _ _ _ ho2.rd l2).mono ?_); rintro e w3 ⟨A3, n3, c3, rfl, ho3, hb3⟩; have z3 := z2.trans (hb3.mono z2.size))
      | fail)
    have b3 := b1.trans (z3.mono b1.size)
    have l3 := ho3.len
    have hb21 := hbytes 0
    have hl5 : (enc (zig (off - base)) ++ enc (zig (stamp - st)) ++ [0] ++ putT k.data.toList).length ≤ 200 := by simp only [List.length_append, List.length_singleton] at hb21 ⊢; omega
    have hlit := Rd.lit w3.drew 5 [.int .u8 0] [0] rfl (by simp)
    have ho3' := ho3.less z2.size
    have hn3 : n3 ≤ 20 := by simp only [List.length_append, List.length_singleton] at l3 hb21; omega
    obtain ⟨A4, c4, w4, k4, ho4, hg4⟩ := run_app (P := Try.prog) (w := w3.drew.alloc (.cells #[.int .u8 0] 5)) (t := 26) (ty := 26) Try.underlying26 byteInfo (ho3'.drew.alloc _) hlit (by rw [List.length_singleton]; omega) (bput z3.drew _).size
    have z4 := (bput z3.drew (.cells #[.int .u8 0] 5)).trans (below_of_own (ho3'.drew.alloc _) (bput z3.drew _).size hg4)
    rw [List.length_singleton] at k4 ho4
    have K4 := Lib.hid k4
    have HP4 := Lib.hid (putText_ok ho4.rd (Nat.le_refl _) k (by omega))
    have HP5 := Lib.hid (fun (w5 : World) (A5 : Option Addr) (n5 c5 : Nat) (l5 : List UInt8) (h5 : Rd w5 w5.heap.size A5 n5 c5 l5) (hn5 : n5 ≤ 200) => putText_ok h5 (Nat.le_refl _) v (by omega))
    clear hlit hg4 k4 d1 d2 hb21
    have z3d := z3.drew
    have z3p := bput z3.drew (.cells #[.int .u8 0] 5)
    go_wp2_with fail
    go_region_held3 (fun w' => w'.cell? ⟨w.heap.size, 1, none⟩ = some (.string k) ∧ w'.cell? ⟨w.heap.size, 2, none⟩ = some (.string v)) (first | exact HT.out _ z3d | exact HT.out _ z3p | exact HT.out _ z4 | exact HT.out _ z5 | exact HT.out _ z6 | fail) (first
      | (refine wpH_append (.tmp 36) (.tmp 38) 26 rfl rfl rfl rfl K4.out ?_)
      | (go_at_call 24; (with_reducible refine HP4.out.mono ?_); rintro e w5 ⟨A5, n5, c5, rfl, ho5, hb5⟩; have z5 := z4.trans (hb5.mono z4.size); have l5 : n5 ≤ 200 := Nat.le_trans (Nat.le_of_eq ho5.len.symm) hl5)
      | (go_at_call 24; (with_reducible refine (HP5.out _ _ _ _ _ ho5.rd l5).mono ?_); rintro e w6 ⟨A6, n6, c6, rfl, ho6, hb6⟩; have z6 := z5.trans (hb6.mono z5.size))
      | fail)
    go_wp2
    go_ret2
    exact ⟨_, _, _, rfl, ho6.less (Nat.le_trans b1.size z5.size), b1.trans (z6.mono b1.size)⟩
  | true =>
    go_wp2_with fail
    have HS : Hid (∀ w', Below w1.heap.size w1 w' → w'.cell? ⟨w.heap.size, 0, none⟩ = some (.int .i64 off) ∧ w'.cell? ⟨w.heap.size, 4, none⟩ = some (.int .i64 stamp)) := Lib.hid fun w' h => ⟨(h.cell (p := ⟨w.heap.size, 0, none⟩) hsz).trans q0, (h.cell (p := ⟨w.heap.size, 4, none⟩) hsz).trans q4⟩
    have HT : Hid (∀ w', Below w1.heap.size w1 w' → w'.cell? ⟨w.heap.size, 1, none⟩ = some (.string k) ∧ w'.cell? ⟨w.heap.size, 2, none⟩ = some (.string v)) := Lib.hid fun w' h => ⟨(h.cell (p := ⟨w.heap.size, 1, none⟩) hsz).trans q1, (h.cell (p := ⟨w.heap.size, 2, none⟩) hsz).trans q2⟩
    clear q0 q1 q2 q3 q4
    have z1 := (Below.refl w1.heap.size w1).drew
    have d1 := D1.out
    have d2 := D2.out
    go_region_held3 (fun w' => w'.cell? ⟨w.heap.size, 0, none⟩ = some (.int .i64 off) ∧ w'.cell? ⟨w.heap.size, 4, none⟩ = some (.int .i64 stamp)) (first | exact HS.out _ z1 | exact HS.out _ z2 | exact HS.out _ z3 | fail) (first
      | (go_at_call 23; (with_reducible refine (HPK.out _).mono ?_); rintro e w2 ⟨A2, n2, c2, rfl, ho2, hb2⟩; have z2 := z1.trans (hb2.mono z1.size); have l2 : n2 ≤ 100 := Nat.le_trans (Nat.le_of_eq ho2.len.symm) hl2)
      | (go_at_call 23; (with_reducible refine (HPS.out _ _ _ _ _ ho2.rd l2).mono ?_); rintro e w3 ⟨A3, n3, c3, rfl, ho3, hb3⟩; have z3 := z2.trans (hb3.mono z2.size))
      | fail)
    have b3 := b1.trans (z3.mono b1.size)
    have l3 := ho3.len
    have hb21 := hbytes 1
    have hl5 : (enc (zig (off - base)) ++ enc (zig (stamp - st)) ++ [1] ++ putT k.data.toList).length ≤ 200 := by simp only [List.length_append, List.length_singleton] at hb21 ⊢; omega
    have hlit := Rd.lit w3.drew 5 [.int .u8 1] [1] rfl (by simp)
    have ho3' := ho3.less z2.size
    have hn3 : n3 ≤ 20 := by simp only [List.length_append, List.length_singleton] at l3 hb21; omega
    obtain ⟨A4, c4, w4, k4, ho4, hg4⟩ := run_app (P := Try.prog) (w := w3.drew.alloc (.cells #[.int .u8 1] 5)) (t := 26) (ty := 26) Try.underlying26 byteInfo (ho3'.drew.alloc _) hlit (by rw [List.length_singleton]; omega) (bput z3.drew _).size
    have z4 := (bput z3.drew (.cells #[.int .u8 1] 5)).trans (below_of_own (ho3'.drew.alloc _) (bput z3.drew _).size hg4)
    rw [List.length_singleton] at k4 ho4
    have K4 := Lib.hid k4
    have HP4 := Lib.hid (putText_ok ho4.rd (Nat.le_refl _) k (by omega))
    have HP5 := Lib.hid (fun (w5 : World) (A5 : Option Addr) (n5 c5 : Nat) (l5 : List UInt8) (h5 : Rd w5 w5.heap.size A5 n5 c5 l5) (hn5 : n5 ≤ 200) => putText_ok h5 (Nat.le_refl _) v (by omega))
    clear hlit hg4 k4 d1 d2 hb21
    have z3d := z3.drew
    have z3p := bput z3.drew (.cells #[.int .u8 1] 5)
    go_wp2_with fail
    go_region_held3 (fun w' => w'.cell? ⟨w.heap.size, 1, none⟩ = some (.string k) ∧ w'.cell? ⟨w.heap.size, 2, none⟩ = some (.string v)) (first | exact HT.out _ z3d | exact HT.out _ z3p | exact HT.out _ z4 | exact HT.out _ z5 | exact HT.out _ z6 | fail) (first
      | (refine wpH_append (.tmp 36) (.tmp 38) 26 rfl rfl rfl rfl K4.out ?_)
      | (go_at_call 24; (with_reducible refine HP4.out.mono ?_); rintro e w5 ⟨A5, n5, c5, rfl, ho5, hb5⟩; have z5 := z4.trans (hb5.mono z4.size); have l5 : n5 ≤ 200 := Nat.le_trans (Nat.le_of_eq ho5.len.symm) hl5)
      | (go_at_call 24; (with_reducible refine (HP5.out _ _ _ _ _ ho5.rd l5).mono ?_); rintro e w6 ⟨A6, n6, c6, rfl, ho6, hb6⟩; have z6 := z5.trans (hb6.mono z5.size))
      | fail)
    go_wp2
    go_ret2
    exact ⟨_, _, _, rfl, ho6.less (Nat.le_trans b1.size z5.size), b1.trans (z6.mono b1.size)⟩
end Go.Proofs.Yteamnapboophiaa
