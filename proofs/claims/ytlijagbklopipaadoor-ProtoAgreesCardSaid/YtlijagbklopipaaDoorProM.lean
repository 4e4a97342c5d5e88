/-
  Contracts of layer 6's writer: a number, a text, lists of them, bytes of a length. Conditions: those that each states.
-/
import Derived.Test.YtlijagbklopipaaDoorProF
namespace Go.Proofs.YtlijagbklopipaaDoor
open Go.RowKit
set_option linter.unusedVariables false

theorem append_two {P : Program} {t u ty e e' : TypeId} {A : Option Addr} {n c : Nat} {y : Value} {w : World} (ht : P.underlying t = some (.slice e)) (hu : P.underlying u = some (.slice e')) (he : ByteInfo P e) :
    (Builtin.append_ #[t, u] ty #[.slice A n c, y]).run P w = (Builtin.append_ #[t, t] ty #[.slice A n c, y]).run P w := by
  obtain ⟨i, hi, hz, hs, hb⟩ := info_parts he
  unfold Builtin.append_
  simp [run_underlying ht, run_underlying hu, sizeOf, typeInfo, hi]

theorem wpList_app2 {P : Program} {w : World} {ops : Array Oper} {rest : List Oper} {o : Oper} {a : Act} {Q : Exit → Act → World → Prop} (hgd : o.guard = none) (s x : Operand) {t u e e' : TypeId}
    (ho : o.op = .call { callee := .builtin .append, args := #[s, x], argTypes := #[t, u] }) (ht : P.underlying t = some (.slice e)) (hu : P.underlying u = some (.slice e')) (he : ByteInfo P e)
    {B : Nat} {A : Option Addr} {n c : Nat} {l : List UInt8} (hs : a.eval s = .slice A n c) (hown : Ob e w B A n c l)
    {B2 : Nat} {A2 : Option Addr} {m c2 : Nat} {l2 : List UInt8} (hx : a.eval x = .slice A2 m c2) (hr : Rd w B2 A2 m c2 l2) (hbytes : n + m ≤ 140737488355328) (hB : B ≤ w.heap.size)
    (h : ∀ A' c' w', Ob e w' B A' (n + m) c' (l ++ l2) → Below B w w' → wpList P ops Q rest (a.put o.dst (.slice A' (n + m) c')) w') : wpList P ops Q (o :: rest) a w := by
  refine wpList_plain hgd fun K hK => ?_
  obtain ⟨A', c', w', hr', h2, h3⟩ := run_app (P := P) (ty := o.type) ht he hown hr hbytes hB
  rw [← append_two ht hu he] at hr'
  unfold Oper.wp execOp
  simp only [ho, resolve, invoke, builtin, Sem.run_bind, Sem.run_pure, Result.andThen_ok, List.map_toArray, List.map_cons, List.map_nil, hs, hx, hr']
  exact hK _ _ (h A' c' w' h2 (below_of_own hown hB h3))

/-- The writer's block holds a slice of the call's own, with the bytes l. -/
def Wb (w : World) (Bw : Nat) (l : List UInt8) : Prop := ∃ A n c, w.heap[Bw]? = some (.cells #[.slice A n c] 57 (0, 0)) ∧ Own w (Bw + 1) A n c l
/-- What a writer's method leaves. -/
def Wrote (w : World) (Bw : Nat) (l : List UInt8) (e : Ending) (w' : World) : Prop := ∃ v, e = .returned v ∧ w.grownBy w' (some Bw) ∧ Wb w' Bw l

theorem grown_refl' (w : World) (r : Option Nat) : w.grownBy w r := World.grownBy.refl w r
theorem Wb.out {w w1 : World} {Bw : Nat} (hB : Bw < w.heap.size) (hb : Below w.heap.size w w1) {x : Value} (h : w.heap[Bw]? = some (.cells #[x] 57 (0, 0))) {A : Option Addr} {n c : Nat} {l : List UInt8} (ho : Own w1 w.heap.size A n c l) :
    w.grownBy (w1.setCell ⟨Bw, 0, none⟩ (.slice A n c)) (some Bw) ∧ Wb (w1.setCell ⟨Bw, 0, none⟩ (.slice A n c)) Bw l := by
  have g := grown_set w1 Bw 0 (.slice A n c)
  refine ⟨grown_trans ⟨hb.os, hb.tape, hb.output, hb.size, fun j hj _ => hb.block j hj⟩ g, A, n, c, heap_setCell_same _ Bw 0 _ _ _ ((hb.block Bw hB).trans h), ?_⟩
  refine (ho.kept g ?_).less (by omega)
  rcases hk : Value.ownBlock (.slice A n c) with _ | k
  · exact .inl rfl
  · refine .inr fun e => ?_
    have h1 := (World.ownsRow.lt ho.2 k hk).1
    cases e
    omega

theorem w_num0_ok {w : World} {Bw : Nat} {l : List UInt8} {A : Option Addr} {n c : Nat} (hbx : w.heap[Bw]? = some (.cells #[.slice A n c] 57 (0, 0))) (ho : Rd w w.heap.size A n c l) (hl : l.length ≤ 1000000) (m : Int) (hm1 : -9223372036854775808 ≤ m) (hm2 : m ≤ 9223372036854775807) :
    Calls Tryd.prog 35 #[.pointer (some ⟨Bw, 0, none⟩), .int .i64 m] w (Wrote w Bw (l ++ encI m)) := by
  have hB : Bw < w.heap.size := (Array.getElem?_eq_some_iff.1 hbx).1
  have hc : w.cell? ⟨Bw, 0, none⟩ = some (.slice A n c) := by rw [cell_of_row _ Bw 0 _ _ _ hbx]; rfl
  have hn := ho.len
  have HP := Lib.hid (putVar_ok ho (Nat.le_refl _) (by omega) m hm1 hm2)
  have HW := Lib.hid (fun (w1 : World) (hb : Below w.heap.size w w1) (A1 : Option Addr) (n1 c1 : Nat) (l1 : List UInt8) (ho1 : Own w1 w.heap.size A1 n1 c1 l1) => Wb.out hB hb hbx ho1)
  have HF := Lib.hid (fun (w1 : World) (hb : Below w.heap.size w w1) => (⟨by rw [hb.cell (p := ⟨Bw, 0, none⟩) hB]; exact hc, by rw [hb.frozen (p := ⟨Bw, 0, none⟩) hB]; simp [World.frozen?, hbx]⟩ : w1.cell? ⟨Bw, 0, none⟩ = some (.slice A n c) ∧ w1.frozen? ⟨Bw, 0, none⟩ = false))
  clear hbx ho hn hm1 hm2 hl
  go_enter Tryd.func35, Tryd.ntmps35
  go_wp2_with fail
  refine HP.out.mono ?_
  rintro e w1 ⟨A1, n1, c1, rfl, ho1, hb1⟩
  obtain ⟨g1, g2⟩ := HF.out w1 hb1
  have HX := Lib.hid (HW.out w1 hb1 _ _ _ _ ho1)
  clear hb1 ho1
  go_wp2
  go_end0
  exact ⟨_, rfl, HX.out.1, HX.out.2⟩

theorem w_num_ok {w : World} {Bw : Nat} {l : List UInt8} (h : Wb w Bw l) (hl : l.length ≤ 1000000) (m : Int) (hm1 : -9223372036854775808 ≤ m) (hm2 : m ≤ 9223372036854775807) :
    Calls Tryd.prog 35 #[.pointer (some ⟨Bw, 0, none⟩), .int .i64 m] w (Wrote w Bw (l ++ encI m)) := by
  obtain ⟨A, n, c, hbx, ho⟩ := h
  exact w_num0_ok hbx ho.rd hl m hm1 hm2

theorem w_txt_ok {w : World} {Bw : Nat} {l : List UInt8} (h : Wb w Bw l) (hl : l.length ≤ 1000000) (s : List UInt8) (hs : s.length ≤ 1000000) :
    Calls Tryd.prog 36 #[.pointer (some ⟨Bw, 0, none⟩), .string (strOf s)] w (Wrote w Bw (l ++ putT s)) := by
  obtain ⟨A, n, c, hbx, ho⟩ := h
  have hB : Bw < w.heap.size := (Array.getElem?_eq_some_iff.1 hbx).1
  have hc : w.cell? ⟨Bw, 0, none⟩ = some (.slice A n c) := by rw [cell_of_row _ Bw 0 _ _ _ hbx]; rfl
  have hn := ho.len
  have hz := strOf_size s
  have hp := putText_ok ho.rd (Nat.le_refl _) (strOf s) (by omega)
  rw [strOf_data] at hp
  have HP := Lib.hid hp
  have HW := Lib.hid (fun (w1 : World) (hb : Below w.heap.size w w1) (A1 : Option Addr) (n1 c1 : Nat) (l1 : List UInt8) (ho1 : Own w1 w.heap.size A1 n1 c1 l1) => Wb.out hB hb hbx ho1)
  have HF := Lib.hid (fun (w1 : World) (hb : Below w.heap.size w w1) => (⟨by rw [hb.cell (p := ⟨Bw, 0, none⟩) hB]; exact hc, by rw [hb.frozen (p := ⟨Bw, 0, none⟩) hB]; simp [World.frozen?, hbx]⟩ : w1.cell? ⟨Bw, 0, none⟩ = some (.slice A n c) ∧ w1.frozen? ⟨Bw, 0, none⟩ = false))
  clear hbx ho hn hl hp hz hs
  go_enter Tryd.func36, Tryd.ntmps36
  go_wp2_with fail
  refine HP.out.mono ?_
  rintro e w1 ⟨A1, n1, c1, rfl, ho1, hb1⟩
  obtain ⟨g1, g2⟩ := HF.out w1 hb1
  have HX := Lib.hid (HW.out w1 hb1 _ _ _ _ ho1)
  clear hb1 ho1
  go_wp2
  go_end0
  exact ⟨_, rfl, HX.out.1, HX.out.2⟩

def WroteB (w : World) (Bw : Nat) (l : List UInt8) (e : Ending) (w' : World) : Prop := ∃ v, e = .returned v ∧ Below Bw w w' ∧ Wb w' Bw l
theorem encI_len {m : Int} (h1 : -9223372036854775808 ≤ m) (h2 : m ≤ 9223372036854775807) : (encI m).length ≤ 10 := enc_ten _ (zig_lt _ h1 h2)

theorem w_blb_ok {w : World} {Bw : Nat} {l : List UInt8} (h : Wb w Bw l) (hl : l.length ≤ 900000) {A2 : Option Addr} {m c2 : Nat} {s : List UInt8} (hr : Rd w Bw A2 m c2 s) (hs : s.length ≤ 1000000) :
    Calls Tryd.prog 39 #[.pointer (some ⟨Bw, 0, none⟩), .slice A2 m c2] w (WroteB w Bw (l ++ putT s)) := by
  have hm := hr.len
  have hB : Bw < w.heap.size := by obtain ⟨A, n, c, hbx, ho⟩ := h; exact (Array.getElem?_eq_some_iff.1 hbx).1
  have HN := Lib.hid (w_num_ok h (by omega) (m : Int) (by omega) (by omega))
  have hel := encI_len (m := (m : Int)) (by omega) (by omega)
  have HE : Hid (putT s = encI (m : Int) ++ s) := by
    have : putT s = encI (s.length : Int) ++ s := rfl
    rw [this, hm]
    exact rfl
  have HR := Lib.hid hr
  have hcap := hr.cap
  have htop := hr.top
  clear h hr
  go_enter Tryd.func39, Tryd.ntmps39
  go_wp2_with fail
  refine HN.out.mono ?_
  rintro e w1 ⟨v, rfl, hg, A, n, c, hbx, ho⟩
  have hc : w1.cell? ⟨Bw, 0, none⟩ = some (.slice A n c) := by rw [cell_of_row _ Bw 0 _ _ _ hbx]; rfl
  have hb1 := below_grown hg (Nat.le_of_lt hB) (fun k hk => by cases hk; exact Nat.le_refl _)
  have hr1 := HR.out.below hb1
  have hn := ho.len
  rw [List.length_append] at hn
  have hB1 : Bw + 1 ≤ w1.heap.size := Nat.lt_of_lt_of_le hB hg.size
  have HBX := Lib.hid hbx
  have HO := Lib.hid ho
  have HR1 := Lib.hid hr1
  have HB1 := Lib.hid hb1
  have hnm : n + m ≤ 2000000 := by omega
  clear hbx ho hr1 hb1 hg HN hn
  go_wp2_with (at_builtin; go_must (refine wpList_app2 rfl (.tmp 11) (.tmp 12) rfl Tryd.underlying57 Tryd.underlying24 byteInfo rfl HO.out rfl HR1.out ?_ ?_ ?_))
  · omega
  · exact hB1
  · intro A3 c3 w3 ho3 hb3
    have h3 : w3.heap[Bw]? = some (.cells #[.slice A n c] 57 (0, 0)) := (hb3.block Bw (Nat.lt_succ_self _)).trans HBX.out
    have c4 : w3.cell? ⟨Bw, 0, none⟩ = some (.slice A n c) := by rw [cell_of_row _ Bw 0 _ _ _ h3]; rfl
    have f4 : w3.frozen? ⟨Bw, 0, none⟩ = false := by simp [World.frozen?, h3]
    have g := grown_set w3 Bw 0 (.slice A3 (n + m) c3)
    have HX : Hid (Below Bw w (w3.setCell ⟨Bw, 0, none⟩ (.slice A3 (n + m) c3)) ∧ Wb (w3.setCell ⟨Bw, 0, none⟩ (.slice A3 (n + m) c3)) Bw (l ++ putT s)) := by
      refine ⟨(HB1.out.trans (hb3.mono (Nat.le_succ _))).setCell (Nat.le_refl _) _, A3, n + m, c3, heap_setCell_same _ Bw 0 _ _ _ h3, ?_⟩
      rw [HE.out]
      refine ho3.kept g ?_
      rcases hk : Value.ownBlock (.slice A3 (n + m) c3) with _ | k
      · exact .inl rfl
      · refine .inr fun e => ?_
        have h1 := (World.ownsRow.lt ho3.2 k hk).1
        cases e
        omega
    clear ho3 hb3 g h3 hc
    go_wp2
    go_end0
    exact ⟨_, rfl, HX.out.1, HX.out.2⟩
end Go.Proofs.YtlijagbklopipaaDoor
