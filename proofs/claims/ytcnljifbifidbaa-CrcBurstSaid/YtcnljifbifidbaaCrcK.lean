/-
  append onto bytes of the call's own: what was appended to can still be read. Conditions: both have at least one element.
-/
import Derived.Test.YtcnljifbifidbaaCrcL
namespace Go.Proofs.Ytcnljifbifidbaa
open Go.RowKit
set_option linter.unusedVariables false

section
variable {P : Program} {w : World}
theorem run_app_keep {t ty e : TypeId} (ht : P.underlying t = some (.slice e)) (he : ByteInfo P e) {B : Nat} {A : Option Addr} {n c : Nat} {l : List UInt8} (hown : Ob e w B A n c l)
    {B2 : Nat} {A2 : Option Addr} {m c2 : Nat} {l2 : List UInt8} (hr : Rd w B2 A2 m c2 l2) (hn : 0 < n) (hm : 0 < m) (hbytes : n + m ≤ 140737488355328) (hB : B ≤ w.heap.size) :
    ∃ A' c' w', (Builtin.append_ #[t, t] ty #[.slice A n c, .slice A2 m c2]).run P w = .ok (.slice A' (n + m) c') w' ∧ Ob e w' B A' (n + m) c' (l ++ l2) ∧ Below B w w' ∧ Rd w' w'.heap.size A n c l := by
  obtain ⟨A', c', w', hrun, ho, hg⟩ := run_app (P := P) (ty := ty) ht he hown hr hbytes hB
  refine ⟨A', c', w', hrun, ho, below_of_own hown hB hg, ?_⟩
  obtain ⟨i, hi, hz, hs, hb⟩ := info_parts he
  have hl := hown.1
  obtain ⟨_, _, hA2, _, _⟩ := hr.cells hm
  have hnews := hr.news hA2
  subst hA2
  rcases hown.2.2 with ⟨hv, h0⟩ | ⟨g, cap, cur, hv, hbg, hgc, hnc, hcm, hcs, htake⟩
  · omega
  · injection hv with h1 h2 h3
    subst h1
    subst h3
    by_cases hroom : n + m ≤ c
    · have hx := run_append_room (P := P) w t ty e i ht hi g n c cur hgc _ m c2 (bcs l2) (by rw [bcs_length, hr.len, hs]; omega) hnews (bcs_one l2) hroom (by rw [bcs_length, hr.len, hcs, hs]; omega)
      rw [hx] at hrun
      injection hrun with e1 e2
      injection e1 with e3 e4 e5
      subst e3
      subst e5
      have := ho.rd.take (k := n) (by omega)
      rw [List.take_left' hl] at this
      exact this
    · have hx := run_append_grow (P := P) w t ty e i (.int .u8 0) ht hi hz ⟨g, 0, none⟩ n c (bcs l) (by rw [bcs_length, hs]; omega) (hown.2.cells (g := g) rfl) _ m c2 (bcs l2) (by rw [bcs_length, hr.len, hs]; omega) hnews (by omega) (by omega) (growslice_fits (by omega) (by rw [hb]; omega))
      rw [hx] at hrun
      injection hrun with e1 e2
      subst e2
      exact (hown.rd.drew.alloc (Nat.le_refl _) _).more (by simp)

theorem wpList_appK {ops : Array Oper} {rest : List Oper} {o : Oper} {a : Act} {Q : Exit → Act → World → Prop} (hgd : o.guard = none) (s x : Operand) {t e : TypeId}
    (ho : o.op = .call { callee := .builtin .append, args := #[s, x], argTypes := #[t, t] }) (ht : P.underlying t = some (.slice e)) (he : ByteInfo P e)
    {B : Nat} {A : Option Addr} {n c : Nat} {l : List UInt8} (hs : a.eval s = .slice A n c) (hown : Ob e w B A n c l)
    {B2 : Nat} {A2 : Option Addr} {m c2 : Nat} {l2 : List UInt8} (hx : a.eval x = .slice A2 m c2) (hr : Rd w B2 A2 m c2 l2) (hn : 0 < n) (hm : 0 < m) (hbytes : n + m ≤ 140737488355328) (hB : B ≤ w.heap.size)
    (h : ∀ A' c' w', Ob e w' B A' (n + m) c' (l ++ l2) → Below B w w' → Rd w' w'.heap.size A n c l → wpList P ops Q rest (a.put o.dst (.slice A' (n + m) c')) w') : wpList P ops Q (o :: rest) a w := by
  refine wpList_plain hgd fun K hK => ?_
  obtain ⟨A', c', w', hr', h2, h3, h4⟩ := run_app_keep (P := P) (ty := o.type) ht he hown hr hn hm hbytes hB
  unfold Oper.wp execOp
  simp only [ho, resolve, invoke, builtin, Sem.run_bind, Sem.run_pure, Result.andThen_ok, List.map_toArray, List.map_cons, List.map_nil, hs, hx, hr']
  exact hK _ _ (h A' c' w' h2 h3 h4)
end
end Go.Proofs.Ytcnljifbifidbaa
