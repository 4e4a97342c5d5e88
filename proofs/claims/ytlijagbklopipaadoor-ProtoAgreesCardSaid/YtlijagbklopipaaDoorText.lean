/-
  Contracts of octet's PutText and GetText.
-/
import Derived.Test.YtlijagbklopipaaDoorVar
namespace Go.Proofs.YtlijagbklopipaaDoor
open Go.RowKit
set_option linter.unusedVariables false

theorem putText_ok {w : World} {B : Nat} {A : Option Addr} {n c : Nat} {l : List UInt8} (h : Rd w B A n c l) (hB : B ≤ w.heap.size) (s : ByteArray) (hn : n + s.size ≤ 140737488340000) :
    Calls Tryd.prog 79 #[.slice A n c, .string s] w (Gives w (l ++ putT s.data.toList)) := by
  have hlen := h.len
  have hss : s.data.toList.length = s.size := by rw [Array.length_toList]; rfl
  go_enter Tryd.func79, Tryd.ntmps79
  go_wp2_with fail
  refine (putVar_ok h hB (by omega) (s.size : Int) (by omega) (by omega)).mono ?_
  rintro e w1 ⟨A1, n1, c1, rfl, ho, hb⟩
  have hn1 := ho.len
  have he := enc_ten (zig (s.size : Int)) (zig_lt _ (by omega) (by omega))
  rw [List.length_append] at hn1
  have hb46 : n1 + s.size ≤ 140737488355328 := by omega
  clear hlen hss he hn1
  go_wp2_with (at_builtin; refine wpList_appS rfl (.tmp 8) (.tmp 9) rfl Tryd.underlying24 Tryd.underlying9 byteInfo rfl ho s rfl ?_ ?_ ?_)
  · omega
  · exact hb.size
  · intro A3 c3 w3 ho3 hb3
    go_wp2
    go_ret
    refine ⟨_, _, _, rfl, ?_, hb.trans hb3⟩
    have e : s.data.toList.length = s.size := by rw [Array.length_toList]; rfl
    unfold putT
    rw [e]
    exact ho3

/-- What octet.GetText answers. -/
def TextPost (w : World) (r : List UInt8 × Int × Int) (e : Ending) (w' : World) : Prop := ∃ (s : List UInt8) (b c : Int), r = (s, b, c) ∧ e = .returned (.tuple #[.string (strOf s), .int .i64 b, .int .i64 c]) ∧ w = w'

theorem strOf_nil : strOf [] = { data := #[] } := rfl

set_option maxRecDepth 100000 in
theorem getText_ok {w : World} {B : Nat} {A : Option Addr} {n c : Nat} {l : List UInt8} (h : Rd w B A n c l) (at_ most : Int) :
    Calls Tryd.prog 82 #[.slice A n c, .int .i64 at_, .int .i64 most] w (TextPost w (getT l at_ most)) := by
  have hlen := h.len
  have htop := h.top
  have hcap := h.cap
  go_enter Tryd.func82, Tryd.ntmps82
  go_wp2_with fail
  refine (getVar_ok h at_).mono ?_
  intro e w1 hv
  obtain ⟨vn, vt, ve, hV, rfl, rfl⟩ := hv.out
  have HT : Hid (getT l at_ most = (if ve ≠ 0 then ([], 0, ve) else if vn < 0 then ([], 0, 11) else if most < vn then ([], 0, 2) else if (l.length : Int) - vt < vn then ([], 0, 10) else ((l.drop vt.toNat).take vn.toNat, vt + vn, 0))) := by
    unfold getT
    rw [hV]
    exact rfl
  have hok : ve = 0 → 0 ≤ vt ∧ vt ≤ n := by
    intro h0
    have := getV_next (l := l) (at_ := at_) (by rw [hV]; exact h0)
    rw [hV] at this
    simp only at this
    omega
  have HOK := Lib.hid hok
  generalize getT l at_ most = T at *
  clear hv hV hok
  by_cases h0 : ve = 0
  · have hb := HOK.out h0
    obtain ⟨j, rfl⟩ := Int.eq_ofNat_of_zero_le hb.1
    have hjn : j ≤ n := by omega
    subst h0
    clear hb HOK
    by_cases h1 : vn < 0
    · have FIN : Hid (TextPost w T (.returned (.tuple #[.string { data := #[] }, .int .i64 0, .int .i64 11])) w) := by
        rw [HT.out, if_neg (by simp), if_pos h1]
        exact ⟨_, _, _, rfl, rfl, rfl⟩
      clear HT
      go_wp2
      go_ret3
      exact FIN.out
    obtain ⟨q, rfl⟩ := Int.eq_ofNat_of_zero_le (show 0 ≤ vn by omega)
    by_cases h2 : most < q
    · have FIN : Hid (TextPost w T (.returned (.tuple #[.string { data := #[] }, .int .i64 0, .int .i64 2])) w) := by
        rw [HT.out, if_neg (by simp), if_neg h1, if_pos h2]
        exact ⟨_, _, _, rfl, rfl, rfl⟩
      clear HT
      go_wp2
      go_ret3
      exact FIN.out
    by_cases h3 : n - j < q
    · have FIN : Hid (TextPost w T (.returned (.tuple #[.string { data := #[] }, .int .i64 0, .int .i64 10])) w) := by
        rw [HT.out, if_neg (by simp), if_neg h1, if_neg h2, if_pos (by omega)]
        exact ⟨_, _, _, rfl, rfl, rfl⟩
      clear HT
      go_wp2
      go_ret3
      exact FIN.out
    · have FIN : Hid (TextPost w T (.returned (.tuple #[.string (strOf ((l.drop j).take q)), .int .i64 ((j : Int) + q), .int .i64 0])) w) := by
        rw [HT.out, if_neg (by simp), if_neg h1, if_neg h2, if_neg (by omega), Int.toNat_natCast, Int.toNat_natCast]
        exact ⟨_, _, _, rfl, rfl, rfl⟩
      obtain ⟨A2, hrun, hr2⟩ := run_part (P := Tryd.prog) (t := 24) Tryd.underlying24 byteInfo h j q (by omega)
      have hstr := run_str (P := Tryd.prog) (src := 24) (dst := 9) Tryd.underlying24 Tryd.underlying5 Tryd.underlying9 hr2
      clear HT hr2 h
      generalize (l.drop j).take q = L at *
      go_wp2
      go_ret3
      exact FIN.out
  · have FIN : Hid (TextPost w T (.returned (.tuple #[.string { data := #[] }, .int .i64 0, .int .i64 ve])) w) := by
      rw [HT.out, if_pos h0]
      exact ⟨_, _, _, rfl, rfl, rfl⟩
    have t0 : (ve != 0) = true := by simp; exact h0
    clear HT HOK
    go_wp2
    go_ret3
    exact FIN.out
end Go.Proofs.YtlijagbklopipaaDoor
