/-
  Contracts of the reference of layer 2: step, steps, Sum, Join, four, Seal and Open.
-/
import Derived.Deep.QuietTactic
import Derived.BigQuiet
import Derived.Test.YtcnljifbifidbaaCrcS
import Derived.Test.YtcnljifbifidbaaOctQ
namespace Go.Proofs.Ytcnljifbifidbaa
open Go.RowKit
set_option linter.unusedVariables false

set_option maxRecDepth 100000 in
theorem rStep_ok {w : World} (v : Nat) (hv : v < 2 ^ 32) : Calls Try.prog 30 #[.int .u32 (v : Int)] w (Tells w (.int .u32 ((st v : Nat) : Int))) := by
  have hx := xor_walk (v / 2) 3988292384 (by omega) (by omega)
  rw [show ((3988292384 : Nat) : Int) = 3988292384 from rfl, show ((v / 2 : Nat) : Int) = (v : Int) / 2 by omega] at hx
  by_cases hb : v % 2 = 1
  · have hs : st v = (v / 2) ^^^ 3988292384 := by unfold st; rw [if_pos hb]
    rw [hs]
    have t1 : ((v : Int) % 2 == 1) = true := by simp; omega
    have hv2 : v < 4294967296 := by omega
    clear hs hb hv
    generalize (v / 2) ^^^ 3988292384 = X at *
    go_enter Try.func30, Try.ntmps30
    go_wp2
    go_ret
    exact ⟨rfl, rfl⟩
  · have hs : st v = v / 2 := by unfold st; rw [if_neg hb, Nat.xor_zero]
    rw [hs]
    have t1 : ((v : Int) % 2 == 1) = false := by simp; omega
    have hv2 : v < 4294967296 := by omega
    clear hs hb hv hx
    rw [show ((v / 2 : Nat) : Int) = (v : Int) / 2 by omega]
    go_enter Try.func30, Try.ntmps30
    go_wp2
    go_ret
    exact ⟨rfl, rfl⟩

set_option maxRecDepth 100000 in
theorem rSteps_ok {w : World} (v : Nat) (hv : v < 2 ^ 32) (n : Nat) (hn : n ≤ 1000000) : Calls Try.prog 23 #[.int .u32 (v : Int), .int .i64 (n : Int)] w (Tells w (.int .u32 ((its n v : Nat) : Int))) := by
  go_enter Try.func23, Try.ntmps23
  go_wp2_with fail
  go_loop [0, 5] (fun x i => ∃ (j u : Nat), j ≤ n ∧ u < 2 ^ 32 ∧ i = .int .i64 (j : Int) ∧ x = .int .u32 (u : Int) ∧ its (n - j) u = its n v) (fun _ i => n - (intOf i).toNat)
  case atStart => exact ⟨0, v, by omega, hv, rfl, rfl, rfl⟩
  case round =>
    obtain ⟨j, u, hj, hu, rfl, rfl, heq⟩ := hrel
    have HE := Lib.hid heq
    have HU := Lib.hid hu
    clear heq hu hv
    by_cases hlt : j < n
    · go_wp2_with (go_at_call 30; refine (rStep_ok u HU.out).mono ?_; rintro e w2 ⟨rfl, rfl⟩)
      go_round
      case rel => exact ⟨j + 1, st u, by omega, st_lt HU.out, by go_num, rfl, by rw [← HE.out, show n - j = (n - (j + 1)) + 1 by omega]; rfl⟩
      case measure => simp [intOf]; omega
    · have hjn : j = n := by omega
      subst hjn
      have := HE.out
      rw [Nat.sub_self] at this
      have HT := Lib.hid (show u = its j v from this)
      clear this
      go_wp2
      go_ret
      rw [← HT.out]
      exact ⟨rfl, rfl⟩

theorem rSteps8 {w : World} (v : Nat) (hv : v < 2 ^ 32) : Calls Try.prog 23 #[.int .u32 (v : Int), .int .i64 8] w (Tells w (.int .u32 ((its 8 v : Nat) : Int))) := rSteps_ok v hv 8 (by omega)

set_option maxRecDepth 100000 in
theorem rSum_ok {w : World} {B : Nat} {A : Option Addr} {n c : Nat} {l : List UInt8} (h : Rd w B A n c l) :
    Calls Try.prog 14 #[.slice A n c] w (Tells w (.int .u32 ((crc l : Nat) : Int))) := by
  have hlen := h.len
  have htop := h.top
  have hcap := h.cap
  go_enter Try.func14, Try.ntmps14
  go_wp2_with fail
  go_loop [3, 4] (fun v i => ∃ k : Nat, k ≤ n ∧ i = .int .i64 (k : Int) ∧ v = .int .u32 ((reg 4294967295 (l.take k) : Nat) : Int)) (fun _ i => n - (intOf i).toNat)
  case atStart => exact ⟨0, by omega, rfl, rfl⟩
  case round =>
    obtain ⟨k, hk, rfl, rfl⟩ := hrel
    by_cases hlt : k < n
    · obtain ⟨b, off, hA, hbb, hc⟩ := h.cells (by omega)
      subst hA
      have hcell := hc k hlt
      obtain ⟨x, hx⟩ : ∃ x, x = l.getD k 0 := ⟨_, rfl⟩
      rw [← hx] at hcell
      have hs : reg 4294967295 (l.take (k + 1)) = upd (reg 4294967295 (l.take k)) x := by
        rw [List.take_succ_eq_append_getElem (by omega), reg_snoc, hx]
        simp [List.getD, show k < l.length by omega]
      have hR := reg_lt (l.take k) (v := 4294967295) (by omega)
      generalize reg 4294967295 (l.take k) = R at *
      have hxw := xor_walk R x.toNat hR (byte_lt x)
      have hxl := Nat.xor_lt_two_pow hR (byte_lt x)
      unfold upd at hs
      generalize R ^^^ x.toNat = Y at *
      have hx256 := x.toNat_lt
      have HX := Lib.hid hx
      have HS := Lib.hid hs
      have HY := Lib.hid hxl
      clear hx hs hR hc h hxl
      go_wp2_with (go_at_call 23; refine (rSteps8 Y HY.out).mono ?_; rintro e w2 ⟨rfl, rfl⟩)
      go_round
      case rel => exact ⟨k + 1, by omega, by go_num, by rw [HS.out]⟩
      case measure => simp [intOf]; omega
    · have hkn : k = n := by omega
      subst hkn
      have : l.take k = l := List.take_of_length_le (by omega)
      rw [this]
      have hR := reg_lt l (v := 4294967295) (by omega)
      have hz := xor_walk _ 4294967295 hR (by omega)
      rw [show ((4294967295 : Nat) : Int) = 4294967295 from rfl] at hz
      have hfin : reg 4294967295 l ^^^ 4294967295 = crc l := rfl
      have HF := Lib.hid hfin
      clear this hfin hR
      generalize reg 4294967295 l ^^^ 4294967295 = R2 at *
      generalize reg 4294967295 l = R at *
      go_wp2
      go_ret
      rw [← HF.out]
      exact ⟨rfl, rfl⟩

set_option maxRecDepth 100000 in
theorem rJoin_ok {w : World} (a b : Nat) (ha : a < 2 ^ 32) (hb : b < 2 ^ 32) (n : Int) :
    Calls Try.prog 21 #[.int .u32 (a : Int), .int .u32 (b : Int), .int .i64 n] w (Tells w (.int .u32 ((join a b n : Nat) : Int))) := by
  by_cases h0 : n < 0
  · have hj : join a b n = 0 := by rw [join, if_pos (.inl h0)]
    rw [hj]
    have t1 : decide (n < 0) = true := by simp; exact h0
    go_enter Try.func21, Try.ntmps21
    go_wp2
    go_ret
    exact ⟨rfl, rfl⟩
  have t1 : decide (n < 0) = false := by simp; omega
  by_cases h1 : 4096 < n
  · have hj : join a b n = 0 := by rw [join, if_pos (.inr h1)]
    rw [hj]
    have t2 : decide (4096 < n) = true := by simp; exact h1
    go_enter Try.func21, Try.ntmps21
    go_wp2
    go_ret
    exact ⟨rfl, rfl⟩
  have t2 : decide (4096 < n) = false := by simp; omega
  obtain ⟨m, rfl⟩ := Int.eq_ofNat_of_zero_le (show 0 ≤ n by omega)
  have hj : join a b m = its (8 * m) a ^^^ b := by rw [join, if_neg (by omega), Int.toNat_natCast]
  rw [hj]
  have hst := rSteps_ok (w := w) a ha (8 * m) (by omega)
  rw [show ((8 * m : Nat) : Int) = 8 * (m : Int) by omega] at hst
  have hx := xor_walk (its (8 * m) a) b (its_lt (8 * m) ha) hb
  have HST := Lib.hid hst
  clear hst hj ha hb
  generalize its (8 * m) a ^^^ b = Y at *
  generalize its (8 * m) a = X at *
  go_enter Try.func21, Try.ntmps21
  go_wp2_with fail
  refine HST.out.mono ?_
  rintro e w2 ⟨rfl, rfl⟩
  go_wp2
  go_ret
  exact ⟨rfl, rfl⟩

theorem be_four (v : Nat) (h : v < 2 ^ 32) : bcs (be v 4) = [.int .u8 ((v : Int) / 16777216), .int .u8 ((v : Int) / 65536 % 256), .int .u8 ((v : Int) / 256 % 256), .int .u8 ((v : Int) % 256)] := by
  simp only [be, bcs, List.map_cons, List.map_nil]
  have e : ∀ a : Nat, (((UInt8.ofNat a).toNat : Nat) : Int) = (a : Int) % 256 := by intro a; rw [UInt8.toNat_ofNat']; omega
  rw [e, e, e, e]
  simp
  omega

set_option maxRecDepth 100000 in
theorem four_ok {w : World} (v : Nat) (hv : v < 2 ^ 32) : Calls Try.prog 24 #[.int .u32 (v : Int)] w (Gives w (be v 4)) := by
  have hv2 : v < 4294967296 := by omega
  have hcs := be_four v hv
  have HL := Lib.hid (fun w => Ob.lit (e := 5) w (Nat.le_refl _) _ (be v 4) hcs.symm (by rw [be_length]; omega))
  clear hcs hv
  go_enter Try.func24, Try.ntmps24
  go_wp2
  go_ret
  exact ⟨_, _, _, rfl, HL.out w, bput (Below.refl _ _) _⟩

set_option maxRecDepth 100000 in
theorem rSeal_ok {w : World} {B : Nat} {A : Option Addr} {n c : Nat} {l : List UInt8} (h : Rd w B A n c l) (hB : B ≤ w.heap.size) (hn : n ≤ 140737488340000) :
    Calls Try.prog 18 #[.slice A n c] w (Gives w (l ++ be (crc l) 4)) := by
  have hown : Own (w.alloc (.cells #[] 5)) w.heap.size (some ⟨w.heap.size, 0, none⟩) 0 0 [] :=
    ⟨rfl, World.ownsRow_made w #[] 0 (Nat.le_refl _) (by simp [maxLen]) (by simp)⟩
  have hr := h.alloc hB (.cells #[] 5)
  have hs : (w.alloc (.cells #[] 5)).heap.size = w.heap.size + 1 := by simp
  go_enter Try.func18, Try.ntmps18
  go_wp2_with (at_builtin; refine wpList_app rfl (.tmp 3) (.tmp 4) rfl Try.underlying22 byteInfo rfl hown rfl hr ?_ ?_ ?_)
  · omega
  · omega
  · intro A1 c1 w1 ho hb
    have b1 := ((Below.refl w.heap.size w).alloc (Nat.le_refl _) (.cells #[] 5)).trans hb
    go_wp2_with fail
    refine (rSum_ok (h.below (b1.mono hB))).mono ?_
    rintro e w2 ⟨rfl, rfl⟩
    go_wp2_with fail
    refine (four_ok (crc l) (crc_lt l)).mono ?_
    rintro e w2 ⟨A2, n2, c2, rfl, ho2, hb2⟩
    have hn2 := ho2.len
    rw [be_length] at hn2
    have hn2' : n2 ≤ 4 := by omega
    clear hn2
    go_wp2_with (at_builtin; refine wpList_app rfl (.tmp 5) (.tmp 8) rfl Try.underlying22 byteInfo rfl (ho.step hb2) rfl ho2.rd ?_ ?_ ?_)
    · omega
    · exact (bthen b1 hb2).size
    · intro A3 c3 w3 ho3 hb3
      go_wp2
      go_ret
      exact ⟨_, _, _, rfl, ho3, (bthen b1 hb2).trans hb3⟩

theorem be_num (m : List UInt8) : be (num 0 m) m.length = m := by
  have key : ∀ (m : List UInt8) (a : Nat), num a m = a * 256 ^ m.length + num 0 m ∧ num 0 m < 256 ^ m.length := by
    intro m
    induction m with
    | nil => intro a; simp [num]
    | cons x m ih =>
      intro a
      have h1 := ih (a * 256 + x.toNat)
      have h2 := ih (0 * 256 + x.toNat)
      have hx := x.toNat_lt
      rw [num_cons, num_cons, h1.1, h2.1, List.length_cons, Nat.pow_succ]
      have hp : x.toNat * 256 ^ m.length + 256 ^ m.length ≤ 256 * 256 ^ m.length := by
        rw [← Nat.succ_mul]
        exact Nat.mul_le_mul_right _ (by omega)
      constructor
      · rw [Nat.zero_mul, Nat.zero_add, Nat.add_mul, Nat.mul_assoc, Nat.mul_comm 256, Nat.add_assoc]
      · rw [Nat.zero_mul, Nat.zero_add]
        have := h1.2
        omega
  induction m with
  | nil => rfl
  | cons x m ih =>
    have h1 := key m (0 * 256 + x.toNat)
    have hP : 0 < 256 ^ m.length := Nat.pow_pos (by omega)
    rw [List.length_cons, be, num_cons, h1.1, Nat.zero_mul, Nat.zero_add]
    have e1 : (x.toNat * 256 ^ m.length + num 0 m) / 256 ^ m.length = x.toNat := by
      rw [Nat.mul_comm, Nat.mul_add_div hP, Nat.div_eq_of_lt h1.2, Nat.add_zero]
    have e2 : be (x.toNat * 256 ^ m.length + num 0 m) m.length = m := by
      rw [← be_mod _ m.length m.length (Nat.le_refl _), Nat.mul_comm, Nat.mul_add_mod, Nat.mod_eq_of_lt h1.2, ih]
    rw [e1, e2]
    simp

/-- What is opened, by its bytes. -/
theorem open_iff (l : List UInt8) (h : 4 ≤ l.length) : openE l = (if l.drop (l.length - 4) = be (crc (l.take (l.length - 4))) 4 then 0 else 20) := by
  rw [openE, if_neg (by omega)]
  have hc := crc_lt (l.take (l.length - 4))
  have hl : (l.drop (l.length - 4)).length = 4 := by rw [List.length_drop]; omega
  have h1 : num 0 (l.drop (l.length - 4)) = crc (l.take (l.length - 4)) ↔ l.drop (l.length - 4) = be (crc (l.take (l.length - 4))) 4 := by
    constructor
    · intro e
      have := be_num (l.drop (l.length - 4))
      rw [hl, e] at this
      exact this.symm
    · intro e
      rw [e, num_be, Nat.zero_mul, Nat.zero_add, Nat.mod_eq_of_lt (by omega)]
  by_cases hh : num 0 (l.drop (l.length - 4)) = crc (l.take (l.length - 4))
  · rw [if_pos hh, if_pos (h1.1 hh)]
  · rw [if_neg hh, if_neg (fun x => hh (h1.2 x))]

set_option maxRecDepth 100000 in
theorem rOpen_ok {w : World} {B : Nat} {A : Option Addr} {n c : Nat} {l : List UInt8} (h : Rd w B A n c l) (hB : B ≤ w.heap.size) (hn : n ≤ 140737488340000) :
    Calls Try.prog 16 #[.slice A n c] w (OpenPost w l) := by
  have hlen := h.len
  have hcap := h.cap
  have htop := h.top
  by_cases h4 : n < 4
  · have t1 : decide ((n : Int) - 4 < 0) = true := by simp; omega
    have hE : openE l = 10 := by rw [openE, if_pos (by omega)]
    have hL : openL l = [] := by rw [openL, hE, if_neg (by omega)]
    have FIN : Hid (OpenPost w l (.returned (.tuple #[.slice none 0 0, .int .i64 10])) w) := OpenPost.mk hE hL (Ob.nil _ _ _) (Below.refl _ _)
    clear hE hL
    go_enter Try.func16, Try.ntmps16
    go_wp2
    go_ret2
    exact FIN.out
  have t1 : decide ((n : Int) - 4 < 0) = false := by simp; omega
  have g4 : (4 : Int) ≤ (n : Int) := by omega
  obtain ⟨A2, hrun, hr2⟩ := run_upto (P := Try.prog) (t := 22) Try.underlying22 byteInfo h (n - 4) (by omega)
  rw [show ((n - 4 : Nat) : Int) = (n : Int) - 4 by omega] at hrun
  have hiff := open_iff l (by omega)
  rw [hlen] at hiff
  have HI := Lib.hid hiff
  clear hiff
  have HC := Lib.hid (crc_lt (l.take (n - 4)))
  obtain ⟨b, off, hA, hbb, hc⟩ := h.cells (by omega)
  subst hA
  go_enter Try.func16, Try.ntmps16
  go_wp2_with fail
  refine (rSum_ok hr2).mono ?_
  rintro e w1 ⟨rfl, rfl⟩
  go_wp2_with fail
  refine (four_ok _ HC.out).mono ?_
  rintro e w1 ⟨A3, n3, c3, rfl, ho3, hb1⟩
  have hn3 := ho3.len
  rw [be_length] at hn3
  subst hn3
  obtain ⟨g, hA3, hg1, hg2⟩ := ho3.spot (by omega)
  subst hA3
  have ht3 := ho3.top
  have hc3 := ho3.cap
  go_wp2_with fail
  go_loopw [6] (fun i wr => ∃ j : Nat, j ≤ 4 ∧ i = .int .i64 (j : Int) ∧ w1.heap = wr.heap ∧ Below w.heap.size w wr ∧ (l.drop (n - 4)).take j = (be (crc (l.take (n - 4))) 4).take j) (fun i _ => 4 - (intOf i).toNat)
  case atStart => exact ⟨0, by omega, rfl, rfl, hb1, rfl⟩
  case round =>
    obtain ⟨j, hj, rfl, hheap, hb2, heq⟩ := hrel
    have hcl : ∀ p : Addr, wr.cell? p = w1.cell? p := fun p => by simp only [World.cell?, hheap]
    generalize hS : be (crc (l.take (n - 4))) 4 = S at *
    have hSl : S.length = 4 := by rw [← hS, be_length]
    have hdl : (l.drop (n - 4)).length = 4 := by rw [List.length_drop]; omega
    by_cases hlt : j < 4
    · have k1 : wr.cell? ⟨b, off + (n - 4 + j), none⟩ = some (.int .u8 ((l.getD (n - 4 + j) 0).toNat : Int)) := by
        rw [hcl, hb1.cell (p := ⟨b, off + (n - 4 + j), none⟩) (Nat.lt_of_lt_of_le hbb hB)]
        exact hc (n - 4 + j) (by omega)
      have k2 : wr.cell? ⟨g, j, none⟩ = some (.int .u8 ((S.getD j 0).toNat : Int)) := by
        rw [hcl]
        exact ho3.cell j hlt
      have hx : l.getD (n - 4 + j) 0 = (l.drop (n - 4)).getD j 0 := by simp [List.getD, List.getElem?_drop]
      rw [hx] at k1
      have hnext : (l.drop (n - 4)).getD j 0 = S.getD j 0 → (l.drop (n - 4)).take (j + 1) = S.take (j + 1) := by
        intro e
        rw [List.take_succ_eq_append_getElem (by omega), List.take_succ_eq_append_getElem (by omega), heq]
        have e1 : (l.drop (n - 4))[j]'(by omega) = (l.drop (n - 4)).getD j 0 := by rw [List.getD_eq_getElem?_getD, List.getElem?_eq_getElem (by omega)]; rfl
        have e2 : S[j]'(by omega) = S.getD j 0 := by rw [List.getD_eq_getElem?_getD, List.getElem?_eq_getElem (by omega)]; rfl
        rw [e1, e2, e]
      have hnot : (l.drop (n - 4)).getD j 0 ≠ S.getD j 0 → l.drop (n - 4) ≠ S := fun h e => h (by rw [e])
      generalize (l.drop (n - 4)).getD j 0 = x at *
      generalize S.getD j 0 = y at *
      have g1 : (0 : Int) ≤ (n : Int) - 4 + (j : Int) := by omega
      have g2 : (n : Int) - 4 + (j : Int) < (n : Int) := by omega
      have g3 : IntKind.i64.wrap ((n : Int) - 4 + (j : Int)) = (n : Int) - 4 + (j : Int) := IntWalk.i64_in _ (by omega)
      have g4' : ((n : Int) - 4 + (j : Int)).toNat = n - 4 + j := by omega
      have HN := Lib.hid hnext
      have HX := Lib.hid hnot
      clear hnext hnot hx hcl
      by_cases hxy : x = y
      · have t2 : ((x.toNat : Int) != (y.toNat : Int)) = false := by rw [hxy]; simp
        have HT := Lib.hid (HN.out hxy)
        clear hxy HN HX heq hSl hdl hc h hr2 hrun HI HC hS ho3 hbb
        go_wp2_with fail
        go_quiet (fail)
        go_wp2
        go_roundw
        case rel => exact ⟨j + 1, by omega, by go_num, hheap, bdrewN hb2 _, HT.out⟩
        case measure => simp [intOf]; omega
      · have t2 : ((x.toNat : Int) != (y.toNat : Int)) = true := by
          simp only [bne_iff_ne, ne_eq]
          intro e
          exact hxy (UInt8.toNat_inj.1 (by omega))
        go_wp2_with fail
        go_quiet (fail)
        go_wp2
        go_ret2
        have hE : openE l = 20 := by rw [HI.out, if_neg (HX.out hxy)]
        exact OpenPost.mk hE (by rw [openL, hE, if_neg (by omega)]) (Ob.nil _ _ _) (bdrewN hb2 _)
    · have hj4 : j = 4 := by omega
      subst hj4
      have heq2 : l.drop (n - 4) = S := by
        rw [List.take_of_length_le (by omega), List.take_of_length_le (by omega)] at heq
        exact heq
      have hE : openE l = 0 := by rw [HI.out, if_pos heq2]
      have hL : openL l = l.take (n - 4) := by rw [openL, hE, if_pos rfl, hlen]
      have HE := Lib.hid hE
      have HL := Lib.hid hL
      have hr3 := (hr2.below (hb2.mono hB)).alloc (Nat.le_trans hB hb2.size) (.cells #[] 5)
      have hsz : (wr.alloc (.cells #[] 5)).heap.size = wr.heap.size + 1 := by simp
      have hown := Ob.made (e := 5) wr hb2.size
      clear hE hL heq heq2 hdl hSl hS hc h hcl ho3
      go_wp2_with (at_builtin; refine wpList_app rfl (.tmp 32) (.tmp 35) rfl Try.underlying22 byteInfo rfl hown rfl hr3 ?_ ?_ ?_)
      · omega
      · have := hb2.size; omega
      · intro A1 c1 w2 ho hb
        go_wp2
        go_ret2
        exact OpenPost.mk HE.out HL.out ho ((bput hb2 _).trans hb)
end Go.Proofs.Ytcnljifbifidbaa
