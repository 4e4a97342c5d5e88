/-
  The walk of ProtoVersions. Conditions: those that it states.
-/
import Derived.Deep.DeepCutAuto
import Derived.Test.YtlijagbklopipaaDoorAlone
import Derived.Test.YtlijagbklopipaaDoorProtoBack
import Derived.Test.YtlijagbklopipaaDoorProtoWaits
namespace Go.Proofs.YtlijagbklopipaaDoor
open Go.RowKit
set_option linter.unusedVariables false

theorem enc_last : ∀ (n z : Nat), z ≤ n → ∃ (h : List UInt8) (x : UInt8), enc z = h ++ [x] ∧ x.toNat ≤ 127 ∧ ∀ y ∈ h, 127 < y.toNat := by
  intro n
  induction n with
  | zero =>
    intro z hz
    refine ⟨[], UInt8.ofNat z, by rw [enc_lt (by omega)]; rfl, by rw [UInt8.toNat_ofNat']; omega, by simp⟩
  | succ n ih =>
    intro z hz
    by_cases h : z < 128
    · exact ⟨[], UInt8.ofNat z, by rw [enc_lt h]; rfl, by rw [UInt8.toNat_ofNat']; omega, by simp⟩
    · obtain ⟨hh, x, h1, h2, h3⟩ := ih (z / 128) (by omega)
      refine ⟨UInt8.ofNat (z % 128 + 128) :: hh, x, by rw [enc_ge (by omega), h1]; rfl, h2, ?_⟩
      intro y hy
      rcases List.mem_cons.1 hy with rfl | hy
      · rw [UInt8.toNat_ofNat']; omega
      · exact h3 y hy
theorem vers_plain {k id : Int} {zs : List Int} {ts : List (List UInt8)} {bs : List UInt8} (h : chkQ ⟨k, 0, id, [], zs, ts, bs⟩ = 0) :
    ∃ (K : UInt8) (h b : List UInt8) (x : UInt8), putQ ⟨k, 0, id, [], zs, ts, bs⟩ = (K :: 0 :: (h ++ x :: b), 0) ∧ putQ ⟨k, 1, id, [], zs, ts, bs⟩ = (K :: 1 :: (h ++ x :: b), 0) ∧ putQ ⟨k, 2, id, [], zs, ts, bs⟩ = (K :: 2 :: (h ++ x :: 0 :: b), 0) ∧
      x.toNat ≤ 127 ∧ (∀ y ∈ h, 127 < y.toNat) ∧ h.length + b.length ≤ 1000000 := by
  have hl := (bodyQ_len h).2
  obtain ⟨hk, ⟨q1, q2⟩, ⟨q3, q4⟩, ⟨q5, q6⟩, ⟨q7, q8, q9⟩, q10⟩ := chkQ_ok.1 h
  obtain ⟨i1, i2, -, -⟩ := known_ok hk
  simp only at i1 i2 q1 q2 q3 q4 q5 q6 q7 q8 q9 q10
  have kn : ∀ v : Int, 0 ≤ v → v ≤ 2 → knownE k v = 0 := fun v h1 h2 => by unfold knownE; rw [if_neg (by omega), if_neg (by omega)]
  have hv : ∀ v : Int, 0 ≤ v → v ≤ 2 → chkQ ⟨k, v, id, [], zs, ts, bs⟩ = 0 := fun v h1 h2 => chkQ_ok.2 ⟨kn v h1 h2, ⟨q1, q2⟩, ⟨q3, fun _ => rfl⟩, ⟨q5, q6⟩, ⟨q7, q8, q9⟩, q10⟩
  obtain ⟨hh, x, e1, e2, e3⟩ := enc_last _ (zig id) (Nat.le_refl _)
  have e1' : encI id = hh ++ [x] := e1
  have e0 : putT ([] : List UInt8) = [0] := by decide +kernel
  obtain ⟨b, hb⟩ : ∃ b, (((zs.map encI).flatten ++ ((if k = 7 then encI (ts.length : Int) else []) ++ ((ts.map putT).flatten ++ (if k = 2 then putT bs else []))))) = b := ⟨_, rfl⟩
  refine ⟨byteOf k, hh, b, x, ?_, ?_, ?_, e2, e3, ?_⟩
  · rw [putQ_good (hv 0 (by omega) (by omega))]
    simp only [encQ, bodyQ]
    rw [e1', hb, if_neg (by omega)]
    simp [byteOf]
  · rw [putQ_good (hv 1 (by omega) (by omega))]
    simp only [encQ, bodyQ]
    rw [e1', hb, if_neg (by omega)]
    simp [byteOf]
  · rw [putQ_good (hv 2 (by omega) (by omega))]
    simp only [encQ, bodyQ]
    rw [e1', hb, if_pos (by omega), e0]
    simp [byteOf]
  · simp only [encQ, bodyQ] at hl
    rw [e1', hb] at hl
    simp only [List.length_cons, List.length_append] at hl
    omega

theorem ver_set7 {w W : World} {b : Nat} {T : TypeId} {a0 a1 a2 a3 a4 a5 a6 u : Value} (h : W.heap[b]? = some (.cells #[a0, a1, a2, a3, a4, a5, a6] T (0, 0))) (hb : Below w.heap.size w W) (hle : w.heap.size ≤ b) :
    (W.setCell ⟨b, 1, none⟩ u).heap[b]? = some (.cells #[a0, u, a2, a3, a4, a5, a6] T (0, 0)) ∧ Below w.heap.size w (W.setCell ⟨b, 1, none⟩ u) :=
  ⟨heap_setCell_same _ b 1 _ _ u h, bset hb hle u⟩
/-- The lists behind the second byte. -/
theorem hx_at {h b : List UInt8} {x : UInt8} (e2 : x.toNat ≤ 127) (e3 : ∀ y ∈ h, 127 < y.toNat) {j : Nat} :
    (j < h.length → 127 < ((h ++ x :: b).getD j 0).toNat) ∧ (j = h.length → ((h ++ x :: b).getD j 0).toNat ≤ 127) := by
  constructor
  · intro hj
    rw [List.getD_eq_getElem?_getD, List.getElem?_append_left hj, List.getElem?_eq_getElem hj]
    exact e3 _ (List.getElem_mem _)
  · rintro rfl
    rw [List.getD_eq_getElem?_getD, List.getElem?_append_right (Nat.le_refl _)]
    simpa using e2
theorem cut_same {h b : List UInt8} {x K v v' : UInt8} : ((K :: v :: (h ++ x :: b)).drop 2).take (h.length + 3 - 2) = h ++ [x] ∧ ((K :: v' :: (h ++ x :: 0 :: b)).drop 2).take (h.length + 3 - 2) = h ++ [x] ∧
    (K :: v :: (h ++ x :: b)).drop (h.length + 3) = b ∧ (K :: v' :: (h ++ x :: 0 :: b)).drop (h.length + 3 + 1) = b ∧ (K :: v' :: (h ++ x :: 0 :: b)).getD (h.length + 3) 0 = 0 := by
  have e : h.length + 3 - 2 = h.length + 1 := by omega
  have d1 : ∀ (l : List UInt8), (h ++ x :: l).drop (h.length + 1) = l := fun l => by
    rw [List.drop_append, List.drop_of_length_le (by omega)]; simp
  have t1 : ∀ (l : List UInt8), (h ++ x :: l).take (h.length + 1) = h ++ [x] := fun l => by
    rw [List.take_append, List.take_of_length_le (by omega)]; simp
  refine ⟨by rw [e]; exact t1 _, by rw [e]; exact t1 _, d1 b, ?_, ?_⟩
  · show ((h ++ x :: 0 :: b).drop (h.length + 1 + 1)) = b
    rw [← List.drop_drop, d1]; rfl
  · show (h ++ x :: 0 :: b).getD (h.length + 1) 0 = 0
    rw [List.getD_eq_getElem?_getD, List.getElem?_append_right (by omega)]
    simp

set_option maxRecDepth 100000 in
set_option maxHeartbeats 8000000 in
theorem vers_err {w : World} (hs : Shp w) (k v id : Int) (who : List UInt8) {Ai At Ab : Option Addr} {ni ci nt ct nb cb : Nat} {zs ts bs} (h : Rq w w.heap.size Ai ni ci At nt ct Ab nb cb zs ts bs) (hp0 : ∃ e1, e1 ≠ 0 ∧ putQ ⟨k, 0, id, [], zs, ts, bs⟩ = ([], e1)) :
    Calls Tryd.prog 9 #[.agg #[.int .i64 k, .int .i64 v, .int .i64 id, .string (strOf who), .slice Ai ni ci, .slice At nt ct, .slice Ab nb cb]] w (Says w (.bool true)) := by
  obtain ⟨e1, he1, hp0⟩ := hp0
  have t1 : (e1 != 0) = true := by simpa using he1
  have HP0 := Lib.hid hp0
  clear hp0 he1
  obtain ⟨W1, hW1⟩ : ∃ W, W = w.alloc (.cells #[.int .i64 k, .int .i64 v, .int .i64 id, .string (strOf who), .slice Ai ni ci, .slice At nt ct, .slice Ab nb cb] 26) := ⟨_, rfl⟩
  have b1 : Below w.heap.size w W1 := by rw [hW1]; exact bput (Below.refl _ w) _
  have g1 : W1.heap[w.heap.size]? = some (.cells #[.int .i64 k, .int .i64 v, .int .i64 id, .string (strOf who), .slice Ai ni ci, .slice At nt ct, .slice Ab nb cb] 26 (0, 0)) := by rw [hW1]; exact heap_alloc_new w _
  have HF : Hid (∀ w', Below W1.heap.size W1 w' → w'.heap[w.heap.size]? = some (.cells #[.int .i64 k, .int .i64 v, .int .i64 id, .string (strOf who), .slice Ai ni ci, .slice At nt ct, .slice Ab nb cb] 26 (0, 0))) := Lib.hid fun w' hb =>
    (hb.block _ (Array.getElem?_eq_some_iff.1 g1).1).trans g1
  have HQ : Hid (∀ w', Below W1.heap.size W1 w' → Rq w' w'.heap.size Ai ni ci At nt ct Ab nb cb zs ts bs ∧ Shp w') := Lib.hid fun w' hb =>
    ⟨(h.step (bthen b1 hb) (Nat.le_refl _)).more (bthen b1 hb).size, hs.on (bthen b1 hb)⟩
  have HB1 := Lib.hid b1
  have hL := live_ok W1 (HQ.out W1 (Below.refl _ _)).2
  have HL := Lib.hid hL
  clear b1 g1 h hs hL
  go_enter Tryd.func9, Tryd.ntmps9
  go_wp2_with fail
  rw [← hW1]
  clear hW1
  refine HL.out.mono ?_
  rintro e w2 ⟨rfl, b2⟩
  have B2 := Lib.hid b2
  clear b2
  obtain ⟨⟨a0, a1, a2, a3, a4, a5, a6⟩, -⟩ := of7 (HF.out w2 B2.out)
  go_wp2_with fail
  refine (fewQ_ok k v id who (HQ.out w2 B2.out).1 (Nat.le_refl _)).mono ?_
  rintro e w3 ⟨bo, rfl, b3⟩
  have B3 := Lib.hid (bthen B2.out b3)
  clear a0 a1 a2 a3 a4 a5 a6 b3
  cases bo with
  | false =>
    go_wp2
    go_ret
    exact ⟨rfl, bthen HB1.out B3.out⟩
  | true =>
  obtain ⟨⟨a0, a1, a2, a3, a4, a5, a6⟩, -⟩ := of7 (HF.out w3 B3.out)
  go_upto_region 7 with fail
  clear a0 a1 a2 a3 a4 a5 a6
  obtain ⟨W4, hW4⟩ : ∃ W, W = w3.alloc (.cells #[.int .i64 k, .int .i64 0, .int .i64 id, .string { data := #[] }, .slice Ai ni ci, .slice At nt ct, .slice Ab nb cb] 26) := ⟨_, rfl⟩
  have b4 : Below w3.heap.size w3 W4 := by rw [hW4]; exact bput (Below.refl _ w3) _
  have g4 : W4.heap[w3.heap.size]? = some (.cells #[.int .i64 k, .int .i64 0, .int .i64 id, .string { data := #[] }, .slice Ai ni ci, .slice At nt ct, .slice Ab nb cb] 26 (0, 0)) := by rw [hW4]; exact heap_alloc_new w3 _
  have hle : W1.heap.size ≤ w3.heap.size := B3.out.size
  have B4 := Lib.hid (bthen B3.out b4)
  have G4 := Lib.hid g4
  have HLE := Lib.hid hle
  obtain ⟨⟨a0, a1, a2, a3, a4, a5, a6⟩, -⟩ := of7 g4
  have HP := Lib.hid (p_putQ_ok (HQ.out W4 B4.out).2 k 0 id [] (HQ.out W4 B4.out).1 (Nat.zero_le _))
  rw [HP0.out] at HP
  rw [← hW4]
  clear hW4 b4 g4 hle
  go_wp2_with fail
  refine HP.out.mono ?_
  rintro e w5 ⟨A5, n5, c5, rfl, ho5, b5⟩
  have B5 := Lib.hid (bthen B4.out b5)
  have B45 := Lib.hid b5
  clear a0 a1 a2 a3 a4 a5 a6 b5 HP
  obtain rfl : n5 = 0 := ho5.1.symm
  clear ho5
  go_wp2
  go_ret
  exact ⟨rfl, bthen HB1.out B5.out⟩

set_option maxRecDepth 100000 in
set_option maxHeartbeats 8000000 in
theorem vers_all {w : World} (hs : Shp w) (k v id : Int) (who : List UInt8) {Ai At Ab : Option Addr} {ni ci nt ct nb cb : Nat} {zs ts bs} (h : Rq w w.heap.size Ai ni ci At nt ct Ab nb cb zs ts bs) {K x : UInt8} {hh b : List UInt8} (hp0 : putQ ⟨k, 0, id, [], zs, ts, bs⟩ = (K :: 0 :: (hh ++ x :: b), 0)) (hp1 : putQ ⟨k, 1, id, [], zs, ts, bs⟩ = (K :: 1 :: (hh ++ x :: b), 0)) (hp2 : putQ ⟨k, 2, id, [], zs, ts, bs⟩ = (K :: 2 :: (hh ++ x :: 0 :: b), 0)) (hx : x.toNat ≤ 127) (hh1 : ∀ y ∈ hh, 127 < y.toNat) (hbl : hh.length + b.length ≤ 1000000) :
    Calls Tryd.prog 9 #[.agg #[.int .i64 k, .int .i64 v, .int .i64 id, .string (strOf who), .slice Ai ni ci, .slice At nt ct, .slice Ab nb cb]] w (Says w (.bool true)) := by
  have HP1 := Lib.hid hp1
  have HP2 := Lib.hid hp2
  have HP0 := Lib.hid hp0
  have HBL := Lib.hid hbl
  have HXA := Lib.hid (fun j => hx_at (b := b) hx hh1 (j := j))
  clear hp1 hp2 hp0 hbl hx hh1
  obtain ⟨W1, hW1⟩ : ∃ W, W = w.alloc (.cells #[.int .i64 k, .int .i64 v, .int .i64 id, .string (strOf who), .slice Ai ni ci, .slice At nt ct, .slice Ab nb cb] 26) := ⟨_, rfl⟩
  have b1 : Below w.heap.size w W1 := by rw [hW1]; exact bput (Below.refl _ w) _
  have g1 : W1.heap[w.heap.size]? = some (.cells #[.int .i64 k, .int .i64 v, .int .i64 id, .string (strOf who), .slice Ai ni ci, .slice At nt ct, .slice Ab nb cb] 26 (0, 0)) := by rw [hW1]; exact heap_alloc_new w _
  have HF : Hid (∀ w', Below W1.heap.size W1 w' → w'.heap[w.heap.size]? = some (.cells #[.int .i64 k, .int .i64 v, .int .i64 id, .string (strOf who), .slice Ai ni ci, .slice At nt ct, .slice Ab nb cb] 26 (0, 0))) := Lib.hid fun w' hb =>
    (hb.block _ (Array.getElem?_eq_some_iff.1 g1).1).trans g1
  have HQ : Hid (∀ w', Below W1.heap.size W1 w' → Rq w' w'.heap.size Ai ni ci At nt ct Ab nb cb zs ts bs ∧ Shp w') := Lib.hid fun w' hb =>
    ⟨(h.step (bthen b1 hb) (Nat.le_refl _)).more (bthen b1 hb).size, hs.on (bthen b1 hb)⟩
  have HB1 := Lib.hid b1
  have hL := live_ok W1 (HQ.out W1 (Below.refl _ _)).2
  have HL := Lib.hid hL
  clear b1 g1 h hs hL
  go_enter Tryd.func9, Tryd.ntmps9
  go_wp2_with fail
  rw [← hW1]
  clear hW1
  refine HL.out.mono ?_
  rintro e w2 ⟨rfl, b2⟩
  have B2 := Lib.hid b2
  clear b2
  obtain ⟨⟨a0, a1, a2, a3, a4, a5, a6⟩, -⟩ := of7 (HF.out w2 B2.out)
  go_wp2_with fail
  refine (fewQ_ok k v id who (HQ.out w2 B2.out).1 (Nat.le_refl _)).mono ?_
  rintro e w3 ⟨bo, rfl, b3⟩
  have B3 := Lib.hid (bthen B2.out b3)
  clear a0 a1 a2 a3 a4 a5 a6 b3
  cases bo with
  | false =>
    go_wp2
    go_ret
    exact ⟨rfl, bthen HB1.out B3.out⟩
  | true =>
  obtain ⟨⟨a0, a1, a2, a3, a4, a5, a6⟩, -⟩ := of7 (HF.out w3 B3.out)
  go_upto_region 7 with fail
  clear a0 a1 a2 a3 a4 a5 a6
  obtain ⟨W4, hW4⟩ : ∃ W, W = w3.alloc (.cells #[.int .i64 k, .int .i64 0, .int .i64 id, .string { data := #[] }, .slice Ai ni ci, .slice At nt ct, .slice Ab nb cb] 26) := ⟨_, rfl⟩
  have b4 : Below w3.heap.size w3 W4 := by rw [hW4]; exact bput (Below.refl _ w3) _
  have g4 : W4.heap[w3.heap.size]? = some (.cells #[.int .i64 k, .int .i64 0, .int .i64 id, .string { data := #[] }, .slice Ai ni ci, .slice At nt ct, .slice Ab nb cb] 26 (0, 0)) := by rw [hW4]; exact heap_alloc_new w3 _
  have hle : W1.heap.size ≤ w3.heap.size := B3.out.size
  have B4 := Lib.hid (bthen B3.out b4)
  have G4 := Lib.hid g4
  have HLE := Lib.hid hle
  obtain ⟨⟨a0, a1, a2, a3, a4, a5, a6⟩, -⟩ := of7 g4
  have HP := Lib.hid (p_putQ_ok (HQ.out W4 B4.out).2 k 0 id [] (HQ.out W4 B4.out).1 (Nat.zero_le _))
  rw [HP0.out] at HP
  rw [← hW4]
  clear hW4 b4 g4 hle
  go_wp2_with fail
  refine HP.out.mono ?_
  rintro e w5 ⟨A5, n5, c5, rfl, ho5, b5⟩
  have B5 := Lib.hid (bthen B4.out b5)
  have B45 := Lib.hid b5
  clear a0 a1 a2 a3 a4 a5 a6 b5 HP
  have hn5 : n5 = hh.length + b.length + 3 := by rw [← ho5.1]; simp; omega
  have HN5 := Lib.hid hn5
  have HR5 := Lib.hid ho5.rd
  have HE5 := Lib.hid (fun bb off (hA : A5 = some ⟨bb, off, none⟩) => own_block ho5 hA)
  have hz4 : w3.heap.size < W4.heap.size := (Array.getElem?_eq_some_iff.1 G4.out).1
  have HZ4 := Lib.hid hz4
  clear ho5 hn5 hz4
  have g5 := (B45.out.block _ (Array.getElem?_eq_some_iff.1 G4.out).1).trans G4.out
  obtain ⟨g6, b6⟩ := ver_set7 (u := .int .i64 1) g5 B5.out HLE.out
  obtain ⟨⟨a0, a1, a2, a3, a4, a5, a6⟩, fz⟩ := of7 g5
  have fz1 := fz 1
  obtain ⟨W6, hW6⟩ : ∃ W, W = w5.setCell ⟨w3.heap.size, 1, none⟩ (.int .i64 1) := ⟨_, rfl⟩
  rw [← hW6] at g6 b6
  have hs6 : W6.heap.size = w5.heap.size := by rw [hW6]; simp
  have HR6 : Hid (Rd W6 W6.heap.size A5 n5 c5 (K :: 0 :: (hh ++ x :: b))) := Lib.hid (by
    rw [hs6, hW6]
    exact HR5.out.past (grown_set _ _ _ _) (fun bb off hA => by have := HE5.out bb off hA; have := HZ4.out; omega))
  have B6 := Lib.hid b6
  have G6 := Lib.hid g6
  have hz6 : w3.heap.size < W6.heap.size := (Array.getElem?_eq_some_iff.1 g6).1
  have HZ6 := Lib.hid hz6
  obtain ⟨⟨d0, d1, d2, d3, d4, d5, d6⟩, -⟩ := of7 g6
  have HP := Lib.hid (p_putQ_ok (HQ.out W6 B6.out).2 k 1 id [] (HQ.out W6 B6.out).1 (Nat.zero_le _))
  rw [HP1.out] at HP
  clear fz g5 g6 b6 hs6 HR5 hz6
  go_upto_region 11 with fail
  rw [← hW6]
  clear hW6 a0 a1 a2 a3 a4 a5 a6 fz1
  go_wp2_with fail
  refine HP.out.mono ?_
  rintro e w7 ⟨A7, n7, c7, rfl, ho7, b7⟩
  obtain rfl : n7 = n5 := by rw [HN5.out, ← ho7.1]; simp; omega
  have HR7 := Lib.hid ((HR6.out.step b7 (Nat.le_refl _)).more b7.size)
  have HR7b := Lib.hid ho7.rd
  have HE7 := Lib.hid (fun bb off (hA : A7 = some ⟨bb, off, none⟩) => own_block ho7 hA)
  have B7 := Lib.hid (bthen B6.out b7)
  have g7 := (b7.block _ (Array.getElem?_eq_some_iff.1 G6.out).1).trans G6.out
  clear d0 d1 d2 d3 d4 d5 d6 b7 ho7 HP HR6
  obtain ⟨g8, b8⟩ := ver_set7 (u := .int .i64 2) g7 B7.out HLE.out
  obtain ⟨⟨a0, a1, a2, a3, a4, a5, a6⟩, fz⟩ := of7 g7
  have fz1 := fz 1
  obtain ⟨W8, hW8⟩ : ∃ W, W = w7.setCell ⟨w3.heap.size, 1, none⟩ (.int .i64 2) := ⟨_, rfl⟩
  rw [← hW8] at g8 b8
  have hs8 : W8.heap.size = w7.heap.size := by rw [hW8]; simp
  have HR8 : Hid (Rd W8 W8.heap.size A5 n7 c5 (K :: 0 :: (hh ++ x :: b))) := Lib.hid (by
    rw [hs8, hW8]
    exact HR7.out.past (grown_set _ _ _ _) (fun bb off hA => by have := HE5.out bb off hA; have := HZ4.out; omega))
  have HR8b : Hid (Rd W8 W8.heap.size A7 n7 c7 (K :: 1 :: (hh ++ x :: b))) := Lib.hid (by
    rw [hs8, hW8]
    exact HR7b.out.past (grown_set _ _ _ _) (fun bb off hA => by have := HE7.out bb off hA; have := HZ6.out; omega))
  have B8 := Lib.hid b8
  obtain ⟨⟨d0, d1, d2, d3, d4, d5, d6⟩, -⟩ := of7 g8
  have HP := Lib.hid (p_putQ_ok (HQ.out W8 B8.out).2 k 2 id [] (HQ.out W8 B8.out).1 (Nat.zero_le _))
  rw [HP2.out] at HP
  clear fz g7 g8 b8 hs8 HR7 HR7b
  go_upto_region 13 with fail
  rw [← hW8]
  clear hW8 a0 a1 a2 a3 a4 a5 a6 fz1
  go_wp2_with fail
  refine HP.out.mono ?_
  rintro e w9 ⟨A9, n9, c9, rfl, ho9, b9⟩
  have hn9 : n9 = hh.length + b.length + 4 := by rw [← ho9.1]; simp; omega
  have R9c := ho9.rd
  have R9 := (HR8.out.step b9 (Nat.le_refl _)).more b9.size
  have R9b := (HR8b.out.step b9 (Nat.le_refl _)).more b9.size
  have B9 := Lib.hid (bthen B8.out b9)
  clear d0 d1 d2 d3 d4 d5 d6 b9 ho9 HP HR8 HR8b
  have hn5 := HN5.out
  have hbl := HBL.out
  have hc5 := R9.cap
  have hc7 := R9b.cap
  have hc9 := R9c.cap
  have ht5 := R9.top
  have ht7 := R9b.top
  have ht9 := R9c.top
  obtain ⟨N, hN⟩ : ∃ N, N = hh.length + 3 := ⟨_, rfl⟩
  obtain ⟨B1, u1, r1⟩ := run_from (P := Tryd.prog) (t := 24) Tryd.underlying24 byteInfo R9 2 (by omega)
  obtain ⟨B2, u2, r2⟩ := run_from (P := Tryd.prog) (t := 24) Tryd.underlying24 byteInfo R9b 2 (by omega)
  obtain ⟨B3, u3, r3⟩ := run_mid (P := Tryd.prog) (t := 24) Tryd.underlying24 byteInfo R9c 2 N (by omega) (by omega)
  obtain ⟨B4', u4, r4⟩ := run_mid (P := Tryd.prog) (t := 24) Tryd.underlying24 byteInfo R9 2 N (by omega) (by omega)
  obtain ⟨B5', u5, r5⟩ := run_from (P := Tryd.prog) (t := 24) Tryd.underlying24 byteInfo R9c (N + 1) (by omega)
  obtain ⟨B6', u6, r6⟩ := run_from (P := Tryd.prog) (t := 24) Tryd.underlying24 byteInfo R9 N (by omega)
  obtain ⟨cs1, cs2, cs3, cs4, cs5⟩ := cut_same (h := hh) (b := b) (x := x) (K := K) (v := 0) (v' := 2)
  rw [← hN] at cs1 cs2 cs3 cs4 cs5
  rw [cs2] at r3
  rw [cs1] at r4
  rw [cs4] at r5
  rw [cs3] at r6
  obtain ⟨sx, hsx⟩ : ∃ sx, strOf (hh ++ x :: b) = sx := ⟨_, rfl⟩
  obtain ⟨sy, hsy⟩ : ∃ sy, strOf (hh ++ [x]) = sy := ⟨_, rfl⟩
  obtain ⟨sz, hsz⟩ : ∃ sz, strOf b = sz := ⟨_, rfl⟩
  have v1 : ∀ W, (Instr.sliceAt 24 (.slice A5 n7 c5) (some (.int .i64 2)) none none).run Tryd.prog W = .ok (.slice B1 (n7 - 2) (c5 - 2)) W := u1
  have v2 : ∀ W, (Instr.sliceAt 24 (.slice A7 n7 c7) (some (.int .i64 2)) none none).run Tryd.prog W = .ok (.slice B2 (n7 - 2) (c7 - 2)) W := u2
  have v3 : ∀ W, (Instr.sliceAt 24 (.slice A9 n9 c9) (some (.int .i64 2)) (some (.int .i64 (N : Int))) none).run Tryd.prog W = .ok (.slice B3 (N - 2) (c9 - 2)) W := u3
  have v4 : ∀ W, (Instr.sliceAt 24 (.slice A5 n7 c5) (some (.int .i64 2)) (some (.int .i64 (N : Int))) none).run Tryd.prog W = .ok (.slice B4' (N - 2) (c5 - 2)) W := u4
  have v5 : ∀ W, (Instr.sliceAt 24 (.slice A9 n9 c9) (some (.int .i64 ((N : Int) + 1))) none none).run Tryd.prog W = .ok (.slice B5' (n9 - (N + 1)) (c9 - (N + 1))) W := u5
  have v6 : ∀ W, (Instr.sliceAt 24 (.slice A5 n7 c5) (some (.int .i64 (N : Int))) none none).run Tryd.prog W = .ok (.slice B6' (n7 - N) (c5 - N)) W := u6
  obtain ⟨p5, o5, rfl, hp5, q5⟩ := R9.cells (by omega)
  obtain ⟨p7, o7, rfl, hp7, q7⟩ := R9b.cells (by omega)
  obtain ⟨p9, o9, rfl, hp9, q9⟩ := R9c.cells (by omega)
  have x50 : w9.cell? ⟨p5, o5, none⟩ = some (.int .u8 (K.toNat : Int)) := q5 0 (by omega)
  have x51 : w9.cell? ⟨p5, o5 + 1, none⟩ = some (.int .u8 0) := q5 1 (by omega)
  have x70 : w9.cell? ⟨p7, o7, none⟩ = some (.int .u8 (K.toNat : Int)) := q7 0 (by omega)
  have x71 : w9.cell? ⟨p7, o7 + 1, none⟩ = some (.int .u8 1) := q7 1 (by omega)
  have x91 : w9.cell? ⟨p9, o9 + 1, none⟩ = some (.int .u8 2) := q9 1 (by omega)
  have x9N : w9.cell? ⟨p9, o9 + N, none⟩ = some (.int .u8 0) := by
    rw [q9 N (by omega), cs5]; rfl
  have HLP : Hid (∀ j, 2 ≤ j → j ≤ hh.length + 2 → ∃ y : Nat, w9.cell? ⟨p5, o5 + j, none⟩ = some (.int .u8 (y : Int)) ∧ (j < hh.length + 2 → 127 < y) ∧ (j = hh.length + 2 → y ≤ 127)) := Lib.hid fun j h1 h2 => by
    obtain ⟨i, rfl⟩ : ∃ i, j = i + 2 := ⟨j - 2, by omega⟩
    refine ⟨_, q5 (i + 2) (by omega), ?_, ?_⟩
    · intro h3; exact (HXA.out i).1 (by omega)
    · intro h3; exact (HXA.out i).2 (by omega)
  have HS : Hid (∀ w', Below w9.heap.size w9 w' → (w'.cell? ⟨p5, o5, none⟩ = some (.int .u8 (K.toNat : Int)) ∧ w'.cell? ⟨p5, o5 + 1, none⟩ = some (.int .u8 0) ∧ w'.cell? ⟨p7, o7, none⟩ = some (.int .u8 (K.toNat : Int)) ∧ w'.cell? ⟨p7, o7 + 1, none⟩ = some (.int .u8 1) ∧ w'.cell? ⟨p9, o9 + 1, none⟩ = some (.int .u8 2) ∧ w'.cell? ⟨p9, o9 + N, none⟩ = some (.int .u8 0)) ∧
      (convert 24 9 (.slice B1 (n7 - 2) (c5 - 2))).run Tryd.prog w' = .ok (.string sx) w' ∧ (convert 24 9 (.slice B2 (n7 - 2) (c7 - 2))).run Tryd.prog w' = .ok (.string sx) w' ∧
      (convert 24 9 (.slice B3 (N - 2) (c9 - 2))).run Tryd.prog w' = .ok (.string sy) w' ∧ (convert 24 9 (.slice B4' (N - 2) (c5 - 2))).run Tryd.prog w' = .ok (.string sy) w' ∧
      (convert 24 9 (.slice B5' (n9 - (N + 1)) (c9 - (N + 1)))).run Tryd.prog w' = .ok (.string sz) w' ∧ (convert 24 9 (.slice B6' (n7 - N) (c5 - N))).run Tryd.prog w' = .ok (.string sz) w') := Lib.hid fun w' hb =>
    ⟨⟨(hb.cell (p := ⟨p5, o5, none⟩) (block_lt_of_cell x50)).trans x50, (hb.cell (p := ⟨p5, o5 + 1, none⟩) (block_lt_of_cell x51)).trans x51, (hb.cell (p := ⟨p7, o7, none⟩) (block_lt_of_cell x70)).trans x70, (hb.cell (p := ⟨p7, o7 + 1, none⟩) (block_lt_of_cell x71)).trans x71, (hb.cell (p := ⟨p9, o9 + 1, none⟩) (block_lt_of_cell x91)).trans x91, (hb.cell (p := ⟨p9, o9 + N, none⟩) (block_lt_of_cell x9N)).trans x9N⟩,
      str_eq6 (r1.below hb) hsx, str_eq6 (r2.below hb) hsx, str_eq6 (r3.below hb) hsy, str_eq6 (r4.below hb) hsy, str_eq6 (r5.below hb) hsz, str_eq6 (r6.below hb) hsz⟩
  have HSL := Lib.hid (And.intro v1 (And.intro v2 (And.intro v3 (And.intro v4 (And.intro v5 v6)))))
  have t2 : decide ((n7 : Int) < 3) = false := by simp only [decide_eq_false_iff_not]; omega
  have t3 : decide (n7 < 3) = false := by simp only [decide_eq_false_iff_not]; omega
  have t4 : ((n9 : Int) != (n7 : Int) + 1) = false := by simp only [bne_eq_false_iff_eq]; omega
  have y1 : (0 : Int) < (n7 : Int) := by omega
  have y2 : (1 : Int) < (n7 : Int) := by omega
  have y3 : 0 < n7 := by omega
  have y4 : 1 < n7 := by omega
  have y5 : (n7 : Int) ≤ 2000000 := by omega
  have y6 : 1 < n9 := by omega
  have y7 : (1 : Int) < (n9 : Int) := by omega
  have HDN : Hid (∀ N, Below w9.heap.size w9 (w9.drewN N)) := Lib.hid fun N => bdrewN (Below.refl _ w9) N
  have HBW := Lib.hid (bthen HB1.out B9.out)
  generalize K.toNat = KN at *
  have hq : hh.length + 2 < n7 := by omega
  have hq9 : N < n9 := by omega
  have hqN : N ≤ n7 := by omega
  generalize hh.length = q at *
  have HNN := Lib.hid hN
  clear q5 q7 q9 x50 x51 x70 x71 x91 x9N r1 r2 r3 r4 r5 r6 R9 R9b R9c hn9 hn5 hbl u1 u2 u3 u4 u5 u6 hsx hsy hsz hp5 hp7 hp9 v1 v2 v3 v4 v5 v6 cs1 cs2 cs3 cs4 cs5 HXA hN
  go_wp2_with fail
  go_loopw [11] (fun i wr => ∃ j m : Nat, 2 ≤ j ∧ j ≤ q + 2 ∧ i = .int .i64 (j : Int) ∧ wr = w9.drewN m) (fun i _ => q + 2 - (intOf i).toNat)
  case atStart => exact ⟨2, 0, by omega, by omega, rfl, rfl⟩
  case round =>
    obtain ⟨j, m, hj2, hjq, rfl, rfl⟩ := hrel
    obtain ⟨y, k1, k2, k3⟩ := HLP.out j hj2 hjq
    have z1 : decide (j < n7) = true := by simp only [decide_eq_true_eq]; omega
    have z2 : (j : Int) < (n7 : Int) := by omega
    have z3 : j < n7 := by omega
    have z4 : (0 : Int) ≤ (j : Int) := by omega
    by_cases hlt : j < q + 2
    · have k4 : decide ((127 : Int) < (y : Int)) = true := by have := k2 hlt; simp only [decide_eq_true_eq]; omega
      have z5 := Lib.hid hlt
      clear k2 k3
      go_wp2
      go_roundw
      case rel => exact ⟨j + 1, _, by omega, by have := z5.out; omega, by go_num, rfl⟩
      case measure => simp [intOf]; have := z5.out; omega
    · have k4 : decide ((127 : Int) < (y : Int)) = false := by have := k3 (by omega); simp only [decide_eq_false_iff_not]; omega
      obtain rfl : j = q + 2 := by omega
      clear k2 k3
      go_wp2_with fail
      have e : (q : Int) + 2 + 1 = (N : Int) := by have := HNN.out; omega
      rw [e]
      clear e k1 k4 z1 z2 z3 z4
      obtain ⟨⟨x50, x51, x70, x71, x91, x9N⟩, -, -, -, -, -, -⟩ := HS.out w9 (Below.refl _ _)
      obtain ⟨v1, v2, v3, v4, v5, v6⟩ := HSL.out
      have k1 : ∀ M, (convert 24 9 (.slice B1 (n7 - 2) (c5 - 2))).run Tryd.prog (w9.drewN M) = .ok (.string sx) (w9.drewN M) := fun M => (HS.out (w9.drewN M) (HDN.out M)).2.1
      have k2 : ∀ M, (convert 24 9 (.slice B2 (n7 - 2) (c7 - 2))).run Tryd.prog (w9.drewN M) = .ok (.string sx) (w9.drewN M) := fun M => (HS.out (w9.drewN M) (HDN.out M)).2.2.1
      have k3 : ∀ M, (convert 24 9 (.slice B3 (N - 2) (c9 - 2))).run Tryd.prog (w9.drewN M) = .ok (.string sy) (w9.drewN M) := fun M => (HS.out (w9.drewN M) (HDN.out M)).2.2.2.1
      have k4 : ∀ M, (convert 24 9 (.slice B4' (N - 2) (c5 - 2))).run Tryd.prog (w9.drewN M) = .ok (.string sy) (w9.drewN M) := fun M => (HS.out (w9.drewN M) (HDN.out M)).2.2.2.2.1
      have k5 : ∀ M, (convert 24 9 (.slice B5' (n9 - (N + 1)) (c9 - (N + 1)))).run Tryd.prog (w9.drewN M) = .ok (.string sz) (w9.drewN M) := fun M => (HS.out (w9.drewN M) (HDN.out M)).2.2.2.2.2.1
      have k6 : ∀ M, (convert 24 9 (.slice B6' (n7 - N) (c5 - N))).run Tryd.prog (w9.drewN M) = .ok (.string sz) (w9.drewN M) := fun M => (HS.out (w9.drewN M) (HDN.out M)).2.2.2.2.2.2
      have z1 : (0 : Int) ≤ (N : Int) := by omega
      have z2 : (N : Int) < (n9 : Int) := by omega
      have z3 : (N : Int) ≤ 2000000 := by omega
      have z4 : IntKind.i64.wrap ((N : Int) + 1) = (N : Int) + 1 := IntWalk.i64_in _ (by omega)
      go_quiet (fail)
      go_wp2
      go_ret
      exact ⟨rfl, bthen HBW.out (by first | exact HDN.out _ | exact bdrewN (HDN.out _) _)⟩

theorem protoVersions_walk {w : World} (hs : Shp w) (k v id : Int) (who : List UInt8) {Ai At Ab : Option Addr} {ni ci nt ct nb cb : Nat} {zs ts bs} (hw : who.length ≤ 9223372036854775807) (h : Rq w w.heap.size Ai ni ci At nt ct Ab nb cb zs ts bs) :
    Calls Tryd.prog 9 #[.agg #[.int .i64 k, .int .i64 v, .int .i64 id, .string (strOf who), .slice Ai ni ci, .slice At nt ct, .slice Ab nb cb]] w (Says w (.bool true)) := by
  by_cases hc : chkQ ⟨k, 0, id, [], zs, ts, bs⟩ = 0
  · obtain ⟨K, hh, b, x, h0, h1, h2, h3, h4, h5⟩ := vers_plain hc
    exact vers_all hs k v id who h h0 h1 h2 h3 h4 h5
  · exact vers_err hs k v id who h ⟨_, hc, putQ_bad hc⟩
end Go.Proofs.YtlijagbklopipaaDoor
