/-
  The walk of ProtoWaits. Conditions: those that it states.
-/
import Derived.Deep.DeepCutAuto
import Derived.Test.YtlijagbklopipaaDoorAlone
import Derived.Test.YtlijagbklopipaaDoorProtoOnly
namespace Go.Proofs.YtlijagbklopipaaDoor
open Go.RowKit
set_option linter.unusedVariables false

theorem bodyS_len' {r : RS} (h : chkS r = 0) : 2 ≤ (encS r).length ∧ (encS r).length ≤ 1000000 := by
  obtain ⟨hk, ⟨q1, q2⟩, ⟨⟨q3, q3'⟩, q4⟩, ⟨q5, q5'⟩, ⟨q6, q7⟩, ⟨q8, q9⟩, q10⟩ := chkS_ok.1 h
  have hti := flat_len encI (m := 10) (l := r.ints) (fun x hx => encI_len (by have := q7 x hx; omega) (by have := q7 x hx; omega))
  have htt := flat_len putT (m := 74) (l := r.texts) (fun x hx => putT_len' (q9 x hx))
  have e1 := encI_len (m := r.id) (by omega) (by omega)
  have e2 := encI_len (m := r.er) (by omega) (by omega)
  have e3 := encI_len (m := r.wait) (by omega) (by omega)
  have e4 := encI_len (m := (r.ints.length : Int)) (by omega) (by omega)
  have e5 := encI_len (m := (r.texts.length : Int)) (by omega) (by omega)
  have e6 := encI_len (m := (r.blob.length : Int)) (by omega) (by omega)
  have e7 : (putT r.blob).length ≤ 10 + r.blob.length := by
    have : putT r.blob = encI (r.blob.length : Int) ++ r.blob := rfl
    rw [this, List.length_append]; omega
  have e8 : (if 1 ≤ r.ver then encI r.wait else []).length ≤ 10 := by split <;> first | omega | exact Nat.zero_le _
  simp only [encS, bodyS, List.length_cons, List.length_append]
  omega
theorem waits_plain {k id er wa : Int} {zs : List Int} {ts : List (List UInt8)} {bs : List UInt8} (h : chkS ⟨k, 1, id, er, wa, zs, ts, bs⟩ = 0) :
    ∃ (K : UInt8) (b : List UInt8), putS ⟨k, 1, id, er, wa, zs, ts, bs⟩ = (K :: 1 :: b, 0) ∧ putS ⟨k, 2, id, er, wa, zs, ts, bs⟩ = (K :: 2 :: b, 0) ∧
      ((wa = 0 ∧ ∃ l, putS ⟨k, 0, id, er, wa, zs, ts, bs⟩ = (l, 0) ∧ l.length = b.length + 1) ∨ (wa ≠ 0 ∧ putS ⟨k, 0, id, er, wa, zs, ts, bs⟩ = ([], 1))) ∧ b.length ≤ 1000000 := by
  obtain ⟨hk, ⟨q1, q2⟩, ⟨⟨q3, q3'⟩, q4⟩, ⟨q5, q5'⟩, ⟨q6, q7⟩, ⟨q8, q9⟩, q10⟩ := chkS_ok.1 h
  obtain ⟨i1, i2, -, -⟩ := known_ok hk
  simp only at i1 i2 q1 q2 q3 q3' q4 q5 q5' q6 q7 q8 q9 q10
  have kn : ∀ v : Int, 0 ≤ v → v ≤ 2 → knownE k v = 0 := fun v h1 h2 => by unfold knownE; rw [if_neg (by omega), if_neg (by omega)]
  have h2 : chkS ⟨k, 2, id, er, wa, zs, ts, bs⟩ = 0 := chkS_ok.2 ⟨kn 2 (by omega) (by omega), ⟨q1, q2⟩, ⟨⟨q3, q3'⟩, fun hx => absurd hx (by simp)⟩, ⟨q5, q5'⟩, ⟨q6, q7⟩, ⟨q8, q9⟩, q10⟩
  have hl := (bodyS_len' h).2
  refine ⟨byteOf k, bodyS ⟨k, 1, id, er, wa, zs, ts, bs⟩, by rw [putS_good h]; rfl, by rw [putS_good h2]; rfl, ?_, ?_⟩
  · by_cases hw : wa = 0
    · left
      refine ⟨hw, _, putS_good (chkS_ok.2 ⟨kn 0 (by omega) (by omega), ⟨q1, q2⟩, ⟨⟨q3, q3'⟩, fun _ => hw⟩, ⟨q5, q5'⟩, ⟨q6, q7⟩, ⟨q8, q9⟩, q10⟩), ?_⟩
      subst hw
      have e0 : (encI 0).length = 1 := by decide +kernel
      simp only [encS, bodyS, List.length_cons, List.length_append]
      rw [if_neg (by decide), if_pos (by decide), e0]
      simp only [List.length_nil]
      omega
    · right
      have hc : chkS ⟨k, 0, id, er, wa, zs, ts, bs⟩ = 1 := by
        unfold chkS
        rw [if_neg (by simp only; rw [kn 0 (by omega) (by omega)]; simp), if_neg (fun hm => hw (hm.2.1.2 (by simp)))]
      refine ⟨hw, ?_⟩
      rw [putS_bad (by rw [hc]; decide), hc]
  · simp only [encS, List.length_cons] at hl
    omega

theorem own_block {w : World} {B : Nat} {A : Option Addr} {n c : Nat} {l : List UInt8} (h : Own w B A n c l) {b off : Nat} (hA : A = some ⟨b, off, none⟩) : B ≤ b := by
  subst hA
  exact (h.2.lt b rfl).1
theorem Rd.past {w w' : World} {B b0 : Nat} {A : Option Addr} {n c : Nat} {l : List UInt8} (h : Rd w B A n c l) (hg : w.grownBy w' (some b0)) (hne : ∀ b off, A = some ⟨b, off, none⟩ → b ≠ b0) : Rd w' B A n c l :=
  ⟨h.len, h.cap, h.top, fun hn => by
    obtain ⟨b, off, hA, hb, hc⟩ := h.cells hn
    exact ⟨b, off, hA, hb, fun j hj => grown_cell hg (hc j hj) (hne b off hA)⟩⟩

/-- A block of eight that stands, one cell of it set. -/
theorem ver_set {w W : World} {b : Nat} {T : TypeId} {a0 a1 a2 a3 a4 a5 a6 a7 u : Value} (h : W.heap[b]? = some (.cells #[a0, a1, a2, a3, a4, a5, a6, a7] T (0, 0))) (hb : Below w.heap.size w W) (hle : w.heap.size ≤ b) :
    (W.setCell ⟨b, 1, none⟩ u).heap[b]? = some (.cells #[a0, u, a2, a3, a4, a5, a6, a7] T (0, 0)) ∧ Below w.heap.size w (W.setCell ⟨b, 1, none⟩ u) :=
  ⟨heap_setCell_same _ b 1 _ _ u h, bset hb hle u⟩

set_option maxRecDepth 100000 in
set_option maxHeartbeats 8000000 in
theorem waits_err {w : World} (hs : Shp w) (k v id er wa : Int) {Ai At Ab : Option Addr} {ni ci nt ct nb cb : Nat} {zs ts bs} (h : Rq w w.heap.size Ai ni ci At nt ct Ab nb cb zs ts bs) (hp1 : ∃ e1, e1 ≠ 0 ∧ putS ⟨k, 1, id, er, wa, zs, ts, bs⟩ = ([], e1)) :
    Calls Tryd.prog 10 #[.agg #[.int .i64 k, .int .i64 v, .int .i64 id, .int .i64 er, .int .i64 wa, .slice Ai ni ci, .slice At nt ct, .slice Ab nb cb]] w (Says w (.bool true)) := by
  obtain ⟨e1, he1, hp1⟩ := hp1
  have t1 : (e1 != 0) = true := by simpa using he1
  have HP1 := Lib.hid hp1
  clear hp1 he1
  obtain ⟨W1, hW1⟩ : ∃ W, W = w.alloc (.cells #[.int .i64 k, .int .i64 v, .int .i64 id, .int .i64 er, .int .i64 wa, .slice Ai ni ci, .slice At nt ct, .slice Ab nb cb] 38) := ⟨_, rfl⟩
  have b1 : Below w.heap.size w W1 := by rw [hW1]; exact bput (Below.refl _ w) _
  have g1 : W1.heap[w.heap.size]? = some (.cells #[.int .i64 k, .int .i64 v, .int .i64 id, .int .i64 er, .int .i64 wa, .slice Ai ni ci, .slice At nt ct, .slice Ab nb cb] 38 (0, 0)) := by rw [hW1]; exact heap_alloc_new w _
  have HF : Hid (∀ w', Below W1.heap.size W1 w' → w'.heap[w.heap.size]? = some (.cells #[.int .i64 k, .int .i64 v, .int .i64 id, .int .i64 er, .int .i64 wa, .slice Ai ni ci, .slice At nt ct, .slice Ab nb cb] 38 (0, 0))) := Lib.hid fun w' hb =>
    (hb.block _ (Array.getElem?_eq_some_iff.1 g1).1).trans g1
  have HQ : Hid (∀ w', Below W1.heap.size W1 w' → Rq w' w'.heap.size Ai ni ci At nt ct Ab nb cb zs ts bs ∧ Shp w') := Lib.hid fun w' hb =>
    ⟨(h.step (bthen b1 hb) (Nat.le_refl _)).more (bthen b1 hb).size, hs.on (bthen b1 hb)⟩
  have HB1 := Lib.hid b1
  have hL := live_ok W1 (HQ.out W1 (Below.refl _ _)).2
  have HL := Lib.hid hL
  clear b1 g1 h hs hL
  go_enter Tryd.func10, Tryd.ntmps10
  go_wp2_with fail
  rw [← hW1]
  clear hW1
  refine HL.out.mono ?_
  rintro e w2 ⟨rfl, b2⟩
  have B2 := Lib.hid b2
  clear b2
  obtain ⟨⟨a0, a1, a2, a3, a4, a5, a6, a7⟩, -⟩ := of8 (HF.out w2 B2.out)
  go_wp2_with fail
  refine (fewS_ok k v id er wa (HQ.out w2 B2.out).1 (Nat.le_refl _)).mono ?_
  rintro e w3 ⟨bo, rfl, b3⟩
  have B3 := Lib.hid (bthen B2.out b3)
  clear a0 a1 a2 a3 a4 a5 a6 a7 b3
  cases bo with
  | false =>
    go_wp2
    go_ret
    exact ⟨rfl, bthen HB1.out B3.out⟩
  | true =>
  obtain ⟨⟨a0, a1, a2, a3, a4, a5, a6, a7⟩, -⟩ := of8 (HF.out w3 B3.out)
  go_upto_region 6 with fail
  clear a0 a1 a2 a3 a4 a5 a6 a7
  obtain ⟨W4, hW4⟩ : ∃ W, W = w3.alloc (.cells #[.int .i64 k, .int .i64 1, .int .i64 id, .int .i64 er, .int .i64 wa, .slice Ai ni ci, .slice At nt ct, .slice Ab nb cb] 38) := ⟨_, rfl⟩
  have b4 : Below w3.heap.size w3 W4 := by rw [hW4]; exact bput (Below.refl _ w3) _
  have g4 : W4.heap[w3.heap.size]? = some (.cells #[.int .i64 k, .int .i64 1, .int .i64 id, .int .i64 er, .int .i64 wa, .slice Ai ni ci, .slice At nt ct, .slice Ab nb cb] 38 (0, 0)) := by rw [hW4]; exact heap_alloc_new w3 _
  have hle : W1.heap.size ≤ w3.heap.size := B3.out.size
  have B4 := Lib.hid (bthen B3.out b4)
  have G4 := Lib.hid g4
  have HLE := Lib.hid hle
  obtain ⟨⟨a0, a1, a2, a3, a4, a5, a6, a7⟩, -⟩ := of8 g4
  have HP := Lib.hid (p_putS_ok k 1 id er wa (HQ.out W4 B4.out).1)
  rw [HP1.out] at HP
  rw [← hW4]
  clear hW4 b4 g4 hle
  go_wp2_with fail
  refine HP.out.mono ?_
  rintro e w5 ⟨A5, n5, c5, rfl, ho5, b5⟩
  have B5 := Lib.hid (bthen B4.out b5)
  have B45 := Lib.hid b5
  have HO5 := Lib.hid ho5
  clear a0 a1 a2 a3 a4 a5 a6 a7 b5 HP
  obtain rfl : n5 = 0 := ho5.1.symm
  clear ho5
  go_wp2
  go_ret
  exact ⟨rfl, bthen HB1.out B5.out⟩

set_option maxRecDepth 100000 in
set_option maxHeartbeats 8000000 in
theorem waits_zero {w : World} (hs : Shp w) (k v id er wa : Int) {Ai At Ab : Option Addr} {ni ci nt ct nb cb : Nat} {zs ts bs} (h : Rq w w.heap.size Ai ni ci At nt ct Ab nb cb zs ts bs) {K : UInt8} {b : List UInt8} (hp1 : putS ⟨k, 1, id, er, wa, zs, ts, bs⟩ = (K :: 1 :: b, 0)) (hp2 : putS ⟨k, 2, id, er, wa, zs, ts, bs⟩ = (K :: 2 :: b, 0)) (hbl : b.length ≤ 1000000) (hwz : wa = 0) {l0 : List UInt8} (hp0 : putS ⟨k, 0, id, er, wa, zs, ts, bs⟩ = (l0, 0)) (hl0 : l0.length = b.length + 1) :
    Calls Tryd.prog 10 #[.agg #[.int .i64 k, .int .i64 v, .int .i64 id, .int .i64 er, .int .i64 wa, .slice Ai ni ci, .slice At nt ct, .slice Ab nb cb]] w (Says w (.bool true)) := by
  have HP1 := Lib.hid hp1
  have HP2 := Lib.hid hp2
  have HP0 := Lib.hid hp0
  have HBL := Lib.hid hbl
  have HWZ := Lib.hid hwz
  have HL0 := Lib.hid hl0
  have tw : (wa == 0) = true := by simpa using hwz
  clear hl0
  clear hp1 hp2 hp0 hbl hwz
  obtain ⟨W1, hW1⟩ : ∃ W, W = w.alloc (.cells #[.int .i64 k, .int .i64 v, .int .i64 id, .int .i64 er, .int .i64 wa, .slice Ai ni ci, .slice At nt ct, .slice Ab nb cb] 38) := ⟨_, rfl⟩
  have b1 : Below w.heap.size w W1 := by rw [hW1]; exact bput (Below.refl _ w) _
  have g1 : W1.heap[w.heap.size]? = some (.cells #[.int .i64 k, .int .i64 v, .int .i64 id, .int .i64 er, .int .i64 wa, .slice Ai ni ci, .slice At nt ct, .slice Ab nb cb] 38 (0, 0)) := by rw [hW1]; exact heap_alloc_new w _
  have HF : Hid (∀ w', Below W1.heap.size W1 w' → w'.heap[w.heap.size]? = some (.cells #[.int .i64 k, .int .i64 v, .int .i64 id, .int .i64 er, .int .i64 wa, .slice Ai ni ci, .slice At nt ct, .slice Ab nb cb] 38 (0, 0))) := Lib.hid fun w' hb =>
    (hb.block _ (Array.getElem?_eq_some_iff.1 g1).1).trans g1
  have HQ : Hid (∀ w', Below W1.heap.size W1 w' → Rq w' w'.heap.size Ai ni ci At nt ct Ab nb cb zs ts bs ∧ Shp w') := Lib.hid fun w' hb =>
    ⟨(h.step (bthen b1 hb) (Nat.le_refl _)).more (bthen b1 hb).size, hs.on (bthen b1 hb)⟩
  have HB1 := Lib.hid b1
  have hL := live_ok W1 (HQ.out W1 (Below.refl _ _)).2
  have HL := Lib.hid hL
  clear b1 g1 h hs hL
  go_enter Tryd.func10, Tryd.ntmps10
  go_wp2_with fail
  rw [← hW1]
  clear hW1
  refine HL.out.mono ?_
  rintro e w2 ⟨rfl, b2⟩
  have B2 := Lib.hid b2
  clear b2
  obtain ⟨⟨a0, a1, a2, a3, a4, a5, a6, a7⟩, -⟩ := of8 (HF.out w2 B2.out)
  go_wp2_with fail
  refine (fewS_ok k v id er wa (HQ.out w2 B2.out).1 (Nat.le_refl _)).mono ?_
  rintro e w3 ⟨bo, rfl, b3⟩
  have B3 := Lib.hid (bthen B2.out b3)
  clear a0 a1 a2 a3 a4 a5 a6 a7 b3
  cases bo with
  | false =>
    go_wp2
    go_ret
    exact ⟨rfl, bthen HB1.out B3.out⟩
  | true =>
  obtain ⟨⟨a0, a1, a2, a3, a4, a5, a6, a7⟩, -⟩ := of8 (HF.out w3 B3.out)
  go_upto_region 6 with fail
  clear a0 a1 a2 a3 a4 a5 a6 a7
  obtain ⟨W4, hW4⟩ : ∃ W, W = w3.alloc (.cells #[.int .i64 k, .int .i64 1, .int .i64 id, .int .i64 er, .int .i64 wa, .slice Ai ni ci, .slice At nt ct, .slice Ab nb cb] 38) := ⟨_, rfl⟩
  have b4 : Below w3.heap.size w3 W4 := by rw [hW4]; exact bput (Below.refl _ w3) _
  have g4 : W4.heap[w3.heap.size]? = some (.cells #[.int .i64 k, .int .i64 1, .int .i64 id, .int .i64 er, .int .i64 wa, .slice Ai ni ci, .slice At nt ct, .slice Ab nb cb] 38 (0, 0)) := by rw [hW4]; exact heap_alloc_new w3 _
  have hle : W1.heap.size ≤ w3.heap.size := B3.out.size
  have B4 := Lib.hid (bthen B3.out b4)
  have G4 := Lib.hid g4
  have HLE := Lib.hid hle
  obtain ⟨⟨a0, a1, a2, a3, a4, a5, a6, a7⟩, -⟩ := of8 g4
  have HP := Lib.hid (p_putS_ok k 1 id er wa (HQ.out W4 B4.out).1)
  rw [HP1.out] at HP
  rw [← hW4]
  clear hW4 b4 g4 hle
  go_wp2_with fail
  refine HP.out.mono ?_
  rintro e w5 ⟨A5, n5, c5, rfl, ho5, b5⟩
  have B5 := Lib.hid (bthen B4.out b5)
  have B45 := Lib.hid b5
  have HO5 := Lib.hid ho5
  clear a0 a1 a2 a3 a4 a5 a6 a7 b5 HP
  have hn5 : n5 = b.length + 2 := by rw [← ho5.1]; simp
  have HN5 := Lib.hid hn5
  have HR5 := Lib.hid ho5.rd
  have HE5 := Lib.hid (fun bb off (hA : A5 = some ⟨bb, off, none⟩) => own_block ho5 hA)
  have hz4 : w3.heap.size < W4.heap.size := (Array.getElem?_eq_some_iff.1 G4.out).1
  have HZ4 := Lib.hid hz4
  clear ho5 hn5 hz4
  have g5 := (B45.out.block _ (Array.getElem?_eq_some_iff.1 G4.out).1).trans G4.out
  obtain ⟨g6, b6⟩ := ver_set (u := .int .i64 2) g5 B5.out HLE.out
  obtain ⟨⟨a0, a1, a2, a3, a4, a5, a6, a7⟩, fz⟩ := of8 g5
  have fz1 := fz 1
  obtain ⟨W6, hW6⟩ : ∃ W, W = w5.setCell ⟨w3.heap.size, 1, none⟩ (.int .i64 2) := ⟨_, rfl⟩
  rw [← hW6] at g6 b6
  have hs6 : W6.heap.size = w5.heap.size := by rw [hW6]; simp
  have HR6 : Hid (Rd W6 W6.heap.size A5 n5 c5 (K :: 1 :: b)) := Lib.hid (by
    rw [hs6, hW6]
    exact HR5.out.past (grown_set _ _ _ _) (fun bb off hA => by have := HE5.out bb off hA; have := HZ4.out; omega))
  have B6 := Lib.hid b6
  have G6 := Lib.hid g6
  have hz6 : w3.heap.size < W6.heap.size := (Array.getElem?_eq_some_iff.1 g6).1
  have HZ6 := Lib.hid hz6
  obtain ⟨⟨d0, d1, d2, d3, d4, d5, d6, d7⟩, -⟩ := of8 g6
  have HP := Lib.hid (p_putS_ok k 2 id er wa (HQ.out W6 B6.out).1)
  rw [HP2.out] at HP
  clear fz g5 g6 b6 hs6 HR5 hz6
  go_upto_region 10 with fail
  rw [← hW6]
  clear hW6 a0 a1 a2 a3 a4 a5 a6 a7 fz1
  go_wp2_with fail
  refine HP.out.mono ?_
  rintro e w7 ⟨A7, n7, c7, rfl, ho7, b7⟩
  obtain rfl : n7 = n5 := by rw [HN5.out, ← ho7.1]; simp
  have HR7 := Lib.hid ((HR6.out.step b7 (Nat.le_refl _)).more b7.size)
  have HR7b := Lib.hid ho7.rd
  have HE7 := Lib.hid (fun bb off (hA : A7 = some ⟨bb, off, none⟩) => own_block ho7 hA)
  have B7 := Lib.hid (bthen B6.out b7)
  have g7 := (b7.block _ (Array.getElem?_eq_some_iff.1 G6.out).1).trans G6.out
  clear d0 d1 d2 d3 d4 d5 d6 d7 b7 ho7 HP HR6
  obtain ⟨g8, b8⟩ := ver_set (u := .int .i64 0) g7 B7.out HLE.out
  obtain ⟨⟨a0, a1, a2, a3, a4, a5, a6, a7⟩, fz⟩ := of8 g7
  have fz1 := fz 1
  obtain ⟨W8, hW8⟩ : ∃ W, W = w7.setCell ⟨w3.heap.size, 1, none⟩ (.int .i64 0) := ⟨_, rfl⟩
  rw [← hW8] at g8 b8
  have hs8 : W8.heap.size = w7.heap.size := by rw [hW8]; simp
  have HR8 : Hid (Rd W8 W8.heap.size A5 n7 c5 (K :: 1 :: b)) := Lib.hid (by
    rw [hs8, hW8]
    exact HR7.out.past (grown_set _ _ _ _) (fun bb off hA => by have := HE5.out bb off hA; have := HZ4.out; omega))
  have HR8b : Hid (Rd W8 W8.heap.size A7 n7 c7 (K :: 2 :: b)) := Lib.hid (by
    rw [hs8, hW8]
    exact HR7b.out.past (grown_set _ _ _ _) (fun bb off hA => by have := HE7.out bb off hA; have := HZ6.out; omega))
  have B8 := Lib.hid b8
  obtain ⟨⟨d0, d1, d2, d3, d4, d5, d6, d7⟩, -⟩ := of8 g8
  have HP := Lib.hid (p_putS_ok k 0 id er wa (HQ.out W8 B8.out).1)
  rw [HP0.out] at HP
  clear fz g7 g8 b8 hs8 HR7 HR7b
  go_upto_region 12 with fail
  rw [← hW8]
  clear hW8 a0 a1 a2 a3 a4 a5 a6 a7 fz1
  go_wp2_with fail
  refine HP.out.mono ?_
  rintro e w9 ⟨A9, n9, c9, rfl, ho9, b9⟩
  have hn9 := ho9.1
  have R9 := (HR8.out.step b9 (Nat.le_refl _)).more b9.size
  have R9b := (HR8b.out.step b9 (Nat.le_refl _)).more b9.size
  have B9 := Lib.hid (bthen B8.out b9)
  clear d0 d1 d2 d3 d4 d5 d6 d7 b9 ho9 HP HR8 HR8b
  have hn5 := HN5.out
  have hbl := HBL.out
  have hc5 := R9.cap
  have hc7 := R9b.cap
  have ht5 := R9.top
  have ht7 := R9b.top
  obtain ⟨B1, u1, r1⟩ := run_from (P := Tryd.prog) (t := 24) Tryd.underlying24 byteInfo R9 2 (by omega)
  obtain ⟨B2, u2, r2⟩ := run_from (P := Tryd.prog) (t := 24) Tryd.underlying24 byteInfo R9b 2 (by omega)
  obtain ⟨sx, hsx⟩ : ∃ sx, strOf b = sx := ⟨_, rfl⟩
  have v1 : ∀ W, (Instr.sliceAt 24 (.slice A5 n7 c5) (some (.int .i64 2)) none none).run Tryd.prog W = .ok (.slice B1 (n7 - 2) (c5 - 2)) W := u1
  have v2 : ∀ W, (Instr.sliceAt 24 (.slice A7 n7 c7) (some (.int .i64 2)) none none).run Tryd.prog W = .ok (.slice B2 (n7 - 2) (c7 - 2)) W := u2
  obtain ⟨p5, o5, rfl, hp5, q5⟩ := R9.cells (by omega)
  obtain ⟨p7, o7, rfl, hp7, q7⟩ := R9b.cells (by omega)
  have x50 : w9.cell? ⟨p5, o5, none⟩ = some (.int .u8 (K.toNat : Int)) := q5 0 (by omega)
  have x51 : w9.cell? ⟨p5, o5 + 1, none⟩ = some (.int .u8 1) := q5 1 (by omega)
  have x70 : w9.cell? ⟨p7, o7, none⟩ = some (.int .u8 (K.toNat : Int)) := q7 0 (by omega)
  have x71 : w9.cell? ⟨p7, o7 + 1, none⟩ = some (.int .u8 2) := q7 1 (by omega)
  have HS : Hid (∀ w', Below w9.heap.size w9 w' → w'.cell? ⟨p5, o5, none⟩ = some (.int .u8 (K.toNat : Int)) ∧ w'.cell? ⟨p5, o5 + 1, none⟩ = some (.int .u8 1) ∧ w'.cell? ⟨p7, o7, none⟩ = some (.int .u8 (K.toNat : Int)) ∧ w'.cell? ⟨p7, o7 + 1, none⟩ = some (.int .u8 2) ∧
      (convert 24 9 (.slice B1 (n7 - 2) (c5 - 2))).run Tryd.prog w' = .ok (.string sx) w' ∧ (convert 24 9 (.slice B2 (n7 - 2) (c7 - 2))).run Tryd.prog w' = .ok (.string sx) w') := Lib.hid fun w' hb =>
    ⟨(hb.cell (p := ⟨p5, o5, none⟩) (block_lt_of_cell x50)).trans x50, (hb.cell (p := ⟨p5, o5 + 1, none⟩) (block_lt_of_cell x51)).trans x51, (hb.cell (p := ⟨p7, o7, none⟩) (block_lt_of_cell x70)).trans x70, (hb.cell (p := ⟨p7, o7 + 1, none⟩) (block_lt_of_cell x71)).trans x71,
      str_eq6 (r1.below hb) hsx, str_eq6 (r2.below hb) hsx⟩
  obtain ⟨⟨a0, a1, a2, a3, a4, a5, a6, a7⟩, -⟩ := of8 (HF.out w9 B9.out)
  have t2 : decide ((n7 : Int) < 2) = false := by simp only [decide_eq_false_iff_not]; omega
  have t3 : decide (n7 < 2) = false := by simp only [decide_eq_false_iff_not]; omega
  have y1 : (0 : Int) < (n7 : Int) := by omega
  have y2 : (1 : Int) < (n7 : Int) := by omega
  have y3 : 0 < n7 := by omega
  have y4 : 1 < n7 := by omega
  have y5 : (n7 : Int) ≤ 2000000 := by omega
  have HDN : Hid (∀ N, Below w9.heap.size w9 (w9.drewN N)) := Lib.hid fun N => bdrewN (Below.refl _ w9) N
  have HBW := Lib.hid (bthen HB1.out B9.out)
  generalize K.toNat = KN at *
  have hn9' : l0.length = n9 := hn9
  have h9 : (n9 : Int) = (n7 : Int) - 1 := by have := HL0.out; omega
  have t5 : ((n9 : Int) != (n7 : Int) - 1) = false := by rw [h9]; simp
  clear h9 hn9'
  clear q5 q7 x50 x51 x70 x71 r1 r2 R9 R9b hn9 hn5 hbl u1 u2 hsx hp5 hp7
  go_wp2_with fail
  obtain ⟨x50, x51, x70, x71, -, -⟩ := HS.out w9 (Below.refl _ _)
  have k6 : ∀ N, (convert 24 9 (.slice B1 (n7 - 2) (c5 - 2))).run Tryd.prog (w9.drewN N) = .ok (.string sx) (w9.drewN N) := fun N => (HS.out (w9.drewN N) (HDN.out N)).2.2.2.2.1
  have k7 : ∀ N, (convert 24 9 (.slice B2 (n7 - 2) (c7 - 2))).run Tryd.prog (w9.drewN N) = .ok (.string sx) (w9.drewN N) := fun N => (HS.out (w9.drewN N) (HDN.out N)).2.2.2.2.2
  go_quiet (fail)
  go_wp2
  go_ret
  exact ⟨rfl, bthen HBW.out (HDN.out _)⟩

set_option maxRecDepth 100000 in
set_option maxHeartbeats 8000000 in
theorem waits_more {w : World} (hs : Shp w) (k v id er wa : Int) {Ai At Ab : Option Addr} {ni ci nt ct nb cb : Nat} {zs ts bs} (h : Rq w w.heap.size Ai ni ci At nt ct Ab nb cb zs ts bs) {K : UInt8} {b : List UInt8} (hp1 : putS ⟨k, 1, id, er, wa, zs, ts, bs⟩ = (K :: 1 :: b, 0)) (hp2 : putS ⟨k, 2, id, er, wa, zs, ts, bs⟩ = (K :: 2 :: b, 0)) (hbl : b.length ≤ 1000000) (hwz : wa ≠ 0) (hp0 : putS ⟨k, 0, id, er, wa, zs, ts, bs⟩ = ([], 1)) :
    Calls Tryd.prog 10 #[.agg #[.int .i64 k, .int .i64 v, .int .i64 id, .int .i64 er, .int .i64 wa, .slice Ai ni ci, .slice At nt ct, .slice Ab nb cb]] w (Says w (.bool true)) := by
  have HP1 := Lib.hid hp1
  have HP2 := Lib.hid hp2
  have HP0 := Lib.hid hp0
  have HBL := Lib.hid hbl
  have HWZ := Lib.hid hwz
  have tw : (wa == 0) = false := by simpa using hwz
  clear hp1 hp2 hp0 hbl hwz
  obtain ⟨W1, hW1⟩ : ∃ W, W = w.alloc (.cells #[.int .i64 k, .int .i64 v, .int .i64 id, .int .i64 er, .int .i64 wa, .slice Ai ni ci, .slice At nt ct, .slice Ab nb cb] 38) := ⟨_, rfl⟩
  have b1 : Below w.heap.size w W1 := by rw [hW1]; exact bput (Below.refl _ w) _
  have g1 : W1.heap[w.heap.size]? = some (.cells #[.int .i64 k, .int .i64 v, .int .i64 id, .int .i64 er, .int .i64 wa, .slice Ai ni ci, .slice At nt ct, .slice Ab nb cb] 38 (0, 0)) := by rw [hW1]; exact heap_alloc_new w _
  have HF : Hid (∀ w', Below W1.heap.size W1 w' → w'.heap[w.heap.size]? = some (.cells #[.int .i64 k, .int .i64 v, .int .i64 id, .int .i64 er, .int .i64 wa, .slice Ai ni ci, .slice At nt ct, .slice Ab nb cb] 38 (0, 0))) := Lib.hid fun w' hb =>
    (hb.block _ (Array.getElem?_eq_some_iff.1 g1).1).trans g1
  have HQ : Hid (∀ w', Below W1.heap.size W1 w' → Rq w' w'.heap.size Ai ni ci At nt ct Ab nb cb zs ts bs ∧ Shp w') := Lib.hid fun w' hb =>
    ⟨(h.step (bthen b1 hb) (Nat.le_refl _)).more (bthen b1 hb).size, hs.on (bthen b1 hb)⟩
  have HB1 := Lib.hid b1
  have hL := live_ok W1 (HQ.out W1 (Below.refl _ _)).2
  have HL := Lib.hid hL
  clear b1 g1 h hs hL
  go_enter Tryd.func10, Tryd.ntmps10
  go_wp2_with fail
  rw [← hW1]
  clear hW1
  refine HL.out.mono ?_
  rintro e w2 ⟨rfl, b2⟩
  have B2 := Lib.hid b2
  clear b2
  obtain ⟨⟨a0, a1, a2, a3, a4, a5, a6, a7⟩, -⟩ := of8 (HF.out w2 B2.out)
  go_wp2_with fail
  refine (fewS_ok k v id er wa (HQ.out w2 B2.out).1 (Nat.le_refl _)).mono ?_
  rintro e w3 ⟨bo, rfl, b3⟩
  have B3 := Lib.hid (bthen B2.out b3)
  clear a0 a1 a2 a3 a4 a5 a6 a7 b3
  cases bo with
  | false =>
    go_wp2
    go_ret
    exact ⟨rfl, bthen HB1.out B3.out⟩
  | true =>
  obtain ⟨⟨a0, a1, a2, a3, a4, a5, a6, a7⟩, -⟩ := of8 (HF.out w3 B3.out)
  go_upto_region 6 with fail
  clear a0 a1 a2 a3 a4 a5 a6 a7
  obtain ⟨W4, hW4⟩ : ∃ W, W = w3.alloc (.cells #[.int .i64 k, .int .i64 1, .int .i64 id, .int .i64 er, .int .i64 wa, .slice Ai ni ci, .slice At nt ct, .slice Ab nb cb] 38) := ⟨_, rfl⟩
  have b4 : Below w3.heap.size w3 W4 := by rw [hW4]; exact bput (Below.refl _ w3) _
  have g4 : W4.heap[w3.heap.size]? = some (.cells #[.int .i64 k, .int .i64 1, .int .i64 id, .int .i64 er, .int .i64 wa, .slice Ai ni ci, .slice At nt ct, .slice Ab nb cb] 38 (0, 0)) := by rw [hW4]; exact heap_alloc_new w3 _
  have hle : W1.heap.size ≤ w3.heap.size := B3.out.size
  have B4 := Lib.hid (bthen B3.out b4)
  have G4 := Lib.hid g4
  have HLE := Lib.hid hle
  obtain ⟨⟨a0, a1, a2, a3, a4, a5, a6, a7⟩, -⟩ := of8 g4
  have HP := Lib.hid (p_putS_ok k 1 id er wa (HQ.out W4 B4.out).1)
  rw [HP1.out] at HP
  rw [← hW4]
  clear hW4 b4 g4 hle
  go_wp2_with fail
  refine HP.out.mono ?_
  rintro e w5 ⟨A5, n5, c5, rfl, ho5, b5⟩
  have B5 := Lib.hid (bthen B4.out b5)
  have B45 := Lib.hid b5
  have HO5 := Lib.hid ho5
  clear a0 a1 a2 a3 a4 a5 a6 a7 b5 HP
  have hn5 : n5 = b.length + 2 := by rw [← ho5.1]; simp
  have HN5 := Lib.hid hn5
  have HR5 := Lib.hid ho5.rd
  have HE5 := Lib.hid (fun bb off (hA : A5 = some ⟨bb, off, none⟩) => own_block ho5 hA)
  have hz4 : w3.heap.size < W4.heap.size := (Array.getElem?_eq_some_iff.1 G4.out).1
  have HZ4 := Lib.hid hz4
  clear ho5 hn5 hz4
  have g5 := (B45.out.block _ (Array.getElem?_eq_some_iff.1 G4.out).1).trans G4.out
  obtain ⟨g6, b6⟩ := ver_set (u := .int .i64 2) g5 B5.out HLE.out
  obtain ⟨⟨a0, a1, a2, a3, a4, a5, a6, a7⟩, fz⟩ := of8 g5
  have fz1 := fz 1
  obtain ⟨W6, hW6⟩ : ∃ W, W = w5.setCell ⟨w3.heap.size, 1, none⟩ (.int .i64 2) := ⟨_, rfl⟩
  rw [← hW6] at g6 b6
  have hs6 : W6.heap.size = w5.heap.size := by rw [hW6]; simp
  have HR6 : Hid (Rd W6 W6.heap.size A5 n5 c5 (K :: 1 :: b)) := Lib.hid (by
    rw [hs6, hW6]
    exact HR5.out.past (grown_set _ _ _ _) (fun bb off hA => by have := HE5.out bb off hA; have := HZ4.out; omega))
  have B6 := Lib.hid b6
  have G6 := Lib.hid g6
  have hz6 : w3.heap.size < W6.heap.size := (Array.getElem?_eq_some_iff.1 g6).1
  have HZ6 := Lib.hid hz6
  obtain ⟨⟨d0, d1, d2, d3, d4, d5, d6, d7⟩, -⟩ := of8 g6
  have HP := Lib.hid (p_putS_ok k 2 id er wa (HQ.out W6 B6.out).1)
  rw [HP2.out] at HP
  clear fz g5 g6 b6 hs6 HR5 hz6
  go_upto_region 10 with fail
  rw [← hW6]
  clear hW6 a0 a1 a2 a3 a4 a5 a6 a7 fz1
  go_wp2_with fail
  refine HP.out.mono ?_
  rintro e w7 ⟨A7, n7, c7, rfl, ho7, b7⟩
  obtain rfl : n7 = n5 := by rw [HN5.out, ← ho7.1]; simp
  have HR7 := Lib.hid ((HR6.out.step b7 (Nat.le_refl _)).more b7.size)
  have HR7b := Lib.hid ho7.rd
  have HE7 := Lib.hid (fun bb off (hA : A7 = some ⟨bb, off, none⟩) => own_block ho7 hA)
  have B7 := Lib.hid (bthen B6.out b7)
  have g7 := (b7.block _ (Array.getElem?_eq_some_iff.1 G6.out).1).trans G6.out
  clear d0 d1 d2 d3 d4 d5 d6 d7 b7 ho7 HP HR6
  obtain ⟨g8, b8⟩ := ver_set (u := .int .i64 0) g7 B7.out HLE.out
  obtain ⟨⟨a0, a1, a2, a3, a4, a5, a6, a7⟩, fz⟩ := of8 g7
  have fz1 := fz 1
  obtain ⟨W8, hW8⟩ : ∃ W, W = w7.setCell ⟨w3.heap.size, 1, none⟩ (.int .i64 0) := ⟨_, rfl⟩
  rw [← hW8] at g8 b8
  have hs8 : W8.heap.size = w7.heap.size := by rw [hW8]; simp
  have HR8 : Hid (Rd W8 W8.heap.size A5 n7 c5 (K :: 1 :: b)) := Lib.hid (by
    rw [hs8, hW8]
    exact HR7.out.past (grown_set _ _ _ _) (fun bb off hA => by have := HE5.out bb off hA; have := HZ4.out; omega))
  have HR8b : Hid (Rd W8 W8.heap.size A7 n7 c7 (K :: 2 :: b)) := Lib.hid (by
    rw [hs8, hW8]
    exact HR7b.out.past (grown_set _ _ _ _) (fun bb off hA => by have := HE7.out bb off hA; have := HZ6.out; omega))
  have B8 := Lib.hid b8
  obtain ⟨⟨d0, d1, d2, d3, d4, d5, d6, d7⟩, -⟩ := of8 g8
  have HP := Lib.hid (p_putS_ok k 0 id er wa (HQ.out W8 B8.out).1)
  rw [HP0.out] at HP
  clear fz g7 g8 b8 hs8 HR7 HR7b
  go_upto_region 12 with fail
  rw [← hW8]
  clear hW8 a0 a1 a2 a3 a4 a5 a6 a7 fz1
  go_wp2_with fail
  refine HP.out.mono ?_
  rintro e w9 ⟨A9, n9, c9, rfl, ho9, b9⟩
  have hn9 := ho9.1
  have R9 := (HR8.out.step b9 (Nat.le_refl _)).more b9.size
  have R9b := (HR8b.out.step b9 (Nat.le_refl _)).more b9.size
  have B9 := Lib.hid (bthen B8.out b9)
  clear d0 d1 d2 d3 d4 d5 d6 d7 b9 ho9 HP HR8 HR8b
  have hn5 := HN5.out
  have hbl := HBL.out
  have hc5 := R9.cap
  have hc7 := R9b.cap
  have ht5 := R9.top
  have ht7 := R9b.top
  obtain ⟨B1, u1, r1⟩ := run_from (P := Tryd.prog) (t := 24) Tryd.underlying24 byteInfo R9 2 (by omega)
  obtain ⟨B2, u2, r2⟩ := run_from (P := Tryd.prog) (t := 24) Tryd.underlying24 byteInfo R9b 2 (by omega)
  obtain ⟨sx, hsx⟩ : ∃ sx, strOf b = sx := ⟨_, rfl⟩
  have v1 : ∀ W, (Instr.sliceAt 24 (.slice A5 n7 c5) (some (.int .i64 2)) none none).run Tryd.prog W = .ok (.slice B1 (n7 - 2) (c5 - 2)) W := u1
  have v2 : ∀ W, (Instr.sliceAt 24 (.slice A7 n7 c7) (some (.int .i64 2)) none none).run Tryd.prog W = .ok (.slice B2 (n7 - 2) (c7 - 2)) W := u2
  obtain ⟨p5, o5, rfl, hp5, q5⟩ := R9.cells (by omega)
  obtain ⟨p7, o7, rfl, hp7, q7⟩ := R9b.cells (by omega)
  have x50 : w9.cell? ⟨p5, o5, none⟩ = some (.int .u8 (K.toNat : Int)) := q5 0 (by omega)
  have x51 : w9.cell? ⟨p5, o5 + 1, none⟩ = some (.int .u8 1) := q5 1 (by omega)
  have x70 : w9.cell? ⟨p7, o7, none⟩ = some (.int .u8 (K.toNat : Int)) := q7 0 (by omega)
  have x71 : w9.cell? ⟨p7, o7 + 1, none⟩ = some (.int .u8 2) := q7 1 (by omega)
  have HS : Hid (∀ w', Below w9.heap.size w9 w' → w'.cell? ⟨p5, o5, none⟩ = some (.int .u8 (K.toNat : Int)) ∧ w'.cell? ⟨p5, o5 + 1, none⟩ = some (.int .u8 1) ∧ w'.cell? ⟨p7, o7, none⟩ = some (.int .u8 (K.toNat : Int)) ∧ w'.cell? ⟨p7, o7 + 1, none⟩ = some (.int .u8 2) ∧
      (convert 24 9 (.slice B1 (n7 - 2) (c5 - 2))).run Tryd.prog w' = .ok (.string sx) w' ∧ (convert 24 9 (.slice B2 (n7 - 2) (c7 - 2))).run Tryd.prog w' = .ok (.string sx) w') := Lib.hid fun w' hb =>
    ⟨(hb.cell (p := ⟨p5, o5, none⟩) (block_lt_of_cell x50)).trans x50, (hb.cell (p := ⟨p5, o5 + 1, none⟩) (block_lt_of_cell x51)).trans x51, (hb.cell (p := ⟨p7, o7, none⟩) (block_lt_of_cell x70)).trans x70, (hb.cell (p := ⟨p7, o7 + 1, none⟩) (block_lt_of_cell x71)).trans x71,
      str_eq6 (r1.below hb) hsx, str_eq6 (r2.below hb) hsx⟩
  obtain ⟨⟨a0, a1, a2, a3, a4, a5, a6, a7⟩, -⟩ := of8 (HF.out w9 B9.out)
  have t2 : decide ((n7 : Int) < 2) = false := by simp only [decide_eq_false_iff_not]; omega
  have t3 : decide (n7 < 2) = false := by simp only [decide_eq_false_iff_not]; omega
  have y1 : (0 : Int) < (n7 : Int) := by omega
  have y2 : (1 : Int) < (n7 : Int) := by omega
  have y3 : 0 < n7 := by omega
  have y4 : 1 < n7 := by omega
  have y5 : (n7 : Int) ≤ 2000000 := by omega
  have HDN : Hid (∀ N, Below w9.heap.size w9 (w9.drewN N)) := Lib.hid fun N => bdrewN (Below.refl _ w9) N
  have HBW := Lib.hid (bthen HB1.out B9.out)
  generalize K.toNat = KN at *
  clear q5 q7 x50 x51 x70 x71 r1 r2 R9 R9b hn9 hn5 hbl u1 u2 hsx hp5 hp7
  go_wp2_with fail
  obtain ⟨x50, x51, x70, x71, -, -⟩ := HS.out w9 (Below.refl _ _)
  have k6 : ∀ N, (convert 24 9 (.slice B1 (n7 - 2) (c5 - 2))).run Tryd.prog (w9.drewN N) = .ok (.string sx) (w9.drewN N) := fun N => (HS.out (w9.drewN N) (HDN.out N)).2.2.2.2.1
  have k7 : ∀ N, (convert 24 9 (.slice B2 (n7 - 2) (c7 - 2))).run Tryd.prog (w9.drewN N) = .ok (.string sx) (w9.drewN N) := fun N => (HS.out (w9.drewN N) (HDN.out N)).2.2.2.2.2
  go_quiet (fail)
  go_wp2
  go_ret
  exact ⟨rfl, bthen HBW.out (HDN.out _)⟩

theorem protoWaits_walk {w : World} (hs : Shp w) (k v id er wa : Int) {Ai At Ab : Option Addr} {ni ci nt ct nb cb : Nat} {zs ts bs} (h : Rq w w.heap.size Ai ni ci At nt ct Ab nb cb zs ts bs) :
    Calls Tryd.prog 10 #[.agg #[.int .i64 k, .int .i64 v, .int .i64 id, .int .i64 er, .int .i64 wa, .slice Ai ni ci, .slice At nt ct, .slice Ab nb cb]] w (Says w (.bool true)) := by
  by_cases hc : chkS ⟨k, 1, id, er, wa, zs, ts, bs⟩ = 0
  · obtain ⟨K, b, h1, h2, h3, h4⟩ := waits_plain hc
    rcases h3 with ⟨hw, l0, h0, hl⟩ | ⟨hw, h0⟩
    · exact waits_zero hs k v id er wa h h1 h2 h4 hw h0 hl
    · exact waits_more hs k v id er wa h h1 h2 h4 hw h0
  · exact waits_err hs k v id er wa h ⟨_, hc, putS_bad hc⟩
end Go.Proofs.YtlijagbklopipaaDoor
