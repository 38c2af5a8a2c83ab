/- The law OpsBack, walked. -/
import Derived.Test.YtbnegkkjgkignaaOps9
import Derived.Test.YtbnegkkjgkignaaPlain3
namespace Go.Proofs.Ytbnegkkjgkignaa
open Go.RowKit

theorem rd_two {w : World} {b : Nat} {t : TypeId} (o p : Op) (h : w.heap[b]? = some (.cells #[.int .i64 o.kind, .int .i64 o.id, .string o.body, .int .i64 p.kind, .int .i64 p.id, .string p.body] t (0, 0))) : Rd Op.cells 3 w w.heap.size (some ⟨b, 0, none⟩) [o, p] := fun _ => by
  refine ⟨b, 0, rfl, (Array.getElem?_eq_some_iff.1 h).1, fun k x hx j v hv => ?_⟩
  rw [cells_of h]
  match k, j with
  | 0, 0 => simp at hx; subst hx; simpa [Op.cells] using hv
  | 0, 1 => simp at hx; subst hx; simpa [Op.cells] using hv
  | 0, 2 => simp at hx; subst hx; simpa [Op.cells] using hv
  | 1, 0 => simp at hx; subst hx; simpa [Op.cells] using hv
  | 1, 1 => simp at hx; subst hx; simpa [Op.cells] using hv
  | 1, 2 => simp at hx; subst hx; simpa [Op.cells] using hv
  | 0, j + 3 => simp at hx; subst hx; simp [Op.cells] at hv
  | 1, j + 3 => simp at hx; subst hx; simp [Op.cells] at hv
  | k + 2, j => simp at hx
/-- two operations, all contract, from a box that was made for it -/
theorem all_two (V : World) (A : Option Addr) (cap : Nat) (l : List Pg) (o p : Op) (hl : l.length ≤ 800000) (hr : Rd Pg.cells 3 V V.heap.size A l) :
    Calls Try.prog 18 #[.agg #[.slice A l.length cap], .slice (some ⟨V.heap.size, 0, none⟩) 2 2] (V.alloc (.cells #[.int .i64 o.kind, .int .i64 o.id, .string o.body, .int .i64 p.kind, .int .i64 p.id, .string p.body] 26)) fun e w' =>
      ∃ A' cap' A2 cap2, e = .returned (.tuple #[.agg #[.slice A' (allM l [o, p]).1.length cap'], .slice A2 2 cap2]) ∧ Rd Pg.cells 3 w' w'.heap.size A' (allM l [o, p]).1 ∧ Rd Rs.cells 4 w' w'.heap.size A2 (allM l [o, p]).2 ∧ Below V.heap.size V w' := by
  have hb : Below V.heap.size V (V.alloc (.cells #[.int .i64 o.kind, .int .i64 o.id, .string o.body, .int .i64 p.kind, .int .i64 p.id, .string p.body] 26)) := (Below.refl _ _).alloc (Nat.le_refl _) _
  refine (opsAll_any _ A cap l _ 2 [o, p] (by simp; omega) (hr.up hb) (rd_two o p (heap_alloc_new V _))).mono ?_
  rintro e w' ⟨A', cap', A2, cap2, rfl, h1, h2, h3⟩
  exact ⟨A', cap', A2, cap2, rfl, h1, h2, bnext hb h3⟩
theorem rd_r2 {w : World} {A : Option Addr} {B : Nat} {r s : Rs} (h : Rd Rs.cells 4 w B A [r, s]) : ∃ b off, A = some ⟨b, off, none⟩ ∧ b < B ∧ ∀ W, Below B w W →
    W.cell? ⟨b, off, none⟩ = some (.int .i64 r.e) ∧ W.cell? ⟨b, off + 1, none⟩ = some (.int .i64 r.pg.id) ∧ W.cell? ⟨b, off + 2, none⟩ = some (.int .i64 r.pg.ver) ∧ W.cell? ⟨b, off + 3, none⟩ = some (.string r.pg.body) ∧
    W.cell? ⟨b, off + 4, none⟩ = some (.int .i64 s.e) ∧ W.cell? ⟨b, off + 5, none⟩ = some (.int .i64 s.pg.id) ∧ W.cell? ⟨b, off + 6, none⟩ = some (.int .i64 s.pg.ver) ∧ W.cell? ⟨b, off + 7, none⟩ = some (.string s.pg.body) := by
  obtain ⟨b, off, hA, hb, hc⟩ := h (by simp)
  refine ⟨b, off, hA, hb, fun W hW => ?_⟩
  have k := fun (k : Nat) (x : Rs) hx (j : Nat) v hv => (hW.cell (p := ⟨b, off + k * 4 + j, none⟩) hb).trans (hc k x hx j v hv)
  exact ⟨k 0 r rfl 0 _ rfl, k 0 r rfl 1 _ rfl, k 0 r rfl 2 _ rfl, k 0 r rfl 3 _ rfl, k 1 s rfl 0 _ rfl, k 1 s rfl 1 _ rfl, k 1 s rfl 2 _ rfl, k 1 s rfl 3 _ rfl⟩

set_option maxHeartbeats 4000000 in
theorem lawBack (w : World) (A : Option Addr) (cap : Nat) (l : List Pg) (id : Int) (hl : l.length ≤ 9223372036854775807) (hr : Rd Pg.cells 3 w w.heap.size A l) :
    Calls Try.prog 7 #[.agg #[.slice A l.length cap], .int .i64 id] w fun e w' => e = .returned (.bool true) ∧ Below w.heap.size w w' := by
  obtain ⟨W, hW⟩ : ∃ W, W = w.alloc (.cells #[.slice A l.length cap] 24) := ⟨_, rfl⟩
  obtain ⟨N, hN⟩ : ∃ N, N = w.heap.size := ⟨_, rfl⟩
  have hbW : Below w.heap.size w W := by rw [hW]; exact (Below.refl _ _).alloc (Nat.le_refl _) _
  have hcW : ∀ V, Below W.heap.size W V → V.cell? ⟨N, 0, none⟩ = some (.slice A l.length cap) := fun V hV => by
    subst hW; rw [hN, box_cell hV]; rfl
  have hsW : W.heap.size = N + 1 := by rw [hW, hN]; simp
  have h0 := hcW W (Below.refl _ _)
  have hrW := hr.up hbW
  have Hr := Lib.hid hrW; clear hrW hr
  have HcW := Lib.hid hcW; clear hcW
  have HbW := Lib.hid hbW
  have hW' := hW.symm
  have hN' := hN.symm
  clear hW hbW hN
  go_enter Try.func7, Try.ntmps7
  go_wp2_with fail
  refine (small_any W A cap l hl Hr.out).mono ?_
  rintro e V ⟨b, rfl, hbl, hb1⟩
  clear hW' h0
  have hcV := HcW.out V hb1
  have HbV := Lib.hid (bnext HbW.out hb1)
  have Hb1 := Lib.hid hb1
  have hsV := hb1.size
  clear hb1
  cases b with
  | false =>
    go_wp2_with fail
    refine (awake_any V).mono ?_
    rintro e V2 ⟨rfl, hb2⟩
    go_wp2_with fail
    go_ret
    exact ⟨rfl, bnext HbV.out hb2⟩
  | true =>
    have hl40 := hbl rfl
    clear hbl
    have hNV : N < V.heap.size := by omega
    go_wp2_with fail
    refine (all_two V A cap l (opNew id) (opDel id) (by omega) (Hr.out.up Hb1.out)).mono ?_
    rintro e V1 ⟨A1, c1, A2, c2, rfl, hr1, hr2, hb2⟩
    have Hr1 := Lib.hid hr1
    have Hr2 := Lib.hid hr2
    have hb2W : Below W.heap.size W V1 := Hb1.out.trans (hb2.mono hsV)
    have HbV1 := Lib.hid hb2W
    have hs1 : V.heap.size ≤ V1.heap.size := hb2.size
    have hNV1 : N < V1.heap.size := by omega
    have hcV1 := HcW.out V1 hb2W
    have hNV1 : N < V1.heap.size := by omega
    clear hcV hr1 hr2 hb2W hb2
    go_wp2_with fail
    obtain ⟨M, hM⟩ : ∃ M, M = V1.heap.size := ⟨_, rfl⟩
    obtain ⟨X, hX⟩ : ∃ X, X = V1.alloc (.cells #[.slice A1 (allM l [opNew id, opDel id]).1.length c1] 24) := ⟨_, rfl⟩
    have hbX : Below M V1 X := by rw [hX, hM]; exact (Below.refl _ _).alloc (Nat.le_refl _) _
    have hsX : X.heap.size = M + 1 := by rw [hX, hM]; simp
    have hxM : X.heap[M]? = some (.cells #[.slice A1 (allM l [opNew id, opDel id]).1.length c1] 24 (0, 0)) := by rw [hX, hM, heap_alloc_new]
    have hbXW : Below W.heap.size W X := HbV1.out.trans (hbX.mono (by have := HbV1.out.size; omega))
    have HbXW := Lib.hid hbXW
    have HbX := Lib.hid hbX
    have HxM := Lib.hid hxM
    have hX1 : V1.heap.size + 1 = X.heap.size := by rw [hX]; simp
    rw [← hX, hX1]
    have d3 := all_two X A cap l (opDel id) (opNew id) (by omega) (Hr.out.up hbXW)
    simp only [opDel, opNew] at d3
    refine d3.mono ?_
    clear d3 hX1
    simp only [← opDel.eq_1, ← opNew.eq_1]
    clear hX hbX hxM hbXW hcV1
    rintro e V2 ⟨A3, c3, A4, c4, rfl, hr3, hr4, hb3⟩
    have hs3 := hb3.size
    have hb3W : Below W.heap.size W V2 := HbXW.out.trans (hb3.mono HbXW.out.size)
    have hb31 : Below M V1 V2 := HbX.out.trans (hb3.mono (by omega))
    have hyM := (hb3.block M (by omega)).trans HxM.out
    have Hr3 := Lib.hid hr3
    have Hr4 := Lib.hid hr4
    have Hr1' := Lib.hid ((Hr1.out.below (by rw [← hM]; exact hb31)).more (by omega) : Rd Pg.cells 3 V2 V2.heap.size A1 (allM l [opNew id, opDel id]).1)
    have Hr2' := Lib.hid ((Hr2.out.below (by rw [← hM]; exact hb31)).more (by omega) : Rd Rs.cells 4 V2 V2.heap.size A2 (allM l [opNew id, opDel id]).2)
    have Hr' := Lib.hid (Hr.out.up hb3W)
    have hcV2 := HcW.out V2 hb3W
    have ac := cells_of hyM 0
    simp only [List.getElem?_toArray, List.getElem?_cons_zero] at ac
    have Hb3W := Lib.hid hb3W
    have HyM := Lib.hid hyM
    have hNV2 : N < V2.heap.size := by omega
    have hMV2 : M < V2.heap.size := by omega
    have hNM : ¬ N = M := by omega
    have hMN : ¬ M = N := by omega
    rw [← hM]
    clear hr3 hr4 hb3W hb31 hb3 hyM Hr1 Hr2 hM hNV1 hs1 hsX hs3
    rcases back_plain l id with ⟨h1, h2⟩ | ⟨h1, d, h2⟩ | ⟨n, d, h1, h2, h3, h4⟩
    · --
      have p1 := Hr2'.out
      have p2 := Hr4.out
      rw [h1] at p1
      rw [h2] at p2
      obtain ⟨b1, o1, rfl, hb1, hc1⟩ := rd_r2 p1
      obtain ⟨b2, o2, rfl, hb2, hc2⟩ := rd_r2 p2
      obtain ⟨k0, k1, k2, k3, k4, k5, k6, k7⟩ := hc1 V2 (Below.refl _ _)
      obtain ⟨m0, m1, m2, m3, m4, m5, m6, m7⟩ := hc2 V2 (Below.refl _ _)
      have Hc1 := Lib.hid hc1
      have Hc2 := Lib.hid hc2
      clear hc1 hc2 p1 p2
      simp only [h1, h2] at ac Hr1' Hr3 HyM ⊢
      have hVY : ∀ t, Below V2.heap.size V2 (V2.alloc t) := fun t => (Below.refl _ _).alloc (Nat.le_refl _) t
      have HVY := Lib.hid hVY; clear hVY
      go_wp2_with fail
      have d3 := same_any _ A1 A c1 cap l l (by omega) (by omega) (Hr1'.out.up (HVY.out (.cells #[.slice A3 l.length c3] 24))) (Hr'.out.up (HVY.out (.cells #[.slice A3 l.length c3] 24)))
      rw [decide_eq_true (rfl : l = l)] at d3
      refine d3.mono ?_
      clear d3
      rintro e V5 ⟨rfl, hb5⟩
      go_wp2_with fail
      refine (awake_any _).mono ?_
      rintro e V6 ⟨rfl, hb6⟩
      go_wp2_with fail
      go_ret
      exact ⟨rfl, bnext (bnext (bnext (bnext HbW.out Hb3W.out) (HVY.out _)) hb5) hb6⟩
    · --
      have p1 := Hr2'.out
      have p2 := Hr4.out
      rw [h1] at p1
      rw [h2] at p2
      obtain ⟨b1, o1, rfl, hb1, hc1⟩ := rd_r2 p1
      obtain ⟨b2, o2, rfl, hb2, hc2⟩ := rd_r2 p2
      obtain ⟨k0, k1, k2, k3, k4, k5, k6, k7⟩ := hc1 V2 (Below.refl _ _)
      obtain ⟨m0, m1, m2, m3, m4, m5, m6, m7⟩ := hc2 V2 (Below.refl _ _)
      have Hc1 := Lib.hid hc1
      have Hc2 := Lib.hid hc2
      clear hc1 hc2 p1 p2
      simp only [h1, h2] at ac Hr1' Hr3 HyM ⊢
      have hVY : ∀ t, Below V2.heap.size V2 (V2.alloc t) := fun t => (Below.refl _ _).alloc (Nat.le_refl _) t
      have HVY := Lib.hid hVY; clear hVY
      go_wp2_with fail
      obtain ⟨Y, hY⟩ : ∃ Y, Y = V2.alloc (.cells #[.slice A3 d.length c3] 24) := ⟨_, rfl⟩
      have hbY : Below V2.heap.size V2 Y := by rw [hY]; exact HVY.out _
      rw [← hY]
      have gk := fun x : BW Y => Hc1.out x.w (bnext hbY x.below)
      have gm := fun x : BW Y => Hc2.out x.w (bnext hbY x.below)
      have hsY := hbY.size
      have g0 := fun x => (gk x).1
      have g1 := fun x => (gk x).2.1
      have g2 := fun x => (gk x).2.2.1
      have g3 := fun x => (gk x).2.2.2.1
      have g4 := fun x => (gk x).2.2.2.2.1
      have l0 := fun x => (gm x).1
      have l4 := fun x => (gm x).2.2.2.2.1
      have l5 := fun x => (gm x).2.2.2.2.2.1
      have l6 := fun x => (gm x).2.2.2.2.2.2.1
      have l7 := fun x => (gm x).2.2.2.2.2.2.2
      have n0 := bw_cell ((hbY.cell (p := ⟨M, 0, none⟩) hMV2).trans ac) (by show M < _; omega)
      have n1 := bw_cell ((hbY.cell (p := ⟨N, 0, none⟩) hNV2).trans hcV2) (by show N < _; omega)
      have hs1 : ∀ x : BW Y, Calls Try.prog 17 #[.slice A1 l.length c1, .slice A l.length cap] x.w fun e w' => e = .returned (.bool true) ∧ Below x.w.heap.size x.w w' := fun x => by
        have d3 := same_any x.w A1 A c1 cap l l (by omega) (by omega) (Hr1'.out.up (bnext hbY x.below)) (Hr'.out.up (bnext hbY x.below))
        rw [decide_eq_true (rfl : l = l)] at d3
        exact d3
      have heq : ∀ U, (binOp .eql 33 (.agg #[.int .i64 0, .int .i64 id, .int .i64 1, .string ⟨#[]⟩]) (.agg #[.int .i64 0, .int .i64 id, .int .i64 1, .string ⟨#[]⟩])).run Try.prog U = .ok (.bool true) U := fun U => by go_simp
      simp only [pgNew] at g1 g2 g3 l5 l6 l7
      have HbY := Lib.hid hbY
      have Hs1 := Lib.hid hs1
      clear gk gm hbY hs1 k0 k1 k2 k3 k4 k5 k6 k7 m0 m1 m2 m3 m4 m5 m6 m7 hcV2 ac hY
      refine wp_region_bw (by kernel_rfl) (by kernel_rfl) ?_
      repeat (go_big_quiet_step (first | exact call_bw (Hs1.out _) | exact call_bw (awake_any _)))
      refine wpQuiet_nil (bw_nil fun V hV => ?_)
      go_wp2_with fail
      go_ret
      exact ⟨rfl, bnext (bnext (bnext HbW.out Hb3W.out) HbY.out) hV⟩
    · --
      have p1 := Hr2'.out
      have p2 := Hr4.out
      rw [h1] at p1
      rw [h2] at p2
      obtain ⟨b1, o1, rfl, hb1, hc1⟩ := rd_r2 p1
      obtain ⟨b2, o2, rfl, hb2, hc2⟩ := rd_r2 p2
      obtain ⟨k0, k1, k2, k3, k4, k5, k6, k7⟩ := hc1 V2 (Below.refl _ _)
      obtain ⟨m0, m1, m2, m3, m4, m5, m6, m7⟩ := hc2 V2 (Below.refl _ _)
      have Hc1 := Lib.hid hc1
      have Hc2 := Lib.hid hc2
      clear hc1 hc2 p1 p2
      simp only [h1, h2] at ac Hr1' Hr3 HyM ⊢
      have hVY : ∀ t, Below V2.heap.size V2 (V2.alloc t) := fun t => (Below.refl _ _).alloc (Nat.le_refl _) t
      have HVY := Lib.hid hVY; clear hVY
      go_wp2_with fail
      obtain ⟨Y, hY⟩ : ∃ Y, Y = V2.alloc (.cells #[.slice A3 l.length c3] 24) := ⟨_, rfl⟩
      obtain ⟨D, hD⟩ : ∃ D, D = V2.heap.size := ⟨_, rfl⟩
      have hbY : Below V2.heap.size V2 Y := by rw [hY]; exact HVY.out _
      have hyD : Y.heap[D]? = some (.cells #[.slice A3 l.length c3] 24 (0, 0)) := by rw [hY, hD, heap_alloc_new]
      have d4 := get_any Y A3 c3 d id (by omega) (Hr3.out.up hbY)
      rw [h4, h3] at d4
      unfold GotP at d4
      rw [← hY]
      refine d4.mono ?_
      clear d4 hY k0 k1 k2 k3 k4 k5 k6 k7 m0 m1 m2 m3 m4 m5 m6 m7 hcV2 ac
      rintro e V5 ⟨rfl, hb5⟩
      have hb25 := bnext hbY hb5
      have hs5 := hb5.size
      have hsY := hbY.size
      have hD5 : D < V5.heap.size := by have := (Array.getElem?_eq_some_iff.1 hyD).1; omega
      have hvD := (hb5.block D (Array.getElem?_eq_some_iff.1 hyD).1).trans hyD
      have Hb25 := Lib.hid hb25
      have HvD := Lib.hid hvD
      have HyD := Lib.hid hyD
      have HbY := Lib.hid hbY
      clear hb25 hvD hyD hbY hb5
      simp only [Option.getD_some, Option.isSome_some, pgNew]
      rw [← hD]
      go_wp2_with fail
      obtain ⟨P, hP⟩ : ∃ P, P = V5.heap.size := ⟨_, rfl⟩
      obtain ⟨Z, hZ⟩ : ∃ Z, Z = V5.alloc (.cells #[.int .i64 id, .int .i64 1, .string ⟨#[]⟩] 31) := ⟨_, rfl⟩
      have hbZ : Below V5.heap.size V5 Z := by rw [hZ]; exact (Below.refl _ _).alloc (Nat.le_refl _) _
      have hzP : Z.heap[P]? = some (.cells #[.int .i64 id, .int .i64 1, .string ⟨#[]⟩] 31 (0, 0)) := by rw [hZ, hP, heap_alloc_new]
      have hbZ2 := bnext Hb25.out hbZ
      have hsZ := hbZ.size
      have hsZ2 := hbZ2.size
      rw [← hZ, ← hP]
      clear hZ
      have gk := fun x : BW Z => Hc1.out x.w (bnext hbZ2 x.below)
      have gm := fun x : BW Z => Hc2.out x.w (bnext hbZ2 x.below)
      have g0 := fun x => (gk x).1
      have l5 : ∀ x : BW Z, x.w.cell? ⟨b2, o2 + 5, none⟩ = some (.int .i64 id) := fun x => (gm x).2.2.2.2.2.1
      have l6 : ∀ x : BW Z, x.w.cell? ⟨b2, o2 + 6, none⟩ = some (.int .i64 1) := fun x => (gm x).2.2.2.2.2.2.1
      have l7 : ∀ x : BW Z, x.w.cell? ⟨b2, o2 + 7, none⟩ = some (.string ⟨#[]⟩) := fun x => (gm x).2.2.2.2.2.2.2
      have hlP : P < Z.heap.size := (Array.getElem?_eq_some_iff.1 hzP).1
      have y0 : ∀ x : BW Z, x.w.cell? ⟨P, 0, none⟩ = some (.int .i64 id) := bw_cell (cells_of hzP 0) hlP
      have y1 : ∀ x : BW Z, x.w.cell? ⟨P, 1, none⟩ = some (.int .i64 1) := bw_cell (cells_of hzP 1) hlP
      have y2 : ∀ x : BW Z, x.w.cell? ⟨P, 2, none⟩ = some (.string ⟨#[]⟩) := bw_cell (cells_of hzP 2) hlP
      have n0 : ∀ x : BW Z, x.w.cell? ⟨D, 0, none⟩ = some (.slice A3 l.length c3) := bw_cell ((hbZ.cell (p := ⟨D, 0, none⟩) hD5).trans (cells_of HvD.out 0)) (by show D < _; omega)
      have n1 := bw_cell (HcW.out Z (Hb3W.out.trans (hbZ2.mono Hb3W.out.size))) (by show N < _; omega)
      have heq : ∀ U, (binOp .eql 31 (.agg #[.int .i64 id, .int .i64 1, .string ⟨#[]⟩]) (.agg #[.int .i64 id, .int .i64 1, .string ⟨#[]⟩])).run Try.prog U = .ok (.bool true) U := fun U => by
        have := eql_pg U ⟨id, 1, ⟨#[]⟩⟩ ⟨id, 1, ⟨#[]⟩⟩
        simpa using this
      have HbZ2 := Lib.hid hbZ2
      clear gk gm hbZ2 hbZ hzP hP hD h4
      refine wp_region_bw (by kernel_rfl) (by kernel_rfl) ?_
      repeat (go_big_quiet_step (exact call_bw (awake_any _)))
      refine wpQuiet_nil (bw_nil fun V hV => ?_)
      go_wp2_with fail
      go_ret
      exact ⟨rfl, bnext (bnext (bnext HbW.out Hb3W.out) HbZ2.out) hV⟩
end Go.Proofs.Ytbnegkkjgkignaa
