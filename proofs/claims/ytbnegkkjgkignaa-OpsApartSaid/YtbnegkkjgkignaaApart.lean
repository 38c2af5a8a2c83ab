/- The law OpsApart, walked. -/
import Derived.Test.YtbnegkkjgkignaaOps9
namespace Go.Proofs.Ytbnegkkjgkignaa
open Go.RowKit

theorem stepF_err {g : Option Pg} {o : Op} (h : ¬ (stepF g o).2.e = 0) : (stepF g o).1 = g ∧ (stepF g o).2.pg = pg0 := by
  revert h
  cases ho : o.right with
  | false => intro _; simp [stepF, ho]
  | true =>
    cases g with
    | none =>
      by_cases h1 : o.kind = 1
      · intro h; simp [stepF, ho, h1] at h
      · intro _; simp [stepF, ho, h1]
    | some p =>
      by_cases h1 : o.kind = 1
      · intro _; simp [stepF, ho, h1]
      by_cases h2 : o.kind = 2
      · intro h; simp [stepF, ho, h2] at h
      by_cases h4 : o.kind = 4
      · intro h; simp [stepF, ho, h4] at h
      by_cases h5 : 16 < o.body.size
      · intro _; simp [stepF, ho, h1, h2, h4, h5]
      by_cases h6 : 2147483647 ≤ p.ver
      · intro _; simp [stepF, ho, h1, h2, h4, h5, h6]
      · intro h; simp [stepF, ho, h1, h2, h4, h5, h6] at h
theorem doM_err {l x : List Pg} {o : Op} {p : Rs} (hd : doM l o = (x, p)) (h : ¬ p.e = 0) : x = l ∧ p.pg = pg0 := by
  cases hr : rightM l with
  | false =>
    rw [doM_bad hr] at hd
    injection hd with h1 h2
    subst h1; subst h2
    exact ⟨rfl, rfl⟩
  | true =>
    have hD := doM_did (o := o) hr
    have h1 : p = (stepF (getM l o.id) o).2 := by rw [← hD.told, hd]
    rw [h1] at h ⊢
    obtain ⟨k1, k2⟩ := stepF_err h
    have hs : stepF (getM l o.id) o = (getM l o.id, (stepF (getM l o.id) o).2) := Prod.ext k1 rfl
    have := doM_eq hr hs
    rw [hd] at this
    injection this with h3 _
    exact ⟨h3, k2⟩
theorem apart_plain (l : List Pg) (a b : Op) (h : ¬ a.id = b.id) : ∃ x1 p x q y1, doM l a = (x1, p) ∧ doM x1 b = (x, q) ∧ doM l b = (y1, q) ∧ doM y1 a = (x, p) := by
  cases hr : rightM l with
  | false => exact ⟨l, ⟨1, pg0⟩, l, ⟨1, pg0⟩, l, doM_bad hr, doM_bad hr, doM_bad hr, doM_bad hr⟩
  | true =>
    have h1 := doM_did (o := a) hr
    have h2 := doM_did (o := b) h1.right
    have h3 := doM_did (o := b) hr
    have h4 := doM_did (o := a) h3.right
    have gb : getM (doM l a).1 b.id = getM l b.id := by rw [h1.get, if_neg (fun e => h e.symm)]
    have ga : getM (doM l b).1 a.id = getM l a.id := by rw [h3.get, if_neg h]
    have hx : (doM (doM l b).1 a).1 = (doM (doM l a).1 b).1 := right_ext h4.right h2.right fun i => by
      rw [h4.get, h2.get, gb, ga, h1.get, h3.get]
      by_cases ha : i = a.id
      · have : ¬ i = b.id := fun e => h (ha.symm.trans e)
        simp [ha, h]
      · simp [ha]
    refine ⟨(doM l a).1, (doM l a).2, (doM (doM l a).1 b).1, (doM l b).2, (doM l b).1, rfl, ?_, rfl, ?_⟩
    · exact Prod.ext rfl (by rw [h2.told, gb, h3.told])
    · exact Prod.ext hx (by rw [h4.told, ga, h1.told])

theorem eql_rs_same (w : World) (e i v : Int) (b : ByteArray) : (binOp .eql 33 (.agg #[.int .i64 e, .int .i64 i, .int .i64 v, .string b]) (.agg #[.int .i64 e, .int .i64 i, .int .i64 v, .string b])).run Try.prog w = .ok (.bool true) w := by
  go_simp

set_option maxHeartbeats 4000000 in
theorem lawApart (w : World) (A : Option Addr) (cap : Nat) (l : List Pg) (a b : Op) (hl : l.length ≤ 9223372036854775807) (hr : Rd Pg.cells 3 w w.heap.size A l) :
    Calls Try.prog 5 #[.agg #[.slice A l.length cap], .agg #[.int .i64 a.kind, .int .i64 a.id, .string a.body], .agg #[.int .i64 b.kind, .int .i64 b.id, .string b.body]] w fun e w' => e = .returned (.bool true) ∧ Below w.heap.size w w' := by
  obtain ⟨W, hW⟩ : ∃ W, W = ((w.alloc (.cells #[.slice A l.length cap] 24)).alloc (.cells #[.int .i64 a.kind, .int .i64 a.id, .string a.body] 26)).alloc (.cells #[.int .i64 b.kind, .int .i64 b.id, .string b.body] 26) := ⟨_, rfl⟩
  obtain ⟨N, hN⟩ : ∃ N, N = w.heap.size := ⟨_, rfl⟩
  have hbW : Below w.heap.size w W := by rw [hW]; exact (((Below.refl _ _).alloc (Nat.le_refl _) _).alloc (by simp) _).alloc (by simp; omega) _
  have hsW : W.heap.size = N + 3 := by rw [hW, hN]; simp
  have hh : W.heap = ((w.heap.push (.cells #[.slice A l.length cap] 24)).push (.cells #[.int .i64 a.kind, .int .i64 a.id, .string a.body] 26)).push (.cells #[.int .i64 b.kind, .int .i64 b.id, .string b.body] 26) := by rw [hW]; rfl
  have h0 : W.heap[N]? = some (.cells #[.slice A l.length cap] 24 (0, 0)) := by
    rw [hh, hN, Array.getElem?_push, if_neg (by simp; omega), Array.getElem?_push, if_neg (by simp), Array.getElem?_push, if_pos rfl]
  have h1 : W.heap[N + 1]? = some (.cells #[.int .i64 a.kind, .int .i64 a.id, .string a.body] 26 (0, 0)) := by
    rw [hh, hN, Array.getElem?_push, if_neg (by simp), Array.getElem?_push, if_pos (by simp)]
  have h2 : W.heap[N + 1 + 1]? = some (.cells #[.int .i64 b.kind, .int .i64 b.id, .string b.body] 26 (0, 0)) := by
    rw [hh, hN, Array.getElem?_push, if_pos (by simp)]
  have hbx : ∀ U, Below (N + 3) W U → U.cell? ⟨N, 0, none⟩ = some (.slice A l.length cap) ∧ U.cell? ⟨N + 1, 0, none⟩ = some (.int .i64 a.kind) ∧ U.cell? ⟨N + 1, 1, none⟩ = some (.int .i64 a.id) ∧ U.cell? ⟨N + 1, 2, none⟩ = some (.string a.body) ∧
      U.cell? ⟨N + 1 + 1, 0, none⟩ = some (.int .i64 b.kind) ∧ U.cell? ⟨N + 1 + 1, 1, none⟩ = some (.int .i64 b.id) ∧ U.cell? ⟨N + 1 + 1, 2, none⟩ = some (.string b.body) := fun U hU => by
    have e0 := (hU.block N (by omega)).trans h0
    have e1 := (hU.block (N + 1) (by omega)).trans h1
    have e2 := (hU.block (N + 1 + 1) (by omega)).trans h2
    exact ⟨cells_of e0 0, cells_of e1 0, cells_of e1 1, cells_of e1 2, cells_of e2 0, cells_of e2 1, cells_of e2 2⟩
  obtain ⟨b0, b1, b2, b3, b4, b5, b6⟩ := hbx W (Below.refl _ _)
  have Hbx := Lib.hid hbx
  have Hr := Lib.hid (hr.up hbW)
  have HbW := Lib.hid hbW
  have hW' := hW.symm
  have hN' := hN.symm
  clear hW hN hbW hh h0 h1 h2 hbx hr
  go_enter Try.func5, Try.ntmps5
  go_wp2_with fail
  refine (small_any W A cap l hl Hr.out).mono ?_
  clear hW' b0 b1 b2 b3 b4 b5 b6
  rintro e V ⟨bo, rfl, hbl, hb1⟩
  have HbV := Lib.hid (bnext HbW.out hb1)
  have hsV := hb1.size
  have HV := Lib.hid hb1
  rw [hsW] at hb1
  obtain ⟨b0, b1, b2, b3, b4, b5, b6⟩ := Hbx.out V hb1
  clear hb1
  have hcs : bo = false ∨ (bo = true ∧ (100 : Int) < (a.body.size : Int)) ∨ (bo = true ∧ ¬ (100 : Int) < (a.body.size : Int) ∧ (100 : Int) < (b.body.size : Int)) ∨ (bo = true ∧ ¬ (100 : Int) < (a.body.size : Int) ∧ ¬ (100 : Int) < (b.body.size : Int)) := by
    cases bo
    · exact .inl rfl
    · by_cases q1 : (100 : Int) < (a.body.size : Int)
      · exact .inr (.inl ⟨rfl, q1⟩)
      · by_cases q2 : (100 : Int) < (b.body.size : Int)
        · exact .inr (.inr (.inl ⟨rfl, q1, q2⟩))
        · exact .inr (.inr (.inr ⟨rfl, q1, q2⟩))
  rcases hcs with rfl | ⟨rfl, q1⟩ | ⟨rfl, q1, q2⟩ | ⟨rfl, q1, q2⟩
  iterate 3
    · clear hbl
      go_wp2_with fail
      refine (awake_any V).mono ?_
      rintro e V2 ⟨rfl, hb2⟩
      go_wp2_with fail
      go_ret
      exact ⟨rfl, bnext HbV.out hb2⟩
  have hl40 := hbl rfl
  clear hbl
  go_wp2_with fail
  obtain ⟨x1, p, hd1⟩ : ∃ x1 p, doM l a = (x1, p) := ⟨_, _, rfl⟩
  have hx1 : x1.length ≤ 41 := by have := doM_len l a; rw [hd1] at this; simp at this; omega
  have d1 := opsDo_any V A cap l a (by omega) (Hr.out.up HV.out)
  rw [hd1] at d1
  refine d1.mono ?_
  clear d1
  rintro e V1 hV1
  obtain ⟨A1, c1, rfl, hAB, hbv1⟩ := hV1.rd (Hr.out.below HV.out) hsV
  have hs1 := hbv1.size
  have hr1 : Rd Pg.cells 3 V1 V1.heap.size A1 x1 := by
    rcases hAB with h | h
    · exact h.more (by omega)
    · exact Rd.of_own h pg_len (by decide)
  have hV1W : Below W.heap.size W V1 := HV.out.trans (hbv1.mono hsV)
  obtain ⟨N7, hN7⟩ : ∃ N7, N7 = V1.heap.size := ⟨_, rfl⟩
  have hN7s : N + 3 ≤ N7 := by omega
  have Hr1 := Lib.hid hr1
  have HV1 := Lib.hid hV1W
  have HN7 := Lib.hid hN7
  clear hV1 hAB hbv1 hr1 b0 b1 b2 b3 b4 b5 b6
  obtain ⟨b0, b1, b2, b3, b4, b5, b6⟩ := Hbx.out V1 (by rw [← hsW]; exact hV1W)
  clear hV1W
  simp only [rsV]
  have hN7' := hN7.symm
  clear hN7
  have hm0 : N < N7 := by omega
  have hm1 : N + 1 < N7 := by omega
  have hm2 : N + 1 + 1 < N7 := by omega
  by_cases hpe : p.e = 0
  · have hpb : (p.e == 0) = true := by simpa using hpe
    by_cases hid : a.id = b.id
    · have hidb : (a.id == b.id) = true := by simpa using hid
      have Hid := Lib.hid hid; clear hid
      go_wp2_with fail
      generalize hX : World.alloc (World.alloc V1 _) _ = X
      have hbX : Below N7 V1 X := by rw [← hX, ← hN7']; exact ((Below.refl _ _).alloc (Nat.le_refl _) _).alloc (by simp) _
      have hsX : X.heap.size = N7 + 2 := by rw [← hX, ← hN7']; simp
      have hx7 : X.heap[N7]? = some (.cells #[.slice A1 x1.length c1] 24 (0, 0)) := by rw [← hX, ← hN7', heap_alloc_old _ _ (by simp), heap_alloc_new]
      have hx8 : X.heap[N7 + 1]? = some (.cells #[.int .i64 0, .int .i64 p.pg.id, .int .i64 p.pg.ver, .string p.pg.body] 33 (0, 0)) := by
        have := heap_alloc_new (V1.alloc (.cells #[.slice A1 x1.length c1] 24)) (.cells #[.int .i64 0, .int .i64 p.pg.id, .int .i64 p.pg.ver, .string p.pg.body] 33)
        rw [← hX, ← hN7']
        simpa using this
      have HX := Lib.hid hbX
      clear hX hbX
      refine (awake_any _).mono ?_
      rintro e V9 ⟨rfl, hb9⟩
      go_wp2_with fail
      go_ret
      exact ⟨rfl, bnext (HbW.out.trans ((HV1.out.trans (HX.out.mono (by omega))).mono (by omega))) hb9⟩
    · have hidb : (a.id == b.id) = false := by simpa using hid
      have Hid := Lib.hid hid; clear hid
      go_wp2_with fail
      generalize hX : World.alloc (World.alloc V1 _) _ = X
      have hbX : Below N7 V1 X := by rw [← hX, ← hN7']; exact ((Below.refl _ _).alloc (Nat.le_refl _) _).alloc (by simp) _
      have hsX : X.heap.size = N7 + 2 := by rw [← hX, ← hN7']; simp
      have hx7 : X.heap[N7]? = some (.cells #[.slice A1 x1.length c1] 24 (0, 0)) := by rw [← hX, ← hN7', heap_alloc_old _ _ (by simp), heap_alloc_new]
      have hx8 : X.heap[N7 + 1]? = some (.cells #[.int .i64 0, .int .i64 p.pg.id, .int .i64 p.pg.ver, .string p.pg.body] 33 (0, 0)) := by
        have := heap_alloc_new (V1.alloc (.cells #[.slice A1 x1.length c1] 24)) (.cells #[.int .i64 0, .int .i64 p.pg.id, .int .i64 p.pg.ver, .string p.pg.body] 33)
        rw [← hX, ← hN7']
        simpa using this
      have HX := Lib.hid hbX
      clear hX hbX
      have Hx7 := Lib.hid hx7
      have Hx8 := Lib.hid hx8
      have hs4 : N7 + 2 ≤ X.heap.size := by omega
      clear hx7 hx8 hsX
      obtain ⟨x1', p', x, q, y1, hd1', hd2, hd3, hd4⟩ := apart_plain l a b Hid.out
      obtain ⟨rfl, rfl⟩ : x1 = x1' ∧ p = p' := by rw [hd1] at hd1'; injection hd1' with k1 k2; exact ⟨k1, k2⟩
      have d2 := opsDo_any X A1 c1 x1 b (by omega) ((Hr1.out.below (by rw [hN7']; exact HX.out)).more (by omega))
      rw [hd2] at d2
      refine d2.mono ?_
      clear d2 b0 b1 b2 b3 b4 b5 b6
      rintro e V2 hV2
      obtain ⟨A2, c2, rfl, hAB2, hb2⟩ := hV2.rd (B := N7) (by have := Hr1.out.below (w' := X) (by rw [hN7']; exact HX.out); rwa [hN7'] at this) (by omega)
      have hs2 := hb2.size
      have hW2 : Below W.heap.size W V2 := (HV1.out.trans (HX.out.mono (by omega))).trans (hb2.mono (by omega))
      have hv7 := (hb2.block N7 (by omega)).trans Hx7.out
      have hv8 := (hb2.block (N7 + 1) (by omega)).trans Hx8.out
      obtain ⟨b0, b1, b2, b3, b4, b5, b6⟩ := Hbx.out V2 (by rw [← hsW]; exact hW2)
      have a7 := cells_of hv7 0
      have f7 := frozen_of hv7 0
      simp only [List.getElem?_toArray, List.getElem?_cons_zero] at a7
      have HW2 := Lib.hid hW2
      have Hv7 := Lib.hid hv7
      have Hv8 := Lib.hid hv8
      have HAB2 := Lib.hid hAB2
      have hs5 : N7 + 2 ≤ V2.heap.size := by omega
      obtain ⟨N9, hN9⟩ : ∃ N9, N9 = V2.heap.size := ⟨_, rfl⟩
      have hN9' := hN9.symm
      rw [← hN9] at hs5
      clear hN9
      have hm7 : N7 < N9 := by omega
      have hm8 : N7 + 1 < N9 := by omega
      have hm9 : N < N9 := by omega
      have hm10 : N + 1 < N9 := by omega
      have hm11 : N + 1 + 1 < N9 := by omega
      have hk5 : ¬ N9 = N7 := by omega
      have hk6 : ¬ N7 = N9 := by omega
      have hk7 : ¬ N = N9 := by omega
      have hk8 : ¬ N + 1 = N9 := by omega
      have hk9 : ¬ N + 1 + 1 = N9 := by omega
      have hk1 : ¬ N = N7 := by omega
      have hk2 : ¬ N + 1 = N7 := by omega
      have hk3 : ¬ N + 1 + 1 = N7 := by omega
      have hk4 : ¬ N7 = N := by omega
      clear hV2 hAB2 hb2 hW2 hv7 hv8
      simp only [rsV]
      go_wp2_with fail
      generalize hY : World.alloc (World.setCell V2 _ _) _ = Y
      have hsY : Y.heap.size = N9 + 1 := by rw [← hY]; simp [hN9']
      have hbY : Below w.heap.size w Y := by rw [← hY]; exact ((HbW.out.trans (HW2.out.mono (by omega))).setCell (p := ⟨N7, 0, none⟩) (by show w.heap.size ≤ N7; omega) _).alloc (by simp; omega) _
      have hYk : ∀ j, j ≠ N7 → j < N9 → Y.heap[j]? = V2.heap[j]? := fun j h1 h2 => by rw [← hY, heap_alloc_old _ _ (by simp [hN9']; exact h2), Below.heap_setCell _ _ _ _ h1]
      have hy7 : Y.heap[N7]? = some (.cells #[.slice A2 x.length c2] 24 (0, 0)) := by
        rw [← hY, heap_alloc_old _ _ (by simp [hN9']; exact hm7)]
        exact heap_setCell_same V2 N7 0 _ _ _ Hv7.out
      have hy8 := (hYk (N7 + 1) (by omega) hm8).trans Hv8.out
      have hy9 : Y.heap[N9]? = some (.cells #[.int .i64 q.e, .int .i64 q.pg.id, .int .i64 q.pg.ver, .string q.pg.body] 33 (0, 0)) := by
        have := heap_alloc_new (V2.setCell ⟨N7, 0, none⟩ (.slice A2 x.length c2)) (.cells #[.int .i64 q.e, .int .i64 q.pg.id, .int .i64 q.pg.ver, .string q.pg.body] 33)
        have hsz : (V2.setCell ⟨N7, 0, none⟩ (.slice A2 x.length c2)).heap.size = N9 := by simp [hN9']
        rw [hsz] at this
        rw [← hY]
        exact this
      have hyW : Below (N + 3) W Y := ⟨by rw [← hY]; exact HW2.out.os, by rw [← hY]; exact HW2.out.tape, by rw [← hY]; exact HW2.out.output, by omega, fun j hj => (hYk j (by omega) (by omega)).trans (HW2.out.block j (by omega))⟩
      have hrY : Rd Pg.cells 3 Y Y.heap.size A l := by
        have := Hr.out.below (w' := Y) (by rw [hsW]; exact hyW)
        exact this.more (by omega)
      have hrA2 : Rd Pg.cells 3 Y Y.heap.size A2 x := by
        rcases HAB2.out with h | h
        · exact (h.keep (w' := Y) fun pa hpa => World.cell?_of_block (hYk pa.block (by omega) (by omega))).more (by omega)
        · rw [← hY]
          exact Rd.of_own ((own_setCell h (fun e => by have := (h.lt _ e).1; omega) _).alloc _) pg_len (by decide)
      clear b0 b1 b2 b3 b4 b5 b6 a7 f7
      have HYW := Lib.hid hyW
      have d3 := opsDo_any Y A cap l b (by omega) hrY
      rw [hd3] at d3
      refine d3.mono ?_
      clear d3
      rintro e V3 hV3
      obtain ⟨A3, c3, rfl, hAB3, hb3⟩ := hV3.rd (B := Y.heap.size) hrY (Nat.le_refl _)
      have hs6 := hb3.size
      have hrA3 : Rd Pg.cells 3 V3 V3.heap.size A3 y1 := by
        rcases hAB3 with h | h
        · exact h.more (by omega)
        · exact Rd.of_own h pg_len (by decide)
      obtain ⟨N10, hN10⟩ : ∃ N10, N10 = V3.heap.size := ⟨_, rfl⟩
      have hN10' := hN10.symm
      have hz7 := (hb3.block N7 (by omega)).trans hy7
      have hz8 := (hb3.block (N7 + 1) (by omega)).trans hy8
      have hz9 := (hb3.block N9 (by omega)).trans hy9
      have hzW : Below (N + 3) W V3 := hyW.trans (hb3.mono (by omega))
      have hzb : Below w.heap.size w V3 := hbY.trans (hb3.mono (by omega))
      have HrA2 := Lib.hid (hrA2.below hb3)
      have HrA3 := Lib.hid hrA3
      obtain ⟨b0, b1, b2, b3, b4, b5, b6⟩ := Hbx.out V3 hzW
      have Hz7 := Lib.hid hz7
      have Hz8 := Lib.hid hz8
      have Hz9 := Lib.hid hz9
      have HzW := Lib.hid hzW
      have Hzb := Lib.hid hzb
      have hs7 : N9 + 1 ≤ N10 := by omega
      have HsY := Lib.hid hsY
      have hj0 : N < N10 := by omega
      have hj1 : N + 1 < N10 := by omega
      have hj2 : N + 1 + 1 < N10 := by omega
      rw [hN10'] at HrA3
      clear hV3 hAB3 hb3 hrA3 hz7 hz8 hz9 hzW hzb hrA2 hrY hyW hYk hy7 hy8 hy9 hbY hs6 hY hN10 hsY
      simp only [rsV]
      go_wp2_with fail
      generalize hZ : World.alloc (World.alloc V3 _) _ = Z
      have hbZ : Below N10 V3 Z := by rw [← hZ, ← hN10']; exact ((Below.refl _ _).alloc (Nat.le_refl _) _).alloc (by simp) _
      have hsZ : Z.heap.size = N10 + 2 := by rw [← hZ]; simp [hN10']
      have hz10 : Z.heap[N10]? = some (.cells #[.slice A3 y1.length c3] 24 (0, 0)) := by rw [← hZ, heap_alloc_old _ _ (by simp [hN10']), ← hN10', heap_alloc_new]
      have hz11 : Z.heap[N10 + 1]? = some (.cells #[.int .i64 q.e, .int .i64 q.pg.id, .int .i64 q.pg.ver, .string q.pg.body] 33 (0, 0)) := by
        have := heap_alloc_new (V3.alloc (.cells #[.slice A3 y1.length c3] 24)) (.cells #[.int .i64 q.e, .int .i64 q.pg.id, .int .i64 q.pg.ver, .string q.pg.body] 33)
        rw [← hZ, ← hN10']
        simpa using this
      have hy1 : y1.length ≤ 41 := by have := doM_len l b; rw [hd3] at this; simp at this; omega
      have hx2 : x.length ≤ 42 := by have := doM_len x1 b; rw [hd2] at this; simp at this; omega
      have hrZ3 : Rd Pg.cells 3 Z N10 A3 y1 := HrA3.out.below hbZ
      have d4 := opsDo_any Z A3 c3 y1 a (by omega) (hrZ3.more (by omega))
      rw [hd4] at d4
      refine d4.mono ?_
      clear d4
      rintro e V4 hV4
      obtain ⟨A4, c4, rfl, hAB4, hb4⟩ := hV4.rd (B := N10) hrZ3 (by omega)
      have hs8 := hb4.size
      have g7 := (hb4.block N7 (by omega)).trans ((hbZ.block N7 (by omega)).trans Hz7.out)
      have g8 := (hb4.block (N7 + 1) (by omega)).trans ((hbZ.block (N7 + 1) (by omega)).trans Hz8.out)
      have g9 := (hb4.block N9 (by omega)).trans ((hbZ.block N9 (by omega)).trans Hz9.out)
      have g10 := (hb4.block N10 (by omega)).trans hz10
      have g11 := (hb4.block (N10 + 1) (by omega)).trans hz11
      have HG7 := Lib.hid g7
      have HG8 := Lib.hid g8
      have HG9 := Lib.hid g9
      have HG10 := Lib.hid g10
      have HG11 := Lib.hid g11
      have hbw4 : Below w.heap.size w V4 := Hzb.out.trans ((hbZ.mono (by omega)).trans (hb4.mono (by omega)))
      have hrA24 : Rd Pg.cells 3 V4 N10 A2 x := (HrA2.out.below (w' := V4) (by rw [HsY.out]; exact (hbZ.mono (by omega)).trans (hb4.mono (by omega)))).more (by have := HsY.out; omega)
      have HrA24 := Lib.hid hrA24
      have HB4 := Lib.hid hbw4
      have HAB4 := Lib.hid hAB4
      have a7 := cells_of g7 0
      have a10 := cells_of g10 0
      have f10 := frozen_of g10 0
      simp only [List.getElem?_toArray, List.getElem?_cons_zero] at a7 a10
      obtain ⟨N12, hN12⟩ : ∃ N12, N12 = V4.heap.size := ⟨_, rfl⟩
      have hN12' := hN12.symm
      have hs9 : N10 + 2 ≤ N12 := by omega
      have hl1 : N7 < N12 := by omega
      have hl2 : N10 < N12 := by omega
      have hl3 : ¬ N7 = N10 := by omega
      have hl4 : ¬ N10 = N7 := by omega
      have hl5 : ¬ N10 = N12 := by omega
      have hl6 : ¬ N12 = N10 := by omega
      have hl7 : ¬ N7 = N12 := by omega
      have HsZ := Lib.hid hsZ
      clear hV4 hAB4 hb4 g7 g8 g9 g10 g11 hbw4 hrA24 hZ hbZ hz10 hz11 hrZ3 hs8 hN12 b0 b1 b2 b3 b4 b5 b6 hsZ
      simp only [rsV]
      go_wp2_with fail
      generalize hT : World.alloc (World.setCell V4 _ _) _ = T
      have hsT : T.heap.size = N12 + 1 := by rw [← hT]; simp [hN12']
      have hTk : ∀ j, j ≠ N10 → j < N12 → T.heap[j]? = V4.heap[j]? := fun j h1 h2 => by rw [← hT, heap_alloc_old _ _ (by simp [hN12']; exact h2), Below.heap_setCell _ _ _ _ h1]
      have ht12 : T.heap[N12]? = some (.cells #[.int .i64 0, .int .i64 p.pg.id, .int .i64 p.pg.ver, .string p.pg.body] 33 (0, 0)) := by
        have := heap_alloc_new (V4.setCell ⟨N10, 0, none⟩ (.slice A4 x.length c4)) (.cells #[.int .i64 0, .int .i64 p.pg.id, .int .i64 p.pg.ver, .string p.pg.body] 33)
        have hsz : (V4.setCell ⟨N10, 0, none⟩ (.slice A4 x.length c4)).heap.size = N12 := by simp [hN12']
        rw [hsz] at this
        rw [← hT]
        exact this
      have hrT2 : Rd Pg.cells 3 T T.heap.size A2 x := (HrA24.out.keep (w' := T) fun pa hpa => World.cell?_of_block (hTk pa.block (by omega) (by omega))).more (by omega)
      have hrT4 : Rd Pg.cells 3 T T.heap.size A4 x := by
        rcases HAB4.out with h | h
        · exact (h.keep (w' := T) fun pa hpa => World.cell?_of_block (hTk pa.block (by omega) (by omega))).more (by omega)
        · rw [← hT]
          exact Rd.of_own ((own_setCell h (fun e => by have := (h.lt _ e).1; have := HsZ.out; omega) _).alloc _) pg_len (by decide)
      have hbT : Below w.heap.size w T := by rw [← hT]; exact (HB4.out.setCell (p := ⟨N10, 0, none⟩) (by show w.heap.size ≤ N10; omega) _).alloc (by simp; omega) _
      have d5 := same_any T A2 A4 c2 c4 x x (by omega) (by omega) hrT2 hrT4
      rw [decide_eq_true (rfl : x = x)] at d5
      refine d5.mono ?_
      clear d5 a7 a10 f10
      rintro e V5 ⟨rfl, hb5⟩
      have k8 := (hb5.block (N7 + 1) (by omega)).trans ((hTk (N7 + 1) (by omega) (by omega)).trans HG8.out)
      have k9 := (hb5.block N9 (by omega)).trans ((hTk N9 (by omega) (by omega)).trans HG9.out)
      have k11 := (hb5.block (N10 + 1) (by omega)).trans ((hTk (N10 + 1) (by omega) (by omega)).trans HG11.out)
      have k12 := (hb5.block N12 (by omega)).trans ht12
      have u0 := cells_of k8 0
      have u1 := cells_of k8 1
      have u2 := cells_of k8 2
      have u3 := cells_of k8 3
      have v0 := cells_of k9 0
      have v1 := cells_of k9 1
      have v2 := cells_of k9 2
      have v3 := cells_of k9 3
      have w0 := cells_of k11 0
      have w1 := cells_of k11 1
      have w2 := cells_of k11 2
      have w3 := cells_of k11 3
      have z0 := cells_of k12 0
      have z1 := cells_of k12 1
      have z2 := cells_of k12 2
      have z3 := cells_of k12 3
      simp only [List.getElem?_toArray, List.getElem?_cons_zero, List.getElem?_cons_succ] at u0 u1 u2 u3 v0 v1 v2 v3 w0 w1 w2 w3 z0 z1 z2 z3
      have he1 := fun U => eql_rs_same U 0 p.pg.id p.pg.ver p.pg.body
      have he2 := fun U => eql_rs_same U q.e q.pg.id q.pg.ver q.pg.body
      have HbE := Lib.hid (hbT.trans (hb5.mono (by omega)))
      clear k8 k9 k11 k12 hT hTk ht12 hrT2 hrT4 hbT hb5 hsT
      go_wp2_with fail
      refine (awake_any _).mono ?_
      rintro e V9 ⟨rfl, hb9⟩
      go_wp2_with fail
      go_ret
      exact ⟨rfl, bnext HbE.out hb9⟩
  · obtain ⟨hxl, hpp⟩ := doM_err hd1 hpe
    have hpb : (p.e == 0) = false := by simpa using hpe
    have Hxl := Lib.hid hxl
    have Hpp := Lib.hid hpp
    clear hxl hpp
    by_cases hid : a.id = b.id
    · have hidb : (a.id == b.id) = true := by simpa using hid
      have Hid := Lib.hid hid; clear hid
      go_wp2_with fail
      generalize hXX : World.alloc (World.alloc V1 _) _ = X0
      have hbXX : Below N7 V1 X0 := by rw [← hXX, ← hN7']; exact ((Below.refl _ _).alloc (Nat.le_refl _) _).alloc (by simp) _
      have hsXX : X0.heap.size = N7 + 2 := by rw [← hXX, ← hN7']; simp
      have hx7 : X0.heap[N7]? = some (.cells #[.slice A1 x1.length c1] 24 (0, 0)) := by rw [← hXX, ← hN7', heap_alloc_old _ _ (by simp), heap_alloc_new]
      have hx8 : X0.heap[N7 + 1]? = some (.cells #[.int .i64 p.e, .int .i64 p.pg.id, .int .i64 p.pg.ver, .string p.pg.body] 33 (0, 0)) := by
        have := heap_alloc_new (V1.alloc (.cells #[.slice A1 x1.length c1] 24)) (.cells #[.int .i64 p.e, .int .i64 p.pg.id, .int .i64 p.pg.ver, .string p.pg.body] 33)
        rw [← hXX, ← hN7']
        simpa using this
      have HXX := Lib.hid hbXX
      clear hXX hbXX
      have d0 := same_any X0 A1 A c1 cap x1 l (by omega) (by omega) ((Hr1.out.below (by rw [hN7']; exact HXX.out)).more (by omega)) (Hr.out.up (HV1.out.trans (HXX.out.mono (by omega))))
      rw [decide_eq_true Hxl.out] at d0
      refine d0.mono ?_
      clear d0
      rintro e X ⟨rfl, hb5⟩
      have hx7' := (hb5.block N7 (by omega)).trans hx7
      have hx8' := (hb5.block (N7 + 1) (by omega)).trans hx8
      have hX' : Below N7 V1 X := HXX.out.trans (hb5.mono (by omega))
      have hs4 : N7 + 2 ≤ X.heap.size := by have := hb5.size; omega
      have HX := Lib.hid hX'
      have Hx7 := Lib.hid hx7'
      have Hx8 := Lib.hid hx8'
      clear b0 b1 b2 b3 b4 b5 b6
      obtain ⟨b0, b1, b2, b3, b4, b5, b6⟩ := Hbx.out X (by rw [← hsW]; exact HV1.out.trans (hX'.mono (by omega)))
      have a7 := cells_of hx7' 0
      have u0 := cells_of hx8' 0
      have u1 := cells_of hx8' 1
      have u2 := cells_of hx8' 2
      have u3 := cells_of hx8' 3
      simp only [List.getElem?_toArray, List.getElem?_cons_zero, List.getElem?_cons_succ] at a7 u0 u1 u2 u3
      rw [Hpp.out] at u1 u2 u3
      simp only [pg0] at u1 u2 u3
      have hneq0 := fun U => neq_pg U pg0 pg0
      simp only [pg0, not_true, decide_false] at hneq0
      clear hb5 hx7' hx8' hX' hx7 hx8 hsXX
      go_wp2_with fail
      refine (awake_any _).mono ?_
      rintro e V9 ⟨rfl, hb9⟩
      go_wp2_with fail
      go_ret
      exact ⟨rfl, bnext (HbW.out.trans ((HV1.out.trans (HX.out.mono (by omega))).mono (by omega))) hb9⟩
    · have hidb : (a.id == b.id) = false := by simpa using hid
      have Hid := Lib.hid hid; clear hid
      go_wp2_with fail
      generalize hXX : World.alloc (World.alloc V1 _) _ = X0
      have hbXX : Below N7 V1 X0 := by rw [← hXX, ← hN7']; exact ((Below.refl _ _).alloc (Nat.le_refl _) _).alloc (by simp) _
      have hsXX : X0.heap.size = N7 + 2 := by rw [← hXX, ← hN7']; simp
      have hx7 : X0.heap[N7]? = some (.cells #[.slice A1 x1.length c1] 24 (0, 0)) := by rw [← hXX, ← hN7', heap_alloc_old _ _ (by simp), heap_alloc_new]
      have hx8 : X0.heap[N7 + 1]? = some (.cells #[.int .i64 p.e, .int .i64 p.pg.id, .int .i64 p.pg.ver, .string p.pg.body] 33 (0, 0)) := by
        have := heap_alloc_new (V1.alloc (.cells #[.slice A1 x1.length c1] 24)) (.cells #[.int .i64 p.e, .int .i64 p.pg.id, .int .i64 p.pg.ver, .string p.pg.body] 33)
        rw [← hXX, ← hN7']
        simpa using this
      have HXX := Lib.hid hbXX
      clear hXX hbXX
      have d0 := same_any X0 A1 A c1 cap x1 l (by omega) (by omega) ((Hr1.out.below (by rw [hN7']; exact HXX.out)).more (by omega)) (Hr.out.up (HV1.out.trans (HXX.out.mono (by omega))))
      rw [decide_eq_true Hxl.out] at d0
      refine d0.mono ?_
      clear d0
      rintro e X ⟨rfl, hb5⟩
      have hx7' := (hb5.block N7 (by omega)).trans hx7
      have hx8' := (hb5.block (N7 + 1) (by omega)).trans hx8
      have hX' : Below N7 V1 X := HXX.out.trans (hb5.mono (by omega))
      have hs4 : N7 + 2 ≤ X.heap.size := by have := hb5.size; omega
      have HX := Lib.hid hX'
      have Hx7 := Lib.hid hx7'
      have Hx8 := Lib.hid hx8'
      clear b0 b1 b2 b3 b4 b5 b6
      obtain ⟨b0, b1, b2, b3, b4, b5, b6⟩ := Hbx.out X (by rw [← hsW]; exact HV1.out.trans (hX'.mono (by omega)))
      have a7 := cells_of hx7' 0
      have u0 := cells_of hx8' 0
      have u1 := cells_of hx8' 1
      have u2 := cells_of hx8' 2
      have u3 := cells_of hx8' 3
      simp only [List.getElem?_toArray, List.getElem?_cons_zero, List.getElem?_cons_succ] at a7 u0 u1 u2 u3
      rw [Hpp.out] at u1 u2 u3
      simp only [pg0] at u1 u2 u3
      have hneq0 := fun U => neq_pg U pg0 pg0
      simp only [pg0, not_true, decide_false] at hneq0
      clear hb5 hx7' hx8' hX' hx7 hx8 hsXX
      go_wp2_with fail
      clear a7 u0 u1 u2 u3 hneq0
      obtain ⟨x1', p', x, q, y1, hd1', hd2, hd3, hd4⟩ := apart_plain l a b Hid.out
      obtain ⟨rfl, rfl⟩ : x1 = x1' ∧ p = p' := by rw [hd1] at hd1'; injection hd1' with k1 k2; exact ⟨k1, k2⟩
      have d2 := opsDo_any X A1 c1 x1 b (by omega) ((Hr1.out.below (by rw [hN7']; exact HX.out)).more (by omega))
      rw [hd2] at d2
      refine d2.mono ?_
      clear d2 b0 b1 b2 b3 b4 b5 b6
      rintro e V2 hV2
      obtain ⟨A2, c2, rfl, hAB2, hb2⟩ := hV2.rd (B := N7) (by have := Hr1.out.below (w' := X) (by rw [hN7']; exact HX.out); rwa [hN7'] at this) (by omega)
      have hs2 := hb2.size
      have hW2 : Below W.heap.size W V2 := (HV1.out.trans (HX.out.mono (by omega))).trans (hb2.mono (by omega))
      have hv7 := (hb2.block N7 (by omega)).trans Hx7.out
      have hv8 := (hb2.block (N7 + 1) (by omega)).trans Hx8.out
      obtain ⟨b0, b1, b2, b3, b4, b5, b6⟩ := Hbx.out V2 (by rw [← hsW]; exact hW2)
      have a7 := cells_of hv7 0
      have f7 := frozen_of hv7 0
      simp only [List.getElem?_toArray, List.getElem?_cons_zero] at a7
      have HW2 := Lib.hid hW2
      have Hv7 := Lib.hid hv7
      have Hv8 := Lib.hid hv8
      have HAB2 := Lib.hid hAB2
      have hs5 : N7 + 2 ≤ V2.heap.size := by omega
      obtain ⟨N9, hN9⟩ : ∃ N9, N9 = V2.heap.size := ⟨_, rfl⟩
      have hN9' := hN9.symm
      rw [← hN9] at hs5
      clear hN9
      have hm7 : N7 < N9 := by omega
      have hm8 : N7 + 1 < N9 := by omega
      have hm9 : N < N9 := by omega
      have hm10 : N + 1 < N9 := by omega
      have hm11 : N + 1 + 1 < N9 := by omega
      have hk5 : ¬ N9 = N7 := by omega
      have hk6 : ¬ N7 = N9 := by omega
      have hk7 : ¬ N = N9 := by omega
      have hk8 : ¬ N + 1 = N9 := by omega
      have hk9 : ¬ N + 1 + 1 = N9 := by omega
      have hk1 : ¬ N = N7 := by omega
      have hk2 : ¬ N + 1 = N7 := by omega
      have hk3 : ¬ N + 1 + 1 = N7 := by omega
      have hk4 : ¬ N7 = N := by omega
      clear hV2 hAB2 hb2 hW2 hv7 hv8
      simp only [rsV]
      go_wp2_with fail
      generalize hY : World.alloc (World.setCell V2 _ _) _ = Y
      have hsY : Y.heap.size = N9 + 1 := by rw [← hY]; simp [hN9']
      have hbY : Below w.heap.size w Y := by rw [← hY]; exact ((HbW.out.trans (HW2.out.mono (by omega))).setCell (p := ⟨N7, 0, none⟩) (by show w.heap.size ≤ N7; omega) _).alloc (by simp; omega) _
      have hYk : ∀ j, j ≠ N7 → j < N9 → Y.heap[j]? = V2.heap[j]? := fun j h1 h2 => by rw [← hY, heap_alloc_old _ _ (by simp [hN9']; exact h2), Below.heap_setCell _ _ _ _ h1]
      have hy7 : Y.heap[N7]? = some (.cells #[.slice A2 x.length c2] 24 (0, 0)) := by
        rw [← hY, heap_alloc_old _ _ (by simp [hN9']; exact hm7)]
        exact heap_setCell_same V2 N7 0 _ _ _ Hv7.out
      have hy8 := (hYk (N7 + 1) (by omega) hm8).trans Hv8.out
      have hy9 : Y.heap[N9]? = some (.cells #[.int .i64 q.e, .int .i64 q.pg.id, .int .i64 q.pg.ver, .string q.pg.body] 33 (0, 0)) := by
        have := heap_alloc_new (V2.setCell ⟨N7, 0, none⟩ (.slice A2 x.length c2)) (.cells #[.int .i64 q.e, .int .i64 q.pg.id, .int .i64 q.pg.ver, .string q.pg.body] 33)
        have hsz : (V2.setCell ⟨N7, 0, none⟩ (.slice A2 x.length c2)).heap.size = N9 := by simp [hN9']
        rw [hsz] at this
        rw [← hY]
        exact this
      have hyW : Below (N + 3) W Y := ⟨by rw [← hY]; exact HW2.out.os, by rw [← hY]; exact HW2.out.tape, by rw [← hY]; exact HW2.out.output, by omega, fun j hj => (hYk j (by omega) (by omega)).trans (HW2.out.block j (by omega))⟩
      have hrY : Rd Pg.cells 3 Y Y.heap.size A l := by
        have := Hr.out.below (w' := Y) (by rw [hsW]; exact hyW)
        exact this.more (by omega)
      have hrA2 : Rd Pg.cells 3 Y Y.heap.size A2 x := by
        rcases HAB2.out with h | h
        · exact (h.keep (w' := Y) fun pa hpa => World.cell?_of_block (hYk pa.block (by omega) (by omega))).more (by omega)
        · rw [← hY]
          exact Rd.of_own ((own_setCell h (fun e => by have := (h.lt _ e).1; omega) _).alloc _) pg_len (by decide)
      clear b0 b1 b2 b3 b4 b5 b6 a7 f7
      have HYW := Lib.hid hyW
      have d3 := opsDo_any Y A cap l b (by omega) hrY
      rw [hd3] at d3
      refine d3.mono ?_
      clear d3
      rintro e V3 hV3
      obtain ⟨A3, c3, rfl, hAB3, hb3⟩ := hV3.rd (B := Y.heap.size) hrY (Nat.le_refl _)
      have hs6 := hb3.size
      have hrA3 : Rd Pg.cells 3 V3 V3.heap.size A3 y1 := by
        rcases hAB3 with h | h
        · exact h.more (by omega)
        · exact Rd.of_own h pg_len (by decide)
      obtain ⟨N10, hN10⟩ : ∃ N10, N10 = V3.heap.size := ⟨_, rfl⟩
      have hN10' := hN10.symm
      have hz7 := (hb3.block N7 (by omega)).trans hy7
      have hz8 := (hb3.block (N7 + 1) (by omega)).trans hy8
      have hz9 := (hb3.block N9 (by omega)).trans hy9
      have hzW : Below (N + 3) W V3 := hyW.trans (hb3.mono (by omega))
      have hzb : Below w.heap.size w V3 := hbY.trans (hb3.mono (by omega))
      have HrA2 := Lib.hid (hrA2.below hb3)
      have HrA3 := Lib.hid hrA3
      obtain ⟨b0, b1, b2, b3, b4, b5, b6⟩ := Hbx.out V3 hzW
      have Hz7 := Lib.hid hz7
      have Hz8 := Lib.hid hz8
      have Hz9 := Lib.hid hz9
      have HzW := Lib.hid hzW
      have Hzb := Lib.hid hzb
      have hs7 : N9 + 1 ≤ N10 := by omega
      have HsY := Lib.hid hsY
      have hj0 : N < N10 := by omega
      have hj1 : N + 1 < N10 := by omega
      have hj2 : N + 1 + 1 < N10 := by omega
      rw [hN10'] at HrA3
      clear hV3 hAB3 hb3 hrA3 hz7 hz8 hz9 hzW hzb hrA2 hrY hyW hYk hy7 hy8 hy9 hbY hs6 hY hN10 hsY
      simp only [rsV]
      go_wp2_with fail
      generalize hZ : World.alloc (World.alloc V3 _) _ = Z
      have hbZ : Below N10 V3 Z := by rw [← hZ, ← hN10']; exact ((Below.refl _ _).alloc (Nat.le_refl _) _).alloc (by simp) _
      have hsZ : Z.heap.size = N10 + 2 := by rw [← hZ]; simp [hN10']
      have hz10 : Z.heap[N10]? = some (.cells #[.slice A3 y1.length c3] 24 (0, 0)) := by rw [← hZ, heap_alloc_old _ _ (by simp [hN10']), ← hN10', heap_alloc_new]
      have hz11 : Z.heap[N10 + 1]? = some (.cells #[.int .i64 q.e, .int .i64 q.pg.id, .int .i64 q.pg.ver, .string q.pg.body] 33 (0, 0)) := by
        have := heap_alloc_new (V3.alloc (.cells #[.slice A3 y1.length c3] 24)) (.cells #[.int .i64 q.e, .int .i64 q.pg.id, .int .i64 q.pg.ver, .string q.pg.body] 33)
        rw [← hZ, ← hN10']
        simpa using this
      have hy1 : y1.length ≤ 41 := by have := doM_len l b; rw [hd3] at this; simp at this; omega
      have hx2 : x.length ≤ 42 := by have := doM_len x1 b; rw [hd2] at this; simp at this; omega
      have hrZ3 : Rd Pg.cells 3 Z N10 A3 y1 := HrA3.out.below hbZ
      have d4 := opsDo_any Z A3 c3 y1 a (by omega) (hrZ3.more (by omega))
      rw [hd4] at d4
      refine d4.mono ?_
      clear d4
      rintro e V4 hV4
      obtain ⟨A4, c4, rfl, hAB4, hb4⟩ := hV4.rd (B := N10) hrZ3 (by omega)
      have hs8 := hb4.size
      have g7 := (hb4.block N7 (by omega)).trans ((hbZ.block N7 (by omega)).trans Hz7.out)
      have g8 := (hb4.block (N7 + 1) (by omega)).trans ((hbZ.block (N7 + 1) (by omega)).trans Hz8.out)
      have g9 := (hb4.block N9 (by omega)).trans ((hbZ.block N9 (by omega)).trans Hz9.out)
      have g10 := (hb4.block N10 (by omega)).trans hz10
      have g11 := (hb4.block (N10 + 1) (by omega)).trans hz11
      have HG7 := Lib.hid g7
      have HG8 := Lib.hid g8
      have HG9 := Lib.hid g9
      have HG10 := Lib.hid g10
      have HG11 := Lib.hid g11
      have hbw4 : Below w.heap.size w V4 := Hzb.out.trans ((hbZ.mono (by omega)).trans (hb4.mono (by omega)))
      have hrA24 : Rd Pg.cells 3 V4 N10 A2 x := (HrA2.out.below (w' := V4) (by rw [HsY.out]; exact (hbZ.mono (by omega)).trans (hb4.mono (by omega)))).more (by have := HsY.out; omega)
      have HrA24 := Lib.hid hrA24
      have HB4 := Lib.hid hbw4
      have HAB4 := Lib.hid hAB4
      have a7 := cells_of g7 0
      have a10 := cells_of g10 0
      have f10 := frozen_of g10 0
      simp only [List.getElem?_toArray, List.getElem?_cons_zero] at a7 a10
      obtain ⟨N12, hN12⟩ : ∃ N12, N12 = V4.heap.size := ⟨_, rfl⟩
      have hN12' := hN12.symm
      have hs9 : N10 + 2 ≤ N12 := by omega
      have hl1 : N7 < N12 := by omega
      have hl2 : N10 < N12 := by omega
      have hl3 : ¬ N7 = N10 := by omega
      have hl4 : ¬ N10 = N7 := by omega
      have hl5 : ¬ N10 = N12 := by omega
      have hl6 : ¬ N12 = N10 := by omega
      have hl7 : ¬ N7 = N12 := by omega
      have HsZ := Lib.hid hsZ
      clear hV4 hAB4 hb4 g7 g8 g9 g10 g11 hbw4 hrA24 hZ hbZ hz10 hz11 hrZ3 hs8 hN12 b0 b1 b2 b3 b4 b5 b6 hsZ
      simp only [rsV]
      go_wp2_with fail
      generalize hT : World.alloc (World.setCell V4 _ _) _ = T
      have hsT : T.heap.size = N12 + 1 := by rw [← hT]; simp [hN12']
      have hTk : ∀ j, j ≠ N10 → j < N12 → T.heap[j]? = V4.heap[j]? := fun j h1 h2 => by rw [← hT, heap_alloc_old _ _ (by simp [hN12']; exact h2), Below.heap_setCell _ _ _ _ h1]
      have ht12 : T.heap[N12]? = some (.cells #[.int .i64 p.e, .int .i64 p.pg.id, .int .i64 p.pg.ver, .string p.pg.body] 33 (0, 0)) := by
        have := heap_alloc_new (V4.setCell ⟨N10, 0, none⟩ (.slice A4 x.length c4)) (.cells #[.int .i64 p.e, .int .i64 p.pg.id, .int .i64 p.pg.ver, .string p.pg.body] 33)
        have hsz : (V4.setCell ⟨N10, 0, none⟩ (.slice A4 x.length c4)).heap.size = N12 := by simp [hN12']
        rw [hsz] at this
        rw [← hT]
        exact this
      have hrT2 : Rd Pg.cells 3 T T.heap.size A2 x := (HrA24.out.keep (w' := T) fun pa hpa => World.cell?_of_block (hTk pa.block (by omega) (by omega))).more (by omega)
      have hrT4 : Rd Pg.cells 3 T T.heap.size A4 x := by
        rcases HAB4.out with h | h
        · exact (h.keep (w' := T) fun pa hpa => World.cell?_of_block (hTk pa.block (by omega) (by omega))).more (by omega)
        · rw [← hT]
          exact Rd.of_own ((own_setCell h (fun e => by have := (h.lt _ e).1; have := HsZ.out; omega) _).alloc _) pg_len (by decide)
      have hbT : Below w.heap.size w T := by rw [← hT]; exact (HB4.out.setCell (p := ⟨N10, 0, none⟩) (by show w.heap.size ≤ N10; omega) _).alloc (by simp; omega) _
      have d5 := same_any T A2 A4 c2 c4 x x (by omega) (by omega) hrT2 hrT4
      rw [decide_eq_true (rfl : x = x)] at d5
      refine d5.mono ?_
      clear d5 a7 a10 f10
      rintro e V5 ⟨rfl, hb5⟩
      have k8 := (hb5.block (N7 + 1) (by omega)).trans ((hTk (N7 + 1) (by omega) (by omega)).trans HG8.out)
      have k9 := (hb5.block N9 (by omega)).trans ((hTk N9 (by omega) (by omega)).trans HG9.out)
      have k11 := (hb5.block (N10 + 1) (by omega)).trans ((hTk (N10 + 1) (by omega) (by omega)).trans HG11.out)
      have k12 := (hb5.block N12 (by omega)).trans ht12
      have u0 := cells_of k8 0
      have u1 := cells_of k8 1
      have u2 := cells_of k8 2
      have u3 := cells_of k8 3
      have v0 := cells_of k9 0
      have v1 := cells_of k9 1
      have v2 := cells_of k9 2
      have v3 := cells_of k9 3
      have w0 := cells_of k11 0
      have w1 := cells_of k11 1
      have w2 := cells_of k11 2
      have w3 := cells_of k11 3
      have z0 := cells_of k12 0
      have z1 := cells_of k12 1
      have z2 := cells_of k12 2
      have z3 := cells_of k12 3
      simp only [List.getElem?_toArray, List.getElem?_cons_zero, List.getElem?_cons_succ] at u0 u1 u2 u3 v0 v1 v2 v3 w0 w1 w2 w3 z0 z1 z2 z3
      have he1 := fun U => eql_rs_same U p.e p.pg.id p.pg.ver p.pg.body
      have he2 := fun U => eql_rs_same U q.e q.pg.id q.pg.ver q.pg.body
      have HbE := Lib.hid (hbT.trans (hb5.mono (by omega)))
      clear k8 k9 k11 k12 hT hTk ht12 hrT2 hrT4 hbT hb5 hsT
      go_wp2_with fail
      refine (awake_any _).mono ?_
      rintro e V9 ⟨rfl, hb9⟩
      go_wp2_with fail
      go_ret
      exact ⟨rfl, bnext HbE.out hb9⟩
end Go.Proofs.Ytbnegkkjgkignaa
