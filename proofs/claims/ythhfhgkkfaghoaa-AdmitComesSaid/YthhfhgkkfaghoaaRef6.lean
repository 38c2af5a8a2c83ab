/- The contracts of lockkeeperref11.Pin and Unpin. -/
import Derived.Test.YthhfhgkkfaghoaaRefQ
namespace Go.Proofs.Ythhfhgkkfaghoaa
open Go.RowKit
set_option maxRecDepth 20000 in
set_option maxHeartbeats 4000000 in
theorem refUnpin_any (w : World) (ok : Nat → Prop) (A Q : Option Addr) (ac qc : Nat) (x : Hall) (who : Int) (hl1 : x.cs.length ≤ 1000) (hl2 : x.q.length ≤ 1000) (hok : ∀ b, ok b → b < w.heap.size) (hm : HM w ok x A ac Q qc) :
    Calls Try.prog 24 #[.agg #[.int .i64 x.frames, .int .i64 x.budget, .slice A x.cs.length ac, .slice Q x.q.length qc], .int .i64 who] w (PinDone ok (unpinM x who) w) := by
  obtain ⟨W, hW, hbW, hsW, hB, hR⟩ := hall_box2 w A Q ac qc x 29
  have HmW := Lib.hid (hm.below hbW hok)
  have HmW' := Lib.hid ((hm.below hbW hok).imp (ok' := fun b => b < W.heap.size) fun b hb => by have := hok b hb; omega)
  have HbW := Lib.hid hbW
  have Hok := Lib.hid hok
  have HB' := Lib.hid hB
  have HR' := Lib.hid hR
  have lt := hB.lt
  have ltR := hR.lt
  have HW := Lib.hid hW.symm
  clear hW hbW hm hok
  obtain ⟨c0, c1, c2, c3, _, _, _, _, _⟩ := hB
  have d1 := refHall_any W A Q ac qc x hl1 hl2 HmW'.out.c HmW'.out.q
  obtain ⟨rt, hrt⟩ : ∃ rt, rt = x.right := ⟨_, rfl⟩
  rw [← hrt] at d1
  have Hd1 := Lib.hid d1
  have Hrt := Lib.hid hrt
  clear hrt d1
  have hsame : ∀ V, Below W.heap.size W V → ∀ n, PinDone ok (x, n) w (.returned (.tuple #[.agg #[.int .i64 x.frames, .int .i64 x.budget, .slice A x.cs.length ac, .slice Q x.q.length qc], .int .i64 n])) (fill4 V (w.heap.size + 1) x A ac Q qc) := fun V hV n => by
    refine ⟨A, ac, Q, qc, rfl, ?_, fill4_below (HbW.out.trans (hV.mono (by omega))) (by omega)⟩
    exact ((HmW.out.below hV (fun b hb => by have := Hok.out b hb; omega)).keep fun b hb => fill4_keep (by have := Hok.out b hb; omega)).imp fun b hb => .inl hb
  have Hsame := Lib.hid hsame
  clear hsame hR
  go_enter Try.func24, Try.ntmps24
  go_wp2_with fail
  rw [HW.out]
  refine Hd1.out.mono ?_
  rintro e V ⟨rfl, hb1⟩
  have Hb1 := Lib.hid hb1
  clear c0 c1 c2 c3 hb1
  have hsV := Hb1.out.size
  obtain ⟨c0, c1, c2, c3, _, _, _, _, ltV⟩ := HB'.out.up Hb1.out lt
  obtain ⟨r0, r1, r2, r3, k0, k1, k2, k3, ltRV⟩ := HR'.out.up Hb1.out ltR
  cases rt with
  | false =>
    have hpm : unpinM x who = (x, 1) := by rw [unpinM, if_pos Hrt.out.symm]
    have Hpm := Lib.hid hpm
    clear hpm
    go_wp2_with fail
    have hbx := (HR'.out.up Hb1.out (by omega)).hb.fill (r := x) (A' := A) (ac' := ac) (Q' := Q) (qc' := qc)
    unfold fill4 at hbx
    obtain ⟨y0, y1, y2, y3, _, _, _, _, _⟩ := hbx
    refine bodyPost_ret (v := .tuple #[.agg #[.int .i64 x.frames, .int .i64 x.budget, .slice A x.cs.length ac, .slice Q x.q.length qc], .int .i64 1]) (by simp [results, Try.results24, go_sem, y0, y1, y2, y3]) rfl ?_
    rw [Hpm.out]
    have hd := Hsame.out _ Hb1.out 1
    unfold fill4 at hd
    exact hd
  | true =>
    have hpm := (refUnpin_is Hrt.out.symm who).symm
    rw [refUnpinM] at hpm
    obtain ⟨c, b, hcb⟩ : ∃ c b, clientC x.cs who = (c, b) := ⟨_, _, rfl⟩
    rw [hcb] at hpm
    have Hpm0 := Lib.hid hpm
    have hcl := refClient_any V A Q ac qc x who hl1 (HmW'.out.c.up Hb1.out)
    rw [hcb] at hcl
    have Hcl := Lib.hid hcl
    have hp := (right_pre.1 Hrt.out.symm).1
    have Hp := Lib.hid hp; have Hcb := Lib.hid hcb
    clear hp hcl hpm hcb
    go_wp2_with fail
    refine Hcl.out.mono ?_
    clear Hcl
    rintro e V2 ⟨rfl, hb2⟩
    have Hb2 := Lib.hid (bnext (Below.refl _ _) (Hb1.out.trans (hb2.mono Hb1.out.size)))
    clear hb2 c0 c1 c2 c3 r0 r1 r2 r3 k0 k1 k2 k3 ltV ltRV
    obtain ⟨M, hM⟩ : ∃ M, M = V2.heap.size := ⟨_, rfl⟩
    obtain ⟨V3, hV3⟩ : ∃ V3, V3 = V2.alloc (.cells #[.int .i64 c.who, .int .i64 c.claim, .int .i64 c.held] 65) := ⟨_, rfl⟩
    have Hb3 := Lib.hid (show Below W.heap.size W V3 by rw [hV3]; exact Hb2.out.alloc Hb2.out.size _)
    have HMV := Lib.hid (show V3.heap[M]? = some (.cells #[.int .i64 c.who, .int .i64 c.claim, .int .i64 c.held] 65 (0, 0)) by rw [hV3, hM, heap_alloc_new])
    have HV3 := Lib.hid hV3.symm; have HM := Lib.hid hM.symm
    clear hV3 hM
    simp only
    cases b with
    | false =>
      have Hpm := Lib.hid (show unpinM x who = (x, 3) by rw [Hpm0.out, if_pos rfl])
      go_upto_region 4 with fail
      rw [HV3.out, HM.out]
      obtain ⟨c0, c1, c2, c3, _, _, _, _, ltV⟩ := HB'.out.up Hb3.out lt
      obtain ⟨r0, r1, r2, r3, k0, k1, k2, k3, ltRV⟩ := HR'.out.up Hb3.out ltR
      go_wp2_with fail
      have hbx := (HR'.out.up Hb3.out (by omega)).hb.fill (r := x) (A' := A) (ac' := ac) (Q' := Q) (qc' := qc)
      unfold fill4 at hbx
      obtain ⟨y0, y1, y2, y3, _, _, _, _, _⟩ := hbx
      refine bodyPost_ret (v := .tuple #[.agg #[.int .i64 x.frames, .int .i64 x.budget, .slice A x.cs.length ac, .slice Q x.q.length qc], .int .i64 3]) (by simp [results, Try.results24, go_sem, y0, y1, y2, y3]) rfl ?_
      rw [Hpm.out]
      have hd := Hsame.out _ Hb3.out 3
      unfold fill4 at hd
      exact hd
    | true =>
      have hpm1 := Hpm0.out
      rw [if_neg (by simp)] at hpm1
      have Hpm1 := Lib.hid hpm1
      clear hpm1
      go_upto_region 4 with fail
      rw [HV3.out, HM.out]
      obtain ⟨c0, c1, c2, c3, _, _, _, _, ltV⟩ := HB'.out.up Hb3.out lt
      obtain ⟨r0, r1, r2, r3, k0, k1, k2, k3, ltRV⟩ := HR'.out.up Hb3.out ltR
      have m0 : V3.cell? ⟨M, 0, none⟩ = some (.int .i64 c.who) := cells_of HMV.out 0
      have m1 : V3.cell? ⟨M, 1, none⟩ = some (.int .i64 c.claim) := cells_of HMV.out 1
      have m2 : V3.cell? ⟨M, 2, none⟩ = some (.int .i64 c.held) := cells_of HMV.out 2
      have mlt : M < V3.heap.size := (Array.getElem?_eq_some_iff.1 HMV.out).1
      by_cases h1 : c.held = 0
      · have h1b : (c.held == 0) = true := by simpa using h1
        have Hpm := Lib.hid (show unpinM x who = (x, 12) by rw [Hpm1.out, if_pos h1])
        clear h1
        go_wp2_with fail
        have hbx := (HR'.out.up Hb3.out (by omega)).hb.fill (r := x) (A' := A) (ac' := ac) (Q' := Q) (qc' := qc)
        unfold fill4 at hbx
        obtain ⟨y0, y1, y2, y3, _, _, _, _, _⟩ := hbx
        refine bodyPost_ret (v := .tuple #[.agg #[.int .i64 x.frames, .int .i64 x.budget, .slice A x.cs.length ac, .slice Q x.q.length qc], .int .i64 12]) (by simp [results, Try.results24, go_sem, y0, y1, y2, y3]) rfl ?_
        rw [Hpm.out]
        have hd := Hsame.out _ Hb3.out 12
        unfold fill4 at hd
        exact hd
      have h1b : (c.held == 0) = false := by simpa using h1
      have hpm2 := Hpm1.out
      rw [if_neg h1] at hpm2
      have Hpm2 := Lib.hid hpm2
      have Hh1 := Lib.hid h1
      clear h1 hpm2 r0 r1 r2 r3 k0 k1 k2 k3 ltRV
      have hmo := refMore_any V3 ok A Q ac qc x who (-1) hl1 (smallC_of Hp.out.cs) (by omega) (by omega) (fun b hb => by have := Hok.out b hb; have := Hb3.out.size; omega) (HmW.out.below Hb3.out (fun b hb => by have := Hok.out b hb; omega))
      obtain ⟨y, hy⟩ : ∃ y, y = moreH x who (-1) := ⟨_, rfl⟩
      have hmo2 : Calls Try.prog 48 #[.agg #[.int .i64 x.frames, .int .i64 x.budget, .slice A x.cs.length ac, .slice Q x.q.length qc], .int .i64 who, .int .i64 (-1)] V3 (HallDone ok y V3) := by rw [hy]; exact hmo
      rw [← hy] at Hpm2
      have Hmo := Lib.hid hmo2; have Hy := Lib.hid hy
      clear hmo hmo2 hy
      go_wp2_with fail
      refine Hmo.out.mono ?_
      clear Hmo
      rintro e V4 ⟨A4, a4, Q4, q4, rfl, hm4, hb4⟩
      have Hm4 := Lib.hid hm4
      have Hb4 := Lib.hid (Hb3.out.trans (hb4.mono Hb3.out.size))
      have Hq4 := Lib.hid hb4
      clear hm4 hb4 c0 c1 c2 c3 ltV m0 m1 m2 mlt HMV
      obtain ⟨r0, r1, r2, r3, k0, k1, k2, k3, ltRV⟩ := HR'.out.up Hb4.out ltR
      have hfin : PinDone ok (y, 0) w (.returned (.tuple #[.agg #[.int .i64 y.frames, .int .i64 y.budget, .slice A4 y.cs.length a4, .slice Q4 y.q.length q4], .int .i64 0])) (fill4 V4 (w.heap.size + 1) y A4 a4 Q4 q4) := by
        refine ⟨A4, a4, Q4, q4, rfl, (Hm4.out.keep fun b hb => fill4_keep ?_).imp fun b hb => ?_, fill4_below (HbW.out.trans (Hb4.out.mono (by omega))) (by omega)⟩
        · rcases hb with h | h
          · have := Hok.out b h; omega
          · have := Hb3.out.size; omega
        · rcases hb with h | h
          · exact .inl h
          · exact .inr ⟨by have := Hb3.out.size; omega, by rw [fill4_size]; exact h.2⟩
      have Hfin := Lib.hid hfin
      clear hfin
      go_wp2_with fail
      have hbx := (HR'.out.up Hb4.out (by omega)).hb.fill (r := y) (A' := A4) (ac' := a4) (Q' := Q4) (qc' := q4)
      unfold fill4 at hbx
      obtain ⟨y0, y1, y2, y3, _, _, _, _, _⟩ := hbx
      refine bodyPost_ret (v := .tuple #[.agg #[.int .i64 y.frames, .int .i64 y.budget, .slice A4 y.cs.length a4, .slice Q4 y.q.length q4], .int .i64 0]) (by simp [results, Try.results24, go_sem, y0, y1, y2, y3]) rfl ?_
      rw [Hpm2.out]
      have hd := Hfin.out
      unfold fill4 at hd
      exact hd
set_option maxRecDepth 20000 in
set_option maxHeartbeats 4000000 in
theorem refPin_any (w : World) (ok : Nat → Prop) (A Q : Option Addr) (ac qc : Nat) (x : Hall) (who : Int) (hl1 : x.cs.length ≤ 1000) (hl2 : x.q.length ≤ 1000) (hok : ∀ b, ok b → b < w.heap.size) (hm : HM w ok x A ac Q qc) :
    Calls Try.prog 22 #[.agg #[.int .i64 x.frames, .int .i64 x.budget, .slice A x.cs.length ac, .slice Q x.q.length qc], .int .i64 who] w (PinDone ok (pinM x who) w) := by
  obtain ⟨W, hW, hbW, hsW, hB, hR⟩ := hall_box2 w A Q ac qc x 29
  have HmW := Lib.hid (hm.below hbW hok)
  have HmW' := Lib.hid ((hm.below hbW hok).imp (ok' := fun b => b < W.heap.size) fun b hb => by have := hok b hb; omega)
  have HbW := Lib.hid hbW
  have Hok := Lib.hid hok
  have HB' := Lib.hid hB
  have HR' := Lib.hid hR
  have lt := hB.lt
  have ltR := hR.lt
  have HW := Lib.hid hW.symm
  clear hW hbW hm hok
  obtain ⟨c0, c1, c2, c3, _, _, _, _, _⟩ := hB
  have d1 := refHall_any W A Q ac qc x hl1 hl2 HmW'.out.c HmW'.out.q
  obtain ⟨rt, hrt⟩ : ∃ rt, rt = x.right := ⟨_, rfl⟩
  rw [← hrt] at d1
  have Hd1 := Lib.hid d1
  have Hrt := Lib.hid hrt
  clear hrt d1
  have hsame : ∀ V, Below W.heap.size W V → ∀ n, PinDone ok (x, n) w (.returned (.tuple #[.agg #[.int .i64 x.frames, .int .i64 x.budget, .slice A x.cs.length ac, .slice Q x.q.length qc], .int .i64 n])) (fill4 V (w.heap.size + 1) x A ac Q qc) := fun V hV n => by
    refine ⟨A, ac, Q, qc, rfl, ?_, fill4_below (HbW.out.trans (hV.mono (by omega))) (by omega)⟩
    exact ((HmW.out.below hV (fun b hb => by have := Hok.out b hb; omega)).keep fun b hb => fill4_keep (by have := Hok.out b hb; omega)).imp fun b hb => .inl hb
  have Hsame := Lib.hid hsame
  clear hsame hR
  go_enter Try.func22, Try.ntmps22
  go_wp2_with fail
  rw [HW.out]
  refine Hd1.out.mono ?_
  rintro e V ⟨rfl, hb1⟩
  have Hb1 := Lib.hid hb1
  clear c0 c1 c2 c3 hb1
  have hsV := Hb1.out.size
  obtain ⟨c0, c1, c2, c3, _, _, _, _, ltV⟩ := HB'.out.up Hb1.out lt
  obtain ⟨r0, r1, r2, r3, k0, k1, k2, k3, ltRV⟩ := HR'.out.up Hb1.out ltR
  cases rt with
  | false =>
    have hpm : pinM x who = (x, 1) := by rw [pinM, if_pos Hrt.out.symm]
    have Hpm := Lib.hid hpm
    clear hpm
    go_wp2_with fail
    have hbx := (HR'.out.up Hb1.out (by omega)).hb.fill (r := x) (A' := A) (ac' := ac) (Q' := Q) (qc' := qc)
    unfold fill4 at hbx
    obtain ⟨y0, y1, y2, y3, _, _, _, _, _⟩ := hbx
    refine bodyPost_ret (v := .tuple #[.agg #[.int .i64 x.frames, .int .i64 x.budget, .slice A x.cs.length ac, .slice Q x.q.length qc], .int .i64 1]) (by simp [results, Try.results22, go_sem, y0, y1, y2, y3]) rfl ?_
    rw [Hpm.out]
    have hd := Hsame.out _ Hb1.out 1
    unfold fill4 at hd
    exact hd
  | true =>
    have hpm := (refPin_is Hrt.out.symm who).symm
    rw [refPinM] at hpm
    obtain ⟨c, b, hcb⟩ : ∃ c b, clientC x.cs who = (c, b) := ⟨_, _, rfl⟩
    rw [hcb] at hpm
    have Hpm0 := Lib.hid hpm
    have hcl := refClient_any V A Q ac qc x who hl1 (HmW'.out.c.up Hb1.out)
    rw [hcb] at hcl
    have Hcl := Lib.hid hcl
    have hp := (right_pre.1 Hrt.out.symm).1
    have Hp := Lib.hid hp; have Hcb := Lib.hid hcb
    clear hp hcl hpm hcb
    go_wp2_with fail
    refine Hcl.out.mono ?_
    clear Hcl
    rintro e V2 ⟨rfl, hb2⟩
    have Hb2 := Lib.hid (bnext (Below.refl _ _) (Hb1.out.trans (hb2.mono Hb1.out.size)))
    clear hb2 c0 c1 c2 c3 r0 r1 r2 r3 k0 k1 k2 k3 ltV ltRV
    obtain ⟨M, hM⟩ : ∃ M, M = V2.heap.size := ⟨_, rfl⟩
    obtain ⟨V3, hV3⟩ : ∃ V3, V3 = V2.alloc (.cells #[.int .i64 c.who, .int .i64 c.claim, .int .i64 c.held] 65) := ⟨_, rfl⟩
    have Hb3 := Lib.hid (show Below W.heap.size W V3 by rw [hV3]; exact Hb2.out.alloc Hb2.out.size _)
    have HMV := Lib.hid (show V3.heap[M]? = some (.cells #[.int .i64 c.who, .int .i64 c.claim, .int .i64 c.held] 65 (0, 0)) by rw [hV3, hM, heap_alloc_new])
    have HV3 := Lib.hid hV3.symm; have HM := Lib.hid hM.symm
    clear hV3 hM
    simp only
    cases b with
    | false =>
      have Hpm := Lib.hid (show pinM x who = (x, 3) by rw [Hpm0.out, if_pos rfl])
      go_upto_region 4 with fail
      rw [HV3.out, HM.out]
      obtain ⟨c0, c1, c2, c3, _, _, _, _, ltV⟩ := HB'.out.up Hb3.out lt
      obtain ⟨r0, r1, r2, r3, k0, k1, k2, k3, ltRV⟩ := HR'.out.up Hb3.out ltR
      go_wp2_with fail
      have hbx := (HR'.out.up Hb3.out (by omega)).hb.fill (r := x) (A' := A) (ac' := ac) (Q' := Q) (qc' := qc)
      unfold fill4 at hbx
      obtain ⟨y0, y1, y2, y3, _, _, _, _, _⟩ := hbx
      refine bodyPost_ret (v := .tuple #[.agg #[.int .i64 x.frames, .int .i64 x.budget, .slice A x.cs.length ac, .slice Q x.q.length qc], .int .i64 3]) (by simp [results, Try.results22, go_sem, y0, y1, y2, y3]) rfl ?_
      rw [Hpm.out]
      have hd := Hsame.out _ Hb3.out 3
      unfold fill4 at hd
      exact hd
    | true =>
      have hpm1 := Hpm0.out
      rw [if_neg (by simp)] at hpm1
      have Hpm1 := Lib.hid hpm1
      clear hpm1
      go_upto_region 4 with fail
      rw [HV3.out, HM.out]
      obtain ⟨c0, c1, c2, c3, _, _, _, _, ltV⟩ := HB'.out.up Hb3.out lt
      obtain ⟨r0, r1, r2, r3, k0, k1, k2, k3, ltRV⟩ := HR'.out.up Hb3.out ltR
      have m0 : V3.cell? ⟨M, 0, none⟩ = some (.int .i64 c.who) := cells_of HMV.out 0
      have m1 : V3.cell? ⟨M, 1, none⟩ = some (.int .i64 c.claim) := cells_of HMV.out 1
      have m2 : V3.cell? ⟨M, 2, none⟩ = some (.int .i64 c.held) := cells_of HMV.out 2
      have mlt : M < V3.heap.size := (Array.getElem?_eq_some_iff.1 HMV.out).1
      by_cases h1 : c.held = c.claim
      · have h1b : (c.held == c.claim) = true := by simpa using h1
        have Hpm := Lib.hid (show pinM x who = (x, 10) by rw [Hpm1.out, if_pos h1])
        clear h1
        go_wp2_with fail
        have hbx := (HR'.out.up Hb3.out (by omega)).hb.fill (r := x) (A' := A) (ac' := ac) (Q' := Q) (qc' := qc)
        unfold fill4 at hbx
        obtain ⟨y0, y1, y2, y3, _, _, _, _, _⟩ := hbx
        refine bodyPost_ret (v := .tuple #[.agg #[.int .i64 x.frames, .int .i64 x.budget, .slice A x.cs.length ac, .slice Q x.q.length qc], .int .i64 10]) (by simp [results, Try.results22, go_sem, y0, y1, y2, y3]) rfl ?_
        rw [Hpm.out]
        have hd := Hsame.out _ Hb3.out 10
        unfold fill4 at hd
        exact hd
      have h1b : (c.held == c.claim) = false := by simpa using h1
      have hpm2 := Hpm1.out
      rw [if_neg h1] at hpm2
      have Hpm2 := Lib.hid hpm2
      have Hh1 := Lib.hid h1
      clear h1 hpm2 r0 r1 r2 r3 k0 k1 k2 k3 ltRV
      have hmo := refMore_any V3 ok A Q ac qc x who (1) hl1 (smallC_of Hp.out.cs) (by omega) (by omega) (fun b hb => by have := Hok.out b hb; have := Hb3.out.size; omega) (HmW.out.below Hb3.out (fun b hb => by have := Hok.out b hb; omega))
      obtain ⟨y, hy⟩ : ∃ y, y = moreH x who (1) := ⟨_, rfl⟩
      have hmo2 : Calls Try.prog 48 #[.agg #[.int .i64 x.frames, .int .i64 x.budget, .slice A x.cs.length ac, .slice Q x.q.length qc], .int .i64 who, .int .i64 (1)] V3 (HallDone ok y V3) := by rw [hy]; exact hmo
      rw [← hy] at Hpm2
      have Hmo := Lib.hid hmo2; have Hy := Lib.hid hy
      clear hmo hmo2 hy
      go_wp2_with fail
      refine Hmo.out.mono ?_
      clear Hmo
      rintro e V4 ⟨A4, a4, Q4, q4, rfl, hm4, hb4⟩
      have Hm4 := Lib.hid hm4
      have Hb4 := Lib.hid (Hb3.out.trans (hb4.mono Hb3.out.size))
      have Hq4 := Lib.hid hb4
      clear hm4 hb4 c0 c1 c2 c3 ltV m0 m1 m2 mlt HMV
      have Hm4w := Lib.hid (Hm4.out.imp (ok' := fun b => b < V4.heap.size) fun b hb => by
        have := Hb4.out.size
        rcases hb with h | h
        · have := Hok.out b h; omega
        · exact h.2)
      obtain ⟨P, hP⟩ : ∃ P, P = V4.heap.size := ⟨_, rfl⟩
      obtain ⟨V5, hV5⟩ : ∃ V5, V5 = V4.alloc (.cells #[.int .i64 y.frames, .int .i64 y.budget, .slice A4 y.cs.length a4, .slice Q4 y.q.length q4] 29) := ⟨_, rfl⟩
      have hq5 : Below V4.heap.size V4 V5 := by rw [hV5]; exact (Below.refl _ _).alloc (Nat.le_refl _) _
      have Hb5 := Lib.hid (Hb4.out.trans (hq5.mono Hb4.out.size))
      have HBy := Lib.hid (show HB P y A4 a4 Q4 q4 V5 from HB.of (t := 29) (by rw [hV5, hP, heap_alloc_new]))
      have HrC := Lib.hid (Hm4w.out.c.up hq5)
      have Hm5 := Lib.hid ((Hm4.out.below (B := V4.heap.size) hq5 fun b hb => by
        have := Hb4.out.size
        rcases hb with h | h
        · have := Hok.out b h; omega
        · exact h.2).imp (ok' := fun b => ok b ∨ (V3.heap.size ≤ b ∧ b < V4.heap.size)) fun b hb => hb)
      have HV5 := Lib.hid hV5.symm; have HP := Lib.hid hP.symm
      have hyf : y.frames = x.frames := by rw [Hy.out]; rfl
      have hyl : y.cs.length = x.cs.length := by rw [Hy.out]; exact moreMap_len _ _ _
      have hh := heads_iff.1 Hp.out.heads
      have hc8 := (rightB_perm_iff.1 Hp.out.cs).1
      have hsy : smallC y.cs := by rw [Hy.out]; exact smallC_of (moreH_right Hrt.out.symm Hcb.out (by simpa using h1b))
      have hsf : ∀ V, Below V5.heap.size V5 V → Calls Try.prog 43 #[.agg #[.int .i64 y.frames, .int .i64 y.budget, .slice A4 y.cs.length a4, .slice Q4 y.q.length q4]] V fun e w' => e = .returned (.bool (refSafeB y)) ∧ Below V.heap.size V w' := fun V hV => refSafe_any V A4 Q4 a4 q4 y (by omega) (by omega) (by omega) hsy (HrC.out.up hV)
      obtain ⟨sf, hsfe⟩ : ∃ sf, sf = refSafeB y := ⟨_, rfl⟩
      rw [← hsfe] at hsf Hpm2
      have Hsf := Lib.hid (hsf V5 (Below.refl _ _))
      clear hq5 hV5 hP hyf hyl hh hc8 hsy hsf hsfe
      go_upto_region 9 with fail
      rw [HV5.out, HP.out]
      obtain ⟨b0, b1, b2, b3, _, _, _, _, ltP⟩ := HBy.out
      go_wp2_with fail
      refine Hsf.out.mono ?_
      clear Hsf b0 b1 b2 b3
      rintro e V6 ⟨rfl, hb6⟩
      have Hb6 := Lib.hid (Hb5.out.trans (hb6.mono Hb5.out.size))
      have HBy6 := HBy.out.up hb6 ltP
      have Hm6 := Lib.hid ((Hm5.out.below hb6 (fun b hb => by
        have h5 := Hb5.out.size
        have h6 : V4.heap.size < V5.heap.size := by have := HBy.out.lt; have := HP.out; omega
        rcases hb with h | h
        · have := Hok.out b h; omega
        · omega)).imp (ok' := fun b => ok b ∨ (V3.heap.size ≤ b ∧ b < V6.heap.size)) fun b hb => hb.imp id fun h => ⟨h.1, by
        have h6 : V4.heap.size < V5.heap.size := by have := HBy.out.lt; have := HP.out; omega
        have := hb6.size
        omega⟩)
      clear hb6
      obtain ⟨b0, b1, b2, b3, _, _, _, _, ltP6⟩ := HBy6
      obtain ⟨c0, c1, c2, c3, _, _, _, _, ltV⟩ := HB'.out.up Hb6.out lt
      obtain ⟨r0, r1, r2, r3, k0, k1, k2, k3, ltRV⟩ := HR'.out.up Hb6.out ltR
      cases sf with
      | false =>
        have Hpm := Lib.hid (show pinM x who = (x, 6) by rw [Hpm2.out, if_pos rfl])
        go_wp2_with fail
        have hbx := (HR'.out.up Hb6.out (by omega)).hb.fill (r := x) (A' := A) (ac' := ac) (Q' := Q) (qc' := qc)
        unfold fill4 at hbx
        obtain ⟨y0, y1, y2, y3, _, _, _, _, _⟩ := hbx
        refine bodyPost_ret (v := .tuple #[.agg #[.int .i64 x.frames, .int .i64 x.budget, .slice A x.cs.length ac, .slice Q x.q.length qc], .int .i64 6]) (by simp [results, Try.results22, go_sem, y0, y1, y2, y3]) rfl ?_
        rw [Hpm.out]
        have hd := Hsame.out _ Hb6.out 6
        unfold fill4 at hd
        exact hd
      | true =>
        have hpm3 : pinM x who = (y, 0) := by rw [Hpm2.out, if_neg (by simp)]
        have Hpm2 := Lib.hid hpm3
        clear hpm3
        have hfin : PinDone ok (y, 0) w (.returned (.tuple #[.agg #[.int .i64 y.frames, .int .i64 y.budget, .slice A4 y.cs.length a4, .slice Q4 y.q.length q4], .int .i64 0])) (fill4 V6 (w.heap.size + 1) y A4 a4 Q4 q4) := by
          refine ⟨A4, a4, Q4, q4, rfl, (Hm6.out.keep fun b hb => fill4_keep ?_).imp fun b hb => ?_, fill4_below (HbW.out.trans (Hb6.out.mono (by omega))) (by omega)⟩
          · rcases hb with h | h
            · have := Hok.out b h; omega
            · have := Hb3.out.size; omega
          · rcases hb with h | h
            · exact .inl h
            · exact .inr ⟨by have := Hb3.out.size; omega, by rw [fill4_size]; exact h.2⟩
        have Hfin := Lib.hid hfin
        clear hfin
        go_wp2_with fail
        have hbx := (HR'.out.up Hb6.out (by omega)).hb.fill (r := y) (A' := A4) (ac' := a4) (Q' := Q4) (qc' := q4)
        unfold fill4 at hbx
        obtain ⟨y0, y1, y2, y3, _, _, _, _, _⟩ := hbx
        refine bodyPost_ret (v := .tuple #[.agg #[.int .i64 y.frames, .int .i64 y.budget, .slice A4 y.cs.length a4, .slice Q4 y.q.length q4], .int .i64 0]) (by simp [results, Try.results22, go_sem, y0, y1, y2, y3]) rfl ?_
        rw [Hpm2.out]
        have hd := Hfin.out
        unfold fill4 at hd
        exact hd
end Go.Proofs.Ythhfhgkkfaghoaa
