/- The contract of admit.End. -/
import Derived.Test.YthhfhgkkfaghoaaAdm9
namespace Go.Proofs.Ythhfhgkkfaghoaa
open Go.RowKit

/-- a hall told, with who came in, and an error -/
def EndDone (ok : Nat → Prop) (r : Hall × List Int × Int) (w : World) (e : Ending) (w' : World) : Prop :=
  ∃ A ac Q qc I ic, e = .returned (.tuple #[.agg #[.int .i64 r.1.frames, .int .i64 r.1.budget, .slice A r.1.cs.length ac, .slice Q r.1.q.length qc], .slice I r.2.1.length ic, .int .i64 r.2.2]) ∧
    HM w' (fun b => ok b ∨ (w.heap.size ≤ b ∧ b < w'.heap.size)) r.1 A ac Q qc ∧ Rd' icells 1 w' (fun b => w.heap.size ≤ b ∧ b < w'.heap.size) I r.2.1 ∧ Below w.heap.size w w'
theorem end_boxes (w : World) (A Q : Option Addr) (ac qc : Nat) (x : Hall) (who : Int) (t u : TypeId) : ∃ W, W = ((w.alloc (.cells #[.int .i64 x.frames, .int .i64 x.budget, .slice A x.cs.length ac, .slice Q x.q.length qc] t)).alloc (.cells #[.int .i64 who] u)).alloc (.cells #[.int .i64 0, .int .i64 0, .slice none 0 0, .slice none 0 0] t) ∧
    Below w.heap.size w W ∧ W.heap.size = w.heap.size + 3 ∧ HB w.heap.size x A ac Q qc W ∧ W.heap[w.heap.size + 1]? = some (.cells #[.int .i64 who] u (0, 0)) ∧ ZB (w.heap.size + 2) W := by
  obtain ⟨W1, h1⟩ : ∃ W1, W1 = w.alloc (.cells #[.int .i64 x.frames, .int .i64 x.budget, .slice A x.cs.length ac, .slice Q x.q.length qc] t) := ⟨_, rfl⟩
  obtain ⟨W2, h2⟩ : ∃ W2, W2 = W1.alloc (.cells #[.int .i64 who] u) := ⟨_, rfl⟩
  have s1 : W1.heap.size = w.heap.size + 1 := by rw [h1]; simp
  have s2 : W2.heap.size = w.heap.size + 2 := by rw [h2]; simp [s1]
  refine ⟨_, rfl, (((Below.refl _ _).alloc (Nat.le_refl _) _).alloc (by simp) _).alloc (by simp; omega) _, by simp, ?_, ?_, ?_⟩
  · rw [← h1, ← h2]
    exact HB.of (t := t) (by rw [heap_alloc_old _ _ (by omega), h2, heap_alloc_old _ _ (by omega), h1, heap_alloc_new])
  · rw [← h1, ← h2, heap_alloc_old _ _ (by omega), h2, ← s1, heap_alloc_new]
  · rw [← h1, ← h2]
    exact (HB.of (h := ⟨0, 0, [], []⟩) (t := t) (by rw [← s2, heap_alloc_new]; rfl)).zb
theorem own_cap {w : World} {base sz n c : Nat} {e : TypeId} {A : Option Addr} {xs : List Value} (h : w.ownsRow base e sz (.slice A n c) n xs) : n ≤ c ∧ c ≤ 9223372036854775807 := by
  obtain ⟨_, _, hv, h1, h2⟩ := own_slice h
  injection hv with _ _ hv
  subst hv
  exact ⟨h1, h2⟩
theorem small_gone {x : Hall} (h : x.small) (who : Int) : Hall.small { x with cs := goneC x.cs who, q := goneT x.q who } := by
  obtain ⟨a1, a2, a3, a4, a5, a6, a7⟩ := h
  have l1 : (goneC x.cs who).length ≤ x.cs.length := List.length_filter_le _ _
  have l2 : (goneT x.q who).length ≤ x.q.length := List.length_filter_le _ _
  refine ⟨a1, a2, a3, a4, by show (goneC x.cs who).length + (goneT x.q who).length ≤ 41; omega, fun k c hc => ?_, fun k t ht => ?_⟩
  · obtain ⟨j, hj⟩ := List.getElem?_of_mem ((List.mem_filter.1 (List.mem_of_getElem? hc)).1)
    exact a6 j c hj
  · obtain ⟨j, hj⟩ := List.getElem?_of_mem ((List.mem_filter.1 (List.mem_of_getElem? ht)).1)
    exact a7 j t hj

set_option maxRecDepth 20000 in
set_option maxHeartbeats 4000000 in
theorem end_any (w : World) (ok : Nat → Prop) (A Q : Option Addr) (ac qc : Nat) (x : Hall) (who : Int) (hl1 : x.cs.length ≤ 1000) (hl2 : x.q.length ≤ 1000) (hok : ∀ b, ok b → b < w.heap.size) (hm : HM w ok x A ac Q qc) :
    Calls Try.prog 13 #[.agg #[.int .i64 x.frames, .int .i64 x.budget, .slice A x.cs.length ac, .slice Q x.q.length qc], .int .i64 who] w (EndDone ok (endM x who) w) := by
  obtain ⟨W, hW, hbW, hsW, hB, hP, hR⟩ := end_boxes w A Q ac qc x who 25 3
  have HmW := Lib.hid (hm.below hbW hok)
  have HmW' := Lib.hid ((hm.below hbW hok).imp (ok' := fun b => b < W.heap.size) fun b hb => by have := hok b hb; omega)
  have HbW := Lib.hid hbW
  have Hok := Lib.hid hok
  have HB' := Lib.hid hB
  have HP' := Lib.hid hP
  have HR' := Lib.hid hR
  obtain ⟨c0, c1, c2, c3, f0, f1, f2, f3, lt⟩ := hB
  obtain ⟨r0, r1, r2, r3, k0, k1, k2, k3, ltR⟩ := hR
  have p0 : W.cell? ⟨w.heap.size + 1, 0, none⟩ = some (.int .i64 who) := cells_of hP 0
  have hW' := hW.symm
  clear hW hbW hm hok hP
  have ltP : w.heap.size + 1 < W.heap.size := by omega
  have d1 := hallRight_any W A Q ac qc x hl1 hl2 HmW'.out
  obtain ⟨rt, hrt⟩ : ∃ rt, rt = x.right := ⟨_, rfl⟩
  rw [← hrt] at d1
  have Hd1 := Lib.hid d1
  have Hrt := Lib.hid hrt
  clear hrt d1
  have hsame : ∀ V, Below W.heap.size W V → ∀ n, EndDone ok (x, [], n) w (.returned (.tuple #[.agg #[.int .i64 x.frames, .int .i64 x.budget, .slice A x.cs.length ac, .slice Q x.q.length qc], .slice none 0 0, .int .i64 n])) (fill4 V (w.heap.size + 2) x A ac Q qc) := fun V hV n => by
    refine ⟨A, ac, Q, qc, none, 0, rfl, ?_, Rd'.nil, fill4_below (HbW.out.trans (hV.mono (by omega))) (by omega)⟩
    exact ((HmW.out.below hV (fun b hb => by have := Hok.out b hb; omega)).keep fun b hb => fill4_keep (by have := Hok.out b hb; omega)).imp fun b hb => .inl hb
  have Hsame := Lib.hid hsame
  clear hsame
  cases rt with
  | false =>
    have hpm : endM x who = (x, [], 1) := by rw [endM, if_pos Hrt.out.symm]
    have Hpm := Lib.hid hpm
    clear hpm
    go_enter Try.func13, Try.ntmps13
    go_wp2_with fail
    refine Hd1.out.mono ?_
    rintro e V ⟨rfl, hb1⟩
    have Hb1 := Lib.hid hb1
    clear c0 c1 c2 c3 f0 f1 f2 f3 r0 r1 r2 r3 k0 k1 k2 k3 hW' p0
    obtain ⟨c0, c1, c2, c3, f0, f1, f2, f3, ltV⟩ := HB'.out.up hb1 lt
    obtain ⟨r0, r1, r2, r3, k0, k1, k2, k3, ltRV⟩ := HR'.out.up hb1 ltR
    clear hb1
    go_wp2_with fail
    refine bodyPost_ret (v := .tuple #[.agg #[.int .i64 x.frames, .int .i64 x.budget, .slice A x.cs.length ac, .slice Q x.q.length qc], .slice none 0 0, .int .i64 1]) (by simp [results, Try.results13, go_sem, r0, r1, r2, r3]) rfl ?_
    rw [Hpm.out]
    exact Hsame.out V Hb1.out 1
  | true =>
    have h40 : x.cs.length + x.q.length ≤ 40 := (heads_iff.1 (right_iff.1 Hrt.out.symm).1).2.2.2.2
    obtain ⟨m1, hm1⟩ : ∃ m, m = nextI (findC x.cs who) := ⟨_, rfl⟩
    obtain ⟨m2, hm2⟩ : ∃ m, m = nextI (findT x.q who) := ⟨_, rfl⟩
    obtain ⟨i1, hi1⟩ : ∃ i, i = inC x.cs who := ⟨_, rfl⟩
    obtain ⟨i2, hi2⟩ : ∃ i, i = inT x.q who := ⟨_, rfl⟩
    have hd1 : decide (0 ≤ m1) = i1 := by rw [hm1, hi1]; exact findC_in
    have hd2 : decide (0 ≤ m2) = i2 := by rw [hm2, hi2]; exact findT_in
    have hpm : endM x who = (if i1 = false ∧ i2 = false then (x, [], 3) else ((enterM { x with cs := goneC x.cs who, q := goneT x.q who }).1, (enterM { x with cs := goneC x.cs who, q := goneT x.q who }).2, 0)) := by
      rw [endM, if_neg (by rw [← Hrt.out]; simp), hi1, hi2]
    have Hpm := Lib.hid hpm
    have Hm1 := Lib.hid hm1
    have Hm2 := Lib.hid hm2
    have hcs : (m1 < 0 ∧ m2 < 0 ∧ i1 = false ∧ i2 = false) ∨ (m1 < 0 ∧ ¬ m2 < 0 ∧ i2 = true) ∨ (¬ m1 < 0 ∧ i1 = true) := by
      by_cases h1 : m1 < 0
      · by_cases h2 : m2 < 0
        · exact .inl ⟨h1, h2, by rw [← hd1, decide_eq_false (by omega)], by rw [← hd2, decide_eq_false (by omega)]⟩
        · exact .inr (.inl ⟨h1, h2, by rw [← hd2, decide_eq_true (by omega)]⟩)
      · exact .inr (.inr ⟨h1, by rw [← hd1, decide_eq_true (by omega)]⟩)
    clear hpm hd1 hd2 hi1 hi2 hm1 hm2
    go_enter Try.func13, Try.ntmps13
    go_wp2_with fail
    refine Hd1.out.mono ?_
    rintro e V ⟨rfl, hb1⟩
    have Hb1 := Lib.hid hb1
    clear c0 c1 c2 c3 f0 f1 f2 f3 r0 r1 r2 r3 k0 k1 k2 k3 hW' p0
    obtain ⟨c0, c1, c2, c3, f0, f1, f2, f3, ltV⟩ := HB'.out.up hb1 lt
    obtain ⟨r0, r1, r2, r3, k0, k1, k2, k3, ltRV⟩ := HR'.out.up hb1 ltR
    have p0 : V.cell? ⟨w.heap.size + 1, 0, none⟩ = some (.int .i64 who) := cells_of ((hb1.block (w.heap.size + 1) ltP).trans HP'.out) 0
    have ltPV : w.heap.size + 1 < V.heap.size := by omega
    clear hb1
    go_wp2_with fail
    have d2 := client_any V A ac x.cs who (by omega) (HmW'.out.c.up Hb1.out)
    rw [← Hm1.out] at d2
    refine d2.mono ?_
    clear d2
    rintro e V2 ⟨rfl, hb2⟩
    have Hb2 := Lib.hid (Hb1.out.trans (hb2.mono Hb1.out.size))
    clear c0 c1 c2 c3 f0 f1 f2 f3 r0 r1 r2 r3 k0 k1 k2 k3 ltV ltRV hb2 p0 ltPV
    obtain ⟨c0, c1, c2, c3, f0, f1, f2, f3, ltV⟩ := HB'.out.up Hb2.out lt
    obtain ⟨r0, r1, r2, r3, k0, k1, k2, k3, ltRV⟩ := HR'.out.up Hb2.out ltR
    have p0 : V2.cell? ⟨w.heap.size + 1, 0, none⟩ = some (.int .i64 who) := cells_of ((Hb2.out.block (w.heap.size + 1) ltP).trans HP'.out) 0
    have ltPV : w.heap.size + 1 < V2.heap.size := by omega
    rcases hcs with ⟨h1, h2, rfl, rfl⟩ | ⟨h1, h2, rfl⟩ | ⟨h1, rfl⟩
    · go_wp2_with fail
      have d3 := ticket_any V2 Q qc x.q who (by omega) (HmW'.out.q.up Hb2.out)
      rw [← Hm2.out] at d3
      refine d3.mono ?_
      clear d3
      rintro e V3 ⟨rfl, hb3⟩
      have Hb3 := Lib.hid (Hb2.out.trans (hb3.mono Hb2.out.size))
      clear c0 c1 c2 c3 f0 f1 f2 f3 r0 r1 r2 r3 k0 k1 k2 k3 ltV ltRV hb3 p0 ltPV
      obtain ⟨c0, c1, c2, c3, f0, f1, f2, f3, ltV⟩ := HB'.out.up Hb3.out lt
      obtain ⟨r0, r1, r2, r3, k0, k1, k2, k3, ltRV⟩ := HR'.out.up Hb3.out ltR
      go_wp2_with fail
      refine bodyPost_ret (v := .tuple #[.agg #[.int .i64 x.frames, .int .i64 x.budget, .slice A x.cs.length ac, .slice Q x.q.length qc], .slice none 0 0, .int .i64 3]) (by simp [results, Try.results13, go_sem, r0, r1, r2, r3]) rfl ?_
      rw [Hpm.out, if_pos (by trivial)]
      exact Hsame.out V3 Hb3.out 3
    · rw [if_neg (by simp)] at Hpm
      go_wp2_with fail
      have d3 := ticket_any V2 Q qc x.q who (by omega) (HmW'.out.q.up Hb2.out)
      rw [← Hm2.out] at d3
      refine d3.mono ?_
      clear d3
      rintro e V3 ⟨rfl, hb3⟩
      have Hb3 := Lib.hid (Hb2.out.trans (hb3.mono Hb2.out.size))
      clear c0 c1 c2 c3 f0 f1 f2 f3 r0 r1 r2 r3 k0 k1 k2 k3 ltV ltRV hb3 p0 ltPV
      obtain ⟨c0, c1, c2, c3, f0, f1, f2, f3, ltV⟩ := HB'.out.up Hb3.out lt
      obtain ⟨r0, r1, r2, r3, k0, k1, k2, k3, ltRV⟩ := HR'.out.up Hb3.out ltR
      have p0 : V3.cell? ⟨w.heap.size + 1, 0, none⟩ = some (.int .i64 who) := cells_of ((Hb3.out.block (w.heap.size + 1) ltP).trans HP'.out) 0
      have ltPV : w.heap.size + 1 < V3.heap.size := by omega
      go_wp2_with fail
      refine (clone_Cl V3 A ac x.cs (by omega) c_len c_one (HmW'.out.c.up Hb3.out)).mono ?_
      rintro e V4 ⟨A4, c4, rfl, ho4, hb4⟩
      have hs3 : w.heap.size + 3 ≤ V3.heap.size := by have := Hb3.out.size; omega
      have hs4 := hb4.size
      have Hb4 := Lib.hid hb4
      have Ho4 := Lib.hid ho4
      clear c0 c1 c2 c3 f0 f1 f2 f3 r0 r1 r2 r3 k0 k1 k2 k3 ltV ltRV p0 ltPV ho4 hb4
      have p0 : V4.cell? ⟨w.heap.size + 1, 0, none⟩ = some (.int .i64 who) := cells_of ((Hb4.out.block (w.heap.size + 1) (by omega)).trans ((Hb3.out.block (w.heap.size + 1) ltP).trans HP'.out)) 0
      have d5 := deleteC_any V4 V3.heap.size A4 c4 x.cs who (w.heap.size + 1) p0 (by omega) hs4 (by omega) Ho4.out
      have Hd5 := Lib.hid d5
      clear d5 p0
      obtain ⟨gc, hgc⟩ : ∃ gc, gc = goneC x.cs who := ⟨_, rfl⟩
      obtain ⟨gt, hgt⟩ : ∃ gt, gt = goneT x.q who := ⟨_, rfl⟩
      have hgcl : gc.length ≤ x.cs.length := by rw [hgc]; exact List.length_filter_le _ _
      have hgtl : gt.length ≤ x.q.length := by rw [hgt]; exact List.length_filter_le _ _
      have hsm := small_gone (small_right Hrt.out.symm) who
      rw [← hgc, ← hgt] at hsm
      rw [← hgc, ← hgt] at Hpm
      rw [← hgc] at Hd5
      have Hsm := Lib.hid hsm
      have Hgt := Lib.hid hgt
      clear hgc hgt hsm
      go_wp2_with fail
      refine Hd5.out.mono ?_
      clear Hd5
      rintro e V5 ⟨A5, c5, rfl, ho5, hb5⟩
      have hb35 : Below V3.heap.size V3 V5 := Hb4.out.trans hb5
      have HB5 := Lib.hid (HB'.out.up (Hb3.out.trans (hb35.mono Hb3.out.size)) lt)
      have HP5 := Lib.hid ((hb35.block (w.heap.size + 1) (by omega)).trans ((Hb3.out.block (w.heap.size + 1) ltP).trans HP'.out))
      have HR5 := Lib.hid (HR'.out.up (Hb3.out.trans (hb35.mono Hb3.out.size)) ltR)
      have Hb35 := Lib.hid hb35
      have hs5 := hb35.size
      obtain ⟨hc51, hc52⟩ := own_cap ho5
      have Ho5 := Lib.hid ho5
      obtain ⟨c0, c1, c2, c3, f0, f1, f2, f3, lt5⟩ := HB5.out
      clear ho5 hb5 hb35
      go_wp2_with fail
      obtain ⟨V6, hV6⟩ : ∃ V6, V6 = V5.setCell ⟨w.heap.size, 2, none⟩ (.slice A5 gc.length c5) := ⟨_, rfl⟩
      have h6 : ∀ b, b ≠ w.heap.size → V6.heap[b]? = V5.heap[b]? := fun b h => by rw [hV6]; exact Below.heap_setCell V5 ⟨w.heap.size, 2, none⟩ _ b h
      have hs6 : V6.heap.size = V5.heap.size := by rw [hV6]; simp
      have hB6 := HB5.out.set2 gc A5 c5
      rw [← hV6] at hB6 ⊢
      have ho6 := own_setCell (j := 2) (g := w.heap.size) Ho5.out (fun e => by have := (Ho5.out.lt _ e).1; omega) (.slice A5 gc.length c5)
      rw [← hV6] at ho6
      have hq6 : Rd T.cells 2 V6 V6.heap.size Q x.q := by
        have h1 := (HmW.out.below (Hb3.out.trans (Hb35.out.mono Hb3.out.size)) (fun b hb => by have := Hok.out b hb; omega)).rq
        exact (h1.keep fun b hb => h6 b (by have := Hok.out b hb; omega)).to fun b hb => by have := Hok.out b hb; omega
      have hbw6 : Below w.heap.size w V6 := by
        rw [hV6]
        exact (HbW.out.trans ((Hb3.out.mono (by omega)).trans (Hb35.out.mono (by omega)))).setCell (p := ⟨w.heap.size, 2, none⟩) (Nat.le_refl _) _
      have HB6 := Lib.hid hB6
      have Ho6 := Lib.hid ho6
      have Hq6 := Lib.hid hq6
      have Hbw6 := Lib.hid hbw6
      have HP6 := Lib.hid ((h6 (w.heap.size + 1) (by omega)).trans HP5.out)
      have HR6 := Lib.hid (HR5.out.keep (h6 (w.heap.size + 2) (by omega)))
      clear hV6 h6 hB6 ho6 hq6 hbw6 c0 c1 c2 c3 f0 f1 f2 f3 lt5
      refine (clone_Tk V6 Q qc x.q (by omega) t_len t_one Hq6.out).mono ?_
      rintro e V7 ⟨A7, c7, rfl, ho7, hb7⟩
      have hs7 := hb7.size
      have Hb7 := Lib.hid hb7
      have Ho7 := Lib.hid ho7
      have p0 : V7.cell? ⟨w.heap.size + 1, 0, none⟩ = some (.int .i64 who) := cells_of ((hb7.block (w.heap.size + 1) (by omega)).trans HP6.out) 0
      have d8 := deleteT_any V7 V6.heap.size A7 c7 x.q who (w.heap.size + 1) p0 (by omega) hs7 (by omega) Ho7.out
      rw [← Hgt.out] at d8
      have Hd8 := Lib.hid d8
      clear d8 p0 hb7 ho7
      go_wp2_with fail
      refine Hd8.out.mono ?_
      clear Hd8
      rintro e V8 ⟨A8, c8, rfl, ho8, hb8⟩
      have hb68 : Below V6.heap.size V6 V8 := Hb7.out.trans hb8
      have HB8 := Lib.hid (HB6.out.up hb68 (by omega))
      have HR8 := Lib.hid (HR6.out.up hb68 (by omega))
      have hs8 := hb68.size
      obtain ⟨hc81, hc82⟩ := own_cap ho8
      have Ho8 := Lib.hid ho8
      have Hoc8 := Lib.hid (own_up Ho6.out hb68)
      have Hbw8 := Lib.hid (Hbw6.out.trans (hb68.mono (by omega)))
      obtain ⟨c0, c1, c2, c3, f0, f1, f2, f3, lt8⟩ := HB8.out
      simp only at c0 c1 c2 c3
      clear ho8 hb8 hb68
      go_wp2_with fail
      obtain ⟨V9, hV9⟩ : ∃ V9, V9 = V8.setCell ⟨w.heap.size, 3, none⟩ (.slice A8 gt.length c8) := ⟨_, rfl⟩
      have h9 : ∀ b, b ≠ w.heap.size → V9.heap[b]? = V8.heap[b]? := fun b h => by rw [hV9]; exact Below.heap_setCell V8 ⟨w.heap.size, 3, none⟩ _ b h
      have hs9 : V9.heap.size = V8.heap.size := by rw [hV9]; simp
      have hB9 := HB8.out.set3 gt A8 c8
      rw [← hV9] at hB9 ⊢
      have hm9 : HM V9 (fun b => V3.heap.size ≤ b ∧ b < V9.heap.size) { x with cs := gc, q := gt } A5 c5 A8 c8 := by
        refine ⟨((Rd'.of_own Hoc8.out c_len (by decide)).keep fun b hb => h9 b (by omega)).imp fun b hb => ⟨hb.1, by rw [hs9]; exact hb.2⟩, ((Rd'.of_own Ho8.out t_len (by decide)).keep fun b hb => h9 b (by omega)).imp fun b hb => ⟨by omega, by rw [hs9]; exact hb.2⟩, hc51, hc52, hc81, hc82⟩
      have hbw9 : Below w.heap.size w V9 := by rw [hV9]; exact Hbw8.out.setCell (p := ⟨w.heap.size, 3, none⟩) (Nat.le_refl _) _
      have d10 := enter_any V9 (fun b => V3.heap.size ≤ b ∧ b < V9.heap.size) A5 A8 c5 c8 { x with cs := gc, q := gt } Hsm.out (fun b hb => hb.2) hm9
      obtain ⟨r, ins, hr⟩ : ∃ r ins, enterM { x with cs := gc, q := gt } = (r, ins) := ⟨_, _, rfl⟩
      rw [hr] at d10 Hpm
      have HB9 := Lib.hid hB9
      have HR9 := Lib.hid (HR8.out.keep (h9 (w.heap.size + 2) (by omega)))
      have Hbw9 := Lib.hid hbw9
      have Hd10 := Lib.hid d10
      clear hV9 h9 hB9 hm9 hbw9 d10 hr c0 c1 c2 c3 f0 f1 f2 f3 lt8
      refine Hd10.out.mono ?_
      clear Hd10
      rintro e V10 ⟨A10, ac10, Q10, qc10, I10, ic10, rfl, hm10, hi10, hb10⟩
      have hs10 := hb10.size
      have Hm10 := Lib.hid hm10
      have Hi10 := Lib.hid hi10
      have HB10 := Lib.hid (HB9.out.up hb10 (by omega))
      have HR10 := Lib.hid (HR9.out.up hb10 (by omega))
      have Hbw10 := Lib.hid (Hbw9.out.trans (hb10.mono (by omega)))
      clear hm10 hi10 hb10
      simp only
      obtain ⟨c0, c1, c2, c3, f0, f1, f2, f3, lt10⟩ := HB10.out
      obtain ⟨r0, r1, r2, r3, k0, k1, k2, k3, ltR10⟩ := HR10.out
      go_wp2_with fail
      refine bodyPost_ret (v := .tuple #[.agg #[.int .i64 r.frames, .int .i64 r.budget, .slice A10 r.cs.length ac10, .slice Q10 r.q.length qc10], .slice I10 ins.length ic10, .int .i64 0]) (by simp [results, Try.results13, go_sem, r0, r1, r2, r3]) rfl ?_
      rw [Hpm.out]
      obtain ⟨V11, hV11⟩ : ∃ V11, V11 = fill4 V10 w.heap.size r A10 ac10 Q10 qc10 := ⟨_, rfl⟩
      obtain ⟨V12, hV12⟩ : ∃ V12, V12 = fill4 V11 (w.heap.size + 2) r A10 ac10 Q10 qc10 := ⟨_, rfl⟩
      have hk : ∀ b, b ≠ w.heap.size → b ≠ w.heap.size + 2 → V12.heap[b]? = V10.heap[b]? := fun b h1 h2 => by rw [hV12, fill4_keep h2, hV11, fill4_keep h1]
      have hs12 : V12.heap.size = V10.heap.size := by rw [hV12, fill4_size, hV11, fill4_size]
      have hfin : EndDone ok (r, ins, 0) w (.returned (.tuple #[.agg #[.int .i64 r.frames, .int .i64 r.budget, .slice A10 r.cs.length ac10, .slice Q10 r.q.length qc10], .slice I10 ins.length ic10, .int .i64 0])) V12 := by
        refine ⟨A10, ac10, Q10, qc10, I10, ic10, rfl, (Hm10.out.keep (w' := V12) fun b hb => hk b (by omega) (by omega)).imp fun b hb => .inr (by omega), (Hi10.out.keep (w' := V12) fun b hb => hk b (by omega) (by omega)).imp fun b hb => by omega, ?_⟩
        rw [hV12]
        refine fill4_below ?_ (by omega)
        rw [hV11]
        exact fill4_below Hbw10.out (Nat.le_refl _)
      rw [hV12, hV11] at hfin
      simpa only [fill4] using hfin
    · rw [if_neg (by simp)] at Hpm
      obtain ⟨V3, rfl⟩ : ∃ V3, V3 = V2 := ⟨_, rfl⟩
      have Hb3 := Hb2
      go_wp2_with fail
      refine (clone_Cl V3 A ac x.cs (by omega) c_len c_one (HmW'.out.c.up Hb3.out)).mono ?_
      rintro e V4 ⟨A4, c4, rfl, ho4, hb4⟩
      have hs3 : w.heap.size + 3 ≤ V3.heap.size := by have := Hb3.out.size; omega
      have hs4 := hb4.size
      have Hb4 := Lib.hid hb4
      have Ho4 := Lib.hid ho4
      clear c0 c1 c2 c3 f0 f1 f2 f3 r0 r1 r2 r3 k0 k1 k2 k3 ltV ltRV p0 ltPV ho4 hb4
      have p0 : V4.cell? ⟨w.heap.size + 1, 0, none⟩ = some (.int .i64 who) := cells_of ((Hb4.out.block (w.heap.size + 1) (by omega)).trans ((Hb3.out.block (w.heap.size + 1) ltP).trans HP'.out)) 0
      have d5 := deleteC_any V4 V3.heap.size A4 c4 x.cs who (w.heap.size + 1) p0 (by omega) hs4 (by omega) Ho4.out
      have Hd5 := Lib.hid d5
      clear d5 p0
      obtain ⟨gc, hgc⟩ : ∃ gc, gc = goneC x.cs who := ⟨_, rfl⟩
      obtain ⟨gt, hgt⟩ : ∃ gt, gt = goneT x.q who := ⟨_, rfl⟩
      have hgcl : gc.length ≤ x.cs.length := by rw [hgc]; exact List.length_filter_le _ _
      have hgtl : gt.length ≤ x.q.length := by rw [hgt]; exact List.length_filter_le _ _
      have hsm := small_gone (small_right Hrt.out.symm) who
      rw [← hgc, ← hgt] at hsm
      rw [← hgc, ← hgt] at Hpm
      rw [← hgc] at Hd5
      have Hsm := Lib.hid hsm
      have Hgt := Lib.hid hgt
      clear hgc hgt hsm
      go_wp2_with fail
      refine Hd5.out.mono ?_
      clear Hd5
      rintro e V5 ⟨A5, c5, rfl, ho5, hb5⟩
      have hb35 : Below V3.heap.size V3 V5 := Hb4.out.trans hb5
      have HB5 := Lib.hid (HB'.out.up (Hb3.out.trans (hb35.mono Hb3.out.size)) lt)
      have HP5 := Lib.hid ((hb35.block (w.heap.size + 1) (by omega)).trans ((Hb3.out.block (w.heap.size + 1) ltP).trans HP'.out))
      have HR5 := Lib.hid (HR'.out.up (Hb3.out.trans (hb35.mono Hb3.out.size)) ltR)
      have Hb35 := Lib.hid hb35
      have hs5 := hb35.size
      obtain ⟨hc51, hc52⟩ := own_cap ho5
      have Ho5 := Lib.hid ho5
      obtain ⟨c0, c1, c2, c3, f0, f1, f2, f3, lt5⟩ := HB5.out
      clear ho5 hb5 hb35
      go_wp2_with fail
      obtain ⟨V6, hV6⟩ : ∃ V6, V6 = V5.setCell ⟨w.heap.size, 2, none⟩ (.slice A5 gc.length c5) := ⟨_, rfl⟩
      have h6 : ∀ b, b ≠ w.heap.size → V6.heap[b]? = V5.heap[b]? := fun b h => by rw [hV6]; exact Below.heap_setCell V5 ⟨w.heap.size, 2, none⟩ _ b h
      have hs6 : V6.heap.size = V5.heap.size := by rw [hV6]; simp
      have hB6 := HB5.out.set2 gc A5 c5
      rw [← hV6] at hB6 ⊢
      have ho6 := own_setCell (j := 2) (g := w.heap.size) Ho5.out (fun e => by have := (Ho5.out.lt _ e).1; omega) (.slice A5 gc.length c5)
      rw [← hV6] at ho6
      have hq6 : Rd T.cells 2 V6 V6.heap.size Q x.q := by
        have h1 := (HmW.out.below (Hb3.out.trans (Hb35.out.mono Hb3.out.size)) (fun b hb => by have := Hok.out b hb; omega)).rq
        exact (h1.keep fun b hb => h6 b (by have := Hok.out b hb; omega)).to fun b hb => by have := Hok.out b hb; omega
      have hbw6 : Below w.heap.size w V6 := by
        rw [hV6]
        exact (HbW.out.trans ((Hb3.out.mono (by omega)).trans (Hb35.out.mono (by omega)))).setCell (p := ⟨w.heap.size, 2, none⟩) (Nat.le_refl _) _
      have HB6 := Lib.hid hB6
      have Ho6 := Lib.hid ho6
      have Hq6 := Lib.hid hq6
      have Hbw6 := Lib.hid hbw6
      have HP6 := Lib.hid ((h6 (w.heap.size + 1) (by omega)).trans HP5.out)
      have HR6 := Lib.hid (HR5.out.keep (h6 (w.heap.size + 2) (by omega)))
      clear hV6 h6 hB6 ho6 hq6 hbw6 c0 c1 c2 c3 f0 f1 f2 f3 lt5
      refine (clone_Tk V6 Q qc x.q (by omega) t_len t_one Hq6.out).mono ?_
      rintro e V7 ⟨A7, c7, rfl, ho7, hb7⟩
      have hs7 := hb7.size
      have Hb7 := Lib.hid hb7
      have Ho7 := Lib.hid ho7
      have p0 : V7.cell? ⟨w.heap.size + 1, 0, none⟩ = some (.int .i64 who) := cells_of ((hb7.block (w.heap.size + 1) (by omega)).trans HP6.out) 0
      have d8 := deleteT_any V7 V6.heap.size A7 c7 x.q who (w.heap.size + 1) p0 (by omega) hs7 (by omega) Ho7.out
      rw [← Hgt.out] at d8
      have Hd8 := Lib.hid d8
      clear d8 p0 hb7 ho7
      go_wp2_with fail
      refine Hd8.out.mono ?_
      clear Hd8
      rintro e V8 ⟨A8, c8, rfl, ho8, hb8⟩
      have hb68 : Below V6.heap.size V6 V8 := Hb7.out.trans hb8
      have HB8 := Lib.hid (HB6.out.up hb68 (by omega))
      have HR8 := Lib.hid (HR6.out.up hb68 (by omega))
      have hs8 := hb68.size
      obtain ⟨hc81, hc82⟩ := own_cap ho8
      have Ho8 := Lib.hid ho8
      have Hoc8 := Lib.hid (own_up Ho6.out hb68)
      have Hbw8 := Lib.hid (Hbw6.out.trans (hb68.mono (by omega)))
      obtain ⟨c0, c1, c2, c3, f0, f1, f2, f3, lt8⟩ := HB8.out
      simp only at c0 c1 c2 c3
      clear ho8 hb8 hb68
      go_wp2_with fail
      obtain ⟨V9, hV9⟩ : ∃ V9, V9 = V8.setCell ⟨w.heap.size, 3, none⟩ (.slice A8 gt.length c8) := ⟨_, rfl⟩
      have h9 : ∀ b, b ≠ w.heap.size → V9.heap[b]? = V8.heap[b]? := fun b h => by rw [hV9]; exact Below.heap_setCell V8 ⟨w.heap.size, 3, none⟩ _ b h
      have hs9 : V9.heap.size = V8.heap.size := by rw [hV9]; simp
      have hB9 := HB8.out.set3 gt A8 c8
      rw [← hV9] at hB9 ⊢
      have hm9 : HM V9 (fun b => V3.heap.size ≤ b ∧ b < V9.heap.size) { x with cs := gc, q := gt } A5 c5 A8 c8 := by
        refine ⟨((Rd'.of_own Hoc8.out c_len (by decide)).keep fun b hb => h9 b (by omega)).imp fun b hb => ⟨hb.1, by rw [hs9]; exact hb.2⟩, ((Rd'.of_own Ho8.out t_len (by decide)).keep fun b hb => h9 b (by omega)).imp fun b hb => ⟨by omega, by rw [hs9]; exact hb.2⟩, hc51, hc52, hc81, hc82⟩
      have hbw9 : Below w.heap.size w V9 := by rw [hV9]; exact Hbw8.out.setCell (p := ⟨w.heap.size, 3, none⟩) (Nat.le_refl _) _
      have d10 := enter_any V9 (fun b => V3.heap.size ≤ b ∧ b < V9.heap.size) A5 A8 c5 c8 { x with cs := gc, q := gt } Hsm.out (fun b hb => hb.2) hm9
      obtain ⟨r, ins, hr⟩ : ∃ r ins, enterM { x with cs := gc, q := gt } = (r, ins) := ⟨_, _, rfl⟩
      rw [hr] at d10 Hpm
      have HB9 := Lib.hid hB9
      have HR9 := Lib.hid (HR8.out.keep (h9 (w.heap.size + 2) (by omega)))
      have Hbw9 := Lib.hid hbw9
      have Hd10 := Lib.hid d10
      clear hV9 h9 hB9 hm9 hbw9 d10 hr c0 c1 c2 c3 f0 f1 f2 f3 lt8
      refine Hd10.out.mono ?_
      clear Hd10
      rintro e V10 ⟨A10, ac10, Q10, qc10, I10, ic10, rfl, hm10, hi10, hb10⟩
      have hs10 := hb10.size
      have Hm10 := Lib.hid hm10
      have Hi10 := Lib.hid hi10
      have HB10 := Lib.hid (HB9.out.up hb10 (by omega))
      have HR10 := Lib.hid (HR9.out.up hb10 (by omega))
      have Hbw10 := Lib.hid (Hbw9.out.trans (hb10.mono (by omega)))
      clear hm10 hi10 hb10
      simp only
      obtain ⟨c0, c1, c2, c3, f0, f1, f2, f3, lt10⟩ := HB10.out
      obtain ⟨r0, r1, r2, r3, k0, k1, k2, k3, ltR10⟩ := HR10.out
      go_wp2_with fail
      refine bodyPost_ret (v := .tuple #[.agg #[.int .i64 r.frames, .int .i64 r.budget, .slice A10 r.cs.length ac10, .slice Q10 r.q.length qc10], .slice I10 ins.length ic10, .int .i64 0]) (by simp [results, Try.results13, go_sem, r0, r1, r2, r3]) rfl ?_
      rw [Hpm.out]
      obtain ⟨V11, hV11⟩ : ∃ V11, V11 = fill4 V10 w.heap.size r A10 ac10 Q10 qc10 := ⟨_, rfl⟩
      obtain ⟨V12, hV12⟩ : ∃ V12, V12 = fill4 V11 (w.heap.size + 2) r A10 ac10 Q10 qc10 := ⟨_, rfl⟩
      have hk : ∀ b, b ≠ w.heap.size → b ≠ w.heap.size + 2 → V12.heap[b]? = V10.heap[b]? := fun b h1 h2 => by rw [hV12, fill4_keep h2, hV11, fill4_keep h1]
      have hs12 : V12.heap.size = V10.heap.size := by rw [hV12, fill4_size, hV11, fill4_size]
      have hfin : EndDone ok (r, ins, 0) w (.returned (.tuple #[.agg #[.int .i64 r.frames, .int .i64 r.budget, .slice A10 r.cs.length ac10, .slice Q10 r.q.length qc10], .slice I10 ins.length ic10, .int .i64 0])) V12 := by
        refine ⟨A10, ac10, Q10, qc10, I10, ic10, rfl, (Hm10.out.keep (w' := V12) fun b hb => hk b (by omega) (by omega)).imp fun b hb => .inr (by omega), (Hi10.out.keep (w' := V12) fun b hb => hk b (by omega) (by omega)).imp fun b hb => by omega, ?_⟩
        rw [hV12]
        refine fill4_below ?_ (by omega)
        rw [hV11]
        exact fill4_below Hbw10.out (Nat.le_refl _)
      rw [hV12, hV11] at hfin
      simpa only [fill4] using hfin
end Go.Proofs.Ythhfhgkkfaghoaa
