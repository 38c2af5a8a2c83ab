/- The contract of admit.Unpin. -/
import Derived.Test.YthhfhgkkfaghoaaAdm7
namespace Go.Proofs.Ythhfhgkkfaghoaa
open Go.RowKit

set_option maxRecDepth 20000 in
set_option maxHeartbeats 4000000 in
theorem unpin_any (w : World) (ok : Nat → Prop) (A Q : Option Addr) (ac qc : Nat) (x : Hall) (who : Int) (hl1 : x.cs.length ≤ 1000) (hl2 : x.q.length ≤ 1000) (hok : ∀ b, ok b → b < w.heap.size) (hm : HM w ok x A ac Q qc) :
    Calls Try.prog 23 #[.agg #[.int .i64 x.frames, .int .i64 x.budget, .slice A x.cs.length ac, .slice Q x.q.length qc], .int .i64 who] w (PinDone ok (unpinM x who) w) := by
  obtain ⟨W, hW, hbW, hsW, hB, hR⟩ := hall_box2 w A Q ac qc x 25
  have HmW := Lib.hid (hm.below hbW hok)
  have HmW' := Lib.hid ((hm.below hbW hok).imp (ok' := fun b => b < W.heap.size) fun b hb => by have := hok b hb; omega)
  have HbW := Lib.hid hbW
  have Hok := Lib.hid hok
  have HB' := Lib.hid hB
  have HR' := Lib.hid hR
  obtain ⟨c0, c1, c2, c3, f0, f1, f2, f3, lt⟩ := hB
  obtain ⟨r0, r1, r2, r3, k0, k1, k2, k3, ltR⟩ := hR
  have hW' := hW.symm
  clear hW hbW hm hok
  have d1 := hallRight_any W A Q ac qc x hl1 hl2 HmW'.out
  obtain ⟨rt, hrt⟩ : ∃ rt, rt = x.right := ⟨_, rfl⟩
  rw [← hrt] at d1
  have Hd1 := Lib.hid d1
  have Hrt := Lib.hid hrt
  clear hrt d1
  have hsame : ∀ V, Below W.heap.size W V → ∀ n, PinDone ok (x, n) w (.returned (.tuple #[.agg #[.int .i64 x.frames, .int .i64 x.budget, .slice A x.cs.length ac, .slice Q x.q.length qc], .int .i64 n])) (fill4 V (w.heap.size + 1) x A ac Q qc) := fun V hV n => by
    refine ⟨A, ac, Q, qc, rfl, ?_, fill4_below (HbW.out.trans (hV.mono (by omega))) (by omega)⟩
    exact ((HmW.out.below hV (fun b hb => by have := Hok.out b hb; omega)).keep fun b hb => fill4_keep (by have := Hok.out b hb; omega)).imp fun b hb => .inl hb
  have Hsame := Lib.hid hsame
  clear hsame
  cases rt with
  | false =>
    have hpm : unpinM x who = (x, 1) := by rw [unpinM, if_pos Hrt.out.symm]
    have Hpm := Lib.hid hpm
    clear hpm
    go_enter Try.func23, Try.ntmps23
    go_wp2_with fail
    refine Hd1.out.mono ?_
    rintro e V ⟨rfl, hb1⟩
    have Hb1 := Lib.hid hb1
    clear c0 c1 c2 c3 f0 f1 f2 f3 r0 r1 r2 r3 k0 k1 k2 k3 hW'
    obtain ⟨c0, c1, c2, c3, f0, f1, f2, f3, ltV⟩ := HB'.out.up hb1 lt
    obtain ⟨r0, r1, r2, r3, k0, k1, k2, k3, ltRV⟩ := HR'.out.up hb1 ltR
    clear hb1
    go_wp2_with fail
    refine bodyPost_ret (v := .tuple #[.agg #[.int .i64 x.frames, .int .i64 x.budget, .slice A x.cs.length ac, .slice Q x.q.length qc], .int .i64 1]) (by simp [results, Try.results23, go_sem, r0, r1, r2, r3]) rfl ?_
    rw [Hpm.out]
    exact Hsame.out V Hb1.out 1
  | true =>
    have h40 : x.cs.length + x.q.length ≤ 40 := (heads_iff.1 (right_iff.1 Hrt.out.symm).1).2.2.2.2
    have hpm : unpinM x who = (match findC x.cs who with
      | none => (x, 3)
      | some i => match x.cs[i]? with
        | none => (x, 3)
        | some c => if c.held = 0 then (x, 12) else ({ x with cs := moreAt x.cs i (-1) }, 0)) := by
      rw [unpinM, if_neg (by rw [← Hrt.out]; simp)]
      rfl
    have Hpm := Lib.hid hpm
    clear hpm
    go_enter Try.func23, Try.ntmps23
    go_wp2_with fail
    refine Hd1.out.mono ?_
    rintro e V ⟨rfl, hb1⟩
    have Hb1 := Lib.hid hb1
    clear c0 c1 c2 c3 f0 f1 f2 f3 r0 r1 r2 r3 k0 k1 k2 k3 hW'
    obtain ⟨c0, c1, c2, c3, f0, f1, f2, f3, ltV⟩ := HB'.out.up hb1 lt
    obtain ⟨r0, r1, r2, r3, k0, k1, k2, k3, ltRV⟩ := HR'.out.up hb1 ltR
    clear hb1
    go_wp2_with fail
    refine (client_any V A ac x.cs who (by omega) (HmW'.out.c.up Hb1.out)).mono ?_
    rintro e V2 ⟨rfl, hb2⟩
    have Hb2 := Lib.hid (Hb1.out.trans (hb2.mono Hb1.out.size))
    clear c0 c1 c2 c3 f0 f1 f2 f3 r0 r1 r2 r3 k0 k1 k2 k3 ltV ltRV hb2
    obtain ⟨c0, c1, c2, c3, f0, f1, f2, f3, ltV⟩ := HB'.out.up Hb2.out lt
    obtain ⟨r0, r1, r2, r3, k0, k1, k2, k3, ltRV⟩ := HR'.out.up Hb2.out ltR
    obtain ⟨fc, hfc⟩ : ∃ fc, fc = findC x.cs who := ⟨_, rfl⟩
    rw [← hfc] at Hpm ⊢
    cases fc with
    | none =>
      clear hfc
      simp only [nextI]
      go_wp2_with fail
      refine bodyPost_ret (v := .tuple #[.agg #[.int .i64 x.frames, .int .i64 x.budget, .slice A x.cs.length ac, .slice Q x.q.length qc], .int .i64 3]) (by simp [results, Try.results23, go_sem, r0, r1, r2, r3]) rfl ?_
      rw [Hpm.out]
      exact Hsame.out V2 Hb2.out 3
    | some i =>
      obtain ⟨c, hc, hcw⟩ := findC_some hfc.symm
      have hil : i < x.cs.length := (List.getElem?_eq_some_iff.1 hc).1
      obtain ⟨c', b, off, hc', rfl, hbb, hcell⟩ := rd_c HmW'.out.c hil
      obtain rfl : c = c' := by rw [hc] at hc'; exact Option.some.inj hc'
      obtain ⟨g0, g1, g2⟩ := hcell V2 Hb2.out
      have hbV2 : b < V2.heap.size := by have := Hb2.out.size; omega
      have hii : (0 : Int) ≤ (i : Int) := by omega
      have hil2 : (i : Int) < (x.cs.length : Int) := by omega
      have hneg : ¬ (i : Int) < 0 := by omega
      rw [show (match some i with
        | none => (x, 3)
        | some i => match x.cs[i]? with
          | none => (x, 3)
          | some c => if c.held = 0 then (x, 12) else ({ x with cs := moreAt x.cs i (-1) }, 0)) = (if c.held = 0 then (x, 12) else ({ x with cs := moreAt x.cs i (-1) }, (0 : Int))) from by simp only [hc]] at Hpm
      have Hc := Lib.hid hc
      clear hfc hc hc' hcw hcell
      simp only [nextI]
      have hsm := small_right Hrt.out.symm
      have hch := hsm.cl i c Hc.out
      clear hsm
      by_cases hcl : c.held = 0
      · rw [if_pos hcl] at Hpm
        have hcb : (c.held == 0) = true := by simpa using hcl
        clear hcl hch
        go_wp2_with fail
        refine bodyPost_ret (v := .tuple #[.agg #[.int .i64 x.frames, .int .i64 x.budget, .slice (some ⟨b, off, none⟩) x.cs.length ac, .slice Q x.q.length qc], .int .i64 12]) (by simp [results, Try.results23, go_sem, r0, r1, r2, r3]) rfl ?_
        rw [Hpm.out]
        exact Hsame.out _ Hb2.out 12
      · rw [if_neg hcl] at Hpm
        have hcb : (c.held == 0) = false := by simpa using hcl
        go_wp2_with fail
        refine (clone_Cl V2 (some ⟨b, off, none⟩) ac x.cs (by omega) c_len c_one (HmW'.out.c.up Hb2.out)).mono ?_
        rintro e V5 ⟨A5, c5, rfl, ho5, hb5⟩
        obtain ⟨g, cp, hv5, hg5b, hcp1, hcp2⟩ := own_addr ho5 (by omega)
        injection hv5 with hA5 _ hc5
        subst hA5 hc5
        have hs5 := hb5.size
        have hgl := (ho5.lt g rfl).2
        have hr5 : Rd C.cells 3 V5 V5.heap.size (some ⟨g, 0, none⟩) x.cs := Rd.of_own ho5 c_len (by decide)
        obtain ⟨c', b', off', hc', hA', _, hcell'⟩ := rd_c hr5 hil
        obtain rfl : c = c' := by have := Hc.out; rw [this] at hc'; exact Option.some.inj hc'
        injection hA' with hA'
        injection hA' with hb' hoff'
        subst hb' hoff'
        clear g0 g1 g2
        obtain ⟨g0, g1, g2⟩ := hcell' V5 (Below.refl _ _)
        simp only [Nat.zero_add] at g0 g1 g2
        obtain ⟨cur, hcur, _⟩ := own_row ho5
        have hfz := frozen_of hcur (i * 3 + 2)
        have ew2 : IntKind.i64.wrap (c.held - 1) = c.held - 1 := IntWalk.i64_in _ (by omega)
        have hgN : w.heap.size + 2 ≤ g := by have := Hb2.out.size; omega
        have hgN1 : ¬ g = w.heap.size := by omega
        have hgN2 : ¬ w.heap.size = g := by omega
        have Ho5 := Lib.hid ho5
        have Hb5 := Lib.hid hb5
        have Hb25 := Lib.hid (Hb2.out.trans (hb5.mono Hb2.out.size))
        have hlm := moreAt_len x.cs i (-1)
        clear c0 c1 c2 c3 f0 f1 f2 f3 r0 r1 r2 r3 k0 k1 k2 k3 ltV ltRV ho5 hb5 hr5 hcell' hcur hc' g0 g1 hch hcl hcb
        obtain ⟨c0, c1, c2, c3, f0, f1, f2, f3, ltV⟩ := HB'.out.up Hb25.out lt
        obtain ⟨r0, r1, r2, r3, k0, k1, k2, k3, ltRV⟩ := HR'.out.up Hb25.out ltR
        have hNR : ¬ g = w.heap.size + 1 := by omega
        have hRN : ¬ w.heap.size + 1 = g := by omega
        go_wp2_with fail
        refine bodyPost_ret (v := .tuple #[.agg #[.int .i64 x.frames, .int .i64 x.budget, .slice (some ⟨g, 0, none⟩) x.cs.length c5, .slice Q x.q.length qc], .int .i64 0]) (by simp [results, Try.results23, go_sem, r0, r1, r2, r3]) rfl ?_
        rw [Hpm.out]
        obtain ⟨V6, hV6⟩ : ∃ V6, V6 = V5.setCell ⟨w.heap.size, 2, none⟩ (.slice (some ⟨g, 0, none⟩) x.cs.length c5) := ⟨_, rfl⟩
        obtain ⟨V7, hV7⟩ : ∃ V7, V7 = V6.setCell ⟨g, i * 3 + 2, none⟩ (.int .i64 (c.held - 1)) := ⟨_, rfl⟩
        obtain ⟨V9, hV9⟩ : ∃ V9, V9 = fill4 V7 (w.heap.size + 1) { x with cs := moreAt x.cs i (-1) } (some ⟨g, 0, none⟩) c5 Q qc := ⟨_, rfl⟩
        have hV9' := hV9
        rw [fill4] at hV9'
        simp only [hlm] at hV9'
        rw [← hV6, ← hV7, ← hV9']
        have ho6 := own_setCell (j := 2) (g := w.heap.size) Ho5.out (by simp [Value.ownBlock]; omega) (.slice (some ⟨g, 0, none⟩) x.cs.length c5)
        rw [← hV6] at ho6
        have ho7 := own_held ho6 Hc.out (c.held - 1)
        rw [← hV7, Int.sub_eq_add_neg, ← moreAt_of (-1) Hc.out] at ho7
        have hk : ∀ b', b' ≠ w.heap.size → b' ≠ w.heap.size + 1 → b' ≠ g → V9.heap[b']? = V5.heap[b']? := fun b' h1 h2 h3 => by
          rw [hV9, fill4_keep h2, hV7]
          refine (Below.heap_setCell V6 ⟨g, i * 3 + 2, none⟩ _ b' h3).trans ?_
          rw [hV6]
          exact Below.heap_setCell V5 ⟨w.heap.size, 2, none⟩ _ b' h1
        have hs9 : V9.heap.size = V5.heap.size := by rw [hV9, fill4_size, hV7, hV6]; simp
        have hs7 : V7.heap.size = V5.heap.size := by rw [hV7, hV6]; simp
        have hrc := (Rd'.of_own (l := moreAt x.cs i (-1)) ho7 c_len (by decide)).keep (w' := V9) (fun b' hb' => by
          rw [hV9]
          exact fill4_keep (by have := Hb2.out.size; omega))
        have hm7 := (HmW.out.below Hb25.out (fun b hb => by have := Hok.out b hb; omega)).keep (w' := V9) fun b' hb' => hk b' (by have := Hok.out b' hb'; omega) (by have := Hok.out b' hb'; omega) (by have := Hok.out b' hb'; omega)
        refine ⟨some ⟨g, 0, none⟩, c5, Q, qc, by simp only [hlm], ⟨hrc.imp fun b' hb' => .inr (by have := Hb2.out.size; omega), hm7.rq.imp fun b' hb' => .inl hb', by simp only [hlm]; exact hcp1, hcp2, hm7.qa, hm7.qa2⟩, ?_⟩
        rw [hV9]
        refine fill4_below ?_ (by omega)
        rw [hV7]
        refine Below.setCell ?_ (p := ⟨g, i * 3 + 2, none⟩) (by show w.heap.size ≤ g; omega) _
        rw [hV6]
        exact (HbW.out.trans (Hb25.out.mono (by omega))).setCell (p := ⟨w.heap.size, 2, none⟩) (Nat.le_refl _) _
end Go.Proofs.Ythhfhgkkfaghoaa
