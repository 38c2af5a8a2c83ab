/- The contract of lockkeeperref11.End. -/
import Derived.Test.YthhfhgkkfaghoaaRef8
namespace Go.Proofs.Ythhfhgkkfaghoaa
open Go.RowKit

theorem cnt_in (x : Hall) (who : Int) : (cntC x.cs who + cntT x.q who = 0) ↔ (inC x.cs who = false ∧ inT x.q who = false) := by
  rw [cntC, cntT, inC, inT, Nat.add_eq_zero_iff, List.countP_eq_zero, List.countP_eq_zero, List.any_eq_false, List.any_eq_false]
set_option maxRecDepth 20000 in
set_option maxHeartbeats 8000000 in
theorem refEnd_any (w : World) (ok : Nat → Prop) (A Q : Option Addr) (ac qc : Nat) (x : Hall) (who : Int) (hl1 : x.cs.length ≤ 1000) (hl2 : x.q.length ≤ 1000) (hok : ∀ b, ok b → b < w.heap.size) (hm : HM w ok x A ac Q qc) :
    Calls Try.prog 14 #[.agg #[.int .i64 x.frames, .int .i64 x.budget, .slice A x.cs.length ac, .slice Q x.q.length qc], .int .i64 who] w (EndDone ok (endM x who) w) := by
  obtain ⟨W, hW, hbW, hsW, hB, hR⟩ := hall_box2 w A Q ac qc x 29
  have HmW := Lib.hid (hm.below hbW hok)
  have HmW' := Lib.hid ((hm.below hbW hok).imp (ok' := fun b => b < W.heap.size) fun b hb => by have := hok b hb; omega)
  have HbW := Lib.hid hbW
  have Hok := Lib.hid hok
  have HB' := Lib.hid hB
  have HR' := Lib.hid hR
  obtain ⟨c0, c1, c2, c3, f0, f1, f2, f3, lt⟩ := hB
  obtain ⟨r0, r1, r2, r3, k0, k1, k2, k3, ltR⟩ := hR
  have hW' := hW.symm
  clear hW hbW hm hok
  have d1 := refHall_any W A Q ac qc x hl1 hl2 HmW'.out.c HmW'.out.q
  obtain ⟨rt, hrt⟩ : ∃ rt, rt = x.right := ⟨_, rfl⟩
  rw [← hrt] at d1
  have Hd1 := Lib.hid d1
  have Hrt := Lib.hid hrt
  clear hrt d1
  have hsame : ∀ V, Below W.heap.size W V → ∀ n, EndDone ok (x, [], n) w (.returned (.tuple #[.agg #[.int .i64 x.frames, .int .i64 x.budget, .slice A x.cs.length ac, .slice Q x.q.length qc], .slice none 0 0, .int .i64 n])) (fill4 V (w.heap.size + 1) x A ac Q qc) := fun V hV n => by
    refine ⟨A, ac, Q, qc, none, 0, rfl, ?_, Rd'.nil, fill4_below (HbW.out.trans (hV.mono (by omega))) (by omega)⟩
    exact ((HmW.out.below hV (fun b hb => by have := Hok.out b hb; omega)).keep fun b hb => fill4_keep (by have := Hok.out b hb; omega)).imp fun b hb => .inl hb
  have Hsame := Lib.hid hsame
  clear hsame
  go_enter Try.func14, Try.ntmps14
  go_wp2_with fail
  refine Hd1.out.mono ?_
  rintro e V1 ⟨rfl, hb1⟩
  have Hb1 := Lib.hid hb1
  clear c0 c1 c2 c3 f0 f1 f2 f3 r0 r1 r2 r3 k0 k1 k2 k3 hW'
  obtain ⟨c0, c1, c2, c3, f0, f1, f2, f3, ltV⟩ := HB'.out.up hb1 lt
  obtain ⟨r0, r1, r2, r3, k0, k1, k2, k3, ltRV⟩ := HR'.out.up hb1 ltR
  clear hb1
  cases rt with
  | false =>
    have hpm : endM x who = (x, [], 1) := by rw [endM, if_pos Hrt.out.symm]
    have Hpm := Lib.hid hpm
    clear hpm
    go_wp2_with fail
    have hbx := (HR'.out.up Hb1.out ltR).hb.fill (r := x) (A' := A) (ac' := ac) (Q' := Q) (qc' := qc)
    unfold fill4 at hbx
    obtain ⟨y0, y1, y2, y3, _, _, _, _, _⟩ := hbx
    refine bodyPost_ret (v := .tuple #[.agg #[.int .i64 x.frames, .int .i64 x.budget, .slice A x.cs.length ac, .slice Q x.q.length qc], .slice none 0 0, .int .i64 1]) (by simp [results, Try.results14, go_sem, y0, y1, y2, y3]) rfl ?_
    rw [Hpm.out]
    have hd := Hsame.out V1 Hb1.out 1
    unfold fill4 at hd
    exact hd
  | true =>
    have h40 : x.cs.length + x.q.length ≤ 40 := (heads_iff.1 (right_iff.1 Hrt.out.symm).1).2.2.2.2
    have d2 := refIn_any V1 A Q ac qc x who hl1 hl2 (HmW'.out.c.up Hb1.out) (HmW'.out.q.up Hb1.out)
    obtain ⟨cn, hcn⟩ : ∃ cn, cn = cntC x.cs who + cntT x.q who := ⟨_, rfl⟩
    rw [← hcn] at d2
    have Hd2 := Lib.hid d2; have Hcn := Lib.hid hcn
    clear d2 hcn
    go_wp2_with fail
    refine Hd2.out.mono ?_
    clear Hd2
    rintro e V ⟨rfl, hb2⟩
    have Hb2 := Lib.hid (Hb1.out.trans (hb2.mono Hb1.out.size))
    clear c0 c1 c2 c3 f0 f1 f2 f3 r0 r1 r2 r3 k0 k1 k2 k3 ltV ltRV hb2
    obtain ⟨c0, c1, c2, c3, f0, f1, f2, f3, ltV⟩ := HB'.out.up Hb2.out lt
    obtain ⟨r0, r1, r2, r3, k0, k1, k2, k3, ltRV⟩ := HR'.out.up Hb2.out ltR
    by_cases hz : cn = 0
    · have hpm : endM x who = (x, [], 3) := by rw [endM, if_neg (by rw [← Hrt.out]; simp), if_pos ((cnt_in x who).1 (by rw [← Hcn.out]; exact hz))]
      have Hpm := Lib.hid hpm
      have hzb : ((cn : Int) == 0) = true := by rw [hz]; rfl
      clear hpm hz
      go_wp2_with fail
      have hbx := (HR'.out.up Hb2.out ltR).hb.fill (r := x) (A' := A) (ac' := ac) (Q' := Q) (qc' := qc)
      unfold fill4 at hbx
      obtain ⟨y0, y1, y2, y3, _, _, _, _, _⟩ := hbx
      refine bodyPost_ret (v := .tuple #[.agg #[.int .i64 x.frames, .int .i64 x.budget, .slice A x.cs.length ac, .slice Q x.q.length qc], .slice none 0 0, .int .i64 3]) (by simp [results, Try.results14, go_sem, y0, y1, y2, y3]) rfl ?_
      rw [Hpm.out]
      have hd := Hsame.out V Hb2.out 3
      unfold fill4 at hd
      exact hd
    · have hpm : endM x who = ((enterM { x with cs := goneC x.cs who, q := goneT x.q who }).1, (enterM { x with cs := goneC x.cs who, q := goneT x.q who }).2, 0) := by
        rw [endM, if_neg (by rw [← Hrt.out]; simp), if_neg (fun h => hz (by rw [Hcn.out]; exact (cnt_in x who).2 h))]
      have Hpm := Lib.hid hpm
      have hzb : ((cn : Int) == 0) = false := by rw [beq_eq_false_iff_ne]; omega
      have Hsm := Lib.hid (small_gone (small_right Hrt.out.symm) who)
      clear hpm hz
      obtain ⟨M0, hM0⟩ : ∃ M0, M0 = V.heap.size := ⟨_, rfl⟩
      obtain ⟨X0, hX0⟩ : ∃ X0, X0 = V.alloc (.cells #[.int .i64 x.frames, .int .i64 x.budget, .slice none 0 0, .slice none 0 0] 29) := ⟨_, rfl⟩
      have HBX := Lib.hid (show HB M0 ⟨x.frames, x.budget, [], []⟩ none 0 none 0 X0 by rw [hX0, hM0]; exact HB.of (t := 29) (heap_alloc_new V _))
      have HbX := Lib.hid (show Below M0 V X0 by rw [hX0, hM0]; exact (Below.refl _ _).alloc (Nat.le_refl _) _)
      have HsX := Lib.hid (show X0.heap.size = M0 + 1 by rw [hX0, hM0]; simp)
      have Hr2 := Lib.hid (show Rd C.cells 3 V M0 A x.cs by rw [hM0]; exact HmW'.out.c.up Hb2.out)
      have Hr3 := Lib.hid (show Rd T.cells 2 V M0 Q x.q by rw [hM0]; exact HmW'.out.q.up Hb2.out)
      have HBN := Lib.hid (HB'.out.up Hb2.out lt)
      have hNM : w.heap.size < M0 := by omega
      have hNM2 : w.heap.size + 2 ≤ M0 := by have := Hb2.out.size; omega
      have HX0 := Lib.hid hX0.symm; have HM0 := Lib.hid hM0.symm
      obtain ⟨i0, hi0, hz0, hz1, hz2⟩ := info_parts Try.infoRef
      obtain ⟨k0', hk0, hx0, hx1, hx2⟩ := info_parts Try.infoRefT
      clear hX0 hM0 r0 r1 r2 r3 k0 k1 k2 k3
      go_upto_region 6 with fail
      rw [HX0.out, HM0.out]
      clear HX0 HM0 c0 c1 c2 c3 f0 f1 f2 f3
      have Hgl := Lib.hid (show ∀ k, (goneC (x.cs.take k) who).length ≤ 40 from fun k => Nat.le_trans (List.length_filter_le _ _) (by rw [List.length_take]; omega))
      go_wp2_with fail
      go_loopg [8] x.cs.length (fun g iv wr => ∃ (k : Nat) (O : Option Addr) (oc : Nat), k ≤ x.cs.length ∧ g = x.cs.length - k ∧ iv = .int .i64 k ∧ HB M0 ⟨x.frames, x.budget, goneC (x.cs.take k) who, []⟩ O oc none 0 wr ∧ wr.ownsRow (M0 + 1) 65 3 (.slice O (goneC (x.cs.take k) who).length oc) (goneC (x.cs.take k) who).length ((goneC (x.cs.take k) who).flatMap C.cells) ∧ Below M0 V wr ∧ M0 < wr.heap.size)
      case atStart => exact ⟨0, none, 0, Nat.zero_le _, rfl, rfl, HBX.out, World.ownsRow_nil _ _ _ _, HbX.out, by have := HsX.out; omega⟩
      case round =>
        obtain ⟨k, O, oc, hk, hg, rfl, hO, hown, hb, hMr⟩ := hrel
        have Hg := Lib.hid hg; clear hg
        have HO := Lib.hid hO; have Hown := Lib.hid hown; have Hb := Lib.hid hb
        obtain ⟨c0, c1, c2, c3, f0, f1, f2, f3, lt⟩ := HBN.out.up hb hNM
        have hgl := Hgl.out k
        clear hO hown hb
        by_cases hlt : k < x.cs.length
        · obtain ⟨c, b, off, hc, rfl, hbM, hcell⟩ := rd_c Hr2.out hlt
          obtain ⟨g0, g1, g2⟩ := hcell wr Hb.out
          have hki : (k : Int) < (x.cs.length : Int) := by omega
          have hbw : b < wr.heap.size := by omega
          have Hc := Lib.hid hc
          have hsn := goneC_snoc (who := who) hc
          have Hsn := Lib.hid hsn
          have G0 := Lib.hid g0; have G1 := Lib.hid g1; have G2 := Lib.hid g2
          clear hcell hc hsn
          by_cases hcw : c.who = who
          · have hwb : (c.who == who) = true := by simpa using hcw
            have hwn : (c.who != who) = false := by simpa using hcw
            rw [if_pos hcw, List.append_nil] at Hsn
            clear hcw
            go_wp2_with fail
            go_roundg (x.cs.length - (k + 1))
            case measure => have := Hg.out; omega
            case rel => exact ⟨k + 1, _, _, by omega, rfl, by go_num, by rw [Hsn.out]; exact HO.out, by rw [Hsn.out]; exact Hown.out, Hb.out, hMr⟩
          · have hwb : (c.who == who) = false := by simpa using hcw
            have hwn : (c.who != who) = true := by simpa using hcw
            rw [if_neg hcw] at Hsn
            clear hcw
            go_upto_region 10 with fail
            have hOB := HO.out
            have hbZ : b < wr.heap.size := hbw
            have hoM : ∀ g, (Value.slice O (goneC (x.cs.take k) who).length oc).ownBlock = some g → M0 + 1 ≤ g ∧ g < wr.heap.size := fun g hg => Hown.out.lt g hg
            have HoM := Lib.hid hoM
            have hC : ∀ U : World, (∀ g, g < wr.heap.size → (Value.slice O (goneC (x.cs.take k) who).length oc).ownBlock ≠ some g → U.heap[g]? = wr.heap[g]?) → HB w.heap.size x (some ⟨b, off, none⟩) ac Q qc U ∧ HB M0 ⟨x.frames, x.budget, goneC (x.cs.take k) who, []⟩ O oc none 0 U ∧ U.cell? ⟨b, off + k * 3, none⟩ = some (.int .i64 c.who) ∧ U.cell? ⟨b, off + k * 3 + 1, none⟩ = some (.int .i64 c.claim) ∧ U.cell? ⟨b, off + k * 3 + 2, none⟩ = some (.int .i64 c.held) := fun U hU =>
              ⟨(HBN.out.up Hb.out hNM).keep (hU _ (by omega) (fun e => by have := HoM.out _ e; omega)), HO.out.keep (hU _ (by omega) (fun e => by have := HoM.out _ e; omega)), (World.cell?_of_block (a := ⟨b, off + k * 3, none⟩) (hU b hbZ (fun e => by have := HoM.out _ e; omega))).trans G0.out, (World.cell?_of_block (a := ⟨b, off + k * 3 + 1, none⟩) (hU b hbZ (fun e => by have := HoM.out _ e; omega))).trans G1.out, (World.cell?_of_block (a := ⟨b, off + k * 3 + 2, none⟩) (hU b hbZ (fun e => by have := HoM.out _ e; omega))).trans G2.out⟩
            have HC0 := Lib.hid hC
    
            have hC2 : ∀ U : World, (∀ g, g < wr.heap.size → (Value.slice O (goneC (x.cs.take k) who).length oc).ownBlock ≠ some g → U.heap[g]? = wr.heap[g]?) → (fun U => HB w.heap.size x (some ⟨b, off, none⟩) ac Q qc U ∧ HB M0 ⟨x.frames, x.budget, goneC (x.cs.take k) who, []⟩ O oc none 0 U ∧ U.cell? ⟨b, off + k * 3, none⟩ = some (.int .i64 c.who) ∧ U.cell? ⟨b, off + k * 3 + 1, none⟩ = some (.int .i64 c.claim) ∧ U.cell? ⟨b, off + k * 3 + 2, none⟩ = some (.int .i64 c.held)) U := hC
            have HC := Lib.hid hC2
            refine wp_region_F 10 (fun U => HB w.heap.size x (some ⟨b, off, none⟩) ac Q qc U ∧ HB M0 ⟨x.frames, x.budget, goneC (x.cs.take k) who, []⟩ O oc none 0 U ∧ U.cell? ⟨b, off + k * 3, none⟩ = some (.int .i64 c.who) ∧ U.cell? ⟨b, off + k * 3 + 1, none⟩ = some (.int .i64 c.claim) ∧ U.cell? ⟨b, off + k * 3 + 2, none⟩ = some (.int .i64 c.held)) (by kernel_rfl) rfl rfl ?_
            obtain ⟨U0, hU0⟩ : ∃ U0, U0 = wr.drew := ⟨_, rfl⟩
            have Hk0 := Lib.hid (show ∀ g : Nat, U0.heap[g]? = wr.heap[g]? from fun g => by rw [hU0]; rfl)
            have Hb0 := Lib.hid (show ∀ g, g < wr.heap.size → (Value.slice O (goneC (x.cs.take k) who).length oc).ownBlock ≠ some g → U0.heap[g]? = wr.heap[g]? from fun g _ _ => by rw [hU0]; rfl)
            have Hs0 := Lib.hid (show U0.heap.size = wr.heap.size by rw [hU0]; rfl)
            have Ho0 := Lib.hid (own_heap Hown.out (w' := U0) fun g hg => by rw [hU0]; rfl)
            have Hw0 := Lib.hid (show Below M0 V U0 by rw [hU0]; exact Hb.out.drew)
            rw [← hU0]
            clear hU0 hC hC2 c0 c1 c2 c3 f0 f1 f2 f3 lt g0 g1 g2 hOB hbw hwb hwn
            (refine takeF (i := 0) (s := 10) (n := 11) (.pointer (some ⟨M0, 2, none⟩)) rfl (by kernel_rfl) (by kernel_rfl) (by kernel_rfl) (by kernel_rfl) (by kernel_rfl) rfl (fun _ _ _ h => h) (HC.out U0 Hb0.out) rfl (fun U hU => by obtain ⟨⟨h0, h1, h2, h3, _, _, _, _, _⟩, ⟨k0, k1, k2, k3, _, _, _, _, _⟩, a0, a1, a2⟩ := hU; go_simp) (fun K hK => ?_); have HK := Lib.hid hK; clear hK; go_simp; refine HK.out _ ?_; clear HK K)
            (refine takeF (i := 1) (s := 10) (n := 11) (.slice O (goneC (x.cs.take k) who).length oc) rfl (by kernel_rfl) (by kernel_rfl) (by kernel_rfl) (by kernel_rfl) (by kernel_rfl) rfl (fun _ _ _ h => h) (HC.out U0 Hb0.out) rfl (fun U hU => by obtain ⟨⟨h0, h1, h2, h3, _, _, _, _, _⟩, ⟨k0, k1, k2, k3, _, _, _, _, _⟩, a0, a1, a2⟩ := hU; go_simp) (fun K hK => ?_); have HK := Lib.hid hK; clear hK; go_simp; refine HK.out _ ?_; clear HK K)
            (refine takeF (i := 2) (s := 10) (n := 11) (.pointer (some ⟨w.heap.size, 2, none⟩)) rfl (by kernel_rfl) (by kernel_rfl) (by kernel_rfl) (by kernel_rfl) (by kernel_rfl) rfl (fun _ _ _ h => h) (HC.out U0 Hb0.out) rfl (fun U hU => by obtain ⟨⟨h0, h1, h2, h3, _, _, _, _, _⟩, ⟨k0, k1, k2, k3, _, _, _, _, _⟩, a0, a1, a2⟩ := hU; go_simp) (fun K hK => ?_); have HK := Lib.hid hK; clear hK; go_simp; refine HK.out _ ?_; clear HK K)
            (refine takeF (i := 3) (s := 10) (n := 11) (.slice (some ⟨b, off, none⟩) x.cs.length ac) rfl (by kernel_rfl) (by kernel_rfl) (by kernel_rfl) (by kernel_rfl) (by kernel_rfl) rfl (fun _ _ _ h => h) (HC.out U0 Hb0.out) rfl (fun U hU => by obtain ⟨⟨h0, h1, h2, h3, _, _, _, _, _⟩, ⟨k0, k1, k2, k3, _, _, _, _, _⟩, a0, a1, a2⟩ := hU; go_simp) (fun K hK => ?_); have HK := Lib.hid hK; clear hK; go_simp; refine HK.out _ ?_; clear HK K)
            (refine takeF (i := 4) (s := 10) (n := 11) (.int .i64 k) rfl (by kernel_rfl) (by kernel_rfl) (by kernel_rfl) (by kernel_rfl) (by kernel_rfl) rfl (fun _ _ _ h => h) (HC.out U0 Hb0.out) rfl (fun U hU => by obtain ⟨⟨h0, h1, h2, h3, _, _, _, _, _⟩, ⟨k0, k1, k2, k3, _, _, _, _, _⟩, a0, a1, a2⟩ := hU; go_simp) (fun K hK => ?_); have HK := Lib.hid hK; clear hK; go_simp; refine HK.out _ ?_; clear HK K)
            (refine takeF (i := 5) (s := 10) (n := 11) (.pointer (some ⟨b, off + k * 3, none⟩)) rfl (by kernel_rfl) (by kernel_rfl) (by kernel_rfl) (by kernel_rfl) (by kernel_rfl) rfl (fun _ _ _ h => h) (HC.out U0 Hb0.out) rfl (fun U hU => by obtain ⟨⟨h0, h1, h2, h3, _, _, _, _, _⟩, ⟨k0, k1, k2, k3, _, _, _, _, _⟩, a0, a1, a2⟩ := hU; go_simp) (fun K hK => ?_); have HK := Lib.hid hK; clear hK; go_simp; refine HK.out _ ?_; clear HK K)
            (refine takeF (i := 6) (s := 10) (n := 11) (.agg #[.int .i64 c.who, .int .i64 c.claim, .int .i64 c.held]) rfl (by kernel_rfl) (by kernel_rfl) (by kernel_rfl) (by kernel_rfl) (by kernel_rfl) rfl (fun _ _ _ h => h) (HC.out U0 Hb0.out) rfl (fun U hU => by obtain ⟨⟨h0, h1, h2, h3, _, _, _, _, _⟩, ⟨k0, k1, k2, k3, _, _, _, _, _⟩, a0, a1, a2⟩ := hU; go_simp) (fun K hK => ?_); have HK := Lib.hid hK; clear hK; go_simp; refine HK.out _ ?_; clear HK K)
            refine oneF (i := 7) (by kernel_rfl) rfl rfl rfl (fun K hK => ?_)
            have HK := Lib.hid hK; clear hK; go_simp
            obtain ⟨U1, hU1⟩ : ∃ U1, U1 = U0.alloc (.cells #[.int .i64 c.who, .int .i64 c.claim, .int .i64 c.held] 65) := ⟨_, rfl⟩
            have hq1 : Below U0.heap.size U0 U1 := by rw [hU1]; exact (Below.refl _ _).alloc (Nat.le_refl _) _
            have hs1 : U1.heap.size = U0.heap.size + 1 := by rw [hU1]; simp
            have hsrc1 : ∀ (j : Nat) (u : Value), (C.cells c)[j]? = some u → U1.cell? ((⟨U0.heap.size, 0, none⟩ : Addr).add j) = some u := by
              rw [hU1]
              exact cells_new (cs := #[.int .i64 c.who, .int .i64 c.claim, .int .i64 c.held]) rfl
            have ho1 := own_up Ho0.out hq1
            have Hb1 := Lib.hid (show ∀ g, g < wr.heap.size → (Value.slice O (goneC (x.cs.take k) who).length oc).ownBlock ≠ some g → U1.heap[g]? = wr.heap[g]? from fun g h1 h2 => (hq1.block g (by have := Hs0.out; omega)).trans (Hk0.out g))
            have Hk1 := Lib.hid (show ∀ g, g < wr.heap.size → U1.heap[g]? = wr.heap[g]? from fun g h1 => (hq1.block g (by have := Hs0.out; omega)).trans (Hk0.out g))
            have Hw1 := Lib.hid (show Below M0 V U1 by have := Hs0.out; exact Hw0.out.trans (hq1.mono (by omega)))
            rw [← hU1]
            have Hs1 := Lib.hid hs1; have Ho1 := Lib.hid ho1; have Hsrc1 := Lib.hid hsrc1
            clear hU1 hq1 hs1 hsrc1 ho1
            refine HK.out _ _ (HC.out _ Hb1.out) ?_
            clear HK K
            refine oneF (i := 8) (by kernel_rfl) rfl rfl rfl (fun K hK => ?_)
            have HK := Lib.hid hK; clear hK
            refine wp_app (.tmp 42) (.tmp 48) 26 rfl (M0 + 1) 65 i0 (.agg #[.int .i64 0, .int .i64 0, .int .i64 0]) 3 24 Try.underlying26 hi0 hz0 hz1 hz2 rfl (by decide) (v := .slice O (goneC (x.cs.take k) who).length oc) (by rfl) Ho1.out (A := some ⟨U0.heap.size, 0, none⟩) (m := 1) (c := 1) (news := C.cells c) (by rfl) rfl (by simp) (fun ad e => by injection e with e; subst e; exact Hsrc1.out) (c_one _) ?_ ?_ ?_ ?_
            · unfold maxLen; omega
            · omega
            · have := Hs1.out; have := Hs0.out; omega
            intro v7 w7 ho7 hg7 hv7
            obtain ⟨A7, c7, rfl, _, _⟩ := own_slice ho7
            have hs7 := hg7.size
            have hs1 := Hs1.out; have hs0 := Hs0.out
            have Hb7 := Lib.hid (show ∀ g, g < wr.heap.size → (Value.slice O (goneC (x.cs.take k) who).length oc).ownBlock ≠ some g → w7.heap[g]? = wr.heap[g]? from fun g h1 h2 => (hg7.block g (by omega) (fun e => h2 e.symm)).trans (Hk1.out g h1))
            have Hw7 := Lib.hid (Hw1.out.grown hg7 (by omega) (fun d hd => by have := HoM.out d hd; omega))
            have Ho7 := Lib.hid ho7
            have Hs7 := Lib.hid (show wr.heap.size ≤ w7.heap.size by omega)
            clear ho7 hg7 hv7 hs7 hs1 hs0
            go_simp
            refine HK.out _ _ (HC.out _ Hb7.out) ?_
            clear HK K
            (refine takeF (i := 9) (s := 10) (n := 11) (.pointer (some ⟨M0, 2, none⟩)) rfl (by kernel_rfl) (by kernel_rfl) (by kernel_rfl) (by kernel_rfl) (by kernel_rfl) rfl (fun _ _ _ h => h) (HC.out w7 Hb7.out) rfl (fun U hU => by obtain ⟨⟨h0, h1, h2, h3, _, _, _, _, _⟩, ⟨k0, k1, k2, k3, _, _, _, _, _⟩, a0, a1, a2⟩ := hU; go_simp) (fun K hK => ?_); have HK := Lib.hid hK; clear hK; go_simp; refine HK.out _ ?_; clear HK K)
            obtain ⟨_, ⟨c0, c1, c2, c3, f0, f1, f2, f3, lt⟩, _⟩ := HC0.out w7 Hb7.out
            refine lastF (by kernel_rfl) rfl rfl (by kernel_rfl) rfl (fun K hK => ?_)
            have HK := Lib.hid hK; clear hK; go_simp
            refine HK.out _ _ ?_
            clear HK K c0 c1 c2 c3 f0 f1 f2 f3 lt
            obtain ⟨w8, hw8⟩ : ∃ w8, w8 = w7.setCell ⟨M0, 2, none⟩ (.slice A7 ((goneC (x.cs.take k) who).length + 1) c7) := ⟨_, rfl⟩
            have hk8 : ∀ g, g ≠ M0 → w8.heap[g]? = w7.heap[g]? := fun g h => by rw [hw8]; exact Below.heap_setCell w7 ⟨M0, 2, none⟩ _ g h
            have hl8 : (goneC (x.cs.take (k + 1)) who).length = (goneC (x.cs.take k) who).length + 1 := by rw [Hsn.out, List.length_append]; rfl
            have HB8 := Lib.hid (show HB M0 ⟨x.frames, x.budget, goneC (x.cs.take (k + 1)) who, []⟩ A7 c7 none 0 w8 by
              have := (HC0.out w7 Hb7.out).2.1.set2 (goneC (x.cs.take (k + 1)) who) A7 c7
              rw [hl8] at this
              rw [hw8]; exact this)
            have Ho8 := Lib.hid (show w8.ownsRow (M0 + 1) 65 3 (.slice A7 (goneC (x.cs.take (k + 1)) who).length c7) (goneC (x.cs.take (k + 1)) who).length ((goneC (x.cs.take (k + 1)) who).flatMap C.cells) by
              rw [hl8, Hsn.out, List.flatMap_append]
              refine own_heap ?_ (w := w7) fun g hg => hk8 g (by have := (Ho7.out.lt g hg).1; omega)
              simpa using Ho7.out)
    
            have Hw8 := Lib.hid (show Below M0 V w8 by rw [hw8]; exact Hw7.out.setCell (p := ⟨M0, 2, none⟩) (Nat.le_refl _) _)
            have hM8 : M0 < w8.heap.size := by have := Hs7.out; rw [hw8]; simp; omega
            rw [← hw8]
            clear hw8 hk8 hl8
            go_wp2_with fail
            go_roundg (x.cs.length - (k + 1))
            case measure => have := Hg.out; omega
            case rel => exact ⟨k + 1, A7, c7, by omega, rfl, by go_num, HB8.out, Ho8.out, Hw8.out, hM8⟩

        · obtain rfl : k = x.cs.length := by omega
          rw [List.take_length] at HO Hown
          obtain ⟨gc, hgc⟩ : ∃ gc, gc = goneC x.cs who := ⟨_, rfl⟩
          rw [← hgc] at HO Hown
          have Hgc := Lib.hid hgc
          have Hgl := Lib.hid (show ∀ k, (goneT (x.q.take k) who).length ≤ 40 from fun k => Nat.le_trans (List.length_filter_le _ _) (by rw [List.length_take]; omega))
          obtain ⟨O1, rfl⟩ : ∃ O1, O1 = O := ⟨_, rfl⟩
          obtain ⟨oc1, rfl⟩ : ∃ oc1, oc1 = oc := ⟨_, rfl⟩
          have hgcl : gc.length ≤ 40 := by have := hgl; rw [List.take_length, ← hgc] at this; exact this
          obtain ⟨V0, hV0⟩ : ∃ V0 : World, V0 = wr := ⟨_, rfl⟩
          clear hgc hgl
          go_wp2_with fail
          clear c0 c1 c2 c3 f0 f1 f2 f3 lt
          go_loopg [9] x.q.length (fun g iv wr => ∃ (k : Nat) (O2 : Option Addr) (oc : Nat), k ≤ x.q.length ∧ g = x.q.length - k ∧ iv = .int .i64 k ∧ HB M0 ⟨x.frames, x.budget, gc, goneT (x.q.take k) who⟩ O1 oc1 O2 oc wr ∧ wr.ownsRow (M0 + 1) 52 2 (.slice O2 (goneT (x.q.take k) who).length oc) (goneT (x.q.take k) who).length ((goneT (x.q.take k) who).flatMap T.cells) ∧ wr.ownsRow (M0 + 1) 65 3 (.slice O1 gc.length oc1) gc.length (gc.flatMap C.cells) ∧ Below M0 V wr ∧ M0 < wr.heap.size)
          case atStart => exact ⟨0, none, 0, Nat.zero_le _, rfl, rfl, HO.out, World.ownsRow_nil _ _ _ _, Hown.out, Hb.out, hMr⟩
          case round =>
            clear hV0 V0 hMr Hown HO Hb Hg
            obtain ⟨k, O2, oc, hk, hg, rfl, hO, hown, hown1, hb, hMr⟩ := hrel
            have Hown1 := Lib.hid hown1
            clear hown1
            have Hg := Lib.hid hg; clear hg
            have HO := Lib.hid hO; have Hown := Lib.hid hown; have Hb := Lib.hid hb
            obtain ⟨c0, c1, c2, c3, f0, f1, f2, f3, lt⟩ := HBN.out.up hb hNM
            have hgl := Hgl.out k
            clear hO hown hb
            by_cases hlt : k < x.q.length
            · obtain ⟨c, b, off, hc, rfl, hbM, hcell⟩ := rd_t Hr3.out hlt
              obtain ⟨g0, g1⟩ := hcell wr Hb.out
              have hki : (k : Int) < (x.q.length : Int) := by omega
              have hbw : b < wr.heap.size := by omega
              have Hc := Lib.hid hc
              have hsn := goneT_snoc (who := who) hc
              have Hsn := Lib.hid hsn
              have G0 := Lib.hid g0; have G1 := Lib.hid g1
              clear hcell hc hsn
              by_cases hcw : c.who = who
              · have hwb : (c.who == who) = true := by simpa using hcw
                have hwn : (c.who != who) = false := by simpa using hcw
                rw [if_pos hcw, List.append_nil] at Hsn
                clear hcw
                go_wp2_with fail
                go_roundg (x.q.length - (k + 1))
                case measure => have := Hg.out; omega
                case rel => exact ⟨k + 1, _, _, by omega, rfl, by go_num, by rw [Hsn.out]; exact HO.out, by rw [Hsn.out]; exact Hown.out, Hown1.out, Hb.out, hMr⟩
              · have hwb : (c.who == who) = false := by simpa using hcw
                have hwn : (c.who != who) = true := by simpa using hcw
                rw [if_neg hcw] at Hsn
                clear hcw
                go_upto_region 15 with fail
                have hOB := HO.out
                have hbZ : b < wr.heap.size := hbw
                have hoM : ∀ g, (Value.slice O2 (goneT (x.q.take k) who).length oc).ownBlock = some g → M0 + 1 ≤ g ∧ g < wr.heap.size := fun g hg => Hown.out.lt g hg
                have HoM := Lib.hid hoM
                have hC : ∀ U : World, (∀ g, g < wr.heap.size → (Value.slice O2 (goneT (x.q.take k) who).length oc).ownBlock ≠ some g → U.heap[g]? = wr.heap[g]?) → HB w.heap.size x A ac (some ⟨b, off, none⟩) qc U ∧ HB M0 ⟨x.frames, x.budget, gc, goneT (x.q.take k) who⟩ O1 oc1 O2 oc U ∧ U.cell? ⟨b, off + k * 2, none⟩ = some (.int .i64 c.who) ∧ U.cell? ⟨b, off + k * 2 + 1, none⟩ = some (.int .i64 c.claim) := fun U hU =>
                  ⟨(HBN.out.up Hb.out hNM).keep (hU _ (by omega) (fun e => by have := HoM.out _ e; omega)), HO.out.keep (hU _ (by omega) (fun e => by have := HoM.out _ e; omega)), (World.cell?_of_block (a := ⟨b, off + k * 2, none⟩) (hU b hbZ (fun e => by have := HoM.out _ e; omega))).trans G0.out, (World.cell?_of_block (a := ⟨b, off + k * 2 + 1, none⟩) (hU b hbZ (fun e => by have := HoM.out _ e; omega))).trans G1.out⟩
                have HC0 := Lib.hid hC
                have HAP := Lib.hid (show ∀ g, (Value.slice O1 gc.length oc1).ownBlock = some g → (Value.slice O2 (goneT (x.q.take k) who).length oc).ownBlock ≠ some g from fun g hg e => by rcases own_apart Hown.out Hown1.out (by decide) with h | h; rw [h] at e; cases e; exact h (e.trans hg.symm))
                have hC2 : ∀ U : World, (∀ g, g < wr.heap.size → (Value.slice O2 (goneT (x.q.take k) who).length oc).ownBlock ≠ some g → U.heap[g]? = wr.heap[g]?) → (fun U => HB w.heap.size x A ac (some ⟨b, off, none⟩) qc U ∧ HB M0 ⟨x.frames, x.budget, gc, goneT (x.q.take k) who⟩ O1 oc1 O2 oc U ∧ U.cell? ⟨b, off + k * 2, none⟩ = some (.int .i64 c.who) ∧ U.cell? ⟨b, off + k * 2 + 1, none⟩ = some (.int .i64 c.claim)) U := hC
                have HC := Lib.hid hC2
                refine wp_region_F 10 (fun U => HB w.heap.size x A ac (some ⟨b, off, none⟩) qc U ∧ HB M0 ⟨x.frames, x.budget, gc, goneT (x.q.take k) who⟩ O1 oc1 O2 oc U ∧ U.cell? ⟨b, off + k * 2, none⟩ = some (.int .i64 c.who) ∧ U.cell? ⟨b, off + k * 2 + 1, none⟩ = some (.int .i64 c.claim)) (by kernel_rfl) rfl rfl ?_
                obtain ⟨U0, hU0⟩ : ∃ U0, U0 = wr.drew := ⟨_, rfl⟩
                have Hk0 := Lib.hid (show ∀ g : Nat, U0.heap[g]? = wr.heap[g]? from fun g => by rw [hU0]; rfl)
                have Hb0 := Lib.hid (show ∀ g, g < wr.heap.size → (Value.slice O2 (goneT (x.q.take k) who).length oc).ownBlock ≠ some g → U0.heap[g]? = wr.heap[g]? from fun g _ _ => by rw [hU0]; rfl)
                have Hs0 := Lib.hid (show U0.heap.size = wr.heap.size by rw [hU0]; rfl)
                have Ho0 := Lib.hid (own_heap Hown.out (w' := U0) fun g hg => by rw [hU0]; rfl)
                have Hw0 := Lib.hid (show Below M0 V U0 by rw [hU0]; exact Hb.out.drew)
                rw [← hU0]
                clear hU0 hC hC2 c0 c1 c2 c3 f0 f1 f2 f3 lt g0 g1 hOB hbw hwb hwn
                (refine takeF (i := 0) (s := 10) (n := 11) (.pointer (some ⟨M0, 3, none⟩)) rfl (by kernel_rfl) (by kernel_rfl) (by kernel_rfl) (by kernel_rfl) (by kernel_rfl) rfl (fun _ _ _ h => h) (HC.out U0 Hb0.out) rfl (fun U hU => by obtain ⟨⟨h0, h1, h2, h3, _, _, _, _, _⟩, ⟨k0, k1, k2, k3, _, _, _, _, _⟩, a0, a1⟩ := hU; go_simp) (fun K hK => ?_); have HK := Lib.hid hK; clear hK; go_simp; refine HK.out _ ?_; clear HK K)
                (refine takeF (i := 1) (s := 10) (n := 11) (.slice O2 (goneT (x.q.take k) who).length oc) rfl (by kernel_rfl) (by kernel_rfl) (by kernel_rfl) (by kernel_rfl) (by kernel_rfl) rfl (fun _ _ _ h => h) (HC.out U0 Hb0.out) rfl (fun U hU => by obtain ⟨⟨h0, h1, h2, h3, _, _, _, _, _⟩, ⟨k0, k1, k2, k3, _, _, _, _, _⟩, a0, a1⟩ := hU; go_simp) (fun K hK => ?_); have HK := Lib.hid hK; clear hK; go_simp; refine HK.out _ ?_; clear HK K)
                (refine takeF (i := 2) (s := 10) (n := 11) (.pointer (some ⟨w.heap.size, 3, none⟩)) rfl (by kernel_rfl) (by kernel_rfl) (by kernel_rfl) (by kernel_rfl) (by kernel_rfl) rfl (fun _ _ _ h => h) (HC.out U0 Hb0.out) rfl (fun U hU => by obtain ⟨⟨h0, h1, h2, h3, _, _, _, _, _⟩, ⟨k0, k1, k2, k3, _, _, _, _, _⟩, a0, a1⟩ := hU; go_simp) (fun K hK => ?_); have HK := Lib.hid hK; clear hK; go_simp; refine HK.out _ ?_; clear HK K)
                (refine takeF (i := 3) (s := 10) (n := 11) (.slice (some ⟨b, off, none⟩) x.q.length qc) rfl (by kernel_rfl) (by kernel_rfl) (by kernel_rfl) (by kernel_rfl) (by kernel_rfl) rfl (fun _ _ _ h => h) (HC.out U0 Hb0.out) rfl (fun U hU => by obtain ⟨⟨h0, h1, h2, h3, _, _, _, _, _⟩, ⟨k0, k1, k2, k3, _, _, _, _, _⟩, a0, a1⟩ := hU; go_simp) (fun K hK => ?_); have HK := Lib.hid hK; clear hK; go_simp; refine HK.out _ ?_; clear HK K)
                (refine takeF (i := 4) (s := 10) (n := 11) (.int .i64 k) rfl (by kernel_rfl) (by kernel_rfl) (by kernel_rfl) (by kernel_rfl) (by kernel_rfl) rfl (fun _ _ _ h => h) (HC.out U0 Hb0.out) rfl (fun U hU => by obtain ⟨⟨h0, h1, h2, h3, _, _, _, _, _⟩, ⟨k0, k1, k2, k3, _, _, _, _, _⟩, a0, a1⟩ := hU; go_simp) (fun K hK => ?_); have HK := Lib.hid hK; clear hK; go_simp; refine HK.out _ ?_; clear HK K)
                (refine takeF (i := 5) (s := 10) (n := 11) (.pointer (some ⟨b, off + k * 2, none⟩)) rfl (by kernel_rfl) (by kernel_rfl) (by kernel_rfl) (by kernel_rfl) (by kernel_rfl) rfl (fun _ _ _ h => h) (HC.out U0 Hb0.out) rfl (fun U hU => by obtain ⟨⟨h0, h1, h2, h3, _, _, _, _, _⟩, ⟨k0, k1, k2, k3, _, _, _, _, _⟩, a0, a1⟩ := hU; go_simp) (fun K hK => ?_); have HK := Lib.hid hK; clear hK; go_simp; refine HK.out _ ?_; clear HK K)
                (refine takeF (i := 6) (s := 10) (n := 11) (.agg #[.int .i64 c.who, .int .i64 c.claim]) rfl (by kernel_rfl) (by kernel_rfl) (by kernel_rfl) (by kernel_rfl) (by kernel_rfl) rfl (fun _ _ _ h => h) (HC.out U0 Hb0.out) rfl (fun U hU => by obtain ⟨⟨h0, h1, h2, h3, _, _, _, _, _⟩, ⟨k0, k1, k2, k3, _, _, _, _, _⟩, a0, a1⟩ := hU; go_simp) (fun K hK => ?_); have HK := Lib.hid hK; clear hK; go_simp; refine HK.out _ ?_; clear HK K)
                refine oneF (i := 7) (by kernel_rfl) rfl rfl rfl (fun K hK => ?_)
                have HK := Lib.hid hK; clear hK; go_simp
                obtain ⟨U1, hU1⟩ : ∃ U1, U1 = U0.alloc (.cells #[.int .i64 c.who, .int .i64 c.claim] 52) := ⟨_, rfl⟩
                have hq1 : Below U0.heap.size U0 U1 := by rw [hU1]; exact (Below.refl _ _).alloc (Nat.le_refl _) _
                have hs1 : U1.heap.size = U0.heap.size + 1 := by rw [hU1]; simp
                have hsrc1 : ∀ (j : Nat) (u : Value), (T.cells c)[j]? = some u → U1.cell? ((⟨U0.heap.size, 0, none⟩ : Addr).add j) = some u := by
                  rw [hU1]
                  exact cells_new (cs := #[.int .i64 c.who, .int .i64 c.claim]) rfl
                have ho1 := own_up Ho0.out hq1
                have Hb1 := Lib.hid (show ∀ g, g < wr.heap.size → (Value.slice O2 (goneT (x.q.take k) who).length oc).ownBlock ≠ some g → U1.heap[g]? = wr.heap[g]? from fun g h1 h2 => (hq1.block g (by have := Hs0.out; omega)).trans (Hk0.out g))
                have Hk1 := Lib.hid (show ∀ g, g < wr.heap.size → U1.heap[g]? = wr.heap[g]? from fun g h1 => (hq1.block g (by have := Hs0.out; omega)).trans (Hk0.out g))
                have Hw1 := Lib.hid (show Below M0 V U1 by have := Hs0.out; exact Hw0.out.trans (hq1.mono (by omega)))
                rw [← hU1]
                have Hs1 := Lib.hid hs1; have Ho1 := Lib.hid ho1; have Hsrc1 := Lib.hid hsrc1
                clear hU1 hq1 hs1 hsrc1 ho1
                refine HK.out _ _ (HC.out _ Hb1.out) ?_
                clear HK K
                refine oneF (i := 8) (by kernel_rfl) rfl rfl rfl (fun K hK => ?_)
                have HK := Lib.hid hK; clear hK
                refine wp_app (.tmp 67) (.tmp 73) 27 rfl (M0 + 1) 52 k0' (.agg #[.int .i64 0, .int .i64 0]) 2 16 Try.underlying27 hk0 hx0 hx1 hx2 rfl (by decide) (v := .slice O2 (goneT (x.q.take k) who).length oc) (by rfl) Ho1.out (A := some ⟨U0.heap.size, 0, none⟩) (m := 1) (c := 1) (news := T.cells c) (by rfl) rfl (by simp) (fun ad e => by injection e with e; subst e; exact Hsrc1.out) (t_one _) ?_ ?_ ?_ ?_
                · unfold maxLen; omega
                · omega
                · have := Hs1.out; have := Hs0.out; omega
                intro v7 w7 ho7 hg7 hv7
                obtain ⟨A7, c7, rfl, _, _⟩ := own_slice ho7
                have hs7 := hg7.size
                have hs1 := Hs1.out; have hs0 := Hs0.out
                have Hb7 := Lib.hid (show ∀ g, g < wr.heap.size → (Value.slice O2 (goneT (x.q.take k) who).length oc).ownBlock ≠ some g → w7.heap[g]? = wr.heap[g]? from fun g h1 h2 => (hg7.block g (by omega) (fun e => h2 e.symm)).trans (Hk1.out g h1))
                have Hw7 := Lib.hid (Hw1.out.grown hg7 (by omega) (fun d hd => by have := HoM.out d hd; omega))
                have Ho7 := Lib.hid ho7
                have Hs7 := Lib.hid (show wr.heap.size ≤ w7.heap.size by omega)
                clear ho7 hg7 hv7 hs7 hs1 hs0
                go_simp
                refine HK.out _ _ (HC.out _ Hb7.out) ?_
                clear HK K
                (refine takeF (i := 9) (s := 10) (n := 11) (.pointer (some ⟨M0, 3, none⟩)) rfl (by kernel_rfl) (by kernel_rfl) (by kernel_rfl) (by kernel_rfl) (by kernel_rfl) rfl (fun _ _ _ h => h) (HC.out w7 Hb7.out) rfl (fun U hU => by obtain ⟨⟨h0, h1, h2, h3, _, _, _, _, _⟩, ⟨k0, k1, k2, k3, _, _, _, _, _⟩, a0, a1⟩ := hU; go_simp) (fun K hK => ?_); have HK := Lib.hid hK; clear hK; go_simp; refine HK.out _ ?_; clear HK K)
                obtain ⟨_, ⟨c0, c1, c2, c3, f0, f1, f2, f3, lt⟩, _⟩ := HC0.out w7 Hb7.out
                refine lastF (by kernel_rfl) rfl rfl (by kernel_rfl) rfl (fun K hK => ?_)
                have HK := Lib.hid hK; clear hK; go_simp
                refine HK.out _ _ ?_
                clear HK K c0 c1 c2 c3 f0 f1 f2 f3 lt
                obtain ⟨w8, hw8⟩ : ∃ w8, w8 = w7.setCell ⟨M0, 3, none⟩ (.slice A7 ((goneT (x.q.take k) who).length + 1) c7) := ⟨_, rfl⟩
                have hk8 : ∀ g, g ≠ M0 → w8.heap[g]? = w7.heap[g]? := fun g h => by rw [hw8]; exact Below.heap_setCell w7 ⟨M0, 3, none⟩ _ g h
                have hl8 : (goneT (x.q.take (k + 1)) who).length = (goneT (x.q.take k) who).length + 1 := by rw [Hsn.out, List.length_append]; rfl
                have HB8 := Lib.hid (show HB M0 ⟨x.frames, x.budget, gc, goneT (x.q.take (k + 1)) who⟩ O1 oc1 A7 c7 w8 by
                  have := (HC0.out w7 Hb7.out).2.1.set3 (goneT (x.q.take (k + 1)) who) A7 c7
                  rw [hl8] at this
                  rw [hw8]; exact this)
                have Ho8 := Lib.hid (show w8.ownsRow (M0 + 1) 52 2 (.slice A7 (goneT (x.q.take (k + 1)) who).length c7) (goneT (x.q.take (k + 1)) who).length ((goneT (x.q.take (k + 1)) who).flatMap T.cells) by
                  rw [hl8, Hsn.out, List.flatMap_append]
                  refine own_heap ?_ (w := w7) fun g hg => hk8 g (by have := (Ho7.out.lt g hg).1; omega)
                  simpa using Ho7.out)
                have Hown8 := Lib.hid (show w8.ownsRow (M0 + 1) 65 3 (.slice O1 gc.length oc1) gc.length (gc.flatMap C.cells) from own_heap Hown1.out (w' := w8) fun g hg => (hk8 g (by have := (Hown1.out.lt g hg).1; omega)).trans (Hb7.out g (Hown1.out.lt g hg).2 (HAP.out g hg)))
                have Hw8 := Lib.hid (show Below M0 V w8 by rw [hw8]; exact Hw7.out.setCell (p := ⟨M0, 3, none⟩) (Nat.le_refl _) _)
                have hM8 : M0 < w8.heap.size := by have := Hs7.out; rw [hw8]; simp; omega
                rw [← hw8]
                clear hw8 hk8 hl8
                go_wp2_with fail
                go_roundg (x.q.length - (k + 1))
                case measure => have := Hg.out; omega
                case rel => exact ⟨k + 1, A7, c7, by omega, rfl, by go_num, HB8.out, Ho8.out, Hown8.out, Hw8.out, hM8⟩

            · obtain rfl : k = x.q.length := by omega
              rw [List.take_length] at HO Hown
              obtain ⟨gt, hgt⟩ : ∃ gt, gt = goneT x.q who := ⟨_, rfl⟩
              rw [← hgt] at HO Hown
              have hsm := Hsm.out
              have hpm := Hpm.out
              rw [← Hgc.out, ← hgt] at hsm hpm
              clear hgt hgl
              obtain ⟨hc51, hc52⟩ := own_cap Hown1.out
              obtain ⟨hc81, hc82⟩ := own_cap Hown.out
              have hm9 : HM wr (fun b => M0 + 1 ≤ b ∧ b < wr.heap.size) ⟨x.frames, x.budget, gc, gt⟩ O1 oc1 O2 oc := ⟨Rd'.of_own Hown1.out c_len (by decide), Rd'.of_own Hown.out t_len (by decide), hc51, hc52, hc81, hc82⟩
              have d10 := refLet_any wr (fun b => M0 + 1 ≤ b ∧ b < wr.heap.size) O1 O2 oc1 oc ⟨x.frames, x.budget, gc, gt⟩ hsm (fun b hb => hb.2) hm9
              obtain ⟨r, ins, hr⟩ : ∃ r ins, enterM ⟨x.frames, x.budget, gc, gt⟩ = (r, ins) := ⟨_, _, rfl⟩
              have hr2 : enterM { x with cs := gc, q := gt } = (r, ins) := hr
              rw [hr] at d10
              rw [hr2] at hpm
              have Hd10 := Lib.hid d10; have Hpm2 := Lib.hid hpm
              clear d10 hr hr2 hpm hsm hm9
              go_upto_region 16 with fail
              clear c0 c1 c2 c3 f0 f1 f2 f3 lt
              obtain ⟨c0, c1, c2, c3, f0, f1, f2, f3, lt⟩ := HO.out
              simp only at c0 c1 c2 c3
              go_wp2_with fail
              refine Hd10.out.mono ?_
              clear Hd10 c0 c1 c2 c3 f0 f1 f2 f3 lt
              rintro e V10 ⟨A10, ac10, Q10, qc10, I10, ic10, rfl, hm10, hi10, hb10⟩
              have hs10 := hb10.size
              obtain ⟨M5, hM5⟩ : ∃ M5, M5 = V10.heap.size := ⟨_, rfl⟩
              obtain ⟨X5, hX5⟩ : ∃ X5, X5 = V10.alloc (.cells #[.int .i64 r.frames, .int .i64 r.budget, .slice A10 r.cs.length ac10, .slice Q10 r.q.length qc10] 29) := ⟨_, rfl⟩
              have hbX5 : Below V10.heap.size V10 X5 := by rw [hX5]; exact (Below.refl _ _).alloc (Nat.le_refl _) _
              have HB5 := Lib.hid (show HB M5 r A10 ac10 Q10 qc10 X5 by rw [hX5, hM5]; exact HB.of (t := 29) (heap_alloc_new V10 _))
              have Hm5 := Lib.hid (hm10.keep (w' := X5) fun b hb => hbX5.block b (by omega))
              have Hi5 := Lib.hid (hi10.keep (w' := X5) fun b hb => hbX5.block b hb.2)
              have HR5 := Lib.hid (HR'.out.up (Hb2.out.trans ((Hb.out.trans ((hb10.mono (by omega)).trans (hbX5.mono (by omega)))).mono (by omega))) ltR)
              have Hbw5 := Lib.hid (show Below w.heap.size w X5 from HbW.out.trans ((Hb2.out.mono (by omega)).trans ((Hb.out.mono (by omega)).trans ((hb10.mono (by omega)).trans (hbX5.mono (by omega))))))
              have hs5 : X5.heap.size = V10.heap.size + 1 := by rw [hX5]; simp
              have HX5 := Lib.hid hX5.symm; have HM5 := Lib.hid hM5.symm
              have Hs5 := Lib.hid (show X5.heap.size = M5 + 1 ∧ w.heap.size + 2 ≤ V10.heap.size ∧ V10.heap.size = M5 ∧ wr.heap.size ≤ V10.heap.size by omega)
              clear hm10 hi10 hb10 hM5 hX5 hbX5 hs5
              simp only
              go_upto_region 17 with fail
              rw [HX5.out, HM5.out]
              obtain ⟨c0, c1, c2, c3, f0, f1, f2, f3, lt⟩ := HB5.out
              obtain ⟨r0, r1, r2, r3, k0, k1, k2, k3, ltR5⟩ := HR5.out
              have hne1 : ¬ w.heap.size + 1 = M5 := by have := Hs5.out; omega
              have hne2 : ¬ M5 = w.heap.size + 1 := by have := Hs5.out; omega
              clear HX5 HM5
              go_wp2_with fail
              have hbx := HR5.out.hb.fill (r := r) (A' := A10) (ac' := ac10) (Q' := Q10) (qc' := qc10)
              unfold fill4 at hbx
              obtain ⟨y0, y1, y2, y3, _, _, _, _, _⟩ := hbx
              refine bodyPost_ret (v := .tuple #[.agg #[.int .i64 r.frames, .int .i64 r.budget, .slice A10 r.cs.length ac10, .slice Q10 r.q.length qc10], .slice I10 ins.length ic10, .int .i64 0]) (by simp [results, Try.results14, go_sem, y0, y1, y2, y3]) rfl ?_
              rw [Hpm2.out]
              have hs5 := Hs5.out
              have hz12 : (fill4 X5 (w.heap.size + 1) r A10 ac10 Q10 qc10).heap.size = X5.heap.size := fill4_size
              have hfin : EndDone ok (r, ins, 0) w (.returned (.tuple #[.agg #[.int .i64 r.frames, .int .i64 r.budget, .slice A10 r.cs.length ac10, .slice Q10 r.q.length qc10], .slice I10 ins.length ic10, .int .i64 0])) (fill4 X5 (w.heap.size + 1) r A10 ac10 Q10 qc10) := by
                refine ⟨A10, ac10, Q10, qc10, I10, ic10, rfl, (Hm5.out.keep fun b hb => fill4_keep (by omega)).imp fun b hb => .inr (by omega), (Hi5.out.keep fun b hb => fill4_keep (by omega)).imp fun b hb => by omega, ?_⟩
                exact fill4_below Hbw5.out (by omega)
              unfold fill4 at hfin
              exact hfin
end Go.Proofs.Ythhfhgkkfaghoaa
