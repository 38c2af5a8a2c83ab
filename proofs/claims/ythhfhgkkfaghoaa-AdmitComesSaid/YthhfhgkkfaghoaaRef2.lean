/- The contract of lockkeeperref11.Right. -/
import Derived.Test.YthhfhgkkfaghoaaRefP
import Derived.Test.YthhfhgkkfaghoaaBank4
import Derived.Deep.DeepCutAuto
namespace Go.Proofs.Ythhfhgkkfaghoaa
open Go.RowKit

set_option maxRecDepth 20000 in
set_option maxHeartbeats 8000000 in
theorem refHall_any (w : World) (A Q : Option Addr) (ac qc : Nat) (x : Hall) (hl1 : x.cs.length ≤ 1000) (hl2 : x.q.length ≤ 1000) (hr : Rd C.cells 3 w w.heap.size A x.cs) (hq : Rd T.cells 2 w w.heap.size Q x.q) :
    Calls Try.prog 15 #[.agg #[.int .i64 x.frames, .int .i64 x.budget, .slice A x.cs.length ac, .slice Q x.q.length qc]] w fun e w' => e = .returned (.bool x.right) ∧ Below w.heap.size w w' := by
  obtain ⟨W, hW, hbW, hsW, hB⟩ := hall_box w A Q ac qc x 29
  have Hr := Lib.hid (hr.up hbW)
  have Hq := Lib.hid (hq.up hbW)
  have HbW := Lib.hid hbW
  have HB' := Lib.hid hB
  obtain ⟨c0, c1, c2, c3, _, _, _, _, lt⟩ := hB
  have hW' := hW.symm
  clear hW hbW hr hq
  have hcs : (x.frames < 1 ∨ 8 < x.frames ∨ x.budget < 1 ∨ 100 < x.budget) ∨ (1 ≤ x.frames ∧ x.frames ≤ 8 ∧ 1 ≤ x.budget ∧ x.budget ≤ 100) := by omega
  rcases hcs with hbad | ⟨f1, f2, b1, b2⟩
  · have hne : x.right = false := right_heads (by
      cases h : x.heads with
      | false => rfl
      | true => have := heads_iff.1 h; omega)
    have Hne := Lib.hid hne; clear hne
    have hbad2 : x.frames < 1 ∨ (¬ x.frames < 1 ∧ 8 < x.frames) ∨ (¬ x.frames < 1 ∧ ¬ 8 < x.frames ∧ x.budget < 1) ∨ (¬ x.frames < 1 ∧ ¬ 8 < x.frames ∧ ¬ x.budget < 1 ∧ 100 < x.budget) := by omega
    clear hbad
    rcases hbad2 with h1 | ⟨h1, h2⟩ | ⟨h1, h2, h3⟩ | ⟨h1, h2, h3, h4⟩
    all_goals
      go_enter Try.func15, Try.ntmps15
      go_wp2_with fail
      go_ret
      exact ⟨ret_bool Hne.out.symm, HbW.out⟩
  have n1 : ¬ x.frames < 1 := by omega
  have n2 : ¬ 8 < x.frames := by omega
  have n3 : ¬ x.budget < 1 := by omega
  have n4 : ¬ 100 < x.budget := by omega
  have ew : IntKind.i64.wrap ((x.cs.length : Int) + (x.q.length : Int)) = (x.cs.length : Int) + (x.q.length : Int) := IntWalk.i64_in _ (by omega)
  by_cases hlen : (40 : Int) < (x.cs.length : Int) + (x.q.length : Int)
  · have hne : x.right = false := right_heads (by
      cases h : x.heads with
      | false => rfl
      | true => have := heads_iff.1 h; omega)
    have Hne := Lib.hid hne; clear hne
    go_enter Try.func15, Try.ntmps15
    go_wp2_with fail
    go_ret
    exact ⟨ret_bool Hne.out.symm, HbW.out⟩
  have Hh := Lib.hid (heads_iff.2 ⟨f1, f2, b1, b2, by omega⟩ : x.heads = true)
  have hl40 : x.cs.length + x.q.length ≤ 40 := by omega
  have f2' : x.frames ≤ 8 := f2
  go_enter Try.func15, Try.ntmps15
  go_wp2_with fail
  refine (refRight_any W A ac x.cs (by omega) Hr.out).mono ?_
  rintro e V ⟨rfl, hb1⟩
  have Hb1 := Lib.hid hb1
  obtain ⟨rt, hrt⟩ : ∃ rt, rt = rightB x.cs := ⟨_, rfl⟩
  rw [← hrt]
  have Hrt := Lib.hid hrt; clear hrt
  clear c0 c1 c2 c3 hW' ew hlen n1 n2 n3 n4
  obtain ⟨c0, c1, c2, c3, _, _, _, _, ltV⟩ := HB'.out.up hb1 lt
  cases rt with
  | false =>
    go_wp2_with fail
    go_ret
    exact ⟨ret_bool (right_cs Hrt.out.symm).symm, bnext HbW.out hb1⟩
  | true =>
    clear hb1
    go_wp2_with fail
    go_loopg [3] x.cs.length (fun g i wr => ∃ k : Nat, k ≤ x.cs.length ∧ g = x.cs.length - k ∧ i = .int .i64 k ∧ (∀ (j : Nat) (c : C), j < k → x.cs[j]? = some c → refOkC x c = true) ∧ Below W.heap.size W wr)
    case atStart => exact ⟨0, Nat.zero_le _, rfl, rfl, fun j _ h => absurd h (by omega), Hb1.out⟩
    case round =>
      obtain ⟨k, hk, hg, rfl, hok, hb⟩ := hrel
      have Hg := Lib.hid hg; clear hg
      have Hok := Lib.hid hok; clear hok
      have Hb := Lib.hid hb
      clear c0 c1 c2 c3 ltV
      obtain ⟨c0, c1, c2, c3, _, _, _, _, ltr⟩ := HB'.out.up hb lt
      have hsr := hb.size
      by_cases hlt : k < x.cs.length
      · obtain ⟨c, b, off, hc, rfl, hbb, hcell⟩ := rd_c Hr.out hlt
        obtain ⟨g0, g1, g2⟩ := hcell wr hb
        have hki : (k : Int) < (x.cs.length : Int) := by omega
        have hbw : b < wr.heap.size := by omega
        have Hc := Lib.hid hc
        obtain ⟨M, hM⟩ : ∃ M, M = wr.heap.size := ⟨_, rfl⟩
        obtain ⟨V1, hV1⟩ : ∃ V1, V1 = wr.alloc (.cells #[.int .i64 c.who, .int .i64 c.claim, .int .i64 c.held] 65) := ⟨_, rfl⟩
        have HV1W := Lib.hid (show Below W.heap.size W V1 by rw [hV1]; exact hb.alloc hsr _)
        have HV1M := Lib.hid (show V1.heap[M]? = some (.cells #[.int .i64 c.who, .int .i64 c.claim, .int .i64 c.held] 65 (0, 0)) by rw [hV1, hM, heap_alloc_new])
        have HV1 := Lib.hid hV1.symm
        have HM := Lib.hid hM.symm
        clear hcell hc hb hV1 hM
        go_upto_region 7 with fail
        rw [HV1.out, HM.out]
        clear c0 c1 c2 c3 ltr g0 g1 g2 hbw hsr
        obtain ⟨c0, c1, c2, c3, _, _, _, _, ltr⟩ := HB'.out.up HV1W.out lt
        have hMlt : M < V1.heap.size := (Array.getElem?_eq_some_iff.1 HV1M.out).1
        have n0 := bw_cell c0 ltr
        have n1 := bw_cell c1 ltr
        have n2 := bw_cell c2 ltr
        have n3 := bw_cell c3 ltr
        have v0 : ∀ y : BW V1, y.w.cell? ⟨M, 0, none⟩ = some (.int .i64 c.who) := bw_cell (cells_of HV1M.out 0) hMlt
        have v1 : ∀ y : BW V1, y.w.cell? ⟨M, 1, none⟩ = some (.int .i64 c.claim) := bw_cell (cells_of HV1M.out 1) hMlt
        obtain ⟨ls, hls⟩ : ∃ ls, ls = x.least := ⟨_, rfl⟩
        obtain ⟨cn, hcn⟩ : ∃ cn : Nat, cn = refCnt x c.who := ⟨_, rfl⟩
        have hc1 : ∀ y : BW V1, Calls Try.prog 33 #[.agg #[.int .i64 x.frames, .int .i64 x.budget, .slice (some ⟨b, off, none⟩) x.cs.length ac, .slice Q x.q.length qc]] y.w fun e w' => e = .returned (.int .i64 ls) ∧ Below y.w.heap.size y.w w' := fun y => by
          rw [hls]
          exact refLeast_any y.w _ Q ac qc x
        have hc2 : ∀ y : BW V1, Calls Try.prog 34 #[.agg #[.int .i64 x.frames, .int .i64 x.budget, .slice (some ⟨b, off, none⟩) x.cs.length ac, .slice Q x.q.length qc], .int .i64 c.who] y.w fun e w' => e = .returned (.int .i64 (cn : Int)) ∧ Below y.w.heap.size y.w w' := fun y => by
          rw [hcn, refCnt]
          exact refIn_any y.w _ Q ac qc x c.who hl1 hl2 (Hr.out.up (HV1W.out.trans (y.below.mono HV1W.out.size))) (Hq.out.up (HV1W.out.trans (y.below.mono HV1W.out.size)))
        have hokc : refOkC x c = (decide (1 ≤ c.claim) && decide (c.claim ≤ ls) && decide (cn = 1)) := by rw [refOkC, okClaim, ← hls, ← hcn]
        have Hc1 := Lib.hid hc1; have Hc2 := Lib.hid hc2; have Hokc := Lib.hid hokc
        clear hc1 hc2 hokc hls hcn c0 c1 c2 c3 HV1M HV1
        rcases Int.lt_or_le c.claim 1 with h1 | h1
        · --
          have hne : refOkC x c = false := by rw [Hokc.out, decide_eq_false (show ¬ 1 ≤ c.claim by omega)]; simp
          have Hne := Lib.hid hne; clear hne
          refine wp_region_bw (by kernel_rfl) (by kernel_rfl) ?_
          repeat (go_big_quiet_step (first | exact call_bw (Hc1.out _) | exact call_bw (Hc2.out _)))
          refine wpQuiet_nil (bw_nil fun V2 hV2 => ?_)
          have HV2 := Lib.hid (HV1W.out.trans (hV2.mono HV1W.out.size))
          clear n0 n1 n2 n3 v0 v1 hV2
          go_wp2_with fail
          go_ret
          exact ⟨ret_bool (refRight_c Hc.out Hne.out).symm, bnext HbW.out HV2.out⟩
        have h1' : ¬ c.claim < 1 := by omega
        rcases Int.lt_or_le ls c.claim with h2 | h2
        · --
          have hne : refOkC x c = false := by rw [Hokc.out, decide_eq_false (show ¬ c.claim ≤ ls by omega)]; simp
          have Hne := Lib.hid hne; clear hne
          refine wp_region_bw (by kernel_rfl) (by kernel_rfl) ?_
          repeat (go_big_quiet_step (first | exact call_bw (Hc1.out _) | exact call_bw (Hc2.out _)))
          refine wpQuiet_nil (bw_nil fun V2 hV2 => ?_)
          have HV2 := Lib.hid (HV1W.out.trans (hV2.mono HV1W.out.size))
          clear n0 n1 n2 n3 v0 v1 hV2
          go_wp2_with fail
          go_ret
          exact ⟨ret_bool (refRight_c Hc.out Hne.out).symm, bnext HbW.out HV2.out⟩
        have h2' : ¬ ls < c.claim := by omega
        by_cases h3 : cn = 1
        · have h3b : ((cn : Int) == 1) = true := by rw [h3]; rfl
          have hne : refOkC x c = true := by rw [Hokc.out, decide_eq_true h1, decide_eq_true h2, decide_eq_true h3]; rfl
          have Hne := Lib.hid hne; clear hne h3
          refine wp_region_bw (by kernel_rfl) (by kernel_rfl) ?_
          repeat (go_big_quiet_step (first | exact call_bw (Hc1.out _) | exact call_bw (Hc2.out _)))
          refine wpQuiet_nil (bw_nil fun V2 hV2 => ?_)
          have HV2 := Lib.hid (HV1W.out.trans (hV2.mono HV1W.out.size))
          clear n0 n1 n2 n3 v0 v1 hV2
          go_wp2_with fail
          go_roundg (x.cs.length - (k + 1))
          case measure => have := Hg.out; omega
          case rel =>
            refine ⟨k + 1, by omega, rfl, by go_num, fun j d hj hd => ?_, HV2.out⟩
            rcases Nat.lt_or_ge j k with h | h
            · exact Hok.out j d h hd
            · obtain rfl : j = k := by omega
              rw [Hc.out] at hd
              injection hd with hd
              subst hd
              exact Hne.out
        · have h3b : ((cn : Int) == 1) = false := by rw [beq_eq_false_iff_ne]; omega
          have hne : refOkC x c = false := by rw [Hokc.out, decide_eq_false h3]; simp
          have Hne := Lib.hid hne; clear hne
          refine wp_region_bw (by kernel_rfl) (by kernel_rfl) ?_
          repeat (go_big_quiet_step (first | exact call_bw (Hc1.out _) | exact call_bw (Hc2.out _)))
          refine wpQuiet_nil (bw_nil fun V2 hV2 => ?_)
          have HV2 := Lib.hid (HV1W.out.trans (hV2.mono HV1W.out.size))
          clear n0 n1 n2 n3 v0 v1 hV2
          go_wp2_with fail
          go_ret
          exact ⟨ret_bool (refRight_c Hc.out Hne.out).symm, bnext HbW.out HV2.out⟩
      · obtain rfl : k = x.cs.length := by omega
        clear hb
        go_wp2_with fail
        go_loopg [5] x.q.length (fun g i wr => ∃ k : Nat, k ≤ x.q.length ∧ g = x.q.length - k ∧ i = .int .i64 k ∧ (∀ (j : Nat) (t : T), j < k → x.q[j]? = some t → refOkT x t = true) ∧ Below W.heap.size W wr)
        case atStart => exact ⟨0, Nat.zero_le _, rfl, rfl, fun j _ h => absurd h (by omega), Hb.out⟩
        case round =>
          obtain ⟨k, hk, hg, rfl, hokq, hb⟩ := hrel
          have Hg := Lib.hid hg; clear hg
          have Hokq := Lib.hid hokq; clear hokq
          have Hb := Lib.hid hb
          clear c0 c1 c2 c3 ltr hsr
          obtain ⟨c0, c1, c2, c3, _, _, _, _, ltr⟩ := HB'.out.up hb lt
          have hsr := hb.size
          by_cases hlt : k < x.q.length
          · obtain ⟨t, b, off, hc, hQ, hbb, hcell⟩ := rd_t Hq.out hlt
            obtain ⟨g0, g1⟩ := hcell wr hb
            have hki : (k : Int) < (x.q.length : Int) := by omega
            have hbw : b < wr.heap.size := by omega
            have Hc := Lib.hid hc
            subst hQ
            obtain ⟨M, hM⟩ : ∃ M, M = wr.heap.size := ⟨_, rfl⟩
            obtain ⟨V1, hV1⟩ : ∃ V1, V1 = wr.alloc (.cells #[.int .i64 t.who, .int .i64 t.claim] 52) := ⟨_, rfl⟩
            have HV1W := Lib.hid (show Below W.heap.size W V1 by rw [hV1]; exact hb.alloc hsr _)
            have HV1M := Lib.hid (show V1.heap[M]? = some (.cells #[.int .i64 t.who, .int .i64 t.claim] 52 (0, 0)) by rw [hV1, hM, heap_alloc_new])
            have HV1 := Lib.hid hV1.symm
            have HM := Lib.hid hM.symm
            clear hcell hc hb hV1 hM
            go_upto_region 13 with fail
            rw [HV1.out, HM.out]
            clear c0 c1 c2 c3 ltr g0 g1 hbw hsr
            obtain ⟨c0, c1, c2, c3, _, _, _, _, ltr⟩ := HB'.out.up HV1W.out lt
            have hMlt : M < V1.heap.size := (Array.getElem?_eq_some_iff.1 HV1M.out).1
            have n0 := bw_cell c0 ltr
            have n1 := bw_cell c1 ltr
            have n2 := bw_cell c2 ltr
            have n3 := bw_cell c3 ltr
            have v0 : ∀ y : BW V1, y.w.cell? ⟨M, 0, none⟩ = some (.int .i64 t.who) := bw_cell (cells_of HV1M.out 0) hMlt
            have v1 : ∀ y : BW V1, y.w.cell? ⟨M, 1, none⟩ = some (.int .i64 t.claim) := bw_cell (cells_of HV1M.out 1) hMlt
            obtain ⟨ls, hls⟩ : ∃ ls, ls = x.least := ⟨_, rfl⟩
            obtain ⟨cn, hcn⟩ : ∃ cn : Nat, cn = refCnt x t.who := ⟨_, rfl⟩
            have hc1 : ∀ y : BW V1, Calls Try.prog 33 #[.agg #[.int .i64 x.frames, .int .i64 x.budget, .slice A x.cs.length ac, .slice (some ⟨b, off, none⟩) x.q.length qc]] y.w fun e w' => e = .returned (.int .i64 ls) ∧ Below y.w.heap.size y.w w' := fun y => by
              rw [hls]
              exact refLeast_any y.w A _ ac qc x
            have hc2 : ∀ y : BW V1, Calls Try.prog 34 #[.agg #[.int .i64 x.frames, .int .i64 x.budget, .slice A x.cs.length ac, .slice (some ⟨b, off, none⟩) x.q.length qc], .int .i64 t.who] y.w fun e w' => e = .returned (.int .i64 (cn : Int)) ∧ Below y.w.heap.size y.w w' := fun y => by
              rw [hcn, refCnt]
              exact refIn_any y.w A _ ac qc x t.who hl1 hl2 (Hr.out.up (HV1W.out.trans (y.below.mono HV1W.out.size))) (Hq.out.up (HV1W.out.trans (y.below.mono HV1W.out.size)))
            have hokc : refOkT x t = (decide (0 ≤ t.who) && decide (t.who ≤ 2147483647) && (decide (1 ≤ t.claim) && decide (t.claim ≤ ls)) && decide (cn = 1)) := by rw [refOkT, okClaim, ← hls, ← hcn]
            have Hc1 := Lib.hid hc1; have Hc2 := Lib.hid hc2; have Hokc := Lib.hid hokc
            clear hc1 hc2 hokc hls hcn c0 c1 c2 c3 HV1M HV1
            rcases Int.lt_or_le t.who 0 with h4 | h4
            · --
              have hne : refOkT x t = false := by rw [Hokc.out, decide_eq_false (show ¬ 0 ≤ t.who by omega)]; simp
              have Hne := Lib.hid hne; clear hne
              refine wp_region_bw (by kernel_rfl) (by kernel_rfl) ?_
              repeat (go_big_quiet_step (first | exact call_bw (Hc1.out _) | exact call_bw (Hc2.out _)))
              refine wpQuiet_nil (bw_nil fun V2 hV2 => ?_)
              have HV2 := Lib.hid (HV1W.out.trans (hV2.mono HV1W.out.size))
              clear n0 n1 n2 n3 v0 v1 hV2
              go_wp2_with fail
              go_ret
              exact ⟨ret_bool (refRight_t Hc.out Hne.out).symm, bnext HbW.out HV2.out⟩
            have h4' : ¬ t.who < 0 := by omega
            rcases Int.lt_or_le 2147483647 t.who with h5 | h5
            · --
              have hne : refOkT x t = false := by rw [Hokc.out, decide_eq_false (show ¬ t.who ≤ 2147483647 by omega)]; simp
              have Hne := Lib.hid hne; clear hne
              refine wp_region_bw (by kernel_rfl) (by kernel_rfl) ?_
              repeat (go_big_quiet_step (first | exact call_bw (Hc1.out _) | exact call_bw (Hc2.out _)))
              refine wpQuiet_nil (bw_nil fun V2 hV2 => ?_)
              have HV2 := Lib.hid (HV1W.out.trans (hV2.mono HV1W.out.size))
              clear n0 n1 n2 n3 v0 v1 hV2
              go_wp2_with fail
              go_ret
              exact ⟨ret_bool (refRight_t Hc.out Hne.out).symm, bnext HbW.out HV2.out⟩
            have h5' : ¬ 2147483647 < t.who := by omega
            rcases Int.lt_or_le t.claim 1 with h1 | h1
            · --
              have hne : refOkT x t = false := by rw [Hokc.out, decide_eq_false (show ¬ 1 ≤ t.claim by omega)]; simp
              have Hne := Lib.hid hne; clear hne
              refine wp_region_bw (by kernel_rfl) (by kernel_rfl) ?_
              repeat (go_big_quiet_step (first | exact call_bw (Hc1.out _) | exact call_bw (Hc2.out _)))
              refine wpQuiet_nil (bw_nil fun V2 hV2 => ?_)
              have HV2 := Lib.hid (HV1W.out.trans (hV2.mono HV1W.out.size))
              clear n0 n1 n2 n3 v0 v1 hV2
              go_wp2_with fail
              go_ret
              exact ⟨ret_bool (refRight_t Hc.out Hne.out).symm, bnext HbW.out HV2.out⟩
            have h1' : ¬ t.claim < 1 := by omega
            rcases Int.lt_or_le ls t.claim with h2 | h2
            · --
              have hne : refOkT x t = false := by rw [Hokc.out, decide_eq_false (show ¬ t.claim ≤ ls by omega)]; simp
              have Hne := Lib.hid hne; clear hne
              refine wp_region_bw (by kernel_rfl) (by kernel_rfl) ?_
              repeat (go_big_quiet_step (first | exact call_bw (Hc1.out _) | exact call_bw (Hc2.out _)))
              refine wpQuiet_nil (bw_nil fun V2 hV2 => ?_)
              have HV2 := Lib.hid (HV1W.out.trans (hV2.mono HV1W.out.size))
              clear n0 n1 n2 n3 v0 v1 hV2
              go_wp2_with fail
              go_ret
              exact ⟨ret_bool (refRight_t Hc.out Hne.out).symm, bnext HbW.out HV2.out⟩
            have h2' : ¬ ls < t.claim := by omega
            by_cases h3 : cn = 1
            · have h3b : ((cn : Int) == 1) = true := by rw [h3]; rfl
              have hne : refOkT x t = true := by rw [Hokc.out, decide_eq_true h1, decide_eq_true h2, decide_eq_true h3, decide_eq_true h4, decide_eq_true h5]; rfl
              have Hne := Lib.hid hne; clear hne h3
              refine wp_region_bw (by kernel_rfl) (by kernel_rfl) ?_
              repeat (go_big_quiet_step (first | exact call_bw (Hc1.out _) | exact call_bw (Hc2.out _)))
              refine wpQuiet_nil (bw_nil fun V2 hV2 => ?_)
              have HV2 := Lib.hid (HV1W.out.trans (hV2.mono HV1W.out.size))
              clear n0 n1 n2 n3 v0 v1 hV2
              go_wp2_with fail
              go_roundg (x.q.length - (k + 1))
              case measure => have := Hg.out; omega
              case rel =>
                refine ⟨k + 1, by omega, rfl, by go_num, fun j d hj hd => ?_, HV2.out⟩
                rcases Nat.lt_or_ge j k with h | h
                · exact Hokq.out j d h hd
                · obtain rfl : j = k := by omega
                  rw [Hc.out] at hd
                  injection hd with hd
                  subst hd
                  exact Hne.out
            · have h3b : ((cn : Int) == 1) = false := by rw [beq_eq_false_iff_ne]; omega
              have hne : refOkT x t = false := by rw [Hokc.out, decide_eq_false h3]; simp
              have Hne := Lib.hid hne; clear hne
              refine wp_region_bw (by kernel_rfl) (by kernel_rfl) ?_
              repeat (go_big_quiet_step (first | exact call_bw (Hc1.out _) | exact call_bw (Hc2.out _)))
              refine wpQuiet_nil (bw_nil fun V2 hV2 => ?_)
              have HV2 := Lib.hid (HV1W.out.trans (hV2.mono HV1W.out.size))
              clear n0 n1 n2 n3 v0 v1 hV2
              go_wp2_with fail
              go_ret
              exact ⟨ret_bool (refRight_t Hc.out Hne.out).symm, bnext HbW.out HV2.out⟩
          · obtain rfl : k = x.q.length := by omega
            have hokt := fun (j : Nat) (t : T) (ht : x.q[j]? = some t) => Hokq.out j t (List.getElem?_eq_some_iff.1 ht).1 ht
            have hsm : x.small := small_ref Hh.out Hrt.out.symm hokt
            have hend := refRight_end Hh.out Hrt.out.symm (fun j c hc => Hok.out j c (List.getElem?_eq_some_iff.1 hc).1 hc) hokt
            have hl8 : x.cs.length ≤ 8 := (rightB_perm_iff.1 Hrt.out.symm).1
            have d1 := refMay_any wr A Q ac qc x hsm (Hr.out.up hb) (Hq.out.up hb)
            have hd2 : ∀ V, Below W.heap.size W V → Calls Try.prog 43 #[.agg #[.int .i64 x.frames, .int .i64 x.budget, .slice A x.cs.length ac, .slice Q x.q.length qc]] V fun e w' => e = .returned (.bool (refSafeB x)) ∧ Below V.heap.size V w' := fun V hV => refSafe_any V A Q ac qc x (by omega) (by omega) hl8 (smallC_of Hrt.out.symm) (Hr.out.up hV)
            obtain ⟨op, hop⟩ : ∃ op, op = x.open := ⟨_, rfl⟩
            obtain ⟨sf, hsf⟩ : ∃ sf, sf = refSafeB x := ⟨_, rfl⟩
            rw [← hop] at d1 hend
            rw [← hsf] at hd2 hend
            have Hend := Lib.hid hend; have Hd1 := Lib.hid d1; have Hd2 := Lib.hid hd2
            clear hokt hsm hend hl8 d1 hd2 hop hsf hb
            go_wp2_with fail
            refine Hd1.out.mono ?_
            rintro e V3 ⟨rfl, hb3⟩
            have HV3 := Lib.hid (Hb.out.trans (hb3.mono hsr))
            clear c0 c1 c2 c3 ltr hb3
            obtain ⟨c0, c1, c2, c3, _, _, _, _, ltr⟩ := HB'.out.up HV3.out lt
            cases op with
            | true =>
              go_wp2_with fail
              go_ret
              exact ⟨ret_bool (by rw [Hend.out]; rfl), bnext HbW.out HV3.out⟩
            | false =>
              go_wp2_with fail
              refine (Hd2.out V3 HV3.out).mono ?_
              rintro e V4 ⟨rfl, hb4⟩
              have HV4 := Lib.hid (HV3.out.trans (hb4.mono HV3.out.size))
              clear hb4
              go_wp2_with fail
              go_ret
              exact ⟨ret_bool (by rw [Hend.out]; rfl), bnext HbW.out HV4.out⟩
end Go.Proofs.Ythhfhgkkfaghoaa
