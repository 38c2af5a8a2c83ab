/- The contract of latch.Right. -/
import Derived.Test.YtigffndobddflaaLat2
import Derived.Deep.DeepCutAuto
namespace Go.Proofs.Ytigffndobddflaa
open Go.RowKit

set_option maxRecDepth 20000 in
set_option maxHeartbeats 4000000 in
theorem laRight_any (w : World) (A Q : Option Addr) (ac qc : Nat) (l : La) (hl1 : l.hs.length ≤ 1000) (hl2 : l.q.length ≤ 1000) (hm : LM w (fun b => b < w.heap.size) l A ac Q qc) :
    Calls Try.prog 15 #[.agg #[.slice A l.hs.length ac, .bool l.ex, .slice Q l.q.length qc]] w fun e w' => e = .returned (.bool l.right) ∧ Below w.heap.size w w' := by
  obtain ⟨W, hW, hbW, hsW, hB⟩ := la_box w A Q ac qc l 25
  have Hm := Lib.hid (hm.up hbW)
  have HbW := Lib.hid hbW
  have HB' := Lib.hid hB
  obtain ⟨c0, c1, c2, _, _, _, lt⟩ := hB
  obtain ⟨lx, hlx⟩ : ∃ lx, lx = l.ex := ⟨_, rfl⟩
  rw [← hlx] at c1 hW ⊢
  have Hlx := Lib.hid hlx
  have hW' := hW.symm
  clear hW hbW hm hlx
  have ew : IntKind.i64.wrap ((l.hs.length : Int) + (l.q.length : Int)) = (l.hs.length : Int) + (l.q.length : Int) := IntWalk.i64_in _ (by omega)
  by_cases hlen : (64 : Int) < (l.hs.length : Int) + (l.q.length : Int)
  · have hne : l.right = false := la_head (by
      cases h : l.head with
      | false => rfl
      | true => have := la_head_iff.1 h; omega)
    have Hne := Lib.hid hne; clear hne
    go_enter Try.func15, Try.ntmps15
    go_wp2_with fail
    go_ret
    exact ⟨ret_bool Hne.out.symm, HbW.out⟩
  have hl64 : l.hs.length + l.q.length ≤ 64 := by omega
  have hcs : (lx = true ∧ ((l.hs.length : Int) != 1) = true ∧ ((l.hs.length : Int) == 1) = false ∧ l.right = false) ∨ (lx = true ∧ ((l.hs.length : Int) != 1) = false ∧ ((l.hs.length : Int) == 1) = true ∧ l.head = true) ∨ (lx = false ∧ l.head = true) := by
    cases hx : lx with
    | false => exact .inr (.inr ⟨rfl, la_head_iff.2 ⟨hl64, fun h => by rw [← Hlx.out, hx] at h; cases h⟩⟩)
    | true =>
      by_cases h1 : l.hs.length = 1
      · exact .inr (.inl ⟨rfl, by rw [h1]; rfl, by rw [h1]; rfl, la_head_iff.2 ⟨hl64, fun _ => h1⟩⟩)
      · refine .inl ⟨rfl, ?_, ?_, la_head ?_⟩
        · rw [bne_iff_ne]; omega
        · rw [beq_eq_false_iff_ne]; omega
        · cases h : l.head with
          | false => rfl
          | true => exact absurd ((la_head_iff.1 h).2 (by rw [← Hlx.out, hx])) h1
  rcases hcs with ⟨rfl, h1, h2, hne⟩ | hcs
  · have Hne := Lib.hid hne; clear hne
    go_enter Try.func15, Try.ntmps15
    go_wp2_with fail
    go_ret
    exact ⟨ret_bool Hne.out.symm, HbW.out⟩
  have Hh : Hid (l.head = true) := by rcases hcs with h | h; exact Lib.hid h.2.2.2; exact Lib.hid h.2
  rcases hcs with ⟨rfl, h1, h2, _⟩ | ⟨rfl, _⟩
  all_goals
    go_enter Try.func15, Try.ntmps15
    go_wp2_with fail
    clear c0 c1 c2 hW' ew hlen
    try clear h1 h2
    go_loopg [3, 27] l.hs.length (fun g s i wr => ∃ k : Nat, k ≤ l.hs.length ∧ g = l.hs.length - k ∧ i = .int .i64 k ∧ s = .int .i64 (lastH l.hs k) ∧ (∀ j : Nat, j < k → okH l.hs j = true) ∧ Below W.heap.size W wr)
    case atStart => exact ⟨0, Nat.zero_le _, rfl, rfl, rfl, fun j h => absurd h (by omega), Below.refl _ _⟩
    case round =>
      obtain ⟨k, hk, hg, rfl, rfl, hok, hb⟩ := hrel
      have Hg := Lib.hid hg; clear hg
      have Hok := Lib.hid hok; clear hok
      have Hb := Lib.hid hb
      have hsr := hb.size
      obtain ⟨la, hla⟩ : ∃ la, la = lastH l.hs k := ⟨_, rfl⟩
      rw [← hla]
      by_cases hlt : k < l.hs.length
      · obtain ⟨n, b, off, hn, rfl, hbb, hcell⟩ := rd_i Hm.out.c hlt
        have g0 := hcell wr hb
        have hki : (k : Int) < (l.hs.length : Int) := by omega
        have hbw : b < wr.heap.size := by omega
        have hoh := okH_of hn
        rw [← hla] at hoh
        have Hoh := Lib.hid hoh
        have Hn := Lib.hid hn
        clear hcell hb hoh hn hla
        have hbad : n ≤ la ∨ (¬ n ≤ la ∧ 2147483647 < n) ∨ (¬ n ≤ la ∧ ¬ 2147483647 < n) := by omega
        rcases hbad with h1 | ⟨h1, h2⟩ | ⟨h1, h2⟩
        iterate 2
          · have hne : okH l.hs k = false := by
              rw [Hoh.out]
              first | rw [decide_eq_false (show ¬ la < n by omega)]; rfl | rw [decide_eq_false (show ¬ n ≤ 2147483647 by omega)]; simp
            have Hne := Lib.hid hne; clear hne
            go_wp2_with fail
            go_ret
            exact ⟨ret_bool (la_hs hlt Hne.out).symm, bnext HbW.out Hb.out⟩
        · go_wp2_with fail
          go_roundg (l.hs.length - (k + 1))
          case measure => have := Hg.out; omega
          case rel =>
            refine ⟨k + 1, by omega, rfl, by go_num, by rw [lastH_snoc Hn.out], fun j hj => ?_, Hb.out⟩
            rcases Nat.lt_or_ge j k with h | h
            · exact Hok.out j h
            · obtain rfl : j = k := by omega
              rw [Hoh.out, decide_eq_true (show la < n by omega), decide_eq_true (show n ≤ 2147483647 by omega)]; rfl
      · obtain rfl : k = l.hs.length := by omega
        clear hb hla
        obtain ⟨c0, c1, c2, _, _, _, ltr⟩ := HB'.out.up Hb.out lt
        go_wp2_with fail
        clear c0 c1 c2 ltr hsr
        go_loopg [43] l.q.length (fun g i wr => ∃ k : Nat, k ≤ l.q.length ∧ g = l.q.length - k ∧ i = .int .i64 k ∧ (∀ j : Nat, j < k → okW l j = true) ∧ Below W.heap.size W wr)
        case atStart => exact ⟨0, Nat.zero_le _, rfl, rfl, fun j h => absurd h (by omega), Hb.out⟩
        case round =>
          obtain ⟨k, hk, hg, rfl, hokq, hb⟩ := hrel
          have Hg := Lib.hid hg; clear hg
          have Hokq := Lib.hid hokq; clear hokq
          have Hb := Lib.hid hb
          obtain ⟨c0, c1, c2, _, _, _, ltr⟩ := HB'.out.up hb lt
          rw [← Hlx.out] at c1
          have hsr := hb.size
          by_cases hlt : k < l.q.length
          · obtain ⟨t, b, off, ht, hQ, hbb, hcell⟩ := rd_w Hm.out.q hlt
            obtain ⟨g0, g1⟩ := hcell wr hb
            have hki : (k : Int) < (l.q.length : Int) := by omega
            have hbw : b < wr.heap.size := by omega
            have Hkt := Lib.hid (okW_of ht)
            subst hQ
            have hbad : t.who < 0 ∨ (¬ t.who < 0 ∧ 2147483647 < t.who) ∨ (¬ t.who < 0 ∧ ¬ 2147483647 < t.who) := by omega
            clear hcell hb ht
            rcases hbad with h1 | ⟨h1, h2⟩ | ⟨h1, h2⟩
            iterate 2
              · have hne : okW l k = false := by
                  rw [Hkt.out]
                  first | rw [decide_eq_false (show ¬ 0 ≤ t.who by omega)]; rfl | rw [decide_eq_false (show ¬ t.who ≤ 2147483647 by omega)]; simp
                have Hne := Lib.hid hne; clear hne
                go_wp2_with fail
                go_ret
                exact ⟨ret_bool (la_q hlt Hne.out).symm, bnext HbW.out (Hb.out.alloc hsr _)⟩
            obtain ⟨M, hM⟩ : ∃ M, M = wr.heap.size := ⟨_, rfl⟩
            have hM' := hM.symm
            have hNM : w.heap.size < M := by omega
            have hbM : b < M := by omega
            obtain ⟨V2, hV2⟩ : ∃ V2, V2 = wr.alloc (.cells #[.int .i64 t.who, .bool t.ex] 58) := ⟨_, rfl⟩
            have HV2W := Lib.hid (show Below W.heap.size W V2 by rw [hV2]; exact Hb.out.alloc hsr _)
            have HV2M := Lib.hid (show V2.heap[M]? = some (.cells #[.int .i64 t.who, .bool t.ex] 58 (0, 0)) by rw [hV2, ← hM', heap_alloc_new])
            have HV2 := Lib.hid hV2.symm
            clear hV2 hM hbw
            go_upto_region 18 with fail
            rw [HV2.out]
            clear c0 c1 c2 ltr g0 g1 HV2 hM'
            obtain ⟨c0, c1, c2, _, _, _, ltr⟩ := HB'.out.up HV2W.out lt
            have hsV2 : W.heap.size ≤ V2.heap.size := HV2W.out.size
            have hMV2 : M < V2.heap.size := (Array.getElem?_eq_some_iff.1 HV2M.out).1
            have n0 := bw_cell c0 ltr
            have n2 := bw_cell c2 ltr
            have n4 : ∀ y : BW V2, y.w.cell? ⟨M, 0, none⟩ = some (.int .i64 t.who) := bw_cell (cells_of HV2M.out 0) hMV2
            obtain ⟨i1, hi1⟩ : ∃ i, i = l.hs.contains t.who := ⟨_, rfl⟩
            obtain ⟨i2, hi2⟩ : ∃ i, i = inW (l.q.take k) t.who := ⟨_, rfl⟩
            have hkq : (k : Int) ≤ (qc : Int) := by have := Hm.out.qa; omega
            have htk : (l.q.take k).length = k := by rw [List.length_take]; omega
            have hc1 : ∀ y : BW V2, Calls Try.prog 22 #[.slice A l.hs.length ac, .int .i64 t.who] y.w fun e w' => e = .returned (.bool i1) ∧ Below y.w.heap.size y.w w' := fun y => by
              rw [hi1]
              exact contains_any y.w A ac l.hs t.who (by omega) (Hm.out.c.up (HV2W.out.trans (y.below.mono hsV2)))
            have hc2 : ∀ y : BW V2, Calls Try.prog 23 #[.slice (some ⟨b, off, none⟩) k qc, .int .i64 t.who] y.w fun e w' => e = .returned (.bool i2) ∧ Below y.w.heap.size y.w w' := fun y => by
              have := waits_any y.w (some ⟨b, off, none⟩) qc (l.q.take k) t.who (by rw [htk]; omega) ((Hm.out.q.up (HV2W.out.trans (y.below.mono hsV2))).take k)
              rwa [htk, ← hi2] at this
            have hkok : okW l k = (!i1 && !i2) := by
              rw [Hkt.out, ← hi1, ← hi2, decide_eq_true (show 0 ≤ t.who by omega), decide_eq_true (show t.who ≤ 2147483647 by omega)]
              rfl
            have Hc1 := Lib.hid hc1
            have Hc2 := Lib.hid hc2
            have Hkok := Lib.hid hkok
            have hkn : k ≤ qc := by omega
            clear hc1 hc2 hkok hi1 hi2 c0 c1 c2 htk h1 h2
            cases i1 with
            | true =>
              refine wp_region_bw (by kernel_rfl) (by kernel_rfl) ?_
              repeat (go_big_quiet_step (first | exact call_bw (Hc1.out _) | exact call_bw (Hc2.out _)))
              refine wpQuiet_nil (bw_nil fun V hV => ?_)
              go_wp2_with fail
              go_ret
              exact ⟨ret_bool (la_q hlt (by rw [Hkok.out]; rfl)).symm, bnext (bnext HbW.out HV2W.out) hV⟩
            | false =>
              cases i2 with
              | true =>
                refine wp_region_bw (by kernel_rfl) (by kernel_rfl) ?_
                repeat (go_big_quiet_step (first | exact call_bw (Hc1.out _) | exact call_bw (Hc2.out _)))
                refine wpQuiet_nil (bw_nil fun V hV => ?_)
                go_wp2_with fail
                go_ret
                exact ⟨ret_bool (la_q hlt (by rw [Hkok.out]; rfl)).symm, bnext (bnext HbW.out HV2W.out) hV⟩
              | false =>
                refine wp_region_bw (by kernel_rfl) (by kernel_rfl) ?_
                repeat (go_big_quiet_step (first | exact call_bw (Hc1.out _) | exact call_bw (Hc2.out _)))
                refine wpQuiet_nil (bw_nil fun V hV => ?_)
                go_wp2_with fail
                go_roundg (l.q.length - (k + 1))
                case measure => have := Hg.out; omega
                case rel =>
                  refine ⟨k + 1, by omega, rfl, by go_num, fun j hj => ?_, HV2W.out.trans (hV.mono hsV2)⟩
                  rcases Nat.lt_or_ge j k with h | h
                  · exact Hokq.out j h
                  · obtain rfl : j = k := by omega
                    rw [Hkok.out]; rfl
          · obtain rfl : k = l.q.length := by omega
            have hop := open_any wr A Q ac qc l (Hm.out.q.up hb)
            rw [← Hlx.out] at hop
            have hr := la_end Hh.out Hok.out Hokq.out
            obtain ⟨op, hopp⟩ : ∃ op, op = l.open := ⟨_, rfl⟩
            rw [← hopp] at hop hr
            have Hop := Lib.hid hop
            have Hr := Lib.hid hr
            clear hop hr hopp hb
            go_wp2_with fail
            refine Hop.out.mono ?_
            rintro e V ⟨rfl, hbV⟩
            go_wp2_with fail
            go_ret
            exact ⟨ret_bool Hr.out.symm, bnext HbW.out (Hb.out.trans (hbV.mono hsr))⟩
end Go.Proofs.Ytigffndobddflaa
