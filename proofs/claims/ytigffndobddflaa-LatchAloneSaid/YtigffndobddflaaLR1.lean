/- The document's answer for a latch: Right. -/
import Derived.Test.YtigffndobddflaaLRP
namespace Go.Proofs.Ytigffndobddflaa
open Go.RowKit

set_option maxRecDepth 20000 in
set_option maxHeartbeats 4000000 in
theorem refRight_any (w : World) (A Q : Option Addr) (ac qc : Nat) (l : La) (hl1 : l.hs.length ≤ 1000) (hl2 : l.q.length ≤ 1000) (hr : Rd icells 1 w w.heap.size A l.hs) (hq : Rd Wt.cells 2 w w.heap.size Q l.q) :
    Calls Try.prog 11 #[.agg #[.slice A l.hs.length ac, .bool l.ex, .slice Q l.q.length qc]] w fun e w' => e = .returned (.bool l.right) ∧ Below w.heap.size w w' := by
  obtain ⟨W, hW, hbW, hsW, hB⟩ := la_box w A Q ac qc l 28
  have Hr := Lib.hid (hr.up hbW)
  have Hq := Lib.hid (hq.up hbW)
  have HbW := Lib.hid hbW
  have HB' := Lib.hid hB
  obtain ⟨c0, c1, c2, _, _, _, lt⟩ := hB
  obtain ⟨lx, hlx⟩ : ∃ lx, lx = l.ex := ⟨_, rfl⟩
  rw [← hlx] at c1 hW ⊢
  have Hlx := Lib.hid hlx
  have hW' := hW.symm
  have hmay := refMay_any W A Q ac qc l Hq.out
  rw [← hlx] at hmay
  obtain ⟨op, hop⟩ : ∃ op, op = l.open := ⟨_, rfl⟩
  rw [← hop] at hmay
  have Hmay := Lib.hid hmay; have Hop := Lib.hid hop
  clear hW hbW hr hq hlx hmay hop
  have ew : IntKind.i64.wrap ((l.hs.length : Int) + (l.q.length : Int)) = (l.hs.length : Int) + (l.q.length : Int) := IntWalk.i64_in _ (by omega)
  by_cases hlen : (64 : Int) < (l.hs.length : Int) + (l.q.length : Int)
  · have hne : l.right = false := rD_head (by
      cases h : l.head with
      | false => rfl
      | true => have := la_head_iff.1 h; omega)
    have Hne := Lib.hid hne; clear hne
    go_enter Try.func11, Try.ntmps11
    go_wp2_with fail
    go_ret
    exact ⟨ret_bool Hne.out.symm, HbW.out⟩
  have hl64 : l.hs.length + l.q.length ≤ 64 := by omega
  have hcs : (lx = true ∧ ((l.hs.length : Int) != 1) = true ∧ ((l.hs.length : Int) == 1) = false ∧ l.right = false) ∨ (lx = true ∧ ((l.hs.length : Int) != 1) = false ∧ ((l.hs.length : Int) == 1) = true ∧ l.head = true) ∨ (lx = false ∧ l.head = true) := by
    cases hx : lx with
    | false => exact .inr (.inr ⟨rfl, la_head_iff.2 ⟨hl64, fun h => by rw [← Hlx.out, hx] at h; cases h⟩⟩)
    | true =>
      by_cases h1 : l.hs.length = 1
      · exact .inr (.inl ⟨rfl, by rw [h1]; rfl, by rw [h1]; rfl, la_head_iff.2 ⟨hl64, fun _ => h1⟩⟩)
      · refine .inl ⟨rfl, ?_, ?_, rD_head ?_⟩
        · rw [bne_iff_ne]; omega
        · rw [beq_eq_false_iff_ne]; omega
        · cases h : l.head with
          | false => rfl
          | true => exact absurd ((la_head_iff.1 h).2 (by rw [← Hlx.out, hx])) h1
  rcases hcs with ⟨rfl, h1, h2, hne⟩ | hcs
  · have Hne := Lib.hid hne; clear hne
    go_enter Try.func11, Try.ntmps11
    go_wp2_with fail
    go_ret
    exact ⟨ret_bool Hne.out.symm, HbW.out⟩
  have Hh : Hid (l.head = true) := by rcases hcs with h | h; exact Lib.hid h.2.2.2; exact Lib.hid h.2
  rcases hcs with ⟨rfl, h1, h2, _⟩ | ⟨rfl, _⟩
  all_goals
    go_enter Try.func11, Try.ntmps11
    go_wp2_with fail
    refine Hmay.out.mono ?_
    rintro e V0 ⟨rfl, hb0⟩
    have Hb0 := Lib.hid hb0
    clear c0 c1 c2 hW' ew hlen hb0
    try clear h1 h2
    cases op with
    | true =>
      have Hne := Lib.hid (rD_open Hop.out.symm)
      go_wp2_with fail
      go_ret
      exact ⟨ret_bool Hne.out.symm, bnext HbW.out Hb0.out⟩
    | false =>
      go_wp2_with fail
      go_loopg [3] l.hs.length (fun g i wr => ∃ k : Nat, k ≤ l.hs.length ∧ g = l.hs.length - k ∧ i = .int .i64 k ∧ (∀ j : Nat, j < k → okHD l j = true) ∧ Below W.heap.size W wr)
      case atStart => exact ⟨0, Nat.zero_le _, rfl, rfl, fun j h => absurd h (by omega), Hb0.out⟩
      case round =>
        obtain ⟨k, hk, hg, rfl, hok, hb⟩ := hrel
        have Hg := Lib.hid hg; clear hg
        have Hok := Lib.hid hok; clear hok
        have Hb := Lib.hid hb
        have hsr := hb.size
        obtain ⟨c0, c1, c2, _, _, _, ltr⟩ := HB'.out.up hb lt
        rw [← Hlx.out] at c1
        by_cases hlt : k < l.hs.length
        · obtain ⟨n, b, off, hn, rfl, hbb, hcell⟩ := rd_i Hr.out hlt
          have g0 := hcell wr hb
          have hki : (k : Int) < (l.hs.length : Int) := by omega
          have hbw : b < wr.heap.size := by omega
          have Hoh := Lib.hid (okHD_of hn)
          have Hn := Lib.hid hn
          have Hcell := Lib.hid hcell
          have hin := refIn_any wr (some ⟨b, off, none⟩) Q ac qc l n (by omega) (by omega) (Hr.out.up hb) (Hq.out.up hb)
          rw [← Hlx.out] at hin
          obtain ⟨cn, hcn⟩ : ∃ cn, cn = cntL l n := ⟨_, rfl⟩
          rw [← hcn] at hin
          have Hin := Lib.hid hin; have Hcn := Lib.hid hcn
          clear hcell hb hn hin hcn
          have hbad : n < 0 ∨ (¬ n < 0 ∧ 2147483647 < n) ∨ (¬ n < 0 ∧ ¬ 2147483647 < n) := by omega
          rcases hbad with h1 | ⟨h1, h2⟩ | ⟨h1, h2⟩
          iterate 2
            · have hne : okHD l k = false := by
                rw [Hoh.out]
                first | rw [decide_eq_false (show ¬ 0 ≤ n by omega)]; rfl | rw [decide_eq_false (show ¬ n ≤ 2147483647 by omega)]; simp
              have Hne := Lib.hid hne; clear hne
              go_wp2_with fail
              go_ret
              exact ⟨ret_bool (rD_hs hlt Hne.out).symm, bnext HbW.out Hb.out⟩
          go_wp2_with fail
          refine Hin.out.mono ?_
          clear Hin
          rintro e V1 ⟨rfl, hb1⟩
          have Hb1 := Lib.hid (Hb.out.trans (hb1.mono hsr))
          have hsV := Hb1.out.size
          clear c0 c1 c2 ltr hb1 g0
          obtain ⟨c0, c1, c2, _, _, _, ltr⟩ := HB'.out.up Hb1.out lt
          rw [← Hlx.out] at c1
          by_cases hc1 : cn = 1
          case neg =>
            have hcb : ((cn : Int) != 1) = true := by rw [bne_iff_ne]; omega
            have hcb2 : ((cn : Int) == 1) = false := by rw [beq_eq_false_iff_ne]; omega
            have Hne := Lib.hid (show okHD l k = false by rw [Hoh.out, ← Hcn.out, decide_eq_false hc1]; simp)
            clear hc1
            go_wp2_with fail
            go_ret
            exact ⟨ret_bool (rD_hs hlt Hne.out).symm, bnext HbW.out Hb1.out⟩
          have hcb : ((cn : Int) != 1) = false := by rw [hc1]; rfl
          have hcb2 : ((cn : Int) == 1) = true := by rw [hc1]; rfl
          have Hoh2 := Lib.hid (show okHD l k = decide (lastH l.hs k ≤ n) by rw [Hoh.out, ← Hcn.out, decide_eq_true hc1, decide_eq_true (show 0 ≤ n by omega), decide_eq_true (show n ≤ 2147483647 by omega)]; rfl)
          clear hc1
          rcases Nat.eq_zero_or_pos k with hk0 | hk0
          · have hk0i : ¬ (0 : Int) < (k : Int) := by omega
            have Hyes := Lib.hid (show okHD l k = true by rw [Hoh2.out, hk0, lastH_zero, decide_eq_true (by omega)])
            clear hk0
            go_wp2_with fail
            go_roundg (l.hs.length - (k + 1))
            case measure => have := Hg.out; omega
            case rel =>
              refine ⟨k + 1, by omega, rfl, by go_num, fun j hj => ?_, Hb1.out⟩
              rcases Nat.lt_or_ge j k with h | h
              · exact Hok.out j h
              · obtain rfl : j = k := by omega
                exact Hyes.out
          · obtain ⟨m, b', off', hm', hA', _, hcell'⟩ := rd_i Hr.out (k := k - 1) (by omega)
            injection hA' with hA'
            injection hA' with hA1 hA2
            subst hA1 hA2
            have g1 := hcell' V1 Hb1.out
            have hk0i : (0 : Int) < (k : Int) := by omega
            have ek : IntKind.i64.wrap ((k : Int) - 1) = (k : Int) - 1 := IntWalk.i64_in _ (by omega)
            have ek1 : (0 : Int) ≤ (k : Int) - 1 := by omega
            have ek2 : (k : Int) - 1 < (l.hs.length : Int) := by omega
            have ek3 : ((k : Int) - 1).toNat = k - 1 := by omega
            have hla : lastH l.hs k = m := by
              have := lastH_snoc hm'
              rwa [show k - 1 + 1 = k by omega] at this
            rw [hla] at Hoh2
            clear hcell' hm' hla
            by_cases hmn : n < m
            · have Hne := Lib.hid (show okHD l k = false by rw [Hoh2.out, decide_eq_false (by omega)])
              go_wp2_with fail
              go_ret
              exact ⟨ret_bool (rD_hs hlt Hne.out).symm, bnext HbW.out Hb1.out⟩
            · have Hyes := Lib.hid (show okHD l k = true by rw [Hoh2.out, decide_eq_true (by omega)])
              go_wp2_with fail
              go_roundg (l.hs.length - (k + 1))
              case measure => have := Hg.out; omega
              case rel =>
                refine ⟨k + 1, by omega, rfl, by go_num, fun j hj => ?_, Hb1.out⟩
                rcases Nat.lt_or_ge j k with h | h
                · exact Hok.out j h
                · obtain rfl : j = k := by omega
                  exact Hyes.out
        · obtain rfl : k = l.hs.length := by omega
          clear hb
          go_wp2_with fail
          clear c0 c1 c2 ltr hsr
          go_loopg [5] l.q.length (fun g i wr => ∃ k : Nat, k ≤ l.q.length ∧ g = l.q.length - k ∧ i = .int .i64 k ∧ (∀ j : Nat, j < k → okWD l j = true) ∧ Below W.heap.size W wr)
          case atStart => exact ⟨0, Nat.zero_le _, rfl, rfl, fun j h => absurd h (by omega), Hb.out⟩
          case round =>
            obtain ⟨k, hk, hg, rfl, hokq, hb⟩ := hrel
            have Hg := Lib.hid hg; clear hg
            have Hokq := Lib.hid hokq; clear hokq
            have Hb := Lib.hid hb
            obtain ⟨c0, c1, c2, _, _, _, ltr⟩ := HB'.out.up hb lt
            rw [← Hlx.out] at c1
            have hsr := hb.size
            by_cases hlt : k < l.q.length
            · obtain ⟨t, b, off, ht, rfl, hbb, hcell⟩ := rd_w Hq.out hlt
              obtain ⟨g0, g1⟩ := hcell wr hb
              have hki : (k : Int) < (l.q.length : Int) := by omega
              have hbw : b < wr.heap.size := by omega
              have Hoh := Lib.hid (okWD_of ht)
              have hin := refIn_any wr A (some ⟨b, off, none⟩) ac qc l t.who (by omega) (by omega) (Hr.out.up hb) (Hq.out.up hb)
              rw [← Hlx.out] at hin
              obtain ⟨cn, hcn⟩ : ∃ cn, cn = cntL l t.who := ⟨_, rfl⟩
              rw [← hcn] at hin
              have Hin := Lib.hid hin; have Hcn := Lib.hid hcn
              clear hcell hb ht hin hcn
              have hbad : t.who < 0 ∨ (¬ t.who < 0 ∧ 2147483647 < t.who) ∨ (¬ t.who < 0 ∧ ¬ 2147483647 < t.who) := by omega
              rcases hbad with h1 | ⟨h1, h2⟩ | ⟨h1, h2⟩
              iterate 2
                · have hne : okWD l k = false := by
                    rw [Hoh.out]
                    first | rw [decide_eq_false (show ¬ 0 ≤ t.who by omega)]; rfl | rw [decide_eq_false (show ¬ t.who ≤ 2147483647 by omega)]; simp
                  have Hne := Lib.hid hne; clear hne
                  go_wp2_with fail
                  go_ret
                  exact ⟨ret_bool (rD_q hlt Hne.out).symm, bnext HbW.out Hb.out⟩
              go_wp2_with fail
              refine Hin.out.mono ?_
              clear Hin
              rintro e V1 ⟨rfl, hb1⟩
              have Hb1 := Lib.hid (Hb.out.trans (hb1.mono hsr))
              clear c0 c1 c2 ltr hb1 g0 g1
              by_cases hc1 : cn = 1
              case neg =>
                have hcb : ((cn : Int) != 1) = true := by rw [bne_iff_ne]; omega
                have hcb2 : ((cn : Int) == 1) = false := by rw [beq_eq_false_iff_ne]; omega
                have Hne := Lib.hid (show okWD l k = false by rw [Hoh.out, ← Hcn.out, decide_eq_false hc1]; simp)
                clear hc1
                go_wp2_with fail
                go_ret
                exact ⟨ret_bool (rD_q hlt Hne.out).symm, bnext HbW.out Hb1.out⟩
              have hcb : ((cn : Int) != 1) = false := by rw [hc1]; rfl
              have hcb2 : ((cn : Int) == 1) = true := by rw [hc1]; rfl
              have Hyes := Lib.hid (show okWD l k = true by rw [Hoh.out, ← Hcn.out, decide_eq_true hc1, decide_eq_true (show 0 ≤ t.who by omega), decide_eq_true (show t.who ≤ 2147483647 by omega)]; rfl)
              clear hc1
              go_wp2_with fail
              go_roundg (l.q.length - (k + 1))
              case measure => have := Hg.out; omega
              case rel =>
                refine ⟨k + 1, by omega, rfl, by go_num, fun j hj => ?_, Hb1.out⟩
                rcases Nat.lt_or_ge j k with h | h
                · exact Hokq.out j h
                · obtain rfl : j = k := by omega
                  exact Hyes.out
            · obtain rfl : k = l.q.length := by omega
              have Hr' := Lib.hid (rD_end Hh.out Hop.out.symm Hok.out Hokq.out)
              clear hb
              go_wp2_with fail
              go_ret
              exact ⟨ret_bool Hr'.out.symm, bnext HbW.out Hb.out⟩
end Go.Proofs.Ytigffndobddflaa
