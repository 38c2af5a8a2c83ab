/- The document's answer for a latch: Same, of one latch twice. -/
import Derived.Test.YtigffndobddflaaLR1
namespace Go.Proofs.Ytigffndobddflaa
open Go.RowKit

theorem la_two (w : World) (A Q : Option Addr) (ac qc : Nat) (A' Q' : Option Addr) (ac' qc' : Nat) (l : La) (t : TypeId) : ∃ W, W = (w.alloc (.cells #[.slice A l.hs.length ac, .bool l.ex, .slice Q l.q.length qc] t)).alloc (.cells #[.slice A' l.hs.length ac', .bool l.ex, .slice Q' l.q.length qc'] t) ∧ Below w.heap.size w W ∧ W.heap.size = w.heap.size + 2 ∧ LB w.heap.size l A ac Q qc W ∧ LB (w.heap.size + 1) l A' ac' Q' qc' W := by
  obtain ⟨W1, h1⟩ : ∃ W1, W1 = w.alloc (.cells #[.slice A l.hs.length ac, .bool l.ex, .slice Q l.q.length qc] t) := ⟨_, rfl⟩
  have s1 : W1.heap.size = w.heap.size + 1 := by rw [h1]; simp
  refine ⟨_, rfl, ((Below.refl _ _).alloc (Nat.le_refl _) _).alloc (by simp) _, by simp, ?_, ?_⟩
  · rw [← h1]
    exact LB.of (t := t) (by rw [heap_alloc_old _ _ (by omega), h1, heap_alloc_new])
  · rw [← h1]
    exact LB.of (t := t) (by rw [← s1, heap_alloc_new])

set_option maxHeartbeats 4000000 in
theorem refSame_any (w : World) (A Q : Option Addr) (ac qc : Nat) (A' Q' : Option Addr) (ac' qc' : Nat) (x : La) (hl1 : x.hs.length ≤ 1000) (hl2 : x.q.length ≤ 1000) (hr : Rd icells 1 w w.heap.size A x.hs) (hq : Rd Wt.cells 2 w w.heap.size Q x.q) (hr' : Rd icells 1 w w.heap.size A' x.hs) (hq' : Rd Wt.cells 2 w w.heap.size Q' x.q) :
    Calls Try.prog 16 #[.agg #[.slice A x.hs.length ac, .bool x.ex, .slice Q x.q.length qc], .agg #[.slice A' x.hs.length ac', .bool x.ex, .slice Q' x.q.length qc']] w fun e w' =>
      e = .returned (.bool true) ∧ Below w.heap.size w w' := by
  obtain ⟨W, hW, hbW, hsW, hB, hB2⟩ := la_two w A Q ac qc A' Q' ac' qc' x 28
  have Hr := Lib.hid (hr.up hbW)
  have Hr' := Lib.hid (hr'.up hbW)
  have Hq := Lib.hid (hq.up hbW)
  have Hq' := Lib.hid (hq'.up hbW)
  have HbW := Lib.hid hbW
  have HBa := Lib.hid hB
  have HBb := Lib.hid hB2
  have HW := Lib.hid hW.symm
  clear hW hbW hr hr' hq hq' hB hB2
  obtain ⟨c0, c1, c2, _, _, _, lt⟩ := HBa.out
  obtain ⟨d0, d1, d2, _, _, _, lt2⟩ := HBb.out
  obtain ⟨lx, hlx⟩ : ∃ lx, lx = x.ex := ⟨_, rfl⟩
  have Hlx := Lib.hid hlx
  rw [← hlx] at c1 d1 HW ⊢
  clear hlx
  go_enter Try.func16, Try.ntmps16
  go_upto_region 1 with fail
  rw [HW.out]
  have hbb : (lx != lx) = false := by simp
  go_wp2_with fail
  clear hbb
  go_loopg [5] x.hs.length (fun g i wr => ∃ k : Nat, k ≤ x.hs.length ∧ g = x.hs.length - k ∧ i = .int .i64 k ∧ Below W.heap.size W wr)
  case atStart => exact ⟨0, Nat.zero_le _, rfl, rfl, Below.refl _ _⟩
  case round =>
    obtain ⟨k, hk, hg, rfl, hb⟩ := hrel
    have Hg := Lib.hid hg; clear hg
    clear c0 c1 c2 d0 d1 d2
    have Hb := Lib.hid hb
    obtain ⟨c0, c1, c2, _, _, _, ltr⟩ := HBa.out.up hb lt
    obtain ⟨d0, d1, d2, _, _, _, ltr2⟩ := HBb.out.up hb lt2
    rw [← Hlx.out] at c1 d1
    have hsr := hb.size
    by_cases hlt : k < x.hs.length
    · obtain ⟨c, b, off, hc, rfl, hbb, hcell⟩ := rd_i Hr.out hlt
      have g0 := hcell wr hb
      obtain ⟨c', b', off', hc', rfl, hbb', hcell'⟩ := rd_i Hr'.out hlt
      obtain rfl : c = c' := by rw [hc] at hc'; exact Option.some.inj hc'
      have e0 := hcell' wr hb
      have hki : (k : Int) < (x.hs.length : Int) := by omega
      have hb1 : b < wr.heap.size := by omega
      have hb2 : b' < wr.heap.size := by omega
      clear hcell hcell' hc hc' hb
      go_wp2_with fail
      go_quiet (fail)
      go_wp2_with fail
      go_roundg (x.hs.length - (k + 1))
      case measure => have := Hg.out; omega
      case rel => exact ⟨k + 1, by omega, rfl, by go_num, below_drewN Hb.out _⟩
    · obtain rfl : k = x.hs.length := by omega
      clear hb
      go_wp2_with fail
      go_loopg [6] x.q.length (fun g i wr => ∃ k : Nat, k ≤ x.q.length ∧ g = x.q.length - k ∧ i = .int .i64 k ∧ Below W.heap.size W wr)
      case atStart => exact ⟨0, Nat.zero_le _, rfl, rfl, Hb.out⟩
      case round =>
        obtain ⟨k, hk, hg, rfl, hb⟩ := hrel
        have Hg := Lib.hid hg; clear hg
        clear c0 c1 c2 d0 d1 d2 hsr
        have Hb := Lib.hid hb
        obtain ⟨c0, c1, c2, _, _, _, ltr⟩ := HBa.out.up hb lt
        obtain ⟨d0, d1, d2, _, _, _, ltr2⟩ := HBb.out.up hb lt2
        rw [← Hlx.out] at c1 d1
        have hsr := hb.size
        by_cases hlt : k < x.q.length
        · obtain ⟨c, b, off, hc, rfl, hbb, hcell⟩ := rd_w Hq.out hlt
          obtain ⟨g0, g1⟩ := hcell wr hb
          obtain ⟨c', b', off', hc', rfl, hbb', hcell'⟩ := rd_w Hq'.out hlt
          obtain rfl : c = c' := by rw [hc] at hc'; exact Option.some.inj hc'
          obtain ⟨e0, e1⟩ := hcell' wr hb
          have hki : (k : Int) < (x.q.length : Int) := by omega
          have hb1 : b < wr.heap.size := by omega
          have hb2 : b' < wr.heap.size := by omega
          clear hcell hcell' hc hc' hb
          go_wp2_with fail
          go_quiet (fail)
          go_wp2_with fail
          go_roundg (x.q.length - (k + 1))
          case measure => have := Hg.out; omega
          case rel => exact ⟨k + 1, by omega, rfl, by go_num, below_drewN Hb.out _⟩
        · obtain rfl : k = x.q.length := by omega
          clear hb
          go_wp2_with fail
          go_ret
          exact ⟨rfl, bnext HbW.out Hb.out⟩
end Go.Proofs.Ytigffndobddflaa
