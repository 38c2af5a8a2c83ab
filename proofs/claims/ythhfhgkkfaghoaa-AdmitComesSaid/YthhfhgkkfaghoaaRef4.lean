/- lockkeeperref11.Same of one hall in two places: true. -/
import Derived.Test.YthhfhgkkfaghoaaRef3
namespace Go.Proofs.Ythhfhgkkfaghoaa
open Go.RowKit

theorem hall_two (w : World) (A Q : Option Addr) (ac qc : Nat) (A' Q' : Option Addr) (ac' qc' : Nat) (x : Hall) (t : TypeId) : ∃ W, W = (w.alloc (.cells #[.int .i64 x.frames, .int .i64 x.budget, .slice A x.cs.length ac, .slice Q x.q.length qc] t)).alloc (.cells #[.int .i64 x.frames, .int .i64 x.budget, .slice A' x.cs.length ac', .slice Q' x.q.length qc'] t) ∧ Below w.heap.size w W ∧ W.heap.size = w.heap.size + 2 ∧ HB w.heap.size x A ac Q qc W ∧ HB (w.heap.size + 1) x A' ac' Q' qc' W := by
  refine ⟨_, rfl, ((Below.refl _ _).alloc (Nat.le_refl _) _).alloc (by simp) _, by simp, HB.of (t := t) (by rw [heap_alloc_old _ _ (by simp), heap_alloc_new]), HB.of (t := t) ?_⟩
  have := heap_alloc_new (w.alloc (.cells #[.int .i64 x.frames, .int .i64 x.budget, .slice A x.cs.length ac, .slice Q x.q.length qc] t)) (.cells #[.int .i64 x.frames, .int .i64 x.budget, .slice A' x.cs.length ac', .slice Q' x.q.length qc'] t)
  simpa using this

set_option maxHeartbeats 4000000 in
theorem refSame_any (w : World) (A Q : Option Addr) (ac qc : Nat) (A' Q' : Option Addr) (ac' qc' : Nat) (x : Hall) (hl1 : x.cs.length ≤ 1000) (hl2 : x.q.length ≤ 1000) (hr : Rd C.cells 3 w w.heap.size A x.cs) (hq : Rd T.cells 2 w w.heap.size Q x.q) (hr' : Rd C.cells 3 w w.heap.size A' x.cs) (hq' : Rd T.cells 2 w w.heap.size Q' x.q) :
    Calls Try.prog 17 #[.agg #[.int .i64 x.frames, .int .i64 x.budget, .slice A x.cs.length ac, .slice Q x.q.length qc], .agg #[.int .i64 x.frames, .int .i64 x.budget, .slice A' x.cs.length ac', .slice Q' x.q.length qc']] w fun e w' =>
      e = .returned (.bool true) ∧ Below w.heap.size w w' := by
  obtain ⟨W, hW, hbW, hsW, hB, hB2⟩ := hall_two w A Q ac qc A' Q' ac' qc' x 29
  have Hr := Lib.hid (hr.up hbW)
  have Hr' := Lib.hid (hr'.up hbW)
  have Hq := Lib.hid (hq.up hbW)
  have Hq' := Lib.hid (hq'.up hbW)
  have HbW := Lib.hid hbW
  have HBa := Lib.hid hB
  have HBb := Lib.hid hB2
  have HW := Lib.hid hW.symm
  clear hW hbW hr hr' hq hq' hB hB2
  obtain ⟨c0, c1, c2, c3, _, _, _, _, lt⟩ := HBa.out
  obtain ⟨d0, d1, d2, d3, _, _, _, _, lt2⟩ := HBb.out
  go_enter Try.func17, Try.ntmps17
  go_upto_region 1 with fail
  rw [HW.out]
  go_wp2_with fail
  go_loopg [5] x.cs.length (fun g i wr => ∃ k : Nat, k ≤ x.cs.length ∧ g = x.cs.length - k ∧ i = .int .i64 k ∧ Below W.heap.size W wr)
  case atStart => exact ⟨0, Nat.zero_le _, rfl, rfl, Below.refl _ _⟩
  case round =>
    obtain ⟨k, hk, hg, rfl, hb⟩ := hrel
    have Hg := Lib.hid hg; clear hg
    clear c0 c1 c2 c3 d0 d1 d2 d3
    have Hb := Lib.hid hb
    obtain ⟨c0, c1, c2, c3, _, _, _, _, ltr⟩ := HBa.out.up hb lt
    obtain ⟨d0, d1, d2, d3, _, _, _, _, ltr2⟩ := HBb.out.up hb lt2
    have hsr := hb.size
    by_cases hlt : k < x.cs.length
    · obtain ⟨c, b, off, hc, rfl, hbb, hcell⟩ := rd_c Hr.out hlt
      obtain ⟨g0, g1, g2⟩ := hcell wr hb
      obtain ⟨c', b', off', hc', rfl, hbb', hcell'⟩ := rd_c Hr'.out hlt
      obtain rfl : c = c' := by rw [hc] at hc'; exact Option.some.inj hc'
      obtain ⟨e0, e1, e2⟩ := hcell' wr hb
      have hki : (k : Int) < (x.cs.length : Int) := by omega
      have hb1 : b < wr.heap.size := by omega
      have hb2 : b' < wr.heap.size := by omega
      clear hcell hcell' hc hc' hb
      go_wp2_with fail
      go_quiet (fail)
      go_wp2_with fail
      go_roundg (x.cs.length - (k + 1))
      case measure => have := Hg.out; omega
      case rel => exact ⟨k + 1, by omega, rfl, by go_num, below_drewN Hb.out _⟩
    · obtain rfl : k = x.cs.length := by omega
      clear hb
      go_wp2_with fail
      go_loopg [6] x.q.length (fun g i wr => ∃ k : Nat, k ≤ x.q.length ∧ g = x.q.length - k ∧ i = .int .i64 k ∧ Below W.heap.size W wr)
      case atStart => exact ⟨0, Nat.zero_le _, rfl, rfl, Hb.out⟩
      case round =>
        obtain ⟨k, hk, hg, rfl, hb⟩ := hrel
        have Hg := Lib.hid hg; clear hg
        clear c0 c1 c2 c3 d0 d1 d2 d3 hsr
        have Hb := Lib.hid hb
        obtain ⟨c0, c1, c2, c3, _, _, _, _, ltr⟩ := HBa.out.up hb lt
        obtain ⟨d0, d1, d2, d3, _, _, _, _, ltr2⟩ := HBb.out.up hb lt2
        have hsr := hb.size
        by_cases hlt : k < x.q.length
        · obtain ⟨c, b, off, hc, rfl, hbb, hcell⟩ := rd_t Hq.out hlt
          obtain ⟨g0, g1⟩ := hcell wr hb
          obtain ⟨c', b', off', hc', rfl, hbb', hcell'⟩ := rd_t Hq'.out hlt
          obtain rfl : c = c' := by rw [hc] at hc'; exact Option.some.inj hc'
          obtain ⟨e0, e1⟩ := hcell' wr hb
          have hki : (k : Int) < (x.q.length : Int) := by omega
          have hb1 : b < wr.heap.size := by omega
          have hb2 : b' < wr.heap.size := by omega
          clear hcell hcell' hc hc' hb
          go_wp2_with fail
          go_quiet (fail)
          go_wp2_with fail
          go_roundg (x.q.length - (k + 1))
          case measure => have := Hg.out; omega
          case rel => exact ⟨k + 1, by omega, rfl, by go_num, below_drewN Hb.out _⟩
        · obtain rfl : k = x.q.length := by omega
          clear hb
          go_wp2_with fail
          go_ret
          exact ⟨rfl, bnext HbW.out Hb.out⟩
end Go.Proofs.Ythhfhgkkfaghoaa
