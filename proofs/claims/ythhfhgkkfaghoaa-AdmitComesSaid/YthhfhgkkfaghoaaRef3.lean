/- The contracts of lockkeeperref11.Client and more. -/
import Derived.Test.YthhfhgkkfaghoaaRef2
import Derived.Test.YthhfhgkkfaghoaaBank5a
namespace Go.Proofs.Ythhfhgkkfaghoaa
open Go.RowKit

def clientC (l : List C) (who : Int) : C × Bool := match findC l who with
  | some i => (l.getD i ⟨0, 0, 0⟩, true)
  | none => (⟨0, 0, 0⟩, false)
theorem clientC_at {l : List C} {who : Int} {k : Nat} {c : C} (hk : l[k]? = some c) (hc : c.who = who) (hn : ∀ j d, j < k → l[j]? = some d → d.who ≠ who) : clientC l who = (c, true) := by
  rw [clientC, findC_at hk hc hn]
  simp [hk]
theorem clientC_none {l : List C} {who : Int} (hn : ∀ j d, j < l.length → l[j]? = some d → d.who ≠ who) : clientC l who = (⟨0, 0, 0⟩, false) := by
  rw [clientC, findC_none hn]
theorem hall_cbox (w : World) (A Q : Option Addr) (ac qc : Nat) (x : Hall) (t u : TypeId) : ∃ W, W = (w.alloc (.cells #[.int .i64 x.frames, .int .i64 x.budget, .slice A x.cs.length ac, .slice Q x.q.length qc] t)).alloc (.cells #[.int .i64 0, .int .i64 0, .int .i64 0] u) ∧ Below w.heap.size w W ∧ W.heap.size = w.heap.size + 2 ∧ HB w.heap.size x A ac Q qc W ∧ W.heap[w.heap.size + 1]? = some (.cells #[.int .i64 0, .int .i64 0, .int .i64 0] u (0, 0)) := by
  refine ⟨_, rfl, ((Below.refl _ _).alloc (Nat.le_refl _) _).alloc (by simp) _, by simp, HB.of (t := t) (by rw [heap_alloc_old _ _ (by simp), heap_alloc_new]), ?_⟩
  have := heap_alloc_new (w.alloc (.cells #[.int .i64 x.frames, .int .i64 x.budget, .slice A x.cs.length ac, .slice Q x.q.length qc] t)) (.cells #[.int .i64 0, .int .i64 0, .int .i64 0] u)
  simpa using this

set_option maxHeartbeats 2000000 in
theorem refClient_any (w : World) (A Q : Option Addr) (ac qc : Nat) (x : Hall) (who : Int) (hl : x.cs.length ≤ 1000) (hr : Rd C.cells 3 w w.heap.size A x.cs) :
    Calls Try.prog 47 #[.agg #[.int .i64 x.frames, .int .i64 x.budget, .slice A x.cs.length ac, .slice Q x.q.length qc], .int .i64 who] w fun e w' =>
      e = .returned (.tuple #[.agg #[.int .i64 (clientC x.cs who).1.who, .int .i64 (clientC x.cs who).1.claim, .int .i64 (clientC x.cs who).1.held], .bool (clientC x.cs who).2]) ∧ Below w.heap.size w w' := by
  obtain ⟨W, hW, hbW, hsW, hB, hR⟩ := hall_cbox w A Q ac qc x 29 65
  have Hr := Lib.hid (hr.up hbW)
  have HbW := Lib.hid hbW
  obtain ⟨c0, c1, c2, c3, _, _, _, _, lt⟩ := hB
  have r0 : W.cell? ⟨w.heap.size + 1, 0, none⟩ = some (.int .i64 0) := cells_of hR 0
  have r1 : W.cell? ⟨w.heap.size + 1, 1, none⟩ = some (.int .i64 0) := cells_of hR 1
  have r2 : W.cell? ⟨w.heap.size + 1, 2, none⟩ = some (.int .i64 0) := cells_of hR 2
  have k0 := frozen_of hR 0
  have k1 := frozen_of hR 1
  have k2 := frozen_of hR 2
  have lt2 : w.heap.size + 1 < W.heap.size := by omega
  have HW := Lib.hid hW.symm
  clear hW hbW hr hR
  go_enter Try.func47, Try.ntmps47
  go_wp2_with fail
  rw [HW.out]
  go_loopg [6] x.cs.length (fun g i wr => ∃ k : Nat, k ≤ x.cs.length ∧ g = x.cs.length - k ∧ i = .int .i64 k ∧ (∀ j d, j < k → x.cs[j]? = some d → d.who ≠ who) ∧ wr = W)
  case atStart => exact ⟨0, Nat.zero_le _, rfl, rfl, fun j d h => absurd h (by omega), rfl⟩
  case round =>
    obtain ⟨k, hk, hg, rfl, hno, rfl⟩ := hrel
    have Hg := Lib.hid hg; clear hg
    have Hno := Lib.hid hno; clear hno
    by_cases hlt : k < x.cs.length
    · obtain ⟨c, b, off, hc, rfl, hbb, hcell⟩ := rd_c Hr.out hlt
      obtain ⟨g0, g1, g2⟩ := hcell _ (Below.refl _ _)
      have hki : (k : Int) < (x.cs.length : Int) := by omega
      have Hc := Lib.hid hc
      clear hcell hc
      by_cases hw : c.who = who
      · have hwb : (c.who == who) = true := by simpa using hw
        have Hcc := Lib.hid (clientC_at Hc.out hw Hno.out)
        clear hw
        go_wp2_with fail
        rw [Hcc.out]
        refine bodyPost_ret (v := .tuple #[.agg #[.int .i64 c.who, .int .i64 c.claim, .int .i64 c.held], .bool true]) (by simp [results, Try.results47, go_sem, r0, r1, r2, lt2]) rfl ?_
        exact ⟨rfl, ((HbW.out.setCell (p := ⟨w.heap.size + 1, 0, none⟩) (by show w.heap.size ≤ w.heap.size + 1; omega) _).setCell (p := ⟨w.heap.size + 1, 1, none⟩) (by show w.heap.size ≤ w.heap.size + 1; omega) _).setCell (p := ⟨w.heap.size + 1, 2, none⟩) (by show w.heap.size ≤ w.heap.size + 1; omega) _⟩
      · have hwb : (c.who == who) = false := by simpa using hw
        have Hw := Lib.hid hw
        clear hw
        go_wp2_with fail
        go_roundg (x.cs.length - (k + 1))
        case measure => have := Hg.out; omega
        case rel =>
          refine ⟨k + 1, by omega, rfl, by go_num, fun j d hj hd => ?_, rfl⟩
          rcases Nat.lt_or_ge j k with h | h
          · exact Hno.out j d h hd
          · obtain rfl : j = k := by omega
            rw [Hc.out] at hd
            injection hd with hd
            subst hd
            exact Hw.out
    · obtain rfl : k = x.cs.length := by omega
      have Hcc := Lib.hid (clientC_none Hno.out)
      go_wp2_with fail
      rw [Hcc.out]
      refine bodyPost_ret (v := .tuple #[.agg #[.int .i64 0, .int .i64 0, .int .i64 0], .bool false]) (by simp [results, Try.results47, go_sem, r0, r1, r2, lt2]) rfl ?_
      exact ⟨rfl, ((HbW.out.setCell (p := ⟨w.heap.size + 1, 0, none⟩) (by show w.heap.size ≤ w.heap.size + 1; omega) _).setCell (p := ⟨w.heap.size + 1, 1, none⟩) (by show w.heap.size ≤ w.heap.size + 1; omega) _).setCell (p := ⟨w.heap.size + 1, 2, none⟩) (by show w.heap.size ≤ w.heap.size + 1; omega) _⟩
end Go.Proofs.Ythhfhgkkfaghoaa
