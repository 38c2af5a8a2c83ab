/- The contract of lockkeeperref18.Right. -/
import Derived.Test.YtbnegkkjgkignaaOps2
import Derived.Test.YtbnegkkjgkignaaQuiet
namespace Go.Proofs.Ytbnegkkjgkignaa
open Go.RowKit

set_option maxHeartbeats 2000000 in
theorem refMap_any (w : World) (A : Option Addr) (cap : Nat) (l : List Pg)
    (hl : l.length ≤ 1000000) (hr : Rd Pg.cells 3 w w.heap.size A l) :
    Calls Try.prog 14 #[.slice A l.length cap] w fun e w' => e = .returned (.bool (rightM l)) ∧ Below w.heap.size w w' := by
  have Hr := Lib.hid hr; clear hr
  go_enter Try.func14, Try.ntmps14
  go_wp2_with fail
  go_loopg [3] l.length (fun g i wr => ∃ k : Nat, k ≤ l.length ∧ g = l.length - k ∧ i = .int .i64 k ∧ (∀ j, j < k → okM l j = true) ∧ Below w.heap.size w wr)
  case atStart => exact ⟨0, Nat.zero_le _, rfl, rfl, fun _ h => absurd h (by omega), Below.refl _ _⟩
  case round =>
    obtain ⟨k, hk, hg, rfl, hno, hb⟩ := hrel
    have Hg := Lib.hid hg; clear hg
    have Hno := Lib.hid hno; clear hno
    by_cases hlt : k < l.length
    · obtain ⟨p, b, off, hp, rfl, hbb, hcell⟩ := rd_p Hr.out hlt
      obtain ⟨g0, g1, g2⟩ := hcell wr hb
      have hbs : b < wr.heap.size := by have := hb.size; omega
      have Hp := Lib.hid hp; clear hp
      have Hcell := Lib.hid hcell; clear hcell
      have G0 := bw_cell g0 hbs
      have G1 := bw_cell g1 hbs
      have G2 := bw_cell g2 hbs
      cases hrp : rightP p with
      | false =>
        have Hrp := Lib.hid hrp; clear hrp
        go_wp2_with fail
        refine wp_region_bw (by kernel_rfl) (by kernel_rfl) ?_
        repeat (go_big_quiet_step (exact call_bw ((refPage_any _ p).mono fun e w' ⟨he, hb⟩ => ⟨by rw [he, Hrp.out], hb⟩)))
        refine wpQuiet_nil (bw_nil fun V hV => ?_)
        go_wp2_with fail
        go_ret
        exact ⟨ret_bool (rightM_bad hlt (okM_bad Hp.out Hrp.out)).symm, bnext hb hV⟩
      | true =>
        have Hrp := Lib.hid hrp; clear hrp
        rcases k with _ | j
        · have hd : decide ((0 : Int) < ((0 : Nat) : Int)) = false := by simp
          simp only [Nat.zero_mul, Nat.add_zero] at G0 G1 G2
          go_wp2_with fail
          refine wp_region_bw (by kernel_rfl) (by kernel_rfl) ?_
          repeat (go_big_quiet_step (exact call_bw ((refPage_any _ p).mono fun e w' ⟨he, hb⟩ => ⟨by rw [he, Hrp.out], hb⟩)))
          refine wpQuiet_nil (bw_nil fun V hV => ?_)
          go_wp2_with fail
          go_roundg (l.length - 1)
          case measure => have := Hg.out; omega
          case rel => exact ⟨1, by omega, rfl, rfl, fun i hi => by
            obtain rfl : i = 0 := by omega
            exact okM_zero Hp.out Hrp.out, bnext hb hV⟩
        · obtain ⟨q, b', off', hq, hA, hbb', hcell'⟩ := rd_p Hr.out (k := j) (by omega)
          obtain ⟨rfl, rfl⟩ : b = b' ∧ off = off' := by simpa using hA
          have c2 := (hcell' wr hb).1
          have G3 := bw_cell c2 hbs
          have ej : ((j + 1 : Nat) : Int) = (j : Int) + 1 := by omega
          have hj0 : (0 : Int) < (j : Int) + 1 := by omega
          have hd : decide ((0 : Int) < (j : Int) + 1) = true := by rw [decide_eq_true_eq]; omega
          have ew : IntKind.i64.wrap ((j : Int) + 1 - 1) = (j : Int) := by rw [IntWalk.i64_in _ (by omega)]; omega
          have hjl : (j : Int) < (l.length : Int) := by omega
          have hjn : j < l.length := by omega
          have Hq := Lib.hid hq; clear hq
          clear hcell' hA
          rw [ej]
          clear ej
          by_cases hle : p.id ≤ q.id
          · have hd2 : decide (p.id ≤ q.id) = true := by simpa using hle
            go_wp2_with fail
            refine wp_region_bw (by kernel_rfl) (by kernel_rfl) ?_
            repeat (go_big_quiet_step (exact call_bw ((refPage_any _ p).mono fun e w' ⟨he, hb⟩ => ⟨by rw [he, Hrp.out], hb⟩)))
            refine wpQuiet_nil (bw_nil fun V hV => ?_)
            go_wp2_with fail
            go_ret
            exact ⟨ret_bool (rightM_bad hlt (by rw [okM_succ Hp.out Hq.out Hrp.out]; simp; omega)).symm, bnext hb hV⟩
          · have hd2 : decide (p.id ≤ q.id) = false := by simpa using hle
            go_wp2_with fail
            refine wp_region_bw (by kernel_rfl) (by kernel_rfl) ?_
            repeat (go_big_quiet_step (exact call_bw ((refPage_any _ p).mono fun e w' ⟨he, hb⟩ => ⟨by rw [he, Hrp.out], hb⟩)))
            refine wpQuiet_nil (bw_nil fun V hV => ?_)
            go_wp2_with fail
            go_roundg (l.length - (j + 1 + 1))
            case measure => have := Hg.out; omega
            case rel => exact ⟨j + 1 + 1, by omega, rfl, by go_num, fun i hi => by
              rcases Nat.lt_or_ge i (j + 1) with h | h
              · exact Hno.out i h
              · obtain rfl : i = j + 1 := by omega
                rw [okM_succ Hp.out Hq.out Hrp.out]; simp; omega, bnext hb hV⟩
    · have hkl : k = l.length := by omega
      subst hkl
      go_wp2_with fail
      go_ret
      exact ⟨ret_bool (rightM_all Hno.out).symm, hb⟩
end Go.Proofs.Ytbnegkkjgkignaa
