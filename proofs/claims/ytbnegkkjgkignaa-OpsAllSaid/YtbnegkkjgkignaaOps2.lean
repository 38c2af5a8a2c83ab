/- The contracts of ops.Right and ops.place. -/
import Derived.Test.YtbnegkkjgkignaaOps1
namespace Go.Proofs.Ytbnegkkjgkignaa
open Go.RowKit

theorem rightM_all {l : List Pg} (h : ∀ j, j < l.length → okM l j = true) : rightM l = true := rightM_iff.2 h
/-- a fact of a box that a contract has passed by -/
theorem box_cell {w W : World} {cs : Array Value} {t : TypeId} (h : Below (w.alloc (.cells cs t)).heap.size (w.alloc (.cells cs t)) W) (i : Nat) : W.cell? ⟨w.heap.size, i, none⟩ = cs[i]? := by
  rw [h.cell (by simp), World.cell?_alloc_new]

set_option maxHeartbeats 2000000 in
theorem opsRight_any (w : World) (A : Option Addr) (cap : Nat) (l : List Pg)
    (hl : l.length ≤ 1000000) (hr : Rd Pg.cells 3 w w.heap.size A l) :
    Calls Try.prog 16 #[.agg #[.slice A l.length cap]] w fun e w' => e = .returned (.bool (rightM l)) ∧ Below w.heap.size w w' := by
  obtain ⟨W, hW⟩ : ∃ W, W = w.alloc (.cells #[.slice A l.length cap] 24) := ⟨_, rfl⟩
  have hbW : Below w.heap.size w W := by rw [hW]; exact (Below.refl _ _).alloc (Nat.le_refl _) _
  have hcW : ∀ V, Below W.heap.size W V → V.cell? ⟨w.heap.size, 0, none⟩ = some (.slice A l.length cap) := fun V hV => by
    subst hW; rw [box_cell hV]; rfl
  have hsW : w.heap.size < W.heap.size := by rw [hW]; simp
  have h0 := hcW W (Below.refl _ _)
  have hrW := hr.up hbW
  have Hr := Lib.hid hrW; clear hrW hr
  have HcW := Lib.hid hcW; clear hcW
  have hW' := hW.symm
  clear hW
  go_enter Try.func16, Try.ntmps16
  go_wp2_with fail
  go_loopg [8] l.length (fun g i wr => ∃ k : Nat, k ≤ l.length ∧ g = l.length - k ∧ i = .int .i64 k ∧ (∀ j, j < k → okM l j = true) ∧ Below W.heap.size W wr)
  case atStart => exact ⟨0, Nat.zero_le _, rfl, rfl, fun _ h => absurd h (by omega), Below.refl _ _⟩
  case round =>
    obtain ⟨k, hk, hg, rfl, hno, hb⟩ := hrel
    have Hg := Lib.hid hg; clear hg
    have Hno := Lib.hid hno; clear hno
    clear hW' h0
    by_cases hlt : k < l.length
    · obtain ⟨p, b, off, hp, rfl, hbb, hcell⟩ := rd_p Hr.out hlt
      obtain ⟨g0, g1, g2⟩ := hcell wr hb
      have hbs : b < wr.heap.size := by have := hb.size; omega
      have Hp := Lib.hid hp; clear hp
      clear hcell
      go_wp2_with fail
      refine (pageRight_any _ p).mono ?_
      cases hrp : rightP p with
      | false =>
        rintro e w2 ⟨rfl, hb2⟩
        have Hrp := Lib.hid hrp; clear hrp
        go_wp2_with fail
        go_ret
        exact ⟨ret_bool (rightM_bad hlt (okM_bad Hp.out Hrp.out)).symm, bnext hbW (bnext (hb.alloc hb.size _) hb2)⟩
      | true =>
        rintro e w2 ⟨rfl, hb2⟩
        have Hrp := Lib.hid hrp; clear hrp
        have c1 := box_cell hb2 0
        have hw2 : Below W.heap.size W w2 := bnext (hb.alloc hb.size _) hb2
        have c0 := HcW.out w2 hw2
        simp only [List.getElem?_toArray, List.getElem?_cons_zero] at c1
        rcases k with _ | j
        · have hd : decide ((0 : Int) < ((0 : Nat) : Int)) = false := by simp
          clear hb2
          go_wp2_with fail
          go_quiet (fail)
          go_wp2_with fail
          go_roundg (l.length - 1)
          case measure => have := Hg.out; omega
          case rel => exact ⟨1, by omega, rfl, rfl, fun i hi => by
            obtain rfl : i = 0 := by omega
            exact okM_zero Hp.out Hrp.out, below_drewN hw2 _⟩
        · obtain ⟨q, b', off', hq, hA, hbb', hcell'⟩ := rd_p Hr.out (k := j) (by omega)
          obtain ⟨rfl, rfl⟩ : b = b' ∧ off = off' := by simpa using hA
          have c2 := (hcell' w2 hw2).1
          have ej : ((j + 1 : Nat) : Int) = (j : Int) + 1 := by omega
          have hj0 : (0 : Int) < (j : Int) + 1 := by omega
          have hd : decide ((0 : Int) < (j : Int) + 1) = true := by rw [decide_eq_true_eq]; omega
          have ew : IntKind.i64.wrap ((j : Int) + 1 - 1) = (j : Int) := by rw [IntWalk.i64_in _ (by omega)]; omega
          have hjl : (j : Int) < (l.length : Int) := by omega
          have hjn : j < l.length := by omega
          have Hq := Lib.hid hq; clear hq
          clear hb2 hcell' hA
          rw [ej]
          clear ej
          by_cases hle : p.id ≤ q.id
          · go_wp2_with fail
            go_quiet (fail)
            go_wp2_with fail
            go_ret
            exact ⟨ret_bool (rightM_bad hlt (by rw [okM_succ Hp.out Hq.out Hrp.out]; simp; omega)).symm, below_drewN (bnext hbW hw2) _⟩
          · go_wp2_with fail
            go_quiet (fail)
            go_wp2_with fail
            go_roundg (l.length - (j + 1 + 1))
            case measure => have := Hg.out; omega
            case rel => exact ⟨j + 1 + 1, by omega, rfl, by go_num, fun i hi => by
              rcases Nat.lt_or_ge i (j + 1) with h | h
              · exact Hno.out i h
              · obtain rfl : i = j + 1 := by omega
                rw [okM_succ Hp.out Hq.out Hrp.out]; simp; omega, below_drewN hw2 _⟩
    · have hkl : k = l.length := by omega
      subst hkl
      go_wp2_with fail
      go_ret
      exact ⟨ret_bool (rightM_all Hno.out).symm, bnext hbW hb⟩
end Go.Proofs.Ytbnegkkjgkignaa
