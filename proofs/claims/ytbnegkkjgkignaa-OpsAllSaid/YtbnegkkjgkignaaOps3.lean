/- The contract of ops.place. -/
import Derived.Test.YtbnegkkjgkignaaOps2
namespace Go.Proofs.Ytbnegkkjgkignaa
open Go.RowKit

/-- a number and a Bool -/
def NatBool (r : Nat × Bool) (w : World) (e : Ending) (w' : World) : Prop := e = .returned (.tuple #[.int .i64 r.1, .bool r.2]) ∧ Below w.heap.size w w'

set_option maxHeartbeats 2000000 in
theorem place_any (w : World) (A : Option Addr) (cap : Nat) (l : List Pg) (id : Int)
    (hl : l.length ≤ 1000000) (hr : Rd Pg.cells 3 w w.heap.size A l) :
    Calls Try.prog 19 #[.agg #[.slice A l.length cap], .int .i64 id] w (NatBool (placeM l id) w) := by
  obtain ⟨W, hW⟩ : ∃ W, W = w.alloc (.cells #[.slice A l.length cap] 24) := ⟨_, rfl⟩
  have hbW : Below w.heap.size w W := by rw [hW]; exact (Below.refl _ _).alloc (Nat.le_refl _) _
  have hcW : ∀ V, Below W.heap.size W V → V.cell? ⟨w.heap.size, 0, none⟩ = some (.slice A l.length cap) := fun V hV => by
    subst hW; rw [box_cell hV]; rfl
  have hsW : w.heap.size < W.heap.size := by rw [hW]; simp
  have h0 := hcW W (Below.refl _ _)
  have hrW := hr.up hbW
  have Hr := Lib.hid hrW; clear hrW hr
  have HcW := Lib.hid hcW; clear hcW
  have hW' := hW.symm
  clear hW
  go_enter Try.func19, Try.ntmps19
  go_wp2_with fail
  go_loopg [11] l.length (fun g i wr => ∃ k : Nat, k ≤ l.length ∧ g = l.length - k ∧ i = .int .i64 k ∧ (∀ (j : Nat) (q : Pg), j < k → l[j]? = some q → q.id < id) ∧ Below W.heap.size W wr)
  case atStart => exact ⟨0, Nat.zero_le _, rfl, rfl, fun _ _ h => absurd h (by omega), Below.refl _ _⟩
  case round =>
    obtain ⟨k, hk, hg, rfl, hno, hb⟩ := hrel
    have Hg := Lib.hid hg; clear hg
    have Hno := Lib.hid hno; clear hno
    clear hW' h0
    by_cases hlt : k < l.length
    · obtain ⟨p, b, off, hp, rfl, hbb, hcell⟩ := rd_p Hr.out hlt
      obtain ⟨g0, g1, g2⟩ := hcell wr hb
      have hbs : b < wr.heap.size := by have := hb.size; omega
      have Hp := Lib.hid hp; clear hp
      clear hcell
      by_cases hge : id ≤ p.id
      · by_cases heq : p.id = id
        · have hqb : (p.id == id) = true := by simp [heq]
          have Heq := Lib.hid heq; clear heq
          go_wp2_with fail
          go_quiet (fail)
          go_wp2_with fail
          go_ret2
          refine ⟨?_, below_drewN (bnext hbW (hb.alloc hb.size _)) _⟩
          rw [placeM_some Hp.out hge Hno.out, decide_eq_true Heq.out]
          rfl
        · have hqb : (p.id == id) = false := by simp [heq]
          have Heq := Lib.hid heq; clear heq
          go_wp2_with fail
          go_quiet (fail)
          go_wp2_with fail
          go_ret2
          refine ⟨?_, below_drewN (bnext hbW (hb.alloc hb.size _)) _⟩
          rw [placeM_some Hp.out hge Hno.out, decide_eq_false Heq.out]
          rfl
      · go_wp2_with fail
        go_roundg (l.length - (k + 1))
        case measure => have := Hg.out; omega
        case rel => exact ⟨k + 1, by omega, rfl, by go_num, fun j q hj hq => by
          rcases Nat.lt_or_ge j k with h | h
          · exact Hno.out j q h hq
          · obtain rfl : j = k := by omega
            rw [Hp.out] at hq
            injection hq with hq
            subst hq
            omega, hb.alloc hb.size _⟩
    · have hkl : k = l.length := by omega
      subst hkl
      have c0 := HcW.out wr hb
      go_wp2_with fail
      go_ret2
      refine ⟨?_, bnext hbW hb⟩
      rw [placeM_none (fun j q hq => Hno.out j q (List.getElem?_eq_some_iff.1 hq).1 hq)]
      rfl
end Go.Proofs.Ytbnegkkjgkignaa
