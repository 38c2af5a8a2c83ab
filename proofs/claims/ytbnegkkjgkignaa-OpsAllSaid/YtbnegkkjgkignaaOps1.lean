/- The contracts of page.Right, lockkeeperref02.Right. -/
import Derived.Test.YtbnegkkjgkignaaProg
import Derived.Test.YtbnegkkjgkignaaOps0
namespace Go.Proofs.Ytbnegkkjgkignaa
open Go.RowKit

set_option maxHeartbeats 1000000 in
theorem pageRight_any (w : World) (p : Pg) :
    Calls Try.prog 24 #[.agg #[.int .i64 p.id, .int .i64 p.ver, .string p.body]] w fun e w' => e = .returned (.bool (rightP p)) ∧ Below w.heap.size w w' := by
  have hb : Below w.heap.size w (w.alloc (.cells #[.int .i64 p.id, .int .i64 p.ver, .string p.body] 31)) := (Below.refl _ _).alloc (Nat.le_refl _) _
  have Hb := Lib.hid hb; clear hb
  by_cases hr : rightP p = true
  · obtain ⟨q1, q2, q3, q4, q5⟩ := rightP_iff.1 hr
    have q5i : (p.body.size : Int) ≤ 16 := by omega
    have Hr := Lib.hid hr; clear hr
    go_enter Try.func24, Try.ntmps24
    go_wp2
    go_ret
    first | exact ⟨ret_bool Hr.out.symm, Hb.out⟩ | exact ⟨ret_bool (by rw [Hr.out]; first | (simp; done) | (simp; omega)), Hb.out⟩
  · have hbad := rightP_no hr
    have hr2 : rightP p = false := by simpa using hr
    have Hr := Lib.hid hr2; clear hr2 hr
    rcases hbad with h | h | h | h | h
    all_goals
      go_enter Try.func24, Try.ntmps24
      go_wp2
      all_goals go_ret
      all_goals first
        | exact ⟨ret_bool Hr.out.symm, Hb.out⟩
        | exact ⟨ret_bool (by rw [Hr.out]; first | (simp; done) | (simp; omega)), Hb.out⟩

set_option maxHeartbeats 1000000 in
theorem refPage_any (w : World) (p : Pg) :
    Calls Try.prog 23 #[.agg #[.int .i64 p.id, .int .i64 p.ver, .string p.body]] w fun e w' => e = .returned (.bool (rightP p)) ∧ Below w.heap.size w w' := by
  have hb : Below w.heap.size w (w.alloc (.cells #[.int .i64 p.id, .int .i64 p.ver, .string p.body] 31)) := (Below.refl _ _).alloc (Nat.le_refl _) _
  have Hb := Lib.hid hb; clear hb
  by_cases hr : rightP p = true
  · obtain ⟨q1, q2, q3, q4, q5⟩ := rightP_iff.1 hr
    have q5i : (p.body.size : Int) < 17 := by omega
    have q1i : 0 < p.id := by omega
    have q2i : p.id < 17 := by omega
    have q3i : 0 < p.ver := by omega
    have q4i : p.ver < 2147483648 := by omega
    have Hr := Lib.hid hr; clear hr
    go_enter Try.func23, Try.ntmps23
    go_wp2
    all_goals go_ret
    all_goals first | exact ⟨ret_bool Hr.out.symm, Hb.out⟩ | exact ⟨ret_bool (by rw [Hr.out]; first | (simp; done) | (simp; omega)), Hb.out⟩
  · have hbad : p.id ≤ 0 ∨ (0 < p.id ∧ 17 ≤ p.id) ∨ (0 < p.id ∧ p.id < 17 ∧ p.ver ≤ 0) ∨ (0 < p.id ∧ p.id < 17 ∧ 0 < p.ver ∧ 2147483648 ≤ p.ver) ∨ (0 < p.id ∧ p.id < 17 ∧ 0 < p.ver ∧ p.ver < 2147483648 ∧ (17 : Int) ≤ (p.body.size : Int)) := by
      have := rightP_no hr; omega
    have hr2 : rightP p = false := by simpa using hr
    have Hr := Lib.hid hr2; clear hr2 hr
    rcases hbad with h | ⟨h1, h2⟩ | ⟨h1, h2, h3⟩ | ⟨h1, h2, h3, h4⟩ | ⟨h1, h2, h3, h4, h5⟩
    all_goals
      go_enter Try.func23, Try.ntmps23
      go_wp2
      all_goals go_ret
      all_goals first
        | exact ⟨ret_bool Hr.out.symm, Hb.out⟩
        | exact ⟨ret_bool (by rw [Hr.out]; first | (simp; done) | (simp; omega)), Hb.out⟩
        | exact ⟨ret_bool (by rw [Hr.out]; simp), Hb.out⟩
end Go.Proofs.Ytbnegkkjgkignaa
