/- The contracts of slices.Index and slices.Contains at ints. -/
import Derived.Test.YtigffndobddflaaInts
namespace Go.Proofs.Ytigffndobddflaa
open Go.RowKit
theorem idx_none {l : List Int} {v : Int} (hn : ∀ (j : Nat) (d : Int), j < l.length → l[j]? = some d → d ≠ v) : l.contains v = false := by
  rw [List.contains_eq_any_beq, List.any_eq_false]
  intro c hc
  obtain ⟨j, hj⟩ := List.getElem?_of_mem hc
  have := hn j c (List.getElem?_eq_some_iff.1 hj).1 hj
  simpa using fun e => this e.symm
def IdxP (l : List Int) (v : Int) (w : World) (e : Ending) (w' : World) : Prop := ∃ m : Int, e = .returned (.int .i64 m) ∧ decide (0 ≤ m) = l.contains v ∧ Below w.heap.size w w'
set_option maxHeartbeats 2000000 in
theorem index_any (w : World) (A : Option Addr) (ac : Nat) (l : List Int) (v : Int) (hl : l.length ≤ 1000000) (hr : Rd icells 1 w w.heap.size A l) :
    Calls Try.prog 33 #[.slice A l.length ac, .int .i64 v] w (IdxP l v w) := by
  have Hr := Lib.hid hr; clear hr
  go_enter Try.func33, Try.ntmps33
  go_wp2_with fail
  go_loopg [8] l.length (fun g i wr => ∃ k : Nat, k ≤ l.length ∧ g = l.length - k ∧ i = .int .i64 k ∧ (∀ (j : Nat) (d : Int), j < k → l[j]? = some d → d ≠ v) ∧ Below w.heap.size w wr)
  case atStart => exact ⟨0, Nat.zero_le _, rfl, rfl, fun j _ h => absurd h (by omega), Below.refl _ _⟩
  case round =>
    obtain ⟨k, hk, hg, rfl, hn, hb⟩ := hrel
    have Hg := Lib.hid hg; clear hg
    have Hn := Lib.hid hn; clear hn
    by_cases hlt : k < l.length
    · obtain ⟨c, b, off, hc, rfl, hbb, hcell⟩ := rd_i Hr.out hlt
      have g0 := hcell wr hb
      have hki : (k : Int) < (l.length : Int) := by omega
      have Hc := Lib.hid hc
      clear hcell hc
      by_cases hcw : c = v
      · have hcb : (v == c) = true := by simpa using hcw.symm
        have Hcw := Lib.hid hcw; clear hcw
        go_wp2_with fail
        go_ret
        exact ⟨k, rfl, by rw [decide_eq_true (by omega), List.contains_eq_any_beq]; exact (List.any_eq_true.2 ⟨c, List.mem_of_getElem? Hc.out, by rw [Hcw.out]; simp⟩).symm, hb⟩
      · have hcb : (v == c) = false := by simpa using fun e => hcw e.symm
        have Hcw := Lib.hid hcw; clear hcw
        go_wp2_with fail
        go_roundg (l.length - (k + 1))
        case measure => have := Hg.out; omega
        case rel =>
          refine ⟨k + 1, by omega, rfl, by go_num, fun j d hj hd => ?_, hb⟩
          rcases Nat.lt_or_ge j k with h | h
          · exact Hn.out j d h hd
          · obtain rfl : j = k := by omega
            rw [Hc.out] at hd
            injection hd with hd
            subst hd
            exact Hcw.out
    · obtain rfl : k = l.length := by omega
      go_wp2_with fail
      go_ret
      exact ⟨-1, rfl, by rw [idx_none Hn.out]; rfl, hb⟩
set_option maxHeartbeats 2000000 in
theorem contains_any (w : World) (A : Option Addr) (ac : Nat) (l : List Int) (v : Int) (hl : l.length ≤ 1000000) (hr : Rd icells 1 w w.heap.size A l) :
    Calls Try.prog 22 #[.slice A l.length ac, .int .i64 v] w fun e w' => e = .returned (.bool (l.contains v)) ∧ Below w.heap.size w w' := by
  go_enter Try.func22, Try.ntmps22
  go_wp2_with fail
  refine (index_any w A ac l v hl hr).mono ?_
  rintro e V ⟨m, rfl, hm, hb⟩
  have Hm := Lib.hid hm
  clear hm
  go_wp2_with fail
  go_ret
  exact ⟨ret_bool Hm.out, hb⟩
end Go.Proofs.Ytigffndobddflaa
