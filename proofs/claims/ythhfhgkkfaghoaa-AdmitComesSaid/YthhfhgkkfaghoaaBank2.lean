/- The contract of bank.Right: are clients right? -/
import Derived.Test.YthhfhgkkfaghoaaBank1
namespace Go.Proofs.Ythhfhgkkfaghoaa
open Go.RowKit

theorem okC_no {c : C} (h : ¬ okC c = true) : c.who < 0 ∨ 2147483647 < c.who ∨ c.claim < 0 ∨ 100 < c.claim ∨ c.held < 0 ∨ c.claim < c.held := by
  rw [okC_iff] at h; omega
theorem rightB_all {l : List C} (h8 : l.length ≤ 8) (h : ∀ j, j < l.length → okAt l j = true) : rightB l = true := rightB_iff.2 ⟨h8, h⟩

set_option maxHeartbeats 1000000 in
theorem right_any (w : World) (A : Option Addr) (cap : Nat) (l : List C)
    (hc : l.length ≤ cap) (_hm : cap ≤ 9223372036854775807) (hr : Rd C.cells 3 w w.heap.size A l) :
    Calls Try.prog 44 #[.slice A l.length cap] w fun e w' => e = .returned (.bool (rightB l)) ∧ Below w.heap.size w w' := by
  by_cases h8 : 8 < l.length
  · have h8i : (8 : Int) < (l.length : Int) := by omega
    go_enter Try.func44, Try.ntmps44
    go_wp2
    go_ret
    exact ⟨ret_bool (rightB_long h8).symm, Below.refl _ _⟩
  have h8i : (l.length : Int) ≤ 8 := by omega
  go_enter Try.func44, Try.ntmps44
  go_wp2
  go_loopg [12] l.length (fun g i wr => ∃ k : Nat, k ≤ l.length ∧ g = l.length - k ∧ i = .int .i64 k ∧ (∀ j, j < k → okAt l j = true) ∧ Below w.heap.size w wr)
  case atStart => exact ⟨0, Nat.zero_le _, rfl, rfl, fun _ h => absurd h (by omega), Below.refl _ _⟩
  case round =>
    obtain ⟨k, hk, hg, rfl, hno, hb⟩ := hrel
    obtain ⟨wo, rfl⟩ : ∃ wo : World, wo = wr := ⟨_, rfl⟩
    have Hg := Lib.hid hg; clear hg
    have Hno := Lib.hid hno; clear hno
    by_cases hlt : k < l.length
    · obtain ⟨c, b, off, hc, rfl, hbb, hcell⟩ := rd_c hr hlt
      obtain ⟨g0, g1, g2⟩ := hcell wo hb
      have hbw : b < wo.heap.size := by have := hb.size; omega
      have Hc := Lib.hid hc; clear hc
      have Hr := Lib.hid hr; clear hr
      clear hcell
      by_cases hok : okC c = true
      · obtain ⟨q1, q2, q3, q4, q5, q6⟩ := okC_iff.1 hok
        have Hok := Lib.hid hok; clear hok
        go_wp2
        generalize hW : wo.alloc (Obj.cells #[Value.int IntKind.i64 c.who, Value.int IntKind.i64 c.claim, Value.int IntKind.i64 c.held] 50) = W0
        go_loopg [49] k (fun g i wi => ∃ j : Nat, j ≤ k ∧ g = k - j ∧ i = .int .i64 j ∧ (∀ m d, m < j → l[m]? = some d → d.who ≠ c.who) ∧ Below W0.heap.size W0 wi)
        case atStart => exact ⟨0, Nat.zero_le _, rfl, rfl, fun m d h => absurd h (by omega), Below.refl _ _⟩
        case round =>
          obtain ⟨j, hj, hg, rfl, hno, hbi⟩ := hrel
          have Hgi := Lib.hid hg; clear hg
          have Hnoi := Lib.hid hno; clear hno
          have hWb : Below w.heap.size w W0 := by rw [← hW]; exact hb.alloc hb.size _
          have hb2 : Below w.heap.size w wr := hWb.trans (hbi.mono (by have := hWb.size; omega))
          by_cases hjk : j < k
          · obtain ⟨d, b', off', hd, hA, hbb', hcell'⟩ := rd_c Hr.out (k := j) (by omega)
            obtain ⟨rfl, rfl⟩ : b = b' ∧ off = off' := by simpa using hA
            obtain ⟨g0', g1', g2'⟩ := hcell' wr hb2
            have hbw' : b < wr.heap.size := by have := hb2.size; omega
            have hks : k = ((k : Int)).toNat := by simp
            have gw : wr.cell? ⟨wo.heap.size, 0, none⟩ = some (.int .i64 c.who) := by
              rw [hbi.cell (by subst hW; simp)]
              subst hW
              simp
            have hww : wo.heap.size < wr.heap.size := by have := hbi.size; subst hW; simp at this; omega
            have Hd := Lib.hid hd; clear hd
            have HW := Lib.hid hW; clear hW
            clear hcell' hA hks
            by_cases hdw : d.who = c.who
            · have hdb : (d.who == c.who) = true := by simp [hdw]
              have Hdw := Lib.hid hdw; clear hdw
              go_wp2
              go_ret
              exact ⟨ret_bool (rightB_bad hlt (okAt_dup Hc.out hjk Hd.out Hdw.out)).symm, hb2.alloc hb2.size _⟩
            · have hdb : (d.who == c.who) = false := by simp [hdw]
              have Hdw := Lib.hid hdw; clear hdw
              go_wp2
              go_roundg (k - (j + 1))
              case measure => have := Hgi.out; omega
              case rel => exact ⟨j + 1, by omega, rfl, by go_num, fun m e hm he => by
                rcases Nat.lt_or_ge m j with h | h
                · exact Hnoi.out m e h he
                · obtain rfl : m = j := by omega
                  rw [Hd.out] at he
                  injection he with he
                  subst he
                  exact Hdw.out, hbi.alloc hbi.size _⟩
          · have hjl : j = k := by omega
            have Hjl := Lib.hid hjl; clear hjl
            have HW := Lib.hid hW; clear hW
            go_wp2
            go_roundg (l.length - (k + 1))
            case measure => have := Hg.out; omega
            case rel => exact ⟨k + 1, by omega, rfl, by go_num, fun m hm => by
              rcases Nat.lt_or_ge m k with h | h
              · exact Hno.out m h
              · obtain rfl : m = k := by omega
                exact okAt_good Hc.out Hok.out (fun i d hi hd => Hnoi.out i d (by have := Hjl.out; omega) hd), hb2⟩
      · have hbad := okC_no hok
        go_wp2
        all_goals go_ret
        all_goals exact ⟨ret_bool (rightB_bad hlt (okAt_bad Hc.out (by simpa using hok))).symm, hb.alloc hb.size _⟩
    · have hkl : k = l.length := by omega
      have Hkl := Lib.hid hkl; clear hkl
      go_wp2
      go_ret
      exact ⟨ret_bool (rightB_all (by omega) (fun j hj => Hno.out j (by have := Hkl.out; omega))).symm, hb⟩
end Go.Proofs.Ythhfhgkkfaghoaa
