/- The contract of lockkeeperref08.Equal: are two slices of ints equal? -/
import Derived.Test.YtigffndobddflaaInts
import Derived.Deep.QuietTactic
import Derived.BigQuiet
namespace Go.Proofs.Ytigffndobddflaa
open Go.RowKit

theorem eqL_yes {xs ys : List Int} (hl : xs.length = ys.length) (h : ∀ j, j < xs.length → xs[j]? = ys[j]?) : decide (xs = ys) = true := by
  rw [decide_eq_true_eq]
  apply List.ext_getElem?
  intro i
  by_cases hi : i < xs.length
  · exact h i hi
  · rw [List.getElem?_eq_none (by omega), List.getElem?_eq_none (by omega)]
theorem eqL_no {xs ys : List Int} {k : Nat} {x y : Int} (hx : xs[k]? = some x) (hy : ys[k]? = some y) (h : x ≠ y) : decide (xs = ys) = false := by
  rw [decide_eq_false_iff_not]
  rintro rfl
  rw [hx] at hy
  exact h (by injection hy)
theorem eqL_len {xs ys : List Int} (h : xs.length ≠ ys.length) : decide (xs = ys) = false := by
  rw [decide_eq_false_iff_not]
  rintro rfl
  exact h rfl

set_option maxHeartbeats 1000000 in
theorem equal_any (w : World) (A A' : Option Addr) (cap cap' : Nat) (xs ys : List Int)
    (hm : xs.length ≤ 9223372036854775807) (hr : Rd icells 1 w w.heap.size A xs) (hq : Rd icells 1 w w.heap.size A' ys) :
    Calls Try.prog 19 #[.slice A xs.length cap, .slice A' ys.length cap'] w fun e w' => e = .returned (.bool (decide (xs = ys))) ∧ Below w.heap.size w w' := by
  by_cases hl : xs.length = ys.length
  · have hlb : ((xs.length : Int) != (ys.length : Int)) = false := by simp [hl]
    have hle1 : xs.length ≤ ys.length := by omega
    have hle2 : ys.length ≤ xs.length := by omega
    have Hl := Lib.hid hl; clear hl
    go_enter Try.func19, Try.ntmps19
    go_wp2
    go_loopg [5] xs.length (fun g i wr => ∃ k : Nat, k ≤ xs.length ∧ g = xs.length - k ∧ i = .int .i64 k ∧ (∀ j, j < k → xs[j]? = ys[j]?) ∧ Below w.heap.size w wr)
    case atStart => exact ⟨0, Nat.zero_le _, rfl, rfl, fun _ h => absurd h (by omega), Below.refl _ _⟩
    case round =>
      obtain ⟨k, hk, hg, rfl, hno, hb⟩ := hrel
      have Hg := Lib.hid hg; clear hg
      have Hno := Lib.hid hno; clear hno
      by_cases hlt : k < xs.length
      · obtain ⟨x, b, off, hx, rfl, hbb, hcell⟩ := rd_i hr hlt
        obtain ⟨y, b', off', hy, rfl, hbb', hcell'⟩ := rd_i hq (k := k) (by omega)
        have g1 := hcell wr hb
        have g2 := hcell' wr hb
        have Hx := Lib.hid hx; clear hx
        have Hy := Lib.hid hy; clear hy
        clear hcell hcell' hr hq
        have hlt2 : k < ys.length := by omega
        by_cases hxy : x = y
        · have hxb : (x != y) = false := by simp [hxy]
          have Hxy := Lib.hid hxy; clear hxy
          go_wp2_with fail
          go_quiet (fail)
          go_wp2_with fail
          go_roundg (xs.length - (k + 1))
          case measure => have := Hg.out; omega
          case rel => exact ⟨k + 1, by omega, rfl, by go_num, fun j hj => by
            rcases Nat.lt_or_ge j k with h | h
            · exact Hno.out j h
            · obtain rfl : j = k := by omega
              rw [Hx.out, Hy.out, Hxy.out], below_drewN hb _⟩
        · have hxb : (x != y) = true := by simp [hxy]
          have Hxy := Lib.hid hxy; clear hxy
          go_wp2_with fail
          go_quiet (fail)
          go_wp2_with fail
          go_ret
          exact ⟨ret_bool (eqL_no Hx.out Hy.out Hxy.out).symm, below_drewN hb _⟩
      · have hkl : k = xs.length := by omega
        have Hkl := Lib.hid hkl; clear hkl
        go_wp2_with fail
        go_ret
        exact ⟨ret_bool (eqL_yes Hl.out (fun j hj => Hno.out j (by have := Hkl.out; omega))).symm, hb⟩
  · have hlb : ((xs.length : Int) != (ys.length : Int)) = true := by simp; omega
    have Hl := Lib.hid hl; clear hl
    go_enter Try.func19, Try.ntmps19
    go_wp2
    go_ret
    exact ⟨ret_bool (eqL_len Hl.out).symm, Below.refl _ _⟩
end Go.Proofs.Ytigffndobddflaa
