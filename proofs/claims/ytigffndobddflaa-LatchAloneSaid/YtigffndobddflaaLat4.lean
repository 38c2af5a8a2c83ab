/- The contract of slices.BinarySearch at a rising list of ints. -/
import Derived.Test.YtigffndobddflaaLat3
import Derived.Deep.Draws
import Derived.Lib.Walk
namespace Go.Proofs.Ytigffndobddflaa
open Go.RowKit

theorem cmpNaN_any (x : Int) (w : World) : Calls Try.prog 45 #[.int .i64 x] w fun e w' => e = .returned (.bool false) ∧ w = w' := by
  go_enter Try.func45, Try.ntmps45
  go_wp2_with fail
  go_ret
  exact ⟨by simp, rfl⟩
theorem slNaN_any (x : Int) (w : World) : Calls Try.prog 42 #[.int .i64 x] w fun e w' => e = .returned (.bool false) ∧ w = w' := by
  go_enter Try.func42, Try.ntmps42
  go_wp2_with fail
  go_ret
  exact ⟨by simp, rfl⟩
theorem less_any (x y : Int) (w : World) : Calls Try.prog 41 #[.int .i64 x, .int .i64 y] w fun e w' => e = .returned (.bool (decide (x < y))) ∧ w = w' := by
  go_enter Try.func41, Try.ntmps41
  go_wp2_with (go_at_call 45; refine (cmpNaN_any _ _).mono ?_; rintro e w' ⟨rfl, rfl⟩)
  go_ret
  exact ⟨rfl, rfl⟩
/-- a place told, and whether it is there -/
def PlaceP (n : Nat) (w : World) (e : Ending) (w' : World) : Prop := ∃ b : Bool, e = .returned (.tuple #[.int .i64 n, .bool b]) ∧ Below w.heap.size w w'
theorem lessN_mono {l : List Int} (h : Rising l) {x : Int} {k : Nat} {n : Int} (hn : l[k]? = some n) : k < lessN l x ↔ n < x := by
  constructor
  · intro hk; exact lessN_lt hk hn
  · intro hx
    rcases Nat.lt_or_ge k (lessN l x) with h1 | h1
    · exact h1
    · have := lessN_ge h h1 hn; omega
set_option maxHeartbeats 4000000 in
set_option maxRecDepth 1000000 in
theorem bsearch_any (w : World) (A : Option Addr) (ac : Nat) (l : List Int) (x : Int) (hl : l.length ≤ 1000000) (hs : Rising l) (hr : Rd icells 1 w w.heap.size A l) :
    Calls Try.prog 36 #[.slice A l.length ac, .int .i64 x] w (PlaceP (lessN l x) w) := by
  have Hr := Lib.hid hr
  have Hs := Lib.hid hs
  obtain ⟨L, hL⟩ : ∃ L, L = lessN l x := ⟨_, rfl⟩
  have hLl : L ≤ l.length := by rw [hL]; exact lessN_le l x
  rw [← hL]
  have HL := Lib.hid hL
  clear hr hs hL
  go_enter Try.func36, Try.ntmps36
  go_wp2_with fail
  go_loopg [7, 8] l.length (fun g s7 s8 wr => ∃ lo hi : Nat, s7 = .int .i64 lo ∧ s8 = .int .i64 hi ∧ lo ≤ L ∧ L ≤ hi ∧ hi ≤ l.length ∧ hi - lo ≤ g ∧ Below w.heap.size w wr)
  case atStart => exact ⟨0, l.length, rfl, rfl, Nat.zero_le _, hLl, Nat.le_refl _, by omega, Below.refl _ _⟩
  case round =>
    obtain ⟨lo, hi, rfl, rfl, h1, h2, h3, hg, hb⟩ := hrel
    have Hg := Lib.hid hg; clear hg
    by_cases hlt : lo < hi
    · obtain ⟨y, b, off, hy, rfl, hbb, hcell⟩ := rd_i Hr.out (k := (lo + hi) / 2) (by omega)
      have cm := hcell wr hb
      have hiff := lessN_mono (x := x) Hs.out hy
      rw [← HL.out] at hiff
      have Hiff := Lib.hid hiff
      clear hiff hcell hy
      by_cases hyx : y < x
      · have := Hiff.out.2 hyx
        go_wp2_with (first | (go_at_call 41; refine (less_any _ _ _).mono ?_; rintro e w' ⟨rfl, rfl⟩) | (go_at_call 42; refine (slNaN_any _ _).mono ?_; rintro e w' ⟨rfl, rfl⟩))
        go_roundg (hi - ((lo + hi) / 2 + 1))
        case measure => have := Hg.out; omega
        case rel => exact ⟨(lo + hi) / 2 + 1, hi, by rw [show ((lo : Int) + (hi : Int)) / 2 + 1 = (((lo + hi) / 2 + 1 : Nat) : Int) by omega], rfl, by omega, by omega, by omega, Nat.le_refl _, hb⟩
      · have hn : ¬ (lo + hi) / 2 < L := fun h => hyx (Hiff.out.1 h)
        go_wp2_with (first | (go_at_call 41; refine (less_any _ _ _).mono ?_; rintro e w' ⟨rfl, rfl⟩) | (go_at_call 42; refine (slNaN_any _ _).mono ?_; rintro e w' ⟨rfl, rfl⟩))
        go_roundg ((lo + hi) / 2 - lo)
        case measure => have := Hg.out; omega
        case rel => exact ⟨lo, (lo + hi) / 2, rfl, by rw [show ((lo : Int) + (hi : Int)) / 2 = (((lo + hi) / 2 : Nat) : Int) by omega], by omega, by omega, by omega, Nat.le_refl _, hb⟩
    · obtain rfl : hi = lo := by omega
      obtain rfl : hi = L := by omega
      by_cases hn : hi < l.length
      · obtain ⟨y, b, off, hy, rfl, hbb, hcell⟩ := rd_i Hr.out hn
        have cm := hcell wr hb
        clear hcell hy
        by_cases hyx : y = x
        · have hyb : (y == x) = true := by simpa using hyx
          clear hyx
          go_wp2_with (first | (go_at_call 41; refine (less_any _ _ _).mono ?_; rintro e w' ⟨rfl, rfl⟩) | (go_at_call 42; refine (slNaN_any _ _).mono ?_; rintro e w' ⟨rfl, rfl⟩))
          go_ret2
          exact ⟨_, rfl, hb⟩
        · have hyb : (y == x) = false := by simpa using hyx
          clear hyx
          go_wp2_with (first | (go_at_call 41; refine (less_any _ _ _).mono ?_; rintro e w' ⟨rfl, rfl⟩) | (go_at_call 42; refine (slNaN_any _ _).mono ?_; rintro e w' ⟨rfl, rfl⟩))
          go_ret2
          exact ⟨_, rfl, hb⟩
      · go_wp2_with (first | (go_at_call 41; refine (less_any _ _ _).mono ?_; rintro e w' ⟨rfl, rfl⟩) | (go_at_call 42; refine (slNaN_any _ _).mono ?_; rintro e w' ⟨rfl, rfl⟩))
        go_ret2
        exact ⟨_, rfl, hb⟩
end Go.Proofs.Ytigffndobddflaa
