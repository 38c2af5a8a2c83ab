/- The walk of the law BankOrder: it answers true, and nothing that was there has turned. -/
import Derived.Test.YtlhnmgjoalifpaaBank4
import Derived.Test.YtlhnmgjoalifpaaBank6
import Derived.Test.YtlhnmgjoalifpaaBank7
namespace Go.Proofs.Ytlhnmgjoalifpaa
open Go.RowKit

set_option maxHeartbeats 1000000 in
theorem lawOrder (w : World) (A : Option Addr) (cap : Nat) (l : List C) (free : Int)
    (hc : l.length ≤ cap) (hm : cap ≤ 9223372036854775807) (hr : Rd C.cells 3 w w.heap.size A l) :
    Calls Try.prog 3 #[.int .i64 free, .slice A l.length cap] w fun e w' => e = .returned (.bool true) ∧ Below w.heap.size w w' := by
  by_cases h40 : (40 : Int) < (l.length : Int)
  · go_enter Try.func3, Try.ntmps3
    go_wp2_with fail
    refine (awake_any _).mono ?_
    rintro e w1 ⟨rfl, hb1⟩
    go_wp2_with fail
    go_ret
    exact ⟨rfl, hb1⟩
  · have hm40 : l.length ≤ 1000000 := by omega
    have h9 : l.length ≤ 9223372036854775807 := by omega
    by_cases hok : rightB l = true ∧ 0 ≤ free ∧ free ≤ 1000
    · obtain ⟨hrt, h0, h1⟩ := hok
      have ho := ordB_right hrt h0 h1
      obtain ⟨o, ok, hoo⟩ : ∃ o ok, ordR free l = (o, ok) := ⟨_, _, rfl⟩
      have hlen := ordR_len (free := free) (l := l)
      have hsafe : safeB free l = ok := by rw [safeB, ho, hoo]
      have h8 := (rightB_iff.1 hrt).1
      have hsm := smallC_of hrt
      rw [hoo] at ho hlen
      have hse : ((ok == ((o.length : Int) == (l.length : Int)))) = true := by
        have h2 := hlen.2
        cases ok
        · have : ¬ o.length = l.length := fun h => by have := h2.2 h; cases this
          simp; omega
        · have := h2.1 rfl
          simp at this
          simp [this]
      have hne : (ok != ok) = false := by simp
      have Ho := Lib.hid ho; clear ho
      have Hoo := Lib.hid hoo; clear hoo
      have Hrt := Lib.hid hrt; clear hrt
      have Hsf := Lib.hid hsafe; clear hsafe
      have Hsm := Lib.hid hsm; clear hsm
      have hol8 : o.length ≤ l.length := hlen.1
      clear hlen
      go_enter Try.func3, Try.ntmps3
      go_wp2_with fail
      refine (ref_any w A cap l hm40 hr).mono ?_
      rintro e w1 ⟨X, xc, rfl, hx1, hx2, hown, hb1⟩
      have hrX := Rd.of_own hown (fun _ => rfl) (by decide)
      go_wp2_with fail
      refine (order_any w1 A cap l free hc hm (hr.up hb1)).mono ?_
      rw [Ho.out]
      rintro e w2 ⟨O, oc, rfl, hownO, hb2⟩
      have hrO := Rd.of_nats hownO
      have hw2 : Below w.heap.size w w2 := hb1.trans (hb2.mono hb1.size)
      go_wp2_with fail
      refine (refRight_any w2 X xc l h9 (hrX.up hb2)).mono ?_
      rw [Hrt.out]
      rintro e w3 ⟨rfl, hb3⟩
      have hw3 : Below w.heap.size w w3 := hw2.trans (hb3.mono hw2.size)
      go_wp2_with fail
      refine (right_any w3 A cap l hc hm (hr.up hw3)).mono ?_
      rw [Hrt.out]
      rintro e w4 ⟨rfl, hb4⟩
      have hw4 : Below w.heap.size w w4 := hw3.trans (hb4.mono hw3.size)
      go_wp2_with fail
      refine (safe_any w4 A cap l free hc hm (hr.up hw4)).mono ?_
      rw [Hsf.out]
      rintro e w5 ⟨rfl, hb5⟩
      have hw5 : Below w.heap.size w w5 := hw4.trans (hb5.mono hw4.size)
      have hrX5 := (((hrX.up hb2).up hb3).up hb4).up hb5
      have hrO5 := ((hrO.up hb3).up hb4).up hb5
      clear hown hownO hrX hrO hb1 hb2 hb3 hb4 hb5
      go_wp2_with fail
      refine (refOrder_any w5 X xc l free h8 Hsm.out h0 h1 hrX5).mono ?_
      rw [Hoo.out]
      rintro e w6 ⟨O', oc', rfl, hownO', hb6⟩
      have hrO' := Rd.of_nats hownO'
      have hw6 : Below w.heap.size w w6 := hw5.trans (hb6.mono hw5.size)
      have ho8 : o.length ≤ 9223372036854775807 := by omega
      go_wp2_with fail
      have heq := equal_any w6 O O' oc oc' (o.map (fun n : Nat => (n : Int))) (o.map (fun n : Nat => (n : Int))) (by simpa using ho8) (hrO5.up hb6) hrO'
      rw [decide_eq_true rfl, List.length_map] at heq
      refine heq.mono ?_
      rintro e w7 ⟨rfl, hb7⟩
      have hw7 : Below w.heap.size w w7 := hw6.trans (hb7.mono hw6.size)
      clear heq
      go_wp2_with fail
      refine (awake_any w7).mono ?_
      rintro e w8 ⟨rfl, hb8⟩
      go_wp2_with fail
      go_ret
      exact ⟨rfl, hw7.trans (hb8.mono hw7.size)⟩
    · have ho : ordB free l = ([], false) := ordB_wrong (by
        cases h : rightB l
        · exact .inl rfl
        · right
          by_cases h0 : free < 0
          · exact .inl h0
          · right
            rcases Int.lt_or_le 1000 free with h1 | h1
            · exact h1
            · exact absurd ⟨h, by omega, h1⟩ hok)
      have hsafe : safeB free l = false := by rw [safeB, ho]
      have Ho := Lib.hid ho; clear ho
      have Hsf := Lib.hid hsafe; clear hsafe
      obtain ⟨rb, hrb⟩ : ∃ rb, rightB l = rb := ⟨_, rfl⟩
      have hcase : rb = false ∨ (rb = true ∧ free < 0) ∨ (rb = true ∧ 1000 < free) := by
        rw [hrb] at hok
        cases rb
        · exact .inl rfl
        · right
          by_cases h0 : free < 0
          · exact .inl ⟨rfl, h0⟩
          · right
            rcases Int.lt_or_le 1000 free with h1 | h1
            · exact ⟨rfl, h1⟩
            · exact absurd ⟨rfl, by omega, h1⟩ hok
      have Hrb := Lib.hid hrb; clear hrb hok
      rcases hcase with rfl | ⟨rfl, h0⟩ | ⟨rfl, h0⟩
      all_goals
        go_enter Try.func3, Try.ntmps3
        go_wp2_with fail
        refine (ref_any w A cap l hm40 hr).mono ?_
        rintro e w1 ⟨X, xc, rfl, hx1, hx2, hown, hb1⟩
        have hrX := Rd.of_own hown (fun _ => rfl) (by decide)
        go_wp2_with fail
        refine (order_any w1 A cap l free hc hm (hr.up hb1)).mono ?_
        rw [Ho.out]
        rintro e w2 ⟨O, oc, rfl, hownO, hb2⟩
        have hw2 : Below w.heap.size w w2 := hb1.trans (hb2.mono hb1.size)
        go_wp2_with fail
        refine (refRight_any w2 X xc l h9 (hrX.up hb2)).mono ?_
        rw [Hrb.out]
        rintro e w3 ⟨rfl, hb3⟩
        have hw3 : Below w.heap.size w w3 := hw2.trans (hb3.mono hw2.size)
        go_wp2_with fail
        refine (right_any w3 A cap l hc hm (hr.up hw3)).mono ?_
        rw [Hrb.out]
        rintro e w4 ⟨rfl, hb4⟩
        have hw4 : Below w.heap.size w w4 := hw3.trans (hb4.mono hw3.size)
        go_wp2_with fail
        refine (safe_any w4 A cap l free hc hm (hr.up hw4)).mono ?_
        rw [Hsf.out]
        rintro e w5 ⟨rfl, hb5⟩
        have hw5 : Below w.heap.size w w5 := hw4.trans (hb5.mono hw4.size)
        clear hown hownO hrX hb1 hb2 hb3 hb4 hb5
        go_wp2_with fail
        refine (awake_any w5).mono ?_
        rintro e w8 ⟨rfl, hb8⟩
        go_wp2_with fail
        go_ret
        exact ⟨rfl, hw5.trans (hb8.mono hw5.size)⟩
end Go.Proofs.Ytlhnmgjoalifpaa
