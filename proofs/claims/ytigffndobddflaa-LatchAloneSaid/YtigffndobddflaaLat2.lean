/- The contract of latch.waits. -/
import Derived.Test.YtigffndobddflaaLat1
import Derived.Test.YtigffndobddflaaIdx
namespace Go.Proofs.Ytigffndobddflaa
open Go.RowKit

theorem findW_at {l : List Wt} {who : Int} {k : Nat} {c : Wt} (hk : l[k]? = some c) (hc : c.who = who) (hn : ∀ j d, j < k → l[j]? = some d → d.who ≠ who) : findW l who = some k := by
  rw [findW, List.findIdx?_eq_some_iff_getElem]
  obtain ⟨h1, h2⟩ := List.getElem?_eq_some_iff.1 hk
  refine ⟨h1, by simp [h2, hc], fun j hj => ?_⟩
  have := hn j _ hj (List.getElem?_eq_getElem (by omega))
  simpa using this
theorem findW_none {l : List Wt} {who : Int} (hn : ∀ j d, j < l.length → l[j]? = some d → d.who ≠ who) : findW l who = none := by
  rw [findW, List.findIdx?_eq_none_iff]
  intro c hc
  obtain ⟨j, hj⟩ := List.getElem?_of_mem hc
  have := hn j c (List.getElem?_eq_some_iff.1 hj).1 hj
  simpa using this

theorem isW_any (w : World) (c : Wt) (who : Int) (N : Nat) (hN : w.cell? ⟨N, 0, none⟩ = some (.int .i64 who)) (hlt : N < w.heap.size) :
    Calls Try.prog 35 #[.agg #[.int .i64 c.who, .bool c.ex], .pointer (some ⟨N, 0, none⟩)] w fun e w' => e = .returned (.bool (c.who == who)) ∧ Below w.heap.size w w' := by
  go_enter Try.func35, Try.ntmps35
  go_wp2_with fail
  go_ret
  exact ⟨rfl, (Below.refl _ _).alloc (Nat.le_refl _) _⟩

set_option maxHeartbeats 2000000 in
theorem indexW_any (w : World) (A : Option Addr) (ac : Nat) (l : List Wt) (who : Int) (N : Nat) (hN : w.cell? ⟨N, 0, none⟩ = some (.int .i64 who)) (hNl : N < w.heap.size) (hl : l.length ≤ 1000000) (hr : Rd Wt.cells 2 w w.heap.size A l) :
    Calls Try.prog 39 #[.slice A l.length ac, .func (Fn.func 35) #[] #[.pointer (some ⟨N, 0, none⟩)]] w fun e w' => e = .returned (.int .i64 (nextI (findW l who))) ∧ Below w.heap.size w w' := by
  have Hr := Lib.hid hr; clear hr
  go_enter Try.func39, Try.ntmps39
  go_wp2_with fail
  go_loopg [8] l.length (fun g i wr => ∃ k : Nat, k ≤ l.length ∧ g = l.length - k ∧ i = .int .i64 k ∧ (∀ j d, j < k → l[j]? = some d → d.who ≠ who) ∧ Below w.heap.size w wr)
  case atStart => exact ⟨0, Nat.zero_le _, rfl, rfl, fun j _ h => absurd h (by omega), Below.refl _ _⟩
  case round =>
    obtain ⟨k, hk, hg, rfl, hn, hb⟩ := hrel
    have Hg := Lib.hid hg; clear hg
    have Hn := Lib.hid hn; clear hn
    by_cases hlt : k < l.length
    · obtain ⟨c, b, off, hc, rfl, hbb, hcell⟩ := rd_w Hr.out hlt
      obtain ⟨g0, g1⟩ := hcell wr hb
      have hki : (k : Int) < (l.length : Int) := by omega
      have hNr : N < wr.heap.size := by have := hb.size; omega
      have hNc := (hb.cell (p := ⟨N, 0, none⟩) hNl).trans hN
      have Hc := Lib.hid hc
      clear hcell hc hN
      by_cases hcw : c.who = who
      · have hcb : (c.who == who) = true := by simpa using hcw
        have hfi := findW_at Hc.out hcw Hn.out
        have Hfi := Lib.hid hfi; clear hfi hcw
        go_wp2_with fail
        refine (isW_any wr c who N hNc hNr).mono ?_
        rw [hcb]
        rintro e V ⟨rfl, hbV⟩
        go_wp2_with fail
        go_ret
        exact ⟨by rw [Hfi.out]; rfl, bnext hb hbV⟩
      · have hcb : (c.who == who) = false := by simpa using hcw
        have Hcw := Lib.hid hcw; clear hcw
        go_wp2_with fail
        refine (isW_any wr c who N hNc hNr).mono ?_
        rw [hcb]
        rintro e V ⟨rfl, hbV⟩
        go_wp2_with fail
        go_roundg (l.length - (k + 1))
        case measure => have := Hg.out; omega
        case rel =>
          refine ⟨k + 1, by omega, rfl, by go_num, fun j d hj hd => ?_, bnext hb hbV⟩
          rcases Nat.lt_or_ge j k with h | h
          · exact Hn.out j d h hd
          · obtain rfl : j = k := by omega
            rw [Hc.out] at hd
            injection hd with hd
            subst hd
            exact Hcw.out
    · obtain rfl : k = l.length := by omega
      go_wp2_with fail
      go_ret
      exact ⟨by rw [findW_none Hn.out]; rfl, hb⟩
theorem findW_in {l : List Wt} {who : Int} : decide (0 ≤ nextI (findW l who)) = inW l who := by
  cases h : findW l who with
  | none =>
    have h2 : inW l who = false := by
      rw [findW, List.findIdx?_eq_none_iff] at h
      rw [inW, List.any_eq_false]
      intro c hc
      have := h c hc
      simpa using this
    rw [h2]; rfl
  | some k =>
    have h2 : inW l who = true := by
      rw [findW, List.findIdx?_eq_some_iff_getElem] at h
      obtain ⟨h1, h3, _⟩ := h
      rw [inW, List.any_eq_true]
      exact ⟨l[k], List.getElem_mem h1, h3⟩
    rw [h2, nextI]
    simp


set_option maxHeartbeats 2000000 in
theorem anyW_any (w : World) (A : Option Addr) (ac : Nat) (l : List Wt) (who : Int) (N : Nat) (hN : w.cell? ⟨N, 0, none⟩ = some (.int .i64 who)) (hNl : N < w.heap.size) (hl : l.length ≤ 1000000) (hr : Rd Wt.cells 2 w w.heap.size A l) :
    Calls Try.prog 34 #[.slice A l.length ac, .func (Fn.func 35) #[] #[.pointer (some ⟨N, 0, none⟩)]] w fun e w' => e = .returned (.bool (inW l who)) ∧ Below w.heap.size w w' := by
  have hd := indexW_any w A ac l who N hN hNl hl hr
  obtain ⟨m, hm⟩ : ∃ m, m = nextI (findW l who) := ⟨_, rfl⟩
  have hf : decide (0 ≤ m) = inW l who := by rw [hm]; exact findW_in
  rw [← hm] at hd
  have Hf := Lib.hid hf; have Hd := Lib.hid hd
  clear hd hf hm hr hN
  go_enter Try.func34, Try.ntmps34
  go_wp2_with fail
  refine Hd.out.mono ?_
  rintro e V ⟨rfl, hbV⟩
  go_wp2_with fail
  go_ret
  exact ⟨ret_bool Hf.out, hbV⟩
set_option maxHeartbeats 2000000 in
theorem waits_any (w : World) (A : Option Addr) (ac : Nat) (l : List Wt) (who : Int) (hl : l.length ≤ 1000000) (hr : Rd Wt.cells 2 w w.heap.size A l) :
    Calls Try.prog 23 #[.slice A l.length ac, .int .i64 who] w fun e w' => e = .returned (.bool (inW l who)) ∧ Below w.heap.size w w' := by
  have hb : Below w.heap.size w (w.alloc (.cells #[.int .i64 who] 3)) := (Below.refl _ _).alloc (Nat.le_refl _) _
  have d1 := anyW_any (w.alloc (.cells #[.int .i64 who] 3)) A ac l who w.heap.size (World.cell?_alloc_new w _ _ _) (by simp) hl (hr.up hb)
  have Hd := Lib.hid d1
  have Hb := Lib.hid hb
  clear d1 hb hr
  go_enter Try.func23, Try.ntmps23
  go_wp2_with fail
  refine Hd.out.mono ?_
  rintro e V ⟨rfl, hbV⟩
  go_wp2_with fail
  go_ret
  exact ⟨rfl, bnext Hb.out hbV⟩
end Go.Proofs.Ytigffndobddflaa
