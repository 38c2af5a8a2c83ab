/- The contracts of admit.client and admit.ticket. -/
import Derived.Test.YthhfhgkkfaghoaaAdm1
namespace Go.Proofs.Ythhfhgkkfaghoaa
open Go.RowKit

def nextI (r : Option Nat) : Int := match r with
  | some i => i
  | none => -1
theorem findC_at {l : List C} {who : Int} {k : Nat} {c : C} (hk : l[k]? = some c) (hc : c.who = who) (hn : ∀ j d, j < k → l[j]? = some d → d.who ≠ who) : findC l who = some k := by
  rw [findC, List.findIdx?_eq_some_iff_getElem]
  obtain ⟨h1, h2⟩ := List.getElem?_eq_some_iff.1 hk
  refine ⟨h1, by simp [h2, hc], fun j hj => ?_⟩
  have := hn j _ hj (List.getElem?_eq_getElem (by omega))
  simpa using this
theorem findC_none {l : List C} {who : Int} (hn : ∀ j d, j < l.length → l[j]? = some d → d.who ≠ who) : findC l who = none := by
  rw [findC, List.findIdx?_eq_none_iff]
  intro c hc
  obtain ⟨j, hj⟩ := List.getElem?_of_mem hc
  have := hn j c (List.getElem?_eq_some_iff.1 hj).1 hj
  simpa using this

theorem isC_any (w : World) (c : C) (who : Int) (N : Nat) (hN : w.cell? ⟨N, 0, none⟩ = some (.int .i64 who)) (hlt : N < w.heap.size) :
    Calls Try.prog 51 #[.agg #[.int .i64 c.who, .int .i64 c.claim, .int .i64 c.held], .pointer (some ⟨N, 0, none⟩)] w fun e w' => e = .returned (.bool (c.who == who)) ∧ Below w.heap.size w w' := by
  go_enter Try.func51, Try.ntmps51
  go_wp2_with fail
  go_ret
  exact ⟨rfl, (Below.refl _ _).alloc (Nat.le_refl _) _⟩

set_option maxHeartbeats 2000000 in
theorem indexC_any (w : World) (A : Option Addr) (ac : Nat) (l : List C) (who : Int) (N : Nat) (hN : w.cell? ⟨N, 0, none⟩ = some (.int .i64 who)) (hNl : N < w.heap.size) (hl : l.length ≤ 1000000) (hr : Rd C.cells 3 w w.heap.size A l) :
    Calls Try.prog 50 #[.slice A l.length ac, .func (Fn.func 51) #[] #[.pointer (some ⟨N, 0, none⟩)]] w fun e w' => e = .returned (.int .i64 (nextI (findC l who))) ∧ Below w.heap.size w w' := by
  have Hr := Lib.hid hr; clear hr
  go_enter Try.func50, Try.ntmps50
  go_wp2_with fail
  go_loopg [8] l.length (fun g i wr => ∃ k : Nat, k ≤ l.length ∧ g = l.length - k ∧ i = .int .i64 k ∧ (∀ j d, j < k → l[j]? = some d → d.who ≠ who) ∧ Below w.heap.size w wr)
  case atStart => exact ⟨0, Nat.zero_le _, rfl, rfl, fun j _ h => absurd h (by omega), Below.refl _ _⟩
  case round =>
    obtain ⟨k, hk, hg, rfl, hn, hb⟩ := hrel
    have Hg := Lib.hid hg; clear hg
    have Hn := Lib.hid hn; clear hn
    by_cases hlt : k < l.length
    · obtain ⟨c, b, off, hc, rfl, hbb, hcell⟩ := rd_c Hr.out hlt
      obtain ⟨g0, g1, g2⟩ := hcell wr hb
      have hki : (k : Int) < (l.length : Int) := by omega
      have hNr : N < wr.heap.size := by have := hb.size; omega
      have hNc := (hb.cell (p := ⟨N, 0, none⟩) hNl).trans hN
      have Hc := Lib.hid hc
      clear hcell hc hN
      by_cases hcw : c.who = who
      · have hcb : (c.who == who) = true := by simpa using hcw
        have hfi := findC_at Hc.out hcw Hn.out
        have Hfi := Lib.hid hfi; clear hfi hcw
        go_wp2_with fail
        refine (isC_any wr c who N hNc hNr).mono ?_
        rw [hcb]
        rintro e V ⟨rfl, hbV⟩
        go_wp2_with fail
        go_ret
        exact ⟨by rw [Hfi.out]; rfl, bnext hb hbV⟩
      · have hcb : (c.who == who) = false := by simpa using hcw
        have Hcw := Lib.hid hcw; clear hcw
        go_wp2_with fail
        refine (isC_any wr c who N hNc hNr).mono ?_
        rw [hcb]
        rintro e V ⟨rfl, hbV⟩
        go_wp2_with fail
        go_roundg (l.length - (k + 1))
        case measure => have := Hg.out; omega
        case rel =>
          refine ⟨k + 1, by omega, rfl, by go_num, fun j d hj hd => ?_, bnext hb hbV⟩
          rcases Nat.lt_or_ge j k with h | h
          · exact Hn.out j d h hd
          · obtain rfl : j = k := by omega
            rw [Hc.out] at hd
            injection hd with hd
            subst hd
            exact Hcw.out
    · obtain rfl : k = l.length := by omega
      go_wp2_with fail
      go_ret
      exact ⟨by rw [findC_none Hn.out]; rfl, hb⟩
set_option maxHeartbeats 2000000 in
theorem client_any (w : World) (A : Option Addr) (ac : Nat) (l : List C) (who : Int) (hl : l.length ≤ 1000000) (hr : Rd C.cells 3 w w.heap.size A l) :
    Calls Try.prog 28 #[.slice A l.length ac, .int .i64 who] w fun e w' => e = .returned (.int .i64 (nextI (findC l who))) ∧ Below w.heap.size w w' := by
  have hb : Below w.heap.size w (w.alloc (.cells #[.int .i64 who] 3)) := (Below.refl _ _).alloc (Nat.le_refl _) _
  have d1 := indexC_any (w.alloc (.cells #[.int .i64 who] 3)) A ac l who w.heap.size (World.cell?_alloc_new w _ _ _) (by simp) hl (hr.up hb)
  have Hd := Lib.hid d1
  have Hb := Lib.hid hb
  clear d1 hb hr
  go_enter Try.func28, Try.ntmps28
  go_wp2_with fail
  refine Hd.out.mono ?_
  rintro e V ⟨rfl, hbV⟩
  go_wp2_with fail
  go_ret
  exact ⟨rfl, bnext Hb.out hbV⟩

theorem findT_at {l : List T} {who : Int} {k : Nat} {c : T} (hk : l[k]? = some c) (hc : c.who = who) (hn : ∀ j d, j < k → l[j]? = some d → d.who ≠ who) : findT l who = some k := by
  rw [findT, List.findIdx?_eq_some_iff_getElem]
  obtain ⟨h1, h2⟩ := List.getElem?_eq_some_iff.1 hk
  refine ⟨h1, by simp [h2, hc], fun j hj => ?_⟩
  have := hn j _ hj (List.getElem?_eq_getElem (by omega))
  simpa using this
theorem findT_none {l : List T} {who : Int} (hn : ∀ j d, j < l.length → l[j]? = some d → d.who ≠ who) : findT l who = none := by
  rw [findT, List.findIdx?_eq_none_iff]
  intro c hc
  obtain ⟨j, hj⟩ := List.getElem?_of_mem hc
  have := hn j c (List.getElem?_eq_some_iff.1 hj).1 hj
  simpa using this

theorem isT_any (w : World) (c : T) (who : Int) (N : Nat) (hN : w.cell? ⟨N, 0, none⟩ = some (.int .i64 who)) (hlt : N < w.heap.size) :
    Calls Try.prog 53 #[.agg #[.int .i64 c.who, .int .i64 c.claim], .pointer (some ⟨N, 0, none⟩)] w fun e w' => e = .returned (.bool (c.who == who)) ∧ Below w.heap.size w w' := by
  go_enter Try.func53, Try.ntmps53
  go_wp2_with fail
  go_ret
  exact ⟨rfl, (Below.refl _ _).alloc (Nat.le_refl _) _⟩

set_option maxHeartbeats 2000000 in
theorem indexT_any (w : World) (A : Option Addr) (ac : Nat) (l : List T) (who : Int) (N : Nat) (hN : w.cell? ⟨N, 0, none⟩ = some (.int .i64 who)) (hNl : N < w.heap.size) (hl : l.length ≤ 1000000) (hr : Rd T.cells 2 w w.heap.size A l) :
    Calls Try.prog 52 #[.slice A l.length ac, .func (Fn.func 53) #[] #[.pointer (some ⟨N, 0, none⟩)]] w fun e w' => e = .returned (.int .i64 (nextI (findT l who))) ∧ Below w.heap.size w w' := by
  have Hr := Lib.hid hr; clear hr
  go_enter Try.func52, Try.ntmps52
  go_wp2_with fail
  go_loopg [8] l.length (fun g i wr => ∃ k : Nat, k ≤ l.length ∧ g = l.length - k ∧ i = .int .i64 k ∧ (∀ j d, j < k → l[j]? = some d → d.who ≠ who) ∧ Below w.heap.size w wr)
  case atStart => exact ⟨0, Nat.zero_le _, rfl, rfl, fun j _ h => absurd h (by omega), Below.refl _ _⟩
  case round =>
    obtain ⟨k, hk, hg, rfl, hn, hb⟩ := hrel
    have Hg := Lib.hid hg; clear hg
    have Hn := Lib.hid hn; clear hn
    by_cases hlt : k < l.length
    · obtain ⟨c, b, off, hc, rfl, hbb, hcell⟩ := rd_t Hr.out hlt
      obtain ⟨g0, g1⟩ := hcell wr hb
      have hki : (k : Int) < (l.length : Int) := by omega
      have hNr : N < wr.heap.size := by have := hb.size; omega
      have hNc := (hb.cell (p := ⟨N, 0, none⟩) hNl).trans hN
      have Hc := Lib.hid hc
      clear hcell hc hN
      by_cases hcw : c.who = who
      · have hcb : (c.who == who) = true := by simpa using hcw
        have hfi := findT_at Hc.out hcw Hn.out
        have Hfi := Lib.hid hfi; clear hfi hcw
        go_wp2_with fail
        refine (isT_any wr c who N hNc hNr).mono ?_
        rw [hcb]
        rintro e V ⟨rfl, hbV⟩
        go_wp2_with fail
        go_ret
        exact ⟨by rw [Hfi.out]; rfl, bnext hb hbV⟩
      · have hcb : (c.who == who) = false := by simpa using hcw
        have Hcw := Lib.hid hcw; clear hcw
        go_wp2_with fail
        refine (isT_any wr c who N hNc hNr).mono ?_
        rw [hcb]
        rintro e V ⟨rfl, hbV⟩
        go_wp2_with fail
        go_roundg (l.length - (k + 1))
        case measure => have := Hg.out; omega
        case rel =>
          refine ⟨k + 1, by omega, rfl, by go_num, fun j d hj hd => ?_, bnext hb hbV⟩
          rcases Nat.lt_or_ge j k with h | h
          · exact Hn.out j d h hd
          · obtain rfl : j = k := by omega
            rw [Hc.out] at hd
            injection hd with hd
            subst hd
            exact Hcw.out
    · obtain rfl : k = l.length := by omega
      go_wp2_with fail
      go_ret
      exact ⟨by rw [findT_none Hn.out]; rfl, hb⟩
set_option maxHeartbeats 2000000 in
theorem ticket_any (w : World) (A : Option Addr) (ac : Nat) (l : List T) (who : Int) (hl : l.length ≤ 1000000) (hr : Rd T.cells 2 w w.heap.size A l) :
    Calls Try.prog 29 #[.slice A l.length ac, .int .i64 who] w fun e w' => e = .returned (.int .i64 (nextI (findT l who))) ∧ Below w.heap.size w w' := by
  have hb : Below w.heap.size w (w.alloc (.cells #[.int .i64 who] 3)) := (Below.refl _ _).alloc (Nat.le_refl _) _
  have d1 := indexT_any (w.alloc (.cells #[.int .i64 who] 3)) A ac l who w.heap.size (World.cell?_alloc_new w _ _ _) (by simp) hl (hr.up hb)
  have Hd := Lib.hid d1
  have Hb := Lib.hid hb
  clear d1 hb hr
  go_enter Try.func29, Try.ntmps29
  go_wp2_with fail
  refine Hd.out.mono ?_
  rintro e V ⟨rfl, hbV⟩
  go_wp2_with fail
  go_ret
  exact ⟨rfl, bnext Hb.out hbV⟩
end Go.Proofs.Ythhfhgkkfaghoaa
