/- The contract of lockkeeperref10.Some: is there an order at all? -/
import Derived.Test.YtlhnmgjoalifpaaBank3
import Derived.Test.YtlhnmgjoalifpaaBankLaw
namespace Go.Proofs.Ytlhnmgjoalifpaa
open Go.RowKit

open Classical in
/-- can the clients be served in some order? -/
noncomputable def canB (free : Int) (l : List C) : Bool := decide (Can free l)
theorem canB_yes {free : Int} {l : List C} (h : Can free l) : canB free l = true := by simp [canB, h]
theorem canB_no {free : Int} {l : List C} (h : ¬ Can free l) : canB free l = false := by simp [canB, h]
theorem canB_iff {free : Int} {l : List C} : canB free l = true ↔ Can free l := by simp [canB]

/-- a flag ahead of k says 'not served' -/
def leftB (sv : List Bool) (k : Nat) : Bool := (sv.take k).any (fun b => !b)
theorem leftB_zero {sv : List Bool} : leftB sv 0 = false := by simp [leftB]
theorem leftB_succ {sv : List Bool} {k : Nat} {b : Bool} (h : sv[k]? = some b) : leftB sv (k + 1) = (leftB sv k || !b) := by
  simp [leftB, List.take_add_one, h]
theorem rem_none {l : List C} {sv : List Bool} (hs : sv.length = l.length) (h : leftB sv l.length = false) : rem l sv = [] := by
  cases hr : rem l sv with
  | nil => rfl
  | cons c r =>
    obtain ⟨i, _, h2⟩ := rem_mem (l := l) (sv := sv) (c := c) (by rw [hr]; exact List.mem_cons_self ..)
    unfold leftB at h
    rw [← hs, List.take_length, List.any_eq_false] at h
    exact absurd rfl (h _ (List.mem_of_getElem? h2))
theorem rem_some {l : List C} {sv : List Bool} (hs : sv.length = l.length) (h : leftB sv l.length = true) : rem l sv ≠ [] := by
  unfold leftB at h
  rw [← hs, List.take_length, List.any_eq_true] at h
  obtain ⟨b, hb, hb2⟩ := h
  obtain ⟨i, hi⟩ := List.mem_iff_getElem?.1 hb
  have hil : i < l.length := by rw [← hs]; exact (List.getElem?_eq_some_iff.1 hi).1
  have hb3 : b = false := by simpa using hb2
  subst hb3
  have := mem_rem (List.getElem?_eq_getElem hil) hi
  intro e
  rw [e] at this
  simp at this
/-- none of the places ahead of k leads to an order -/
def noneTo (free : Int) (l : List C) (sv : List Bool) (k : Nat) : Prop := ∀ j c, j < k → l[j]? = some c → sv[j]? = some false → c.claim - c.held ≤ free → ¬ Can (free + c.held) (rem l (sv.set j true))
theorem noneTo_zero {free : Int} {l : List C} {sv : List Bool} : noneTo free l sv 0 := fun _ _ h => absurd h (by omega)
theorem noneTo_succ {free : Int} {l : List C} {sv : List Bool} {k : Nat} {c : C} (h : noneTo free l sv k) (hc : l[k]? = some c) (hk : sv[k]? = some false → c.claim - c.held ≤ free → ¬ Can (free + c.held) (rem l (sv.set k true))) : noneTo free l sv (k + 1) := by
  intro j d hj hd hs hf
  rcases Nat.lt_or_ge j k with h1 | h1
  · exact h j d h1 hd hs hf
  · obtain rfl : j = k := by omega
    rw [hc] at hd
    injection hd with hd
    subst hd
    exact hk hs hf
theorem noneTo_can {free : Int} {l : List C} {sv : List Bool} (h : noneTo free l sv l.length) (hne : rem l sv ≠ []) : ¬ Can free (rem l sv) := by
  intro hcan
  generalize hrem : rem l sv = m at hcan hne
  cases hcan with
  | nil => exact hne rfl
  | @step _ c r _ h1 h2 h3 =>
    subst hrem
    obtain ⟨i, hi, hs⟩ := rem_mem (h1.symm.subset (List.mem_cons_self ..))
    refine h i c (List.getElem?_eq_some_iff.1 hi).1 hi hs h2 (h3.perm ?_)
    exact (h1.symm.trans (rem_set hi hs)).cons_inv

set_option maxHeartbeats 2000000 in
theorem some_any (l : List C) (A : Option Addr) (cap : Nat) (h8 : l.length ≤ 8) (hsm : smallC l) (n : Nat) : ∀ (w : World) (S : Option Addr) (sc : Nat) (sv : List Bool) (free : Int), 0 ≤ free → free + 100 * n ≤ 100000 →
    sv.length = l.length → (rem l sv).length = n → Rd C.cells 3 w w.heap.size A l → Rd bcells 1 w w.heap.size S sv →
    Calls Try.prog 18 #[.int .i64 free, .slice A l.length cap, .slice S l.length sc] w fun e w' => e = .returned (.bool (canB free (rem l sv))) ∧ Below w.heap.size w w' := by
  induction n using Nat.strongRecOn with
  | _ n ih =>
    intro w S sc sv free f0 f1 hs hn hr hq
    obtain ⟨i0, hi, hz0, hz1, hz2⟩ := info_parts Try.infoBool
    have IH := Lib.hid ih; clear ih
    have Hs := Lib.hid hs; clear hs
    have Hn := Lib.hid hn; clear hn
    go_enter Try.func18, Try.ntmps18
    go_wp2_with fail
    go_loopg [7, 8] l.length (fun g v i wr => ∃ k : Nat, k ≤ l.length ∧ g = l.length - k ∧ i = .int .i64 k ∧ v = .bool (leftB sv k) ∧ Below w.heap.size w wr)
    case atStart => exact ⟨0, Nat.zero_le _, rfl, rfl, by rw [leftB_zero], Below.refl _ _⟩
    case round =>
      obtain ⟨k, hk, hg, rfl, rfl, hb⟩ := hrel
      have Hg := Lib.hid hg; clear hg
      by_cases hlt : k < l.length
      · obtain ⟨v, sb, so, hv, rfl, hsb, hvell⟩ := rd_b hq (k := k) (by rw [Hs.out]; exact hlt)
        have g3 := hvell wr hb
        have hls := leftB_succ hv
        have Hls := Lib.hid hls; clear hls
        have Hv := Lib.hid hv; clear hv
        clear hvell hr hq
        cases hlb : leftB sv k <;> cases v
        all_goals
          have Hlb := Lib.hid hlb; clear hlb
          go_wp2_with fail
          go_roundg (l.length - (k + 1))
          case measure => have := Hg.out; omega
          case rel => exact ⟨k + 1, by omega, rfl, by go_num, by rw [Hls.out, Hlb.out]; rfl, hb⟩
      · have hkl : k = l.length := by omega
        subst hkl
        obtain ⟨wo, rfl⟩ : ∃ wo : World, wo = wr := ⟨_, rfl⟩
        cases hlf : leftB sv l.length
        · have Hlf := Lib.hid hlf; clear hlf
          go_wp2_with fail
          go_ret
          exact ⟨ret_bool (by rw [rem_none Hs.out Hlf.out, canB_yes (Can.nil _)]), hb⟩
        have Hlf := Lib.hid hlf; clear hlf
        go_wp2_with fail
        go_loopg [9] l.length (fun g i wr => ∃ k : Nat, k ≤ l.length ∧ g = l.length - k ∧ i = .int .i64 k ∧ noneTo free l sv k ∧ Below w.heap.size w wr)
        case atStart => exact ⟨0, Nat.zero_le _, rfl, rfl, noneTo_zero, hb⟩
        case round =>
          obtain ⟨k, hk, hg2, rfl, hno, hbw⟩ := hrel
          have Hg2 := Lib.hid hg2; clear hg2
          have Hno := Lib.hid hno; clear hno
          by_cases hlt : k < l.length
          · obtain ⟨c, b, off, hc, rfl, hbb, hcell⟩ := rd_c hr (k := k) hlt
            obtain ⟨v, sb, so, hv, rfl, hsb, hvell⟩ := rd_b hq (k := k) (by rw [Hs.out]; exact hlt)
            obtain ⟨q1, q2, q3, q4⟩ := hsm k c hc
            obtain ⟨g0, g1, g2⟩ := hcell wr hbw
            have g3 := hvell wr hbw
            have Hc := Lib.hid hc; clear hc
            have Hv := Lib.hid hv; clear hv
            clear hvell g0
            cases v
            · by_cases hfit : c.claim - c.held ≤ free
              · have hsrc : ∀ (j : Nat) (u : Value), (sv.flatMap bcells)[j]? = some u → wr.cell? ((⟨sb, so, none⟩ : Addr).add j) = some u := (hq.below hbw).src (fun _ => rfl)
                have Hsrc := Lib.hid hsrc; clear hsrc
                go_wp2_with fail
                go_quiet (fail)
                go_wp2_with (at_builtin; refine wpList_append_own _ rfl (.tmp 52) (.tmp 53) 35 rfl w.heap.size 4 i0 (.bool false) 1 1 Try.underlying35 hi hz0 hz1 hz2 rfl (by decide) _ _ _ rfl (World.ownsRow_nil _ _ _ _) ⟨sb, so, none⟩ l.length sc (sv.flatMap bcells) rfl ?_ ?_ ?_ ?_ ?_ ?_ ?_)
                · rw [flat_length (fun _ => rfl), Hs.out, Nat.mul_one]
                · exact Hsrc.out
                · intro u hu
                  obtain ⟨x, _, hx⟩ := List.mem_flatMap.1 hu
                  simp [bcells] at hx
                  subst hx
                  rfl
                · unfold maxLen; omega
                · omega
                · exact hbw.size
                intro v' w5 hown5 hg5 _
                have hb5 : Below w.heap.size w w5 := (below_drewN hbw _).grown hg5 hbw.size (by simp [Value.ownBlock])
                obtain ⟨g, cp, rfl, hgb, hlc, hcm⟩ := own_addr hown5 (by omega)
                have hvk : (sv.flatMap bcells)[k]? = some (.bool false) := by rw [flat_get (f := bcells) (g := Value.bool) (fun _ => rfl), Hv.out]; rfl
                have k1 : w5.cell? ⟨g, k, none⟩ = some (.bool false) := by rw [hown5.cellAt k (by omega), hvk]
                have k2 : w5.frozen? ⟨g, k, none⟩ = false := hown5.frozenAt k
                have hb6 : Below w.heap.size w (w5.setCell ⟨g, k, none⟩ (.bool true)) := hb5.setCell hgb _
                have k3 := (hcell _ hb6).2.2
                have hown6 := (hown5.stored k (.bool true)).1
                rw [← flat_set (f := bcells) (g := Value.bool) (fun _ => rfl)] at hown6
                have hq6 : Rd bcells 1 (w5.setCell ⟨g, k, none⟩ (.bool true)) (w5.setCell ⟨g, k, none⟩ (.bool true)).heap.size (some ⟨g, 0, none⟩) (sv.set k true) := by
                  have hl6 : l.length = (sv.set k true).length := by rw [List.length_set, Hs.out]
                  exact Rd.of_own hown6 (fun _ => rfl) (by decide)
                have hr6 := hr.up hb6
                have hlen6 : (rem l (sv.set k true)).length + 1 = n := by
                  have := (rem_set Hc.out Hv.out).length_eq
                  rw [Hn.out] at this
                  simpa using this.symm
                have hn1 : 1 ≤ n := by omega
                have Hlen6 := Lib.hid hlen6; clear hlen6
                have Hvk := Lib.hid hvk; clear hvk
                clear hcell hown5 hown6 hg5 hr hq
                go_wp2_with fail
                refine (IH.out (n - 1) (by omega) _ (some ⟨g, 0, none⟩) cp (sv.set k true) (free + c.held) (by omega) (by omega) (by rw [List.length_set, Hs.out]) (by have := Hlen6.out; omega) hr6 hq6).mono ?_
                cases hcb : canB (free + c.held) (rem l (sv.set k true))
                · rintro e w7 ⟨rfl, hb7⟩
                  have Hcb := Lib.hid hcb; clear hcb
                  have hw7 : Below w.heap.size w w7 := hb6.trans (hb7.mono hb6.size)
                  clear hr6 hq6 hb7 k1 k2 k3
                  go_wp2_with fail
                  go_roundg (l.length - (k + 1))
                  case measure => have := Hg2.out; omega
                  case rel => exact ⟨k + 1, by omega, rfl, by go_num, noneTo_succ Hno.out Hc.out (fun _ _ h => by rw [canB_yes h] at Hcb; exact absurd Hcb.out (by simp)), hw7⟩
                · rintro e w7 ⟨rfl, hb7⟩
                  have Hcb := Lib.hid hcb; clear hcb
                  have hw7 : Below w.heap.size w w7 := hb6.trans (hb7.mono hb6.size)
                  clear hr6 hq6 hb7 k1 k2 k3
                  go_wp2_with fail
                  go_ret
                  exact ⟨ret_bool (canB_yes (Can.step (rem_set Hc.out Hv.out) hfit (canB_iff.1 Hcb.out))).symm, hw7⟩
              · go_wp2_with fail
                go_quiet (fail)
                go_wp2_with fail
                go_roundg (l.length - (k + 1))
                case measure => have := Hg2.out; omega
                case rel => exact ⟨k + 1, by omega, rfl, by go_num, noneTo_succ Hno.out Hc.out (fun _ h => by omega), below_drewN hbw _⟩
            · go_wp2_with fail
              go_quiet (fail)
              go_wp2_with fail
              go_roundg (l.length - (k + 1))
              case measure => have := Hg2.out; omega
              case rel => exact ⟨k + 1, by omega, rfl, by go_num, noneTo_succ Hno.out Hc.out (fun h _ => by rw [Hv.out] at h; cases h), below_drewN hbw _⟩
          · have hkl : k = l.length := by omega
            subst hkl
            go_wp2_with fail
            go_ret
            exact ⟨ret_bool (canB_no (noneTo_can Hno.out (rem_some Hs.out Hlf.out))).symm, hbw⟩
end Go.Proofs.Ytlhnmgjoalifpaa
