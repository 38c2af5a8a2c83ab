/- The contract of lockkeeperref10.Order: the document's order is ordGo's. -/
import Derived.Test.YthhfhgkkfaghoaaBank5a
namespace Go.Proofs.Ythhfhgkkfaghoaa
open Go.RowKit

/-- A slice of ints in memory of the call's own. -/
def Ints (r : List Nat) (w : World) (e : Ending) (w' : World) : Prop :=
  ∃ A cap, e = .returned (.slice A r.length cap) ∧ w'.ownsRow w.heap.size 3 1 (.slice A r.length cap) r.length (r.flatMap natCells) ∧ Below w.heap.size w w'

/-- the least place from k on that fits, as the number that Go keeps: -1 where there is none -/
def atFrom (free : Int) (l : List C) (sv : List Bool) (k : Nat) (a : Int) : Prop :=
  (a = -1 ∧ ∀ j, k ≤ j → j < l.length → fits free l sv j = false) ∨ ∃ m : Nat, a = m ∧ k ≤ m ∧ m < l.length ∧ fits free l sv m = true ∧ ∀ j, k ≤ j → j < m → fits free l sv j = false
theorem atFrom_top {free : Int} {l : List C} {sv : List Bool} : atFrom free l sv l.length (-1) := .inl ⟨rfl, fun j h1 h2 => absurd h2 (by omega)⟩
theorem atFrom_yes {free : Int} {l : List C} {sv : List Bool} {k : Nat} (hk : k < l.length) (h : fits free l sv k = true) : atFrom free l sv k k :=
  .inr ⟨k, rfl, Nat.le_refl _, hk, h, fun j h1 h2 => absurd h2 (by omega)⟩
theorem atFrom_no {free : Int} {l : List C} {sv : List Bool} {k : Nat} {a : Int} (h : fits free l sv k = false) (ha : atFrom free l sv (k + 1) a) : atFrom free l sv k a := by
  rcases ha with ⟨rfl, hn⟩ | ⟨m, rfl, h1, h2, h3, h4⟩
  · refine .inl ⟨rfl, fun j h1 h2 => ?_⟩
    rcases Nat.eq_or_lt_of_le h1 with rfl | h5
    · exact h
    · exact hn j h5 h2
  · refine .inr ⟨m, rfl, by omega, h2, h3, fun j h5 h6 => ?_⟩
    rcases Nat.eq_or_lt_of_le h5 with rfl | h7
    · exact h
    · exact h4 j h7 h6
theorem atFrom_nextB {free : Int} {l : List C} {sv : List Bool} {a : Int} (h : atFrom free l sv 0 a) : (a = -1 ∧ nextB free l sv = none) ∨ ∃ m : Nat, a = m ∧ nextB free l sv = some m := by
  rcases h with ⟨rfl, hn⟩ | ⟨m, rfl, _, h2, h3, h4⟩
  · exact .inl ⟨rfl, nextB_none.2 fun k hk => hn k (Nat.zero_le _) hk⟩
  · exact .inr ⟨m, rfl, nextB_some h2 h3 fun j hj => h4 j (Nat.zero_le _) hj⟩

set_option maxRecDepth 20000 in
set_option maxHeartbeats 2000000 in
theorem refOrder_any (w : World) (A : Option Addr) (cap : Nat) (l : List C) (free : Int) (h8 : l.length ≤ 8) (hsm : smallC l) (h0 : 0 ≤ free) (h1 : free ≤ 1000)
    (hr : Rd C.cells 3 w w.heap.size A l) :
    Calls Try.prog 55 #[.int .i64 free, .slice A l.length cap] w (Ints (ordR free l).1 w) := by
  obtain ⟨i0, hi, hz0, hz1, hz2⟩ := info_parts Try.infoBool
  obtain ⟨j0, hj, hy0, hy1, hy2⟩ := info_parts Try.infoInt
  go_enter Try.func55, Try.ntmps55
  go_wp2_with (at_make; refine wpList_make_full _ rfl _ _ 92 rfl w.heap.size 4 i0 (.bool false) 1 Try.underlying92 hi hz0 hz1 .i64 .i64 _ _ l.length rfl rfl rfl rfl (by rw [hz2]; omega) (by unfold maxLen; omega) (Nat.le_refl _) ?_)
  intro w2 hown2 hg2
  have hb2 : Below w.heap.size w w2 := (Below.refl _ _).grown hg2 (Nat.le_refl _) (by simp)
  go_wp2_with fail
  go_loopg [0, 5, 7] l.length (fun g f v n wr => ∃ (fr : Int) (o : List Nat) (sv : List Bool) (O : Option Addr) (oc : Nat), o.length ≤ l.length ∧ g = l.length - o.length ∧ f = .int .i64 fr ∧ v = .slice O o.length oc ∧ n = .int .i64 o.length ∧
      0 ≤ fr ∧ fr ≤ 1000 + 100 * o.length ∧ sv.length = l.length ∧ ordGo l (l.length - o.length) fr sv o = ordR free l ∧
      wr.ownsRow w.heap.size 3 1 (.slice O o.length oc) o.length (o.flatMap natCells) ∧
      wr.ownsRow w.heap.size 4 1 (.slice (some ⟨w.heap.size, 0, none⟩) l.length l.length) l.length (sv.flatMap bcells) ∧ Below w.heap.size w wr)
  case atStart => exact ⟨free, [], List.replicate l.length false, none, 0, Nat.zero_le _, rfl, rfl, rfl, rfl, h0, by simpa using h1, by simp, rfl, World.ownsRow_nil _ _ _ _, by rw [← made_bools]; exact hown2, hb2⟩
  case round =>
    obtain ⟨fr, o, sv, O, oc, hol, hg, rfl, rfl, rfl, f0, f1, hsv, hgo, hoI, hoB, hb⟩ := hrel
    obtain ⟨wo, rfl⟩ : ∃ wo : World, wo = wr := ⟨_, rfl⟩
    have Hg := Lib.hid hg; clear hg
    have Hgo := Lib.hid hgo; clear hgo
    have Hsv := Lib.hid hsv; clear hsv
    by_cases hlt : o.length < l.length
    · have hrS : Rd bcells 1 wo wo.heap.size (some ⟨w.heap.size, 0, none⟩) sv := Rd.of_own (n := l.length) (c := l.length) hoB (fun _ => rfl) (by decide)
      have HoI := Lib.hid hoI; clear hoI
      have HoB := Lib.hid hoB; clear hoB
      go_wp2_with fail
      go_loopg [8, 9] l.length (fun g a i wr => ∃ (k : Nat) (m : Int), k ≤ l.length ∧ g = k ∧ i = .int .i64 ((k : Int) - 1) ∧ a = .int .i64 m ∧ atFrom fr l sv k m ∧ Below wo.heap.size wo wr)
      case atStart => exact ⟨l.length, -1, Nat.le_refl _, rfl, rfl, rfl, atFrom_top, Below.refl _ _⟩
      case round =>
        obtain ⟨k, m, hk, hg, rfl, rfl, hat, hbi⟩ := hrel
        have Hgi := Lib.hid hg; clear hg
        have Hat := Lib.hid hat; clear hat
        have hbw : Below w.heap.size w wr := hb.trans (hbi.mono hb.size)
        rcases k with _ | k
        · rw [show ((0 : Nat) : Int) - 1 = -1 from rfl]
          rcases atFrom_nextB Hat.out with ⟨rfl, hnx⟩ | ⟨i, rfl, hnx⟩
          · have Hnx := Lib.hid hnx; clear hnx
            go_wp2_with fail
            go_ret
            have e1 : (ordR free l).1 = o := by
              rw [← Hgo.out, show l.length - o.length = (l.length - (o.length + 1)) + 1 from by omega, ordGo_none Hnx.out]
            rw [e1]
            exact ⟨O, oc, rfl, own_up HoI.out hbi, hbw⟩
          · obtain ⟨hil, hfit, _⟩ := nextB_lt hnx
            obtain ⟨c, b, off, hc', hA, hbb, hcell⟩ := rd_c hr hil
            obtain ⟨q1, q2, q3, q4⟩ := hsm i c hc'
            have Hnx := Lib.hid hnx; clear hnx
            have Hfit := Lib.hid hfit; clear hfit
            have Hc' := Lib.hid hc'; clear hc'
            subst hA
            have hoB3 := own_up HoB.out hbi
            have hoI3 := own_up HoI.out hbi
            have hsvi : sv[i]? = some false := by
              have hf := Hfit.out
              unfold fits at hf
              rw [Hc'.out] at hf
              have : i < sv.length := by rw [Hsv.out]; exact hil
              cases hx : sv[i]? with
              | none => rw [hx] at hf; cases hf
              | some y => cases y
                          · rfl
                          · rw [hx] at hf; cases hf
            have k1 : wr.cell? ⟨w.heap.size, i, none⟩ = some (.bool false) := by
              rw [hoB3.cellAt i (by omega), flat_get (f := bcells) (g := Value.bool) (fun _ => rfl), hsvi]; rfl
            have k2 : wr.frozen? ⟨w.heap.size, i, none⟩ = false := hoB3.frozenAt i
            have hb4 : Below w.heap.size w (wr.setCell ⟨w.heap.size, i, none⟩ (.bool true)) := hbw.setCell (Nat.le_refl _) _
            have k3 := (hcell _ hb4).2.2
            have hoB4 := (hoB3.stored i (.bool true)).1
            have hoI4 := own_setCell (j := i) hoI3 (g := w.heap.size) (by
              rcases own_apart hoI3 hoB3 (by decide) with h | h
              · rw [h]; simp
              · simpa [Value.ownBlock] using h) (.bool true)
            have Hsvi := Lib.hid hsvi; clear hsvi
            have hi3 : 0 ≤ fr + c.held := by omega
            have hi4 : fr + c.held ≤ 1000 + 100 * (o.length + 1) := by omega
            clear hcell hoI3 hoB3 hrS
            go_wp2_with (at_builtin; refine wpList_append_own _ rfl (.tmp 60) (.tmp 62) 36 rfl w.heap.size 3 j0 (.int .i64 0) 1 8 Try.underlying36 hj hy0 hy1 hy2 rfl (by decide) _ _ _ rfl (hoI4.alloc _) ⟨wr.heap.size, 0, none⟩ 1 1 [.int .i64 i] rfl rfl ?_ ?_ ?_ ?_ ?_ ?_)
            · exact cells_new (cs := #[.int .i64 (i : Int)]) (by simp)
            · intro u hu; simp at hu; subst hu; rfl
            · unfold maxLen; omega
            · omega
            · have := hb4.size; simp at this ⊢; omega
            intro v' w5 hoI5 hg5 _
            have hb45 : Below w.heap.size w ((wr.setCell ⟨w.heap.size, i, none⟩ (.bool true)).alloc (.cells #[.int .i64 (i : Int)] 3)) := hb4.alloc hb4.size _
            have hb5 : Below w.heap.size w w5 := hb45.grown hg5 hb45.size (fun k hk => (hoI4.lt k hk).1)
            have hoB5 := (hoB4.alloc (.cells #[.int .i64 (i : Int)] 3)).kept hg5 (own_apart hoB4 hoI4 (by decide))
            obtain ⟨A', c', rfl, _, _⟩ := own_slice hoI5
            have hoI5' : w5.ownsRow w.heap.size 3 1 (.slice A' (o ++ [i]).length c') (o ++ [i]).length ((o ++ [i]).flatMap natCells) := by
              simpa [List.flatMap_append, natCells] using hoI5
            have hoB5' : w5.ownsRow w.heap.size 4 1 (.slice (some ⟨w.heap.size, 0, none⟩) l.length l.length) l.length ((sv.set i true).flatMap bcells) := by
              rw [flat_set (f := bcells) (g := Value.bool) (fun _ => rfl)]; exact hoB5
            clear hoI5 hoB5 hg5 hoB4 hoI4 k1 k2 k3
            go_wp2_with fail
            go_roundg (l.length - (o.length + 1))
            case measure => have := Hg.out; omega
            case rel => exact ⟨fr + c.held, o ++ [i], sv.set i true, A', c', by simp; omega, by simp, rfl, by simp, by simp, hi3, by simp; omega, by simp [Hsv.out], by
              have := Hgo.out
              rw [show l.length - o.length = (l.length - (o.length + 1)) + 1 from by omega, ordGo_some Hnx.out, heldAt_of Hc'.out] at this
              simpa using this, hoI5', hoB5', hb5⟩
        · have e1 : ((k + 1 : Nat) : Int) - 1 = (k : Int) := by omega
          rw [e1]
          obtain ⟨c, b, off, hc, rfl, hbb, hcell⟩ := rd_c hr (k := k) (by omega)
          obtain ⟨v, sb, so, hv, hSA, hsb, hvell⟩ := rd_b hrS (k := k) (by rw [Hsv.out]; omega)
          obtain ⟨rfl, rfl⟩ : w.heap.size = sb ∧ 0 = so := by simpa using hSA
          obtain ⟨q1, q2, q3, q4⟩ := hsm k c hc
          obtain ⟨g0, g1, g2⟩ := hcell wr hbw
          have g3 : wr.cell? ⟨w.heap.size, k, none⟩ = some (.bool v) := by simpa using hvell wr hbi
          have Hc := Lib.hid hc; clear hc
          have Hv := Lib.hid hv; clear hv
          clear hcell hvell hSA e1 g0
          cases v
          · by_cases hfit : c.claim - c.held ≤ fr
            · go_wp2_with fail
              go_quiet (fail)
              go_wp2_with fail
              go_roundg k
              case measure => have := Hgi.out; omega
              case rel => exact ⟨k, k, by omega, rfl, rfl, rfl, atFrom_yes (by omega) (fits_yes Hc.out Hv.out hfit), below_drewN hbi _⟩
            · go_wp2_with fail
              go_quiet (fail)
              go_wp2_with fail
              go_roundg k
              case measure => have := Hgi.out; omega
              case rel => exact ⟨k, m, by omega, rfl, rfl, rfl, atFrom_no (fits_no Hc.out (by omega)) Hat.out, below_drewN hbi _⟩
          · go_wp2_with fail
            go_quiet (fail)
            go_wp2_with fail
            go_roundg k
            case measure => have := Hgi.out; omega
            case rel => exact ⟨k, m, by omega, rfl, rfl, rfl, atFrom_no (fits_served Hv.out) Hat.out, below_drewN hbi _⟩
    · have hol2 : o.length = l.length := by omega
      have Hol2 := Lib.hid hol2; clear hol2
      go_wp2_with fail
      go_ret
      have e1 : (ordR free l).1 = o := by
        rw [← Hgo.out, show l.length - o.length = 0 from by have := Hol2.out; omega]; rfl
      rw [e1]
      exact ⟨O, oc, rfl, hoI, hb⟩
end Go.Proofs.Ythhfhgkkfaghoaa
