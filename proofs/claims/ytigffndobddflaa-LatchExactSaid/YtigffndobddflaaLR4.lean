/- The document's answer for a latch: with. -/
import Derived.Test.YtigffndobddflaaLGP
import Derived.Test.YtigffndobddflaaRegF
namespace Go.Proofs.Ytigffndobddflaa
open Go.RowKit

/-- one more holder is looked at -/
def stepW (who : Int) (s : Bool × List Int) (a : Int) : Bool × List Int := if s.1 = false ∧ who < a then (true, s.2 ++ [who] ++ [a]) else (s.1, s.2 ++ [a])
def foldW (who : Int) (l : List Int) : Bool × List Int := l.foldl (stepW who) (false, [])
theorem stepW_t (who : Int) (p : List Int) (a : Int) : stepW who (true, p) a = (true, p ++ [a]) := by simp [stepW]
theorem stepW_y {who : Int} (p : List Int) {a : Int} (h : who < a) : stepW who (false, p) a = (true, p ++ [who] ++ [a]) := by simp [stepW, h]
theorem stepW_n {who : Int} (p : List Int) {a : Int} (h : ¬ who < a) : stepW who (false, p) a = (false, p ++ [a]) := by simp [stepW, h]
theorem foldW_true (who : Int) : ∀ (l p : List Int), l.foldl (stepW who) (true, p) = (true, p ++ l)
  | [], p => by simp
  | a :: l, p => by
    rw [List.foldl_cons, stepW_t, foldW_true who l]
    simp
theorem foldW_false (who : Int) : ∀ (l p : List Int), (if (l.foldl (stepW who) (false, p)).1 = true then (l.foldl (stepW who) (false, p)).2 else (l.foldl (stepW who) (false, p)).2 ++ [who]) = p ++ withL l who
  | [], p => by simp [withL]
  | a :: l, p => by
    rw [List.foldl_cons, withL]
    by_cases h : who < a
    · rw [stepW_y p h, foldW_true, if_pos rfl]
      simp [h]
    · rw [stepW_n p h, foldW_false who l (p ++ [a])]
      simp [h]
theorem foldW_end (who : Int) (l : List Int) : (if (foldW who l).1 = true then (foldW who l).2 else (foldW who l).2 ++ [who]) = withL l who := by
  have := foldW_false who l []
  rw [List.nil_append] at this
  exact this
theorem foldW_snoc {l : List Int} {k : Nat} {a : Int} (who : Int) (h : l[k]? = some a) : foldW who (l.take (k + 1)) = stepW who (foldW who (l.take k)) a := by
  have : l.take (k + 1) = l.take k ++ [a] := by rw [List.take_add_one, h]; rfl
  rw [foldW, this, List.foldl_append]; rfl
theorem foldW_len (who : Int) (l : List Int) : (foldW who l).2.length ≤ l.length + 1 := by
  have h1 := foldW_end who l
  have h2 := withL_len l who
  split at h1
  · rw [h1, h2]; exact Nat.le_refl _
  · have := congrArg List.length h1
    rw [List.length_append, h2] at this
    simp at this
    omega
/-- a list in memory of the call's own -/
def OwnI (l : List Int) (w : World) (e : Ending) (w' : World) : Prop :=
  ∃ A cap, e = .returned (.slice A l.length cap) ∧ w'.ownsRow w.heap.size 3 1 (.slice A l.length cap) l.length (l.flatMap icells) ∧ Below w.heap.size w w'

set_option maxRecDepth 20000 in
set_option maxHeartbeats 2000000 in
theorem with_any (w : World) (A : Option Addr) (ac : Nat) (l : List Int) (who : Int) (hl : l.length ≤ 1000) (hr : Rd icells 1 w w.heap.size A l) :
    Calls Try.prog 40 #[.slice A l.length ac, .int .i64 who] w (OwnI (withL l who) w) := by
  have Hr := Lib.hid hr; clear hr
  obtain ⟨j0, hj0, hy0, hy1, hy2⟩ := info_parts Try.infoInt
  have Hlen := Lib.hid (foldW_len who)
  go_enter Try.func40, Try.ntmps40
  go_wp2_with fail
  go_loopg [5, 6, 7] l.length (fun g ov pv iv wr => ∃ (k : Nat) (O : Option Addr) (oc : Nat), k ≤ l.length ∧ g = l.length - k ∧ iv = .int .i64 k ∧ pv = .bool (foldW who (l.take k)).1 ∧ ov = .slice O (foldW who (l.take k)).2.length oc ∧
    wr.ownsRow w.heap.size 3 1 (.slice O (foldW who (l.take k)).2.length oc) (foldW who (l.take k)).2.length ((foldW who (l.take k)).2.flatMap icells) ∧ Below w.heap.size w wr)
  case atStart => exact ⟨0, none, 0, Nat.zero_le _, rfl, rfl, rfl, rfl, World.ownsRow_nil _ _ _ _, Below.refl _ _⟩
  case round =>
    obtain ⟨k, O, oc, hk, hg, rfl, rfl, rfl, hown, hb⟩ := hrel
    have Hg := Lib.hid hg; clear hg
    have hln := Hlen.out (l.take k)
    rw [List.length_take] at hln
    obtain ⟨s, hs⟩ : ∃ s, s = foldW who (l.take k) := ⟨_, rfl⟩
    rw [← hs] at hown hln ⊢
    have Hs := Lib.hid hs
    obtain ⟨pt, o⟩ := s
    simp only at hown hln ⊢
    have Hown := Lib.hid hown; have Hb := Lib.hid hb
    have hsz := hb.size
    clear hown hb hs
    by_cases hlt : k < l.length
    · obtain ⟨a, b, off, ha, rfl, hbb, hcell⟩ := rd_i Hr.out hlt
      have g0 := hcell wr Hb.out
      have Hcell := Lib.hid hcell
      have hki : (k : Int) < (l.length : Int) := by omega
      have hbw : b < wr.heap.size := by omega
      have hst := foldW_snoc who ha
      rw [← Hs.out] at hst
      obtain ⟨c, hc⟩ : ∃ c, c = (!pt && decide (who < a)) := ⟨_, rfl⟩
      obtain ⟨pt2, o2, hpo⟩ : ∃ (pt2 : Bool) (o2 : List Int), (pt2, o2) = (if c = true then (true, o ++ [who]) else (pt, o)) := ⟨_, _, rfl⟩
      have hst2 : foldW who (l.take (k + 1)) = (pt2, o2 ++ [a]) := by
        rw [hst]
        cases pt with
        | true =>
          rw [stepW_t]
          have : c = false := by rw [hc]; rfl
          rw [this, if_neg (by simp)] at hpo
          injection hpo with h1 h2
          rw [h1, h2]
        | false =>
          by_cases h : who < a
          · have : c = true := by rw [hc, decide_eq_true h]; rfl
            rw [this, if_pos rfl] at hpo
            injection hpo with h1 h2
            rw [stepW_y o h, h1, h2]
          · have : c = false := by rw [hc, decide_eq_false h]; rfl
            rw [this, if_neg (by simp)] at hpo
            injection hpo with h1 h2
            rw [stepW_n o h, h1, h2]
      have Hst := Lib.hid hst2; have Hpo := Lib.hid hpo
      have hol : o.length ≤ 1001 := by omega
      have ho2 : o2.length ≤ 1002 := by
        split at hpo
        · injection hpo with h1 h2; rw [h2]; simp; omega
        · injection hpo with h1 h2; rw [h2]; omega
      have Hc := Lib.hid hc
      clear ha hst hst2 hpo hcell hln hc
      go_upto_region 6 with fail
      go_cut [23] (fun s23 wx => s23 = .bool c ∧ wx = wr)
      case first =>
        cases pt with
        | true =>
          have hcf := Hc.out
          simp only [Bool.not_true, Bool.false_and] at hcf
          have Hcf := Lib.hid hcf
          clear hcf
          go_wp2_with fail
          go_meet
          exact ⟨by rw [Hcf.out], rfl⟩
        | false =>
          have hcf := Hc.out
          simp only [Bool.not_false, Bool.true_and] at hcf
          have Hcf := Lib.hid hcf
          clear hcf
          go_wp2_with fail
          go_meet
          exact ⟨by rw [Hcf.out], rfl⟩
      case rest =>
        obtain ⟨rfl, rfl⟩ := hcut
        go_upto_if 23 with fail
        go_cut [5, 6] (fun s5 s6 wx => ∃ (O' : Option Addr) (oc' : Nat), s5 = .slice O' o2.length oc' ∧ s6 = .bool pt2 ∧ wx.ownsRow w.heap.size 3 1 (.slice O' o2.length oc') o2.length (o2.flatMap icells) ∧ Below w.heap.size w wx)
        case first =>
          cases c with
          | false =>
            have hpo := Hpo.out
            rw [if_neg (by simp)] at hpo
            injection hpo with h1 h2
            subst h1 h2
            go_wp2_with fail
            go_meet
            exact ⟨O, oc, rfl, rfl, Hown.out, Hb.out⟩
          | true =>
            have hpo := Hpo.out
            rw [if_pos rfl] at hpo
            injection hpo with h1 h2
            have H1 := Lib.hid h1; have H2 := Lib.hid h2
            clear h1 h2
            go_wp2_with (at_builtin; refine list_app rfl (.tmp 24) (.tmp 26) 22 rfl w.heap.size 3 j0 (.int .i64 0) 1 8 Try.underlying22 hj0 hy0 hy1 hy2 rfl (by decide) rfl (Hown.out.alloc (.cells #[.int .i64 who] 3)) (m := 1) (news := icells who) rfl rfl (by simp) (new_src (cs := (icells who).toArray) (by simp)) (i_one who) ?_ ?_ ?_ ?_)
            · unfold maxLen; omega
            · omega
            · first | omega | (simp; omega)
            intro v' w5 ho5 hg5 hv5
            obtain ⟨O5, c5, rfl, _, _⟩ := own_slice ho5
            have Hb5 := Lib.hid ((Hb.out.alloc hsz (.cells #[.int .i64 who] 3)).grown hg5 (by simp; omega) (fun d hd => (Hown.out.lt d hd).1))
            have Ho5 := Lib.hid ho5
            clear ho5 hg5 hv5
            go_wp2_with fail
            go_meet
            refine ⟨O5, c5, by rw [H2.out, List.length_append]; rfl, by rw [H1.out], ?_, Hb5.out⟩
            rw [H2.out, List.length_append, List.flatMap_append]
            simpa [icells] using Ho5.out
        case rest =>
          obtain ⟨O', oc', rfl, rfl, hown, hb⟩ := hcut
          have Hown2 := Lib.hid hown; have Hb2 := Lib.hid hb
          have hsz2 := hb.size
          obtain ⟨b', off', hA', hbb', hcell'⟩ : ∃ b' off', b' = b ∧ off' = off ∧ True := ⟨b, off, rfl, rfl, trivial⟩
          have g0' := Hcell.out wc hb
          have hbw' : b < wc.heap.size := by omega
          clear hown hb g0 hA' hbb' hcell'
          go_wp2_with (at_builtin; refine list_app rfl (.tmp 28) (.tmp 33) 22 rfl w.heap.size 3 j0 (.int .i64 0) 1 8 Try.underlying22 hj0 hy0 hy1 hy2 rfl (by decide) rfl (Hown2.out.alloc (.cells #[.int .i64 a] 3)) (m := 1) (news := icells a) rfl rfl (by simp) (new_src (cs := (icells a).toArray) (by simp)) (i_one a) ?_ ?_ ?_ ?_)
          · unfold maxLen; omega
          · omega
          · first | omega | (simp; omega)
          intro v' w5 ho5 hg5 hv5
          obtain ⟨O5, c5, rfl, _, _⟩ := own_slice ho5
          have Hb5 := Lib.hid ((Hb2.out.alloc hsz2 (.cells #[.int .i64 a] 3)).grown hg5 (by simp; omega) (fun d hd => (Hown2.out.lt d hd).1))
          have Ho5 := Lib.hid ho5
          clear ho5 hg5 hv5
          go_wp2_with fail
          go_roundg (l.length - (k + 1))
          case measure => have := Hg.out; omega
          case rel =>
            refine ⟨k + 1, O5, c5, by omega, rfl, by go_num, by rw [Hst.out], by rw [Hst.out, List.length_append]; rfl, ?_, Hb5.out⟩
            rw [Hst.out]
            show w5.ownsRow w.heap.size 3 1 (.slice O5 (o2 ++ [a]).length c5) (o2 ++ [a]).length ((o2 ++ [a]).flatMap icells)
            rw [List.length_append, List.flatMap_append]
            simpa [icells] using Ho5.out
    · obtain rfl : k = l.length := by omega
      have hend := foldW_end who l
      have hs := Hs.out
      rw [List.take_length] at hs
      rw [← hs] at hend
      simp only at hend
      have Hend := Lib.hid hend
      clear hend hs hln
      cases pt with
      | true =>
        go_wp2_with fail
        go_ret
        have he := Hend.out
        simp only [if_true] at he
        exact ⟨O, oc, by rw [← he]; rfl, by rw [← he]; exact Hown.out, Hb.out⟩
      | false =>
        have hol : o.length ≤ 1001 := by have := Hlen.out l; rw [← (show (false, o) = foldW who l by have := Hs.out; rwa [List.take_length] at this)] at this; simp only at this; omega
        go_wp2_with (at_builtin; refine list_app rfl (.tmp 37) (.tmp 39) 22 rfl w.heap.size 3 j0 (.int .i64 0) 1 8 Try.underlying22 hj0 hy0 hy1 hy2 rfl (by decide) rfl (Hown.out.alloc (.cells #[.int .i64 who] 3)) (m := 1) (news := icells who) rfl rfl (by simp) (new_src (cs := (icells who).toArray) (by simp)) (i_one who) ?_ ?_ ?_ ?_)
        · unfold maxLen; omega
        · omega
        · first | omega | (simp; omega)
        intro v' w5 ho5 hg5 hv5
        obtain ⟨O5, c5, rfl, _, _⟩ := own_slice ho5
        have Hb5 := Lib.hid ((Hb.out.alloc hsz (.cells #[.int .i64 who] 3)).grown hg5 (by simp; omega) (fun d hd => (Hown.out.lt d hd).1))
        have Ho5 := Lib.hid ho5
        clear ho5 hg5 hv5
        go_wp2_with fail
        go_ret
        have he := Hend.out
        simp only [Bool.false_eq_true, if_false] at he
        refine ⟨O5, c5, by rw [← he, List.length_append]; rfl, ?_, Hb5.out⟩
        rw [← he, List.length_append, List.flatMap_append]
        simpa [icells] using Ho5.out
end Go.Proofs.Ytigffndobddflaa
