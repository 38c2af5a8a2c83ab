/- The contracts of bank.Order and bank.Safe. -/
import Derived.Test.YthhfhgkkfaghoaaBank2
namespace Go.Proofs.Ythhfhgkkfaghoaa
open Go.RowKit

theorem smallC_of {l : List C} (h : rightB l = true) : smallC l := fun _ _ hc => by
  have := okC_iff.1 (okC_of h hc); omega

theorem next_some {w : World} {A S : Option Addr} {cap sc : Nat} {l : List C} {sv : List Bool} {free : Int} {i : Nat} (hf0 : 0 ≤ free) (hf1 : free ≤ 100000)
    (hn : l.length ≤ 9223372036854775807) (hs : sv.length = l.length) (hr : Rd C.cells 3 w w.heap.size A l) (hq : Rd bcells 1 w w.heap.size S sv) (hsm : smallC l) (h : nextB free l sv = some i) :
    Calls Try.prog 56 #[.int .i64 free, .slice A l.length cap, .slice S l.length sc] w fun e w' => e = .returned (.tuple #[.int .i64 i, .bool true]) ∧ Below w.heap.size w w' :=
  (next_any w A S cap sc l sv free hf0 hf1 hn hs hr hq hsm).mono fun e w' hh => by rw [h] at hh; exact hh
theorem next_none {w : World} {A S : Option Addr} {cap sc : Nat} {l : List C} {sv : List Bool} {free : Int} (hf0 : 0 ≤ free) (hf1 : free ≤ 100000)
    (hn : l.length ≤ 9223372036854775807) (hs : sv.length = l.length) (hr : Rd C.cells 3 w w.heap.size A l) (hq : Rd bcells 1 w w.heap.size S sv) (hsm : smallC l) (h : nextB free l sv = none) :
    Calls Try.prog 56 #[.int .i64 free, .slice A l.length cap, .slice S l.length sc] w fun e w' => e = .returned (.tuple #[.int .i64 0, .bool false]) ∧ Below w.heap.size w w' :=
  (next_any w A S cap sc l sv free hf0 hf1 hn hs hr hq hsm).mono fun e w' hh => by rw [h] at hh; exact hh

def natCells (n : Nat) : List Value := [.int .i64 n]
theorem made_bools (n : Nat) : (madeCells #[Value.bool false] n).toList = (List.replicate n false).flatMap bcells := by
  rw [toList_madeCells_one]
  induction n with
  | zero => rfl
  | succ n ih => rw [List.replicate_succ, List.replicate_succ, List.flatMap_cons, ← ih]; rfl
theorem flat_length {α : Type} {f : α → List Value} (hf : ∀ x, (f x).length = 1) (l : List α) : (l.flatMap f).length = l.length := by
  induction l with
  | nil => rfl
  | cons x l ih => rw [List.flatMap_cons, List.length_append, hf, ih, List.length_cons]; omega
theorem flat_get {α : Type} {f : α → List Value} {g : α → Value} (hf : ∀ x, f x = [g x]) (l : List α) (k : Nat) : (l.flatMap f)[k]? = (l[k]?).map g := by
  have : l.flatMap f = l.map g := by
    induction l with
    | nil => rfl
    | cons x l ih => rw [List.flatMap_cons, hf, ih]; rfl
  rw [this, List.getElem?_map]
theorem flat_set {α : Type} {f : α → List Value} {g : α → Value} (hf : ∀ x, f x = [g x]) (l : List α) (k : Nat) (x : α) : (l.set k x).flatMap f = (l.flatMap f).set k (g x) := by
  have : ∀ l : List α, l.flatMap f = l.map g := by
    intro l
    induction l with
    | nil => rfl
    | cons x l ih => rw [List.flatMap_cons, hf, ih]; rfl
  rw [this, this, List.map_set]
/-- What a call hands back: a slice of ints in memory of its own, and a Bool. -/
def IntsBool (r : List Nat × Bool) (w : World) (e : Ending) (w' : World) : Prop :=
  ∃ A cap, e = .returned (.tuple #[.slice A r.1.length cap, .bool r.2]) ∧ w'.ownsRow w.heap.size 3 1 (.slice A r.1.length cap) r.1.length (r.1.flatMap natCells) ∧ Below w.heap.size w w'

theorem Try.infoInt : (Try.prog.info? 3).map (fun i => (i.zero, i.size, i.bytes)) = some (some (.int .i64 0), 1, 8) := by kernel_rfl
theorem Try.infoBool : (Try.prog.info? 4).map (fun i => (i.zero, i.size, i.bytes)) = some (some (.bool false), 1, 1) := by kernel_rfl

set_option maxHeartbeats 1000000 in
theorem order_any (w : World) (A : Option Addr) (cap : Nat) (l : List C) (free : Int)
    (hc : l.length ≤ cap) (hm : cap ≤ 9223372036854775807) (hr : Rd C.cells 3 w w.heap.size A l) :
    Calls Try.prog 49 #[.int .i64 free, .slice A l.length cap] w (IntsBool (ordB free l) w) := by
  by_cases hrt : rightB l = true
  · by_cases h0 : 0 ≤ free
    · by_cases h1 : free ≤ 1000
      · obtain ⟨i0, hi, hz0, hz1, hz2⟩ := info_parts Try.infoBool
        obtain ⟨j0, hj, hy0, hy1, hy2⟩ := info_parts Try.infoInt
        have h8 := (rightB_iff.1 hrt).1
        go_enter Try.func49, Try.ntmps49
        go_wp2_with (first | (go_at_call 44; refine (right_any _ _ _ _ hc hm hr).mono ?_; rintro e w1 ⟨rfl, hb1⟩) | (at_make; refine wpList_make_full _ rfl _ _ 92 rfl w.heap.size 4 i0 (.bool false) 1 Try.underlying92 hi hz0 hz1 .i64 .i64 _ _ l.length rfl rfl rfl rfl (by rw [hz2]; omega) (by unfold maxLen; omega) hb1.size ?_))
        intro w2 hown2 hg2
        have hb2 : Below w.heap.size w w2 := hb1.grown hg2 hb1.size (by simp)
        go_wp2_with fail
        go_loopg [0, 6] l.length (fun g f v wr => ∃ (fr : Int) (o : List Nat) (sv : List Bool) (O : Option Addr) (oc : Nat), o.length ≤ l.length ∧ g = l.length - o.length ∧ f = .int .i64 fr ∧ v = .slice O o.length oc ∧
            0 ≤ fr ∧ fr ≤ 1000 + 100 * o.length ∧ sv.length = l.length ∧ ordGo l (l.length - o.length) fr sv o = ordR free l ∧
            wr.ownsRow w.heap.size 3 1 (.slice O o.length oc) o.length (o.flatMap natCells) ∧
            wr.ownsRow w.heap.size 4 1 (.slice (some ⟨w1.heap.size, 0, none⟩) l.length l.length) l.length (sv.flatMap bcells) ∧ Below w.heap.size w wr)
        case atStart => exact ⟨free, [], List.replicate l.length false, none, 0, Nat.zero_le _, rfl, rfl, rfl, h0, by simpa using h1, by simp, rfl, World.ownsRow_nil _ _ _ _, by rw [← made_bools]; exact hown2, hb2⟩
        case round =>
          obtain ⟨fr, o, sv, O, oc, hol, hg, rfl, rfl, f0, f1, hsv, hgo, hoI, hoB, hb⟩ := hrel
          have Hg := Lib.hid hg; clear hg
          have Hgo := Lib.hid hgo; clear hgo
          have Hsv := Lib.hid hsv; clear hsv
          have Hrt := Lib.hid hrt; clear hrt
          by_cases hlt : o.length < l.length
          · have hrS : Rd bcells 1 wr wr.heap.size (some ⟨w1.heap.size, 0, none⟩) sv := Rd.of_own (n := l.length) (c := l.length) hoB (fun _ => rfl) (by decide)
            cases hnx : nextB fr l sv with
            | none =>
              have Hnx := Lib.hid hnx; clear hnx
              go_wp2_with (first | (go_at_call 56; refine (next_none f0 (by omega) (by omega) Hsv.out (hr.up hb) hrS (smallC_of Hrt.out) Hnx.out).mono ?_; rintro e w3 ⟨rfl, hb3⟩))
              go_ret2
              have e1 : ordR free l = (o, false) := by
                rw [← Hgo.out, show l.length - o.length = (l.length - (o.length + 1)) + 1 from by omega, ordGo_none Hnx.out]
              rw [ordB_right Hrt.out h0 h1, e1]
              exact ⟨O, oc, rfl, own_up hoI hb3, hb.trans (hb3.mono hb.size)⟩
            | some i =>
              obtain ⟨hil, hfit, _⟩ := nextB_lt hnx
              obtain ⟨c, b, off, hc', hA, hbb, hcell⟩ := rd_c hr hil
              obtain ⟨q1, q2, q3, q4⟩ := smallC_of Hrt.out i c hc'
              have Hnx := Lib.hid hnx; clear hnx
              have Hfit := Lib.hid hfit; clear hfit
              have Hc' := Lib.hid hc'; clear hc'
              subst hA
              go_wp2_with fail
              refine (next_some f0 (by omega) (by omega) Hsv.out (hr.up hb) hrS (smallC_of Hrt.out) Hnx.out).mono ?_
              rintro e w3 ⟨rfl, hb3⟩
              have hb13 : Below w.heap.size w w3 := hb.trans (hb3.mono hb.size)
              have hoB3 := own_up hoB hb3
              have hoI3 := own_up hoI hb3
              have hsvi : sv[i]? = some false := by
                have hf := Hfit.out
                unfold fits at hf
                rw [Hc'.out] at hf
                have : i < sv.length := by rw [Hsv.out]; exact hil
                cases hx : sv[i]? with
                | none => rw [hx] at hf; cases hf
                | some y => cases y
                            · rfl
                            · rw [hx] at hf; cases hf
              have k1 : w3.cell? ⟨w1.heap.size, i, none⟩ = some (.bool false) := by
                rw [hoB3.cellAt i (by omega), flat_get (f := bcells) (g := Value.bool) (fun _ => rfl), hsvi]; rfl
              have k2 : w3.frozen? ⟨w1.heap.size, i, none⟩ = false := hoB3.frozenAt i
              have hb4 : Below w.heap.size w (w3.setCell ⟨w1.heap.size, i, none⟩ (.bool true)) := hb13.setCell hb1.size _
              have k3 := (hcell _ hb4).2.2
              have hoB4 := (hoB3.stored i (.bool true)).1
              have hoI4 := own_setCell (j := i) hoI3 (g := w1.heap.size) (by
                rcases own_apart hoI3 hoB3 (by decide) with h | h
                · rw [h]; simp
                · simpa [Value.ownBlock] using h) (.bool true)
              have Hsvi := Lib.hid hsvi; clear hsvi
              have hi3 : 0 ≤ fr + c.held := by omega
              have hi4 : fr + c.held ≤ 1000 + 100 * (o.length + 1) := by omega
              clear hcell hoI hoB hoI3 hoB3 hrS hb3
              go_wp2_with (at_builtin; refine wpList_append_own _ rfl (.tmp 49) (.tmp 51) 36 rfl w.heap.size 3 j0 (.int .i64 0) 1 8 Try.underlying36 hj hy0 hy1 hy2 rfl (by decide) _ _ _ rfl (hoI4.alloc _) ⟨w3.heap.size, 0, none⟩ 1 1 [.int .i64 i] rfl rfl ?_ ?_ ?_ ?_ ?_ ?_)
              · exact cells_new (cs := #[.int .i64 (i : Int)]) (by simp)
              · intro u hu; simp at hu; subst hu; rfl
              · unfold maxLen; omega
              · omega
              · have := hb4.size; simp at this ⊢; omega
              intro v' w5 hoI5 hg5 _
              have hb45 : Below w.heap.size w ((w3.setCell ⟨w1.heap.size, i, none⟩ (.bool true)).alloc (.cells #[.int .i64 (i : Int)] 3)) := hb4.alloc hb4.size _
              have hb5 : Below w.heap.size w w5 := hb45.grown hg5 hb45.size (fun k hk => (hoI4.lt k hk).1)
              have hoB5 := (hoB4.alloc (.cells #[.int .i64 (i : Int)] 3)).kept hg5 (own_apart hoB4 hoI4 (by decide))
              obtain ⟨A', c', rfl, _, _⟩ := own_slice hoI5
              have hoI5' : w5.ownsRow w.heap.size 3 1 (.slice A' (o ++ [i]).length c') (o ++ [i]).length ((o ++ [i]).flatMap natCells) := by
                simpa [List.flatMap_append, natCells] using hoI5
              have hoB5' : w5.ownsRow w.heap.size 4 1 (.slice (some ⟨w1.heap.size, 0, none⟩) l.length l.length) l.length ((sv.set i true).flatMap bcells) := by
                rw [flat_set (f := bcells) (g := Value.bool) (fun _ => rfl)]; exact hoB5
              clear hoI5 hoB5 hg5 hoB4 hoI4 k1 k2 k3
              go_wp2_with fail
              go_roundg (l.length - (o.length + 1))
              case measure => have := Hg.out; omega
              case rel => exact ⟨fr + c.held, o ++ [i], sv.set i true, A', c', by simp; omega, by simp, rfl, by simp, hi3, by simp; omega, by simp [Hsv.out], by
                have := Hgo.out
                rw [show l.length - o.length = (l.length - (o.length + 1)) + 1 from by omega, ordGo_some Hnx.out, heldAt_of Hc'.out] at this
                simpa using this, hoI5', hoB5', hb5⟩
          · have hol2 : o.length = l.length := by omega
            have Hol2 := Lib.hid hol2; clear hol2
            go_wp2_with fail
            go_ret2
            have e1 : ordR free l = (o, true) := by
              rw [← Hgo.out, show l.length - o.length = 0 from by have := Hol2.out; omega]; rfl
            rw [ordB_right Hrt.out h0 h1, e1]
            exact ⟨O, oc, rfl, hoI, hb⟩
      · have h1i : 1000 < free := by omega
        have e1 : ordB free l = ([], false) := ordB_wrong (.inr (.inr h1i))
        have E1 := Lib.hid e1; clear e1
        go_enter Try.func49, Try.ntmps49
        go_wp2_with (first | (go_at_call 44; refine (right_any _ _ _ _ hc hm hr).mono ?_; rintro e w1 ⟨rfl, hb1⟩))
        go_ret2
        rw [E1.out]
        exact ⟨none, 0, rfl, World.ownsRow_nil _ _ _ _, hb1⟩
    · have h0i : free < 0 := by omega
      have e1 : ordB free l = ([], false) := ordB_wrong (.inr (.inl h0i))
      have E1 := Lib.hid e1; clear e1
      go_enter Try.func49, Try.ntmps49
      go_wp2_with (first | (go_at_call 44; refine (right_any _ _ _ _ hc hm hr).mono ?_; rintro e w1 ⟨rfl, hb1⟩))
      go_ret2
      rw [E1.out]
      exact ⟨none, 0, rfl, World.ownsRow_nil _ _ _ _, hb1⟩
  · have hrf : rightB l = false := by simpa using hrt
    have e1 : ordB free l = ([], false) := ordB_wrong (.inl hrf)
    have E1 := Lib.hid e1; clear e1
    go_enter Try.func49, Try.ntmps49
    go_wp2_with (first | (go_at_call 44; refine (right_any _ _ _ _ hc hm hr).mono ?_; rintro e w1 ⟨rfl, hb1⟩))
    go_ret2
    rw [E1.out]
    exact ⟨none, 0, rfl, World.ownsRow_nil _ _ _ _, hb1⟩

theorem safe_any (w : World) (A : Option Addr) (cap : Nat) (l : List C) (free : Int)
    (hc : l.length ≤ cap) (hm : cap ≤ 9223372036854775807) (hr : Rd C.cells 3 w w.heap.size A l) :
    Calls Try.prog 26 #[.int .i64 free, .slice A l.length cap] w fun e w' => e = .returned (.bool (safeB free l)) ∧ Below w.heap.size w w' := by
  go_enter Try.func26, Try.ntmps26
  go_wp2_with fail
  refine (order_any w A cap l free hc hm hr).mono ?_
  rintro e w1 ⟨O, oc, rfl, _, hb⟩
  go_wp2_with fail
  go_ret
  exact ⟨ret_bool rfl, hb⟩
end Go.Proofs.Ythhfhgkkfaghoaa
