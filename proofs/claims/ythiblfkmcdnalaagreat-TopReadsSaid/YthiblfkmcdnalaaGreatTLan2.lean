/- The lanes of the top seat: words; the contracts of lanes.Right and waits at good lanes. -/
/- lanes.waits at good lanes: nothing waits; one thing waits. -/
/- The contract of lanes.New. -/
import Derived.Test.YthiblfkmcdnalaaGreatTClones
import Derived.Test.YthiblfkmcdnalaaGreatRegT
import Derived.Test.YthiblfkmcdnalaaGreatTDisk1
import Derived.IntWalk
namespace Go.Proofs.YthiblfkmcdnalaaGreat
set_option maxRecDepth 1000000
open Go.RowKit
set_option maxRecDepth 1000000

/-- a lane as it lies in its row: the costs are a slice -/
structure Ln where
  weight : Int
  deficit : Int
  A : Option Addr
  n : Nat
  cap : Nat
def Ln.cells (x : Ln) : List Value := [.int .i64 x.weight, .int .i64 x.deficit, .slice x.A x.n x.cap]
theorem ln_len : ∀ x : Ln, x.cells.length = 3 := fun _ => rfl
theorem ln_one : ∀ x : Ln, ∀ u ∈ x.cells, u.oneCell' = true := fun x u hu => by
  simp only [Ln.cells, List.mem_cons, List.mem_nil_iff, or_false] at hu
  rcases hu with rfl | rfl | rfl <;> rfl
def icells (x : Int) : List Value := [.int .i64 x]
theorem i_len : ∀ x : Int, (icells x).length = 1 := fun _ => rfl
theorem i_one : ∀ x : Int, ∀ u ∈ icells x, u.oneCell' = true := fun x u hu => by
  obtain rfl : u = .int .i64 x := by simpa [icells] using hu
  rfl
/-- a good lane: no deficit, at most one thing waits, of cost c -/
def GLn (w : World) (c : Int) (y : Ln) : Prop := 1 ≤ y.weight ∧ y.weight ≤ 8 ∧ y.deficit = 0 ∧ y.n ≤ 1 ∧ y.n ≤ y.cap ∧ y.cap ≤ 9223372036854775807 ∧ (y.n = 1 → Rt icells 1 3 w y.A [c])
theorem GLn.up {w w' : World} {c : Int} {y : Ln} (h : GLn w c y) (hb : Below w.heap.size w w') : GLn w' c y := by
  obtain ⟨h1, h2, h3, h4, h5, h6, h7⟩ := h
  exact ⟨h1, h2, h3, h4, h5, h6, fun e => (h7 e).up hb⟩
/-- lanes in memory -/
def MLn (w : World) (v : Value) (c : Int) (vs : List Ln) : Prop := Sl Ln.cells 3 140 w v vs ∧ ∀ y ∈ vs, GLn w c y
theorem MLn.up {w w' : World} {v : Value} {c : Int} {vs : List Ln} (h : MLn w v c vs) (hb : Below w.heap.size w w') : MLn w' v c vs := ⟨h.1.up hb, fun y hy => (h.2 y hy).up hb⟩
theorem MLn.keep {w w' : World} {v : Value} {c : Int} {vs : List Ln} (h : MLn w v c vs) (hk : ∀ (b : Nat) t cs fr, (t = 140 ∨ t = 3) → w.heap[b]? = some (Obj.cells cs t fr) → w'.heap[b]? = w.heap[b]?) : MLn w' v c vs :=
  ⟨h.1.keep fun b cs fr => hk b _ cs fr (.inl rfl), fun y hy => by
    obtain ⟨h1, h2, h3, h4, h5, h6, h7⟩ := h.2 y hy
    exact ⟨h1, h2, h3, h4, h5, h6, fun e => (h7 e).keep fun b cs fr => hk b _ cs fr (.inr rfl)⟩⟩
theorem MLn.len {w : World} {v : Value} {c : Int} {vs : List Ln} (h : MLn w v c vs) : ∃ A cap, v = .slice A vs.length cap ∧ vs.length ≤ cap ∧ cap ≤ 9223372036854775807 := by
  obtain ⟨⟨A, cap, rfl, h1, h2, _⟩, _⟩ := h
  exact ⟨A, cap, rfl, h1, h2⟩
theorem ln_at {w : World} {A : Option Addr} {l : List Ln} (h : Rt Ln.cells 3 140 w A l) {k : Nat} (hk : k < l.length) :
    ∃ x b off, l[k]? = some x ∧ A = some ⟨b, off, none⟩ ∧ b < w.heap.size ∧ ∀ W, Below w.heap.size w W → W.cell? ⟨b, off + k * 3, none⟩ = some (.int .i64 x.weight) ∧ W.cell? ⟨b, off + k * 3 + 1, none⟩ = some (.int .i64 x.deficit) ∧ W.cell? ⟨b, off + k * 3 + 2, none⟩ = some (.slice x.A x.n x.cap) := by
  obtain ⟨x, b, off, h1, h2, h3, h4⟩ := h.at_ hk
  exact ⟨x, b, off, h1, h2, h3, fun W hW => ⟨by have := h4 W hW 0 _ rfl; simpa using this, h4 W hW 1 _ rfl, h4 W hW 2 _ rfl⟩⟩
theorem int_at {w : World} {A : Option Addr} {l : List Int} (h : Rt icells 1 3 w A l) {k : Nat} (hk : k < l.length) :
    ∃ x b off, l[k]? = some x ∧ A = some ⟨b, off, none⟩ ∧ b < w.heap.size ∧ ∀ W, Below w.heap.size w W → W.cell? ⟨b, off + k, none⟩ = some (.int .i64 x) := by
  obtain ⟨x, b, off, h1, h2, h3, h4⟩ := h.at_ hk
  exact ⟨x, b, off, h1, h2, h3, fun W hW => by have := h4 W hW 0 _ rfl; simpa using this⟩

set_option maxHeartbeats 4000000 in
theorem lanRight_any (w : World) (v : Value) (c at_ : Int) (given : Bool) (vs : List Ln) (hc : 1 ≤ c ∧ c ≤ 8) (h1 : 1 ≤ vs.length) (h6 : vs.length ≤ 6) (ha : 0 ≤ at_ ∧ at_ < vs.length) (hm : MLn w v c vs) :
    Calls Tryz.prog 41 #[.agg #[v, .int .i64 at_, .bool given]] w fun e w' => e = .returned (.bool true) ∧ Below w.heap.size w w' := by
  obtain ⟨A, ac, rfl, a1, a2⟩ := hm.len
  obtain ⟨ha1, ha2⟩ := ha
  obtain ⟨hc1, hc2⟩ := hc
  obtain ⟨W, hW, hbW, hsW, B0⟩ := box1 w #[.slice A vs.length ac, .int .i64 at_, .bool given] 33
  have Hm := Lib.hid hm
  have HbW := Lib.hid hbW
  have hsW' := bsz hsW
  clear hm hbW hsW
  obtain ⟨c00, c01, c02, f00, f01, f02, lt0⟩ := B0.c3
  go_enter Tryz.func41, Tryz.ntmps41
  go_wp2_with fail
  clear hW c00 c01 c02 f00 f01 f02 lt0
  go_loopg [34] vs.length (fun g i wr => ∃ k : Nat, k ≤ vs.length ∧ g = vs.length - k ∧ i = .int .i64 k ∧ Below W.heap.size W wr)
  case atStart => exact ⟨0, Nat.zero_le _, rfl, rfl, Below.refl _ _⟩
  case round =>
    obtain ⟨k, hk, hgk, rfl, hb⟩ := hrel
    have Hgk := Lib.hid hgk; clear hgk
    have hsr := hb.size
    have Hb := Lib.hid hb
    by_cases hlt : k < vs.length
    · obtain ⟨y, b, off, hy, rfl, hbb, hcell⟩ := ln_at Hm.out.1.rt hlt
      obtain ⟨g0, g1, g2⟩ := hcell wr (HbW.out.trans (hb.mono hsW'))
      obtain ⟨y1, y2, y3, y4, y5, y6, y7⟩ := Hm.out.2 y (List.mem_of_getElem? hy)
      obtain ⟨wt, df, A', n', cap'⟩ := y
      simp only at y1 y2 y3 y4 y5 y6 y7 g0 g1 g2
      subst y3
      have hki : (k : Int) < (vs.length : Int) := by omega
      have hbw : b < wr.heap.size := by omega
      replace B0 := B0.up hb
      obtain ⟨c00, c01, c02, f00, f01, f02, lt0⟩ := B0.c3
      clear hcell hy hb
      obtain ⟨d, hd⟩ : ∃ d : Bool, ((k : Int) == at_) = d := ⟨_, rfl⟩
      obtain rfl | rfl : n' = 0 ∨ n' = 1 := by omega
      · clear y7
        rcases d with _ | _ <;> rcases given with _ | _
        all_goals
          go_wp2_with fail
          have hN : Below wr.heap.size wr (wr.alloc (.cells #[.int .i64 wt, .int .i64 0, .slice A' 0 cap'] 140)) := (Below.refl _ _).alloc (Nat.le_refl _) _
          obtain ⟨U, hU⟩ : ∃ U, wr.alloc (.cells #[.int .i64 wt, .int .i64 0, .slice A' 0 cap'] 140) = U := ⟨_, rfl⟩
          rw [hU] at hN ⊢
          have HbU := Lib.hid (Hb.out.trans (hN.mono hsr))
          clear hU hN c00 c01 c02 f00 f01 f02 lt0 g0 g1 g2
          go_loopg [73] 0 (fun g i wx => g = 0 ∧ i = .int .i64 0 ∧ U = wx)
          case atStart => exact ⟨rfl, rfl, rfl⟩
          case round =>
            obtain ⟨_, rfl, rfl⟩ := hrel
            go_wp2_with fail
            go_roundg (vs.length - (k + 1))
            case measure => have := Hgk.out; omega
            case rel => exact ⟨k + 1, by omega, rfl, by go_num, HbU.out⟩
      · obtain ⟨q, b', off', hq, rfl, hbb', hcell'⟩ := int_at (y7 rfl) (k := 0) (by simp)
        obtain rfl : c = q := by simpa using hq
        have Hcell' := Lib.hid hcell'
        clear y7 hq hcell'
        rcases d with _ | _ <;> rcases given with _ | _
        all_goals
          go_wp2_with fail
          have hN : Below wr.heap.size wr (wr.alloc (.cells #[.int .i64 wt, .int .i64 0, .slice (some ⟨b', off', none⟩) 1 cap'] 140)) := (Below.refl _ _).alloc (Nat.le_refl _) _
          obtain ⟨U, hU⟩ : ∃ U, wr.alloc (.cells #[.int .i64 wt, .int .i64 0, .slice (some ⟨b', off', none⟩) 1 cap'] 140) = U := ⟨_, rfl⟩
          rw [hU] at hN ⊢
          have HbU := Lib.hid (Hb.out.trans (hN.mono hsr))
          have hbU : b' < U.heap.size := by have := HbU.out.size; omega
          clear hU hN c00 c01 c02 f00 f01 f02 lt0 g0 g1 g2
          go_loopg [73] 1 (fun g i wx => ∃ j : Nat, j ≤ 1 ∧ g = 1 - j ∧ i = .int .i64 j ∧ U = wx)
          case atStart => exact ⟨0, by omega, rfl, rfl, rfl⟩
          case round =>
            obtain ⟨j, hj, hgj, rfl, rfl⟩ := hrel
            have Hgj := Lib.hid hgj; clear hgj
            obtain rfl | rfl : j = 0 ∨ j = 1 := by omega
            · have q0 := Hcell'.out U (HbW.out.trans (HbU.out.mono hsW'))
              simp only [Nat.add_zero] at q0
              go_wp2_with fail
              go_roundg 0
              case measure => have := Hgj.out; omega
              case rel => exact ⟨1, by omega, rfl, by go_num, rfl⟩
            · go_wp2_with fail
              go_roundg (vs.length - (k + 1))
              case measure => have := Hgk.out; omega
              case rel => exact ⟨k + 1, by omega, rfl, by go_num, HbU.out⟩
    · obtain rfl : k = vs.length := by omega
      go_wp2_with fail
      go_ret
      exact ⟨rfl, HbW.out.trans (hb.mono hsW')⟩
end Go.Proofs.YthiblfkmcdnalaaGreat

namespace Go.Proofs.YthiblfkmcdnalaaGreat
set_option maxRecDepth 1000000
open Go.RowKit
set_option maxRecDepth 1000000

theorem waitsB_any (w : World) (wt df : Int) (A : Option Addr) (n cap : Nat) (b : Bool) (h : (n = 0 ∧ b = false) ∨ (n = 1 ∧ b = true)) :
    Calls Tryz.prog 71 #[.agg #[.int .i64 wt, .int .i64 df, .slice A n cap]] w fun e w' => e = .returned (.bool b) ∧ Below w.heap.size w w' := by
  rcases h with ⟨rfl, rfl⟩ | ⟨rfl, rfl⟩
  all_goals
    go_enter Tryz.func71, Tryz.ntmps71
    go_wp2_with fail
    go_ret
    exact ⟨rfl, (Below.refl _ _).alloc (Nat.le_refl _) _⟩

set_option maxHeartbeats 2000000 in
theorem indexLn_no (w : World) (A : Option Addr) (cap : Nat) (vs : List Ln) (h6 : vs.length ≤ 6) (hr : Rt Ln.cells 3 140 w A vs) (h0 : ∀ y ∈ vs, y.n = 0) :
    Calls Tryz.prog 100 #[.slice A vs.length cap, .func (Fn.func 71) #[] #[]] w fun e w' => e = .returned (.int .i64 (-1)) ∧ Below w.heap.size w w' := by
  have Hr := Lib.hid hr; have H0 := Lib.hid h0
  clear hr h0
  go_enter Tryz.func100, Tryz.ntmps100
  go_wp2_with fail
  go_loopg [8] vs.length (fun g i wr => ∃ k : Nat, k ≤ vs.length ∧ g = vs.length - k ∧ i = .int .i64 k ∧ Below w.heap.size w wr)
  case atStart => exact ⟨0, Nat.zero_le _, rfl, rfl, Below.refl _ _⟩
  case round =>
    obtain ⟨k, hk, hgk, rfl, hb⟩ := hrel
    have Hgk := Lib.hid hgk; clear hgk
    have Hb := Lib.hid hb
    by_cases hlt : k < vs.length
    · obtain ⟨y, b, off, hy, rfl, hbb, hcell⟩ := ln_at Hr.out hlt
      obtain ⟨g0, g1, g2⟩ := hcell wr hb
      have hn := H0.out y (List.mem_of_getElem? hy)
      obtain ⟨wt, df, A', n', cap'⟩ := y
      simp only at hn g0 g1 g2
      subst hn
      have hki : (k : Int) < (vs.length : Int) := by omega
      have hbw : b < wr.heap.size := by have := hb.size; omega
      clear hcell hy hb
      go_wp2_with fail
      refine (waitsB_any wr wt df A' 0 cap' false (.inl ⟨rfl, rfl⟩)).mono ?_
      rintro e V ⟨rfl, hbV⟩
      have HV := Lib.hid (bnext Hb.out hbV)
      clear hbV g0 g1 g2
      go_wp2_with fail
      go_roundg (vs.length - (k + 1))
      case measure => have := Hgk.out; omega
      case rel => exact ⟨k + 1, by omega, rfl, by go_num, HV.out⟩
    · obtain rfl : k = vs.length := by omega
      clear hb
      go_wp2_with fail
      go_ret
      exact ⟨rfl, Hb.out⟩
set_option maxHeartbeats 2000000 in
theorem indexLn_yes (w : World) (A : Option Addr) (cap : Nat) (vs : List Ln) (m : Nat) (y0 : Ln) (h6 : vs.length ≤ 6) (hr : Rt Ln.cells 3 140 w A vs) (h0 : ∀ j y, j < m → vs[j]? = some y → y.n = 0) (hm : vs[m]? = some y0) (h1 : y0.n = 1) :
    Calls Tryz.prog 100 #[.slice A vs.length cap, .func (Fn.func 71) #[] #[]] w fun e w' => e = .returned (.int .i64 m) ∧ Below w.heap.size w w' := by
  have hml := (List.getElem?_eq_some_iff.1 hm).1
  have Hr := Lib.hid hr; have H0 := Lib.hid h0; have HM := Lib.hid hm; have H1 := Lib.hid h1
  clear hr h0 hm h1
  go_enter Tryz.func100, Tryz.ntmps100
  go_wp2_with fail
  go_loopg [8] m (fun g i wr => ∃ k : Nat, k ≤ m ∧ g = m - k ∧ i = .int .i64 k ∧ Below w.heap.size w wr)
  case atStart => exact ⟨0, Nat.zero_le _, rfl, rfl, Below.refl _ _⟩
  case round =>
    obtain ⟨k, hk, hgk, rfl, hb⟩ := hrel
    have Hgk := Lib.hid hgk; clear hgk
    have Hb := Lib.hid hb
    obtain ⟨y, b, off, hy, rfl, hbb, hcell⟩ := ln_at Hr.out (k := k) (by omega)
    obtain ⟨g0, g1, g2⟩ := hcell wr hb
    have hki : (k : Int) < (vs.length : Int) := by omega
    have hbw : b < wr.heap.size := by have := hb.size; omega
    by_cases hlt : k < m
    · have hn := H0.out k y hlt hy
      obtain ⟨wt, df, A', n', cap'⟩ := y
      simp only at hn g0 g1 g2
      subst hn
      clear hcell hy hb
      go_wp2_with fail
      refine (waitsB_any wr wt df A' 0 cap' false (.inl ⟨rfl, rfl⟩)).mono ?_
      rintro e V ⟨rfl, hbV⟩
      have HV := Lib.hid (bnext Hb.out hbV)
      clear hbV g0 g1 g2
      go_wp2_with fail
      go_roundg (m - (k + 1))
      case measure => have := Hgk.out; omega
      case rel => exact ⟨k + 1, by omega, rfl, by go_num, HV.out⟩
    · obtain rfl : k = m := by omega
      have hn : y.n = 1 := by
        have := HM.out
        rw [hy] at this
        injection this with this
        rw [this]
        exact H1.out
      obtain ⟨wt, df, A', n', cap'⟩ := y
      simp only at hn g0 g1 g2
      subst hn
      clear hcell hy hb
      go_wp2_with fail
      refine (waitsB_any wr wt df A' 1 cap' true (.inr ⟨rfl, rfl⟩)).mono ?_
      rintro e V ⟨rfl, hbV⟩
      have HV := Lib.hid (bnext Hb.out hbV)
      clear hbV g0 g1 g2
      go_wp2_with fail
      go_ret
      exact ⟨rfl, HV.out⟩
set_option maxHeartbeats 1000000 in
theorem containsLn_no (w : World) (A : Option Addr) (cap : Nat) (vs : List Ln) (h6 : vs.length ≤ 6) (hr : Rt Ln.cells 3 140 w A vs) (h0 : ∀ y ∈ vs, y.n = 0) :
    Calls Tryz.prog 70 #[.slice A vs.length cap, .func (Fn.func 71) #[] #[]] w fun e w' => e = .returned (.bool false) ∧ Below w.heap.size w w' := by
  have Hd := Lib.hid (indexLn_no w A cap vs h6 hr h0)
  clear hr h0
  go_enter Tryz.func70, Tryz.ntmps70
  go_wp2_with fail
  refine Hd.out.mono ?_
  rintro e V ⟨rfl, hb⟩
  go_wp2_with fail
  go_ret
  exact ⟨rfl, hb⟩
set_option maxHeartbeats 1000000 in
theorem containsLn_yes (w : World) (A : Option Addr) (cap : Nat) (vs : List Ln) (m : Nat) (y0 : Ln) (h6 : vs.length ≤ 6) (hr : Rt Ln.cells 3 140 w A vs) (h0 : ∀ j y, j < m → vs[j]? = some y → y.n = 0) (hm : vs[m]? = some y0) (h1 : y0.n = 1) :
    Calls Tryz.prog 70 #[.slice A vs.length cap, .func (Fn.func 71) #[] #[]] w fun e w' => e = .returned (.bool true) ∧ Below w.heap.size w w' := by
  have Hd := Lib.hid (indexLn_yes w A cap vs m y0 h6 hr h0 hm h1)
  clear hr h0 hm h1
  go_enter Tryz.func70, Tryz.ntmps70
  go_wp2_with fail
  refine Hd.out.mono ?_
  rintro e V ⟨rfl, hb⟩
  go_wp2_with fail
  go_ret
  exact ⟨rfl, hb⟩
set_option maxHeartbeats 1000000 in
theorem waits_no (w : World) (v : Value) (c at_ : Int) (given : Bool) (vs : List Ln) (h6 : vs.length ≤ 6) (hm : MLn w v c vs) (h0 : ∀ y ∈ vs, y.n = 0) :
    Calls Tryz.prog 44 #[.agg #[v, .int .i64 at_, .bool given]] w fun e w' => e = .returned (.bool false) ∧ Below w.heap.size w w' := by
  obtain ⟨A, ac, rfl, a1, a2⟩ := hm.len
  have hbW : Below w.heap.size w (w.alloc (.cells #[.slice A vs.length ac, .int .i64 at_, .bool given] 33)) := (Below.refl _ _).alloc (Nat.le_refl _) _
  have Hd := Lib.hid (containsLn_no _ A ac vs h6 (hm.1.rt.up hbW) h0)
  have HbW := Lib.hid hbW
  clear hm h0 hbW
  go_enter Tryz.func44, Tryz.ntmps44
  go_wp2_with fail
  refine Hd.out.mono ?_
  rintro e V ⟨rfl, hb⟩
  have Hb := Lib.hid (bnext HbW.out hb)
  clear hb
  go_wp2_with fail
  go_ret
  exact ⟨rfl, Hb.out⟩
set_option maxHeartbeats 1000000 in
theorem waits_yes (w : World) (v : Value) (c at_ : Int) (given : Bool) (vs : List Ln) (m : Nat) (y0 : Ln) (h6 : vs.length ≤ 6) (hmm : MLn w v c vs) (h0 : ∀ j y, j < m → vs[j]? = some y → y.n = 0) (hm : vs[m]? = some y0) (h1 : y0.n = 1) :
    Calls Tryz.prog 44 #[.agg #[v, .int .i64 at_, .bool given]] w fun e w' => e = .returned (.bool true) ∧ Below w.heap.size w w' := by
  obtain ⟨A, ac, rfl, a1, a2⟩ := hmm.len
  have hbW : Below w.heap.size w (w.alloc (.cells #[.slice A vs.length ac, .int .i64 at_, .bool given] 33)) := (Below.refl _ _).alloc (Nat.le_refl _) _
  have Hd := Lib.hid (containsLn_yes _ A ac vs m y0 h6 (hmm.1.rt.up hbW) h0 hm h1)
  have HbW := Lib.hid hbW
  clear hmm h0 hm h1 hbW
  go_enter Tryz.func44, Tryz.ntmps44
  go_wp2_with fail
  refine Hd.out.mono ?_
  rintro e V ⟨rfl, hb⟩
  have Hb := Lib.hid (bnext HbW.out hb)
  clear hb
  go_wp2_with fail
  go_ret
  exact ⟨rfl, Hb.out⟩
end Go.Proofs.YthiblfkmcdnalaaGreat

namespace Go.Proofs.YthiblfkmcdnalaaGreat
set_option maxRecDepth 1000000
open Go.RowKit
set_option maxRecDepth 1000000

/-- a new lane -/
def mkLn (x : Int) : Ln := ⟨x, 0, none, 0, 0⟩
/-- the first k weights are laid -/
def lanK (ws : List Int) (k : Nat) : List Ln := (List.range ws.length).map fun j => if j < k then mkLn (ws.getD j 0) else mkLn 0
theorem lanK_len (ws : List Int) (k : Nat) : (lanK ws k).length = ws.length := by simp [lanK]
theorem lanK_all (ws : List Int) : lanK ws ws.length = ws.map mkLn := by
  apply List.ext_getElem
  · simp [lanK]
  · intro j h1 h2
    have h3 : j < ws.length := by simpa [lanK] using h1
    simp [lanK, h3]
theorem lanK_set {ws : List Int} {k : Nat} {x : Int} (h : ws[k]? = some x) : (lanK ws k).set k (mkLn x) = lanK ws (k + 1) := by
  have hk := (List.getElem?_eq_some_iff.1 h).1
  apply List.ext_getElem
  · simp [lanK]
  · intro j h1 h2
    rw [List.getElem_set]
    simp only [lanK, List.getElem_map, List.getElem_range]
    by_cases hj : k = j
    · subst hj
      simp [List.getD, h]
    · rw [if_neg hj]
      by_cases h5 : j < k
      · rw [if_pos h5, if_pos (by omega)]
      · rw [if_neg h5, if_neg (by omega)]
theorem flat_set3 (x : Int) : ∀ (l : List Ln) (k : Nat) (y : Ln), l[k]? = some y → (l.flatMap Ln.cells).set (k * 3) (.int .i64 x) = (l.set k { y with weight := x }).flatMap Ln.cells
  | [], _, _, h => by simp at h
  | z :: l, 0, y, h => by
    obtain rfl : z = y := by simpa using h
    rfl
  | z :: l, k + 1, y, h => by
    have ih := flat_set3 x l k y (by simpa using h)
    rw [List.set_cons_succ, List.flatMap_cons, List.flatMap_cons, ← ih, show (k + 1) * 3 = k * 3 + z.cells.length from by rw [ln_len]; omega, List.set_append_right _ _ (by omega), show k * 3 + z.cells.length - z.cells.length = k * 3 from by omega]
theorem made_lanes (n : Nat) : (madeCells #[.int .i64 0, .int .i64 0, .slice none 0 0] (n * 3)).toList = (List.replicate n (mkLn 0)).flatMap Ln.cells := by
  apply List.ext_getElem?
  intro j
  by_cases hj : j < n * 3
  · have h1 : ((List.replicate n (mkLn 0)).flatMap Ln.cells)[j]? = (mkLn 0).cells[j % 3]? := by
      have hd : j / 3 < n := by omega
      have hm : j % 3 < 3 := Nat.mod_lt _ (by omega)
      have key : ∀ (l : List Ln) (q r : Nat) (y : Ln), l[q]? = some y → r < 3 → (l.flatMap Ln.cells)[q * 3 + r]? = y.cells[r]? := by
        intro l
        induction l with
        | nil => intro q r y h; simp at h
        | cons z l ih =>
          intro q r y h hr
          cases q with
          | zero =>
            obtain rfl : z = y := by simpa using h
            rw [List.flatMap_cons, List.getElem?_append_left (by rw [ln_len]; omega)]
            simp
          | succ q =>
            rw [List.flatMap_cons, List.getElem?_append_right (by rw [ln_len]; omega), ln_len, show (q + 1) * 3 + r - 3 = q * 3 + r from by omega]
            exact ih q r y (by simpa using h) hr
      have := key (List.replicate n (mkLn 0)) (j / 3) (j % 3) (mkLn 0) (by simp [hd]) hm
      rwa [show j / 3 * 3 + j % 3 = j from by omega] at this
    rw [h1]
    have h3 : j % 3 = 0 ∨ j % 3 = 1 ∨ j % 3 = 2 := by omega
    rcases h3 with h | h | h <;> simp [madeCells, hj, h, mkLn, Ln.cells]
  · rw [List.getElem?_eq_none (by simp [madeCells]; omega), List.getElem?_eq_none (by rw [flat_len ln_len]; simp; omega)]

set_option maxHeartbeats 4000000 in
theorem lanNew_any (w : World) (A : Option Addr) (cap : Nat) (ws : List Int) (c : Int) (h1 : 1 ≤ ws.length) (h6 : ws.length ≤ 6) (hw : ∀ x ∈ ws, 1 ≤ x ∧ x ≤ 8) (hr : Rt icells 1 3 w A ws) :
    Calls Tryz.prog 15 #[.slice A ws.length cap] w fun e w' => ∃ v, e = .returned (.tuple #[.agg #[v, .int .i64 0, .bool false], .int .i64 0]) ∧ MLn w' v c (ws.map mkLn) ∧ Below w.heap.size w w' := by
  obtain ⟨i0, hi, hz0, hz1, hz2⟩ := info_parts Tryz.infLn
  have Hr := Lib.hid hr; have Hw := Lib.hid hw
  clear hr hw
  obtain ⟨n, hn⟩ : ∃ n, ws.length = n := ⟨_, rfl⟩
  rw [hn] at h1 h6 ⊢
  have Hn := Lib.hid hn
  clear hn
  go_enter Tryz.func15, Tryz.ntmps15
  go_wp2_with (at_make; refine wpList_make_full _ rfl _ _ 31 rfl (w.heap.size + 1) 140 i0 (.agg #[.int .i64 0, .int .i64 0, .slice none 0 0]) 3 Tryz.underlying31 hi hz0 hz1 .i64 .i64 _ _ n rfl rfl rfl rfl (by rw [hz2]; omega) (by unfold maxLen; omega) (by simp) ?_)
  intro W ho hg
  try simp only [World.size_alloc] at ho
  rw [made_lanes] at ho
  have hbW : Below w.heap.size w W := ((Below.refl _ w).alloc (Nat.le_refl _) (.cells #[.slice none 0 0, .int .i64 0, .bool false] 33)).grown hg (by simp) (by simp)
  have B0 : Bx w.heap.size 33 #[.slice none 0 0, .int .i64 0, .bool false] W := (hg.block _ (by simp) (by simp)).trans (Bx.new w _ _)
  have hl0 : List.replicate n (mkLn 0) = lanK ws 0 := by
    apply List.ext_getElem
    · simp [lanK, Hn.out]
    · intro j q1 q2; simp [lanK]
  rw [hl0] at ho
  have Ho := Lib.hid ho
  have HbW := Lib.hid hbW
  have hsW : w.heap.size + 1 ≤ W.heap.size := B0.lt
  clear hi hz0 hz1 hz2 ho hg hbW hl0
  go_wp2_with fail
  go_loopg [21] n (fun g i wr => ∃ k : Nat, k ≤ n ∧ g = n - k ∧ i = .int .i64 k ∧ wr.ownsRow (w.heap.size + 1) 140 3 (.slice (some ⟨w.heap.size + 1, 0, none⟩) n n) n ((lanK ws k).flatMap Ln.cells) ∧ Below (w.heap.size + 1) W wr)
  case atStart => exact ⟨0, Nat.zero_le _, rfl, rfl, Ho.out, Below.refl _ _⟩
  case round =>
    obtain ⟨k, hk, hgk, rfl, ho, hb⟩ := hrel
    have Hgk := Lib.hid hgk; clear hgk
    have Hb := Lib.hid hb; clear hb
    by_cases hlt : k < n
    · obtain ⟨x, b, off, hx, rfl, hbb, hcell⟩ := int_at Hr.out (k := k) (by rw [Hn.out]; exact hlt)
      obtain ⟨x1, x2⟩ := Hw.out x (List.mem_of_getElem? hx)
      have g0 := hcell wr (HbW.out.trans (Hb.out.mono (by omega)))
      have hbw : b < wr.heap.size := by have := Hb.out.size; omega
      have k2 := ho.frozenAt (k * 3)
      have hlk : (lanK ws k)[k]? = some (mkLn 0) := by
        have : k < ws.length := by rw [Hn.out]; exact hlt
        simp [lanK, this]
      have k1 : wr.cell? ⟨w.heap.size + 1, k * 3, none⟩ = some (.int .i64 0) := by
        rw [ho.cellAt (k * 3) (by omega)]
        have : ∀ (l : List Ln) (q : Nat) (y : Ln), l[q]? = some y → (l.flatMap Ln.cells)[q * 3]? = some (.int .i64 y.weight) := by
          intro l
          induction l with
          | nil => intro q y h; simp at h
          | cons z l ih =>
            intro q y h
            cases q with
            | zero =>
              obtain rfl : z = y := by simpa using h
              rfl
            | succ q =>
              rw [List.flatMap_cons, List.getElem?_append_right (by rw [ln_len]; omega), ln_len, show (q + 1) * 3 - 3 = q * 3 from by omega]
              exact ih q y (by simpa using h)
        exact this _ k _ hlk
      have ho3 := (ho.stored (k * 3) (.int .i64 x)).1
      rw [flat_set3 x _ k _ hlk] at ho3
      have hms : ({ mkLn 0 with weight := x } : Ln) = mkLn x := rfl
      rw [hms, lanK_set hx] at ho3
      have Ho3 := Lib.hid ho3
      have Hb3 := Lib.hid (show Below (w.heap.size + 1) W (wr.setCell ⟨w.heap.size + 1, k * 3, none⟩ (.int .i64 x)) from Hb.out.setCell (p := ⟨w.heap.size + 1, k * 3, none⟩) (Nat.le_refl _) _)
      have hkk : (k : Int) < (n : Int) := by omega
      clear ho ho3 hx hcell hlk hms
      go_wp2_with fail
      go_roundg (n - (k + 1))
      case measure => have := Hgk.out; omega
      case rel => exact ⟨k + 1, by omega, rfl, by go_num, Ho3.out, Hb3.out⟩
    · obtain rfl : k = n := by omega
      have Ho3 := Lib.hid ho
      clear ho
      have B1 := B0.upB Hb.out (by omega)
      obtain ⟨c00, c01, c02, f00, f01, f02, lt0⟩ := B1.c3
      go_wp2_with fail
      refine bodyPost_ret (v := .tuple #[.agg #[.slice (some ⟨w.heap.size + 1, 0, none⟩) k k, .int .i64 0, .bool false], .int .i64 0]) (by simp [results, Tryz.results15, go_sem, c00, c01, c02]) rfl ?_
      obtain ⟨U, hU, _, hkU, _, hbU⟩ := st_3_0_3 (.slice (some ⟨w.heap.size + 1, 0, none⟩) k k) (.int .i64 0) (.bool false) B1
      rw [hU]
      refine ⟨_, rfl, ⟨?_, ?_⟩, hbU _ _ (HbW.out.trans (Hb.out.mono (by omega))) (Nat.le_refl _)⟩
      · refine (Sl.of_own (base := w.heap.size + 1) (f := Ln.cells) (l := ws.map mkLn) (n := k) ?_ (by simp [Hn.out]) ln_len (by decide)).off B1 (by decide) hkU
        have := Ho3.out
        rw [← Hn.out, lanK_all] at this
        rw [← Hn.out]
        exact this
      · intro y hy
        obtain ⟨x, hx, rfl⟩ := List.mem_map.1 hy
        obtain ⟨x1, x2⟩ := Hw.out x hx
        exact ⟨x1, x2, rfl, by simp [mkLn], by simp [mkLn], by simp [mkLn], fun e => by simp [mkLn] at e⟩
end Go.Proofs.YthiblfkmcdnalaaGreat
