/- The contract of lockkeeperref11.more. -/
import Derived.Test.YthhfhgkkfaghoaaRef4
import Derived.Deep.DeepCutAuto
namespace Go.Proofs.Ythhfhgkkfaghoaa
open Go.RowKit

def moreF (who n : Int) (c : C) : C := if c.who = who then ⟨c.who, c.claim, c.held + n⟩ else c
def moreMap (l : List C) (who n : Int) : List C := l.map (moreF who n)
theorem moreMap_len (l : List C) (who n : Int) : (moreMap l who n).length = l.length := by simp [moreMap]
theorem moreMap_snoc {l : List C} {k : Nat} {c : C} (who n : Int) (h : l[k]? = some c) : (moreMap l who n).take (k + 1) = (moreMap l who n).take k ++ [moreF who n c] := by
  rw [moreMap, List.take_add_one, List.getElem?_map, h]; rfl
/-- a hall told -/
def HallDone (ok : Nat → Prop) (r : Hall) (w : World) (e : Ending) (w' : World) : Prop :=
  ∃ A ac Q qc, e = .returned (.agg #[.int .i64 r.frames, .int .i64 r.budget, .slice A r.cs.length ac, .slice Q r.q.length qc]) ∧
    HM w' (fun b => ok b ∨ (w.heap.size ≤ b ∧ b < w'.heap.size)) r A ac Q qc ∧ Below w.heap.size w w'
theorem hall_three (w : World) (A Q : Option Addr) (ac qc : Nat) (x : Hall) (t : TypeId) : ∃ W, W = ((w.alloc (.cells #[.int .i64 x.frames, .int .i64 x.budget, .slice A x.cs.length ac, .slice Q x.q.length qc] t)).alloc (.cells #[.int .i64 0, .int .i64 0, .slice none 0 0, .slice none 0 0] t)).alloc (.cells #[.int .i64 x.frames, .int .i64 x.budget, .slice none 0 0, .slice Q x.q.length qc] t) ∧
    Below w.heap.size w W ∧ W.heap.size = w.heap.size + 3 ∧ HB w.heap.size x A ac Q qc W ∧ ZB (w.heap.size + 1) W ∧ HB (w.heap.size + 1 + 1) ⟨x.frames, x.budget, [], x.q⟩ none 0 Q qc W := by
  obtain ⟨W2, h2, hb2, hs2, hB2, hZ2⟩ := hall_box2 w A Q ac qc x t
  refine ⟨_, rfl, ?_, by rw [← h2]; simp [hs2], ?_, ?_, ?_⟩
  · rw [← h2]; exact hb2.alloc hb2.size _
  · rw [← h2]; exact hB2.up ((Below.refl _ _).alloc (Nat.le_refl _) _) hB2.lt
  · rw [← h2]; exact hZ2.up ((Below.refl _ _).alloc (Nat.le_refl _) _) hZ2.lt
  · rw [← h2]; exact HB.of (t := t) (by rw [← hs2, heap_alloc_new]; rfl)

set_option maxRecDepth 20000 in
set_option maxHeartbeats 4000000 in
theorem refMore_any (w : World) (ok : Nat → Prop) (A Q : Option Addr) (ac qc : Nat) (x : Hall) (who n : Int) (hl : x.cs.length ≤ 1000) (hs : smallC x.cs) (hn1 : -1000 ≤ n) (hn2 : n ≤ 1000) (hok : ∀ b, ok b → b < w.heap.size) (hm : HM w ok x A ac Q qc) :
    Calls Try.prog 48 #[.agg #[.int .i64 x.frames, .int .i64 x.budget, .slice A x.cs.length ac, .slice Q x.q.length qc], .int .i64 who, .int .i64 n] w (HallDone ok { x with cs := moreMap x.cs who n } w) := by
  obtain ⟨W, hW, hbW, hsW, hB, hZ, hO⟩ := hall_three w A Q ac qc x 29
  have Hm := Lib.hid (hm.below hbW hok)
  have HmW := Lib.hid ((hm.below hbW hok).imp (ok' := fun b => b < W.heap.size) fun b hb => by have := hok b hb; omega)
  have Hok := Lib.hid hok
  have HbW := Lib.hid hbW
  have HB' := Lib.hid hB
  have HZ := Lib.hid hZ
  have HO := Lib.hid hO
  have Hs := Lib.hid hs
  have HW := Lib.hid hW.symm
  obtain ⟨i0, hi, hz0, hz1, hz2⟩ := info_parts Try.infoRef
  clear hW hbW hm hB hZ hO hok hs
  obtain ⟨c0, c1, c2, c3, _, _, _, _, lt⟩ := HB'.out
  obtain ⟨o0, o1, o2, o3, p0, p1, p2, p3, ltO⟩ := HO.out
  go_enter Try.func48, Try.ntmps48
  go_upto_region 2 with fail
  rw [HW.out]
  go_wp2_with fail
  go_loopg [8] x.cs.length (fun g i wr => ∃ (k : Nat) (O : Option Addr) (oc : Nat), k ≤ x.cs.length ∧ g = x.cs.length - k ∧ i = .int .i64 k ∧ HB (w.heap.size + 1 + 1) ⟨x.frames, x.budget, (moreMap x.cs who n).take k, x.q⟩ O oc Q qc wr ∧
     wr.ownsRow W.heap.size 65 3 (.slice O k oc) k (((moreMap x.cs who n).take k).flatMap C.cells) ∧ Below (w.heap.size + 2) W wr ∧ W.heap.size ≤ wr.heap.size)
  case atStart => exact ⟨0, none, 0, Nat.zero_le _, rfl, rfl, HO.out, World.ownsRow_nil _ _ _ _, Below.refl _ _, Nat.le_refl _⟩
  case round =>
    obtain ⟨k, O, oc, hk, hg, rfl, hO, hown, hb, hsr⟩ := hrel
    have Hg := Lib.hid hg; clear hg
    have Hb := Lib.hid hb; have Hown := Lib.hid hown; have HOr := Lib.hid hO
    have hlk : ((moreMap x.cs who n).take k).length = k := by rw [List.length_take, moreMap_len]; omega
    clear c0 c1 c2 c3 o0 o1 o2 o3 p0 p1 p2 p3 ltO
    obtain ⟨c0, c1, c2, c3, _, _, _, _, ltr⟩ := HB'.out.up hb (by omega)
    have hkr : ∀ b, b ≠ w.heap.size + 2 → b < W.heap.size → wr.heap[b]? = W.heap[b]? := fun b h1 h2 => hb.block b (by omega)
    have Hkr := Lib.hid hkr
    clear hkr
    by_cases hlt : k < x.cs.length
    · obtain ⟨c, b, off, hc, rfl, hbb, hcell⟩ := rd_c (Hm.out.rc.to (B := w.heap.size) fun b hb => Hok.out b hb) hlt
      obtain ⟨g0, g1, g2⟩ := hcell wr (hb.mono (by omega))
      have hki : (k : Int) < (x.cs.length : Int) := by omega
      have hbw : b < wr.heap.size := by omega
      have Hc := Lib.hid hc
      have h5 := Hs.out k c hc
      have ew : IntKind.i64.wrap (c.held + n) = c.held + n := IntWalk.i64_in _ (by omega)
      obtain ⟨M, hM⟩ : ∃ M, M = wr.heap.size := ⟨_, rfl⟩
      have HM := Lib.hid hM.symm
      clear hcell hc hb hown hO
      have HkV := Lib.hid (show ∀ V1 d, V1 = wr.alloc (.cells #[.int .i64 (d : C).who, .int .i64 d.claim, .int .i64 d.held] 65) → HB (w.heap.size + 1 + 1) ⟨x.frames, x.budget, (moreMap x.cs who n).take k, x.q⟩ O oc Q qc V1 ∧ V1.ownsRow W.heap.size 65 3 (.slice O k oc) k (((moreMap x.cs who n).take k).flatMap C.cells) ∧ V1.heap[M]? = some (.cells #[.int .i64 d.who, .int .i64 d.claim, .int .i64 d.held] 65 (0, 0)) ∧ Below (w.heap.size + 2) W V1 ∧ W.heap.size ≤ V1.heap.size from fun V1 d hV => by
        have hb1 : Below wr.heap.size wr V1 := by rw [hV]; exact (Below.refl _ _).alloc (Nat.le_refl _) _
        refine ⟨HOr.out.up hb1 HOr.out.lt, by rw [hV]; exact Hown.out.alloc _, by rw [hV, hM, heap_alloc_new], Hb.out.trans (hb1.mono (by omega)), by rw [hV]; simp; omega⟩)
      clear hM
      by_cases hw : c.who = who
      · have hwb : (c.who == who) = true := by simpa using hw
        obtain ⟨d, hd⟩ : ∃ d : C, d = moreF who n c := ⟨_, rfl⟩
        have hd2 : d = ⟨c.who, c.claim, c.held + n⟩ := by rw [hd, moreF, if_pos hw]
        obtain ⟨V1, hV1⟩ : ∃ V1, V1 = wr.alloc (.cells #[.int .i64 d.who, .int .i64 d.claim, .int .i64 d.held] 65) := ⟨_, rfl⟩
        obtain ⟨hv1, hv2, hv3, hv4, hv5⟩ := HkV.out V1 d hV1
        have HOV := Lib.hid hv1; have HownV := Lib.hid hv2; have HMV := Lib.hid hv3; have HbV := Lib.hid hv4; have HWV := Lib.hid hv5
        have Hd := Lib.hid hd
        rw [hd2] at hV1
        have HV1 := Lib.hid hV1.symm
        clear hw hV1 hd hv1 hv2 hv3 hv4 hv5 hd2
        go_upto_region 8 with fail
        rw [HV1.out, HM.out]
        have HsW := Lib.hid hsW
        clear c0 c1 c2 c3 ltr g0 g1 g2 hbw HV1 hsW
        obtain ⟨o0, o1, o2, o3, p0, p1, p2, p3, ltO⟩ := HOV.out
        simp only [hlk] at o0 o1 o2 o3
        have m0 : V1.cell? ⟨M, 0, none⟩ = some (.int .i64 d.who) := cells_of HMV.out 0
        have m1 : V1.cell? ⟨M, 1, none⟩ = some (.int .i64 d.claim) := cells_of HMV.out 1
        have m2 : V1.cell? ⟨M, 2, none⟩ = some (.int .i64 d.held) := cells_of HMV.out 2
        have mlt : M < V1.heap.size := (Array.getElem?_eq_some_iff.1 HMV.out).1
        go_wp2_with (at_builtin; refine wpList_append_own _ rfl (.tmp 39) (.tmp 41) 26 rfl W.heap.size 65 i0 (.agg #[.int .i64 0, .int .i64 0, .int .i64 0]) 3 24 Try.underlying26 hi hz0 hz1 hz2 rfl (by decide) _ _ _ rfl (HownV.out.alloc _) ⟨V1.heap.size, 0, none⟩ 1 1 [.int .i64 d.who, .int .i64 d.claim, .int .i64 d.held] rfl rfl ?_ ?_ ?_ ?_ ?_ ?_)
        · exact cells_new (cs := #[.int .i64 d.who, .int .i64 d.claim, .int .i64 d.held]) (by first | rfl | simp)
        · intro u hu; simp at hu; rcases hu with rfl | rfl | rfl <;> rfl
        · unfold maxLen; omega
        · omega
        · have := HWV.out; first | omega | (simp; omega)
        intro v' w5 hown5 hg5 _
        have hbX : Below W.heap.size V1 w5 := ((Below.refl _ _).alloc HWV.out _).grown hg5 (Nat.le_trans HWV.out (by simp)) (fun k hk => (HownV.out.lt k hk).1)
        obtain ⟨A', c', rfl, _, _⟩ := own_slice hown5
        have Hown5 := Lib.hid hown5; have HbX := Lib.hid hbX
        have hOV := HOV.out.up hbX (by have := HsW.out; omega)
        have HO5 := Lib.hid hOV
        clear o0 o1 o2 o3 p0 p1 p2 p3 ltO m0 m1 m2 mlt hown5 hg5 hbX
        obtain ⟨o0, o1, o2, o3, p0, p1, p2, p3, ltO⟩ := hOV
        go_wp2_with fail
        have hsW := HsW.out
        have hlk2 : ((moreMap x.cs who n).take (k + 1)).length = k + 1 := by rw [List.length_take, moreMap_len]; omega
        have hfin := HO5.out.set2 ((moreMap x.cs who n).take (k + 1)) A' c'
        rw [hlk2] at hfin
        have hne : (Value.slice A' (k + 1) c').ownBlock ≠ some (w.heap.size + 1 + 1) := fun e => by have := (Hown5.out.lt _ e).1; omega
        have hown6 := own_setCell (j := 2) Hown5.out hne (.slice A' (k + 1) c')
        have hb6 := (HbV.out.trans (HbX.out.mono (by omega))).setCell (p := ⟨w.heap.size + 1 + 1, 2, none⟩) (Nat.le_refl _) (.slice A' (k + 1) c')
        have hs6 : W.heap.size ≤ (w5.setCell ⟨w.heap.size + 1 + 1, 2, none⟩ (.slice A' (k + 1) c')).heap.size := by have := HbX.out.size; have := HWV.out; simp; omega
        have Hfin := Lib.hid hfin; have Hown6 := Lib.hid hown6; have Hb6 := Lib.hid hb6; have Hs6 := Lib.hid hs6
        clear hfin hne hown6 hb6 hs6 hsW
        go_roundg (x.cs.length - (k + 1))
        case measure => have := Hg.out; omega
        case rel =>
          refine ⟨k + 1, A', c', by omega, rfl, by go_num, Hfin.out, ?_, Hb6.out, Hs6.out⟩
          rw [moreMap_snoc who n Hc.out, ← Hd.out, List.flatMap_append]
          exact Hown6.out
      · have hwb : (c.who == who) = false := by simpa using hw
        obtain ⟨d, hd⟩ : ∃ d : C, d = moreF who n c := ⟨_, rfl⟩
        have hd2 : d = c := by rw [hd, moreF, if_neg hw]
        obtain ⟨V1, hV1⟩ : ∃ V1, V1 = wr.alloc (.cells #[.int .i64 d.who, .int .i64 d.claim, .int .i64 d.held] 65) := ⟨_, rfl⟩
        obtain ⟨hv1, hv2, hv3, hv4, hv5⟩ := HkV.out V1 d hV1
        have HOV := Lib.hid hv1; have HownV := Lib.hid hv2; have HMV := Lib.hid hv3; have HbV := Lib.hid hv4; have HWV := Lib.hid hv5
        have Hd := Lib.hid hd
        rw [hd2] at hV1
        have HV1 := Lib.hid hV1.symm
        clear hw hV1 hd hv1 hv2 hv3 hv4 hv5 hd2
        go_upto_region 8 with fail
        rw [HV1.out, HM.out]
        have HsW := Lib.hid hsW
        clear c0 c1 c2 c3 ltr g0 g1 g2 hbw HV1 hsW
        obtain ⟨o0, o1, o2, o3, p0, p1, p2, p3, ltO⟩ := HOV.out
        simp only [hlk] at o0 o1 o2 o3
        have m0 : V1.cell? ⟨M, 0, none⟩ = some (.int .i64 d.who) := cells_of HMV.out 0
        have m1 : V1.cell? ⟨M, 1, none⟩ = some (.int .i64 d.claim) := cells_of HMV.out 1
        have m2 : V1.cell? ⟨M, 2, none⟩ = some (.int .i64 d.held) := cells_of HMV.out 2
        have mlt : M < V1.heap.size := (Array.getElem?_eq_some_iff.1 HMV.out).1
        go_wp2_with (at_builtin; refine wpList_append_own _ rfl (.tmp 39) (.tmp 41) 26 rfl W.heap.size 65 i0 (.agg #[.int .i64 0, .int .i64 0, .int .i64 0]) 3 24 Try.underlying26 hi hz0 hz1 hz2 rfl (by decide) _ _ _ rfl (HownV.out.alloc _) ⟨V1.heap.size, 0, none⟩ 1 1 [.int .i64 d.who, .int .i64 d.claim, .int .i64 d.held] rfl rfl ?_ ?_ ?_ ?_ ?_ ?_)
        · exact cells_new (cs := #[.int .i64 d.who, .int .i64 d.claim, .int .i64 d.held]) (by first | rfl | simp)
        · intro u hu; simp at hu; rcases hu with rfl | rfl | rfl <;> rfl
        · unfold maxLen; omega
        · omega
        · have := HWV.out; first | omega | (simp; omega)
        intro v' w5 hown5 hg5 _
        have hbX : Below W.heap.size V1 w5 := ((Below.refl _ _).alloc HWV.out _).grown hg5 (Nat.le_trans HWV.out (by simp)) (fun k hk => (HownV.out.lt k hk).1)
        obtain ⟨A', c', rfl, _, _⟩ := own_slice hown5
        have Hown5 := Lib.hid hown5; have HbX := Lib.hid hbX
        have hOV := HOV.out.up hbX (by have := HsW.out; omega)
        have HO5 := Lib.hid hOV
        clear o0 o1 o2 o3 p0 p1 p2 p3 ltO m0 m1 m2 mlt hown5 hg5 hbX
        obtain ⟨o0, o1, o2, o3, p0, p1, p2, p3, ltO⟩ := hOV
        go_wp2_with fail
        have hsW := HsW.out
        have hlk2 : ((moreMap x.cs who n).take (k + 1)).length = k + 1 := by rw [List.length_take, moreMap_len]; omega
        have hfin := HO5.out.set2 ((moreMap x.cs who n).take (k + 1)) A' c'
        rw [hlk2] at hfin
        have hne : (Value.slice A' (k + 1) c').ownBlock ≠ some (w.heap.size + 1 + 1) := fun e => by have := (Hown5.out.lt _ e).1; omega
        have hown6 := own_setCell (j := 2) Hown5.out hne (.slice A' (k + 1) c')
        have hb6 := (HbV.out.trans (HbX.out.mono (by omega))).setCell (p := ⟨w.heap.size + 1 + 1, 2, none⟩) (Nat.le_refl _) (.slice A' (k + 1) c')
        have hs6 : W.heap.size ≤ (w5.setCell ⟨w.heap.size + 1 + 1, 2, none⟩ (.slice A' (k + 1) c')).heap.size := by have := HbX.out.size; have := HWV.out; simp; omega
        have Hfin := Lib.hid hfin; have Hown6 := Lib.hid hown6; have Hb6 := Lib.hid hb6; have Hs6 := Lib.hid hs6
        clear hfin hne hown6 hb6 hs6 hsW
        go_roundg (x.cs.length - (k + 1))
        case measure => have := Hg.out; omega
        case rel =>
          refine ⟨k + 1, A', c', by omega, rfl, by go_num, Hfin.out, ?_, Hb6.out, Hs6.out⟩
          rw [moreMap_snoc who n Hc.out, ← Hd.out, List.flatMap_append]
          exact Hown6.out
    · obtain rfl : k = x.cs.length := by omega
      have etk : (moreMap x.cs who n).take x.cs.length = moreMap x.cs who n := List.take_of_length_le (by rw [moreMap_len]; omega)
      rw [etk] at hown hO
      obtain ⟨hc1, hc2⟩ := own_cap hown
      obtain ⟨y, hy⟩ : ∃ y : Hall, y = { x with cs := moreMap x.cs who n } := ⟨_, rfl⟩
      have hyl : y.cs.length = x.cs.length := by rw [hy]; exact moreMap_len _ _ _
      have hO' : HB (w.heap.size + 1 + 1) y O oc Q qc wr := by rw [hy]; exact hO
      obtain ⟨o0, o1, o2, o3, p0, p1, p2, p3, ltO⟩ := hO'
      have HZr := Lib.hid (show ZB (w.heap.size + 1) wr from HZ.out.up hb (by omega))
      obtain ⟨z0, z1, z2, z3, k0, k1, k2, k3, ltZ⟩ := HZr.out
      have hfin : HallDone ok y w (.returned (.agg #[.int .i64 y.frames, .int .i64 y.budget, .slice O y.cs.length oc, .slice Q y.q.length qc])) (fill4 wr (w.heap.size + 1) y O oc Q qc) := by
        have hrc : Rd' C.cells 3 wr (fun b => W.heap.size ≤ b ∧ b < wr.heap.size) O y.cs := by rw [hy]; exact Rd'.of_own hown c_len (by decide)
        have hrq : Rd' T.cells 2 wr ok Q y.q := by rw [hy]; exact Hm.out.rq.keep fun b hb' => hb.block b (by have := Hok.out b hb'; omega)
        refine ⟨O, oc, Q, qc, rfl, ⟨(hrc.keep fun b hb' => fill4_keep (by omega)).imp fun b hb' => .inr ⟨by omega, by rw [fill4_size]; exact hb'.2⟩, (hrq.keep fun b hb' => fill4_keep (by have := Hok.out b hb'; omega)).imp fun b hb' => .inl hb', by rw [hyl]; exact hc1, hc2, by rw [hy]; exact Hm.out.qa, Hm.out.qa2⟩, fill4_below (HbW.out.trans (hb.mono (by omega))) (by omega)⟩
      have Hfin := Lib.hid hfin; have Hy := Lib.hid hy; have Hyl := Lib.hid hyl
      clear hfin hown hO hb hc1 hc2 hy hyl etk
      go_wp2_with fail
      have hbx : HB (w.heap.size + 1) y O oc Q qc (fill4 wr (w.heap.size + 1) y O oc Q qc) := HZr.out.hb.fill
      unfold fill4 at hbx
      obtain ⟨y0, y1, y2, y3, _, _, _, _, _⟩ := hbx
      refine bodyPost_ret (v := .agg #[.int .i64 y.frames, .int .i64 y.budget, .slice O y.cs.length oc, .slice Q y.q.length qc]) (by simp [results, Try.results48, go_sem, y0, y1, y2, y3]) rfl ?_
      rw [← Hy.out]
      have hd := Hfin.out
      unfold fill4 at hd
      exact hd
end Go.Proofs.Ythhfhgkkfaghoaa
