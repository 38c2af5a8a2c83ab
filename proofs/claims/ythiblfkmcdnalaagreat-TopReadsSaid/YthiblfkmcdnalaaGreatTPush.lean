/- The contract of lanes.Push at lanes in which nothing waits. Printed by gen_push.py. -/
import Derived.Test.YthiblfkmcdnalaaGreatTLan2
namespace Go.Proofs.YthiblfkmcdnalaaGreat
set_option maxRecDepth 1000000
open Go.RowKit
set_option maxRecDepth 1000000

theorem flat_set5 (A : Option Addr) (n cap : Nat) : ∀ (l : List Ln) (k : Nat) (y : Ln), l[k]? = some y → (l.flatMap Ln.cells).set (k * 3 + 2) (.slice A n cap) = (l.set k { y with A := A, n := n, cap := cap }).flatMap Ln.cells
  | [], _, _, h => by simp at h
  | z :: l, 0, y, h => by
    obtain rfl : z = y := by simpa using h
    rfl
  | z :: l, k + 1, y, h => by
    have ih := flat_set5 A n cap l k y (by simpa using h)
    rw [List.set_cons_succ, List.flatMap_cons, List.flatMap_cons, ← ih, show (k + 1) * 3 + 2 = k * 3 + 2 + z.cells.length from by rw [ln_len]; omega, List.set_append_right _ _ (by omega), show k * 3 + 2 + z.cells.length - z.cells.length = k * 3 + 2 from by omega]
theorem flat_at : ∀ (l : List Ln) (q r : Nat) (y : Ln), l[q]? = some y → r < 3 → (l.flatMap Ln.cells)[q * 3 + r]? = y.cells[r]?
  | [], _, _, _, h, _ => by simp at h
  | z :: l, 0, r, y, h, hr => by
    obtain rfl : z = y := by simpa using h
    rw [List.flatMap_cons, List.getElem?_append_left (by rw [ln_len]; omega)]
    simp
  | z :: l, q + 1, r, y, h, hr => by
    rw [List.flatMap_cons, List.getElem?_append_right (by rw [ln_len]; omega), ln_len, show (q + 1) * 3 + r - 3 = q * 3 + r from by omega]
    exact flat_at l q r y (by simpa using h) hr

set_option maxHeartbeats 8000000 in
theorem push_any (w : World) (v : Value) (c at_ cost : Int) (given : Bool) (vs : List Ln) (k : Nat) (y : Ln) (hc : 1 ≤ c ∧ c ≤ 8) (hcost : 1 ≤ cost ∧ cost ≤ 8) (h1 : 1 ≤ vs.length) (h6 : vs.length ≤ 6) (ha : 0 ≤ at_ ∧ at_ < vs.length) (hm : MLn w v c vs) (h0 : ∀ x ∈ vs, x.n = 0) (hk : vs[k]? = some y) :
    Calls Tryz.prog 18 #[.agg #[v, .int .i64 at_, .bool given], .int .i64 k, .int .i64 cost] w fun e w' => ∃ v' A' cap', e = .returned (.tuple #[.agg #[v', .int .i64 at_, .bool given], .int .i64 0]) ∧ MLn w' v' cost (vs.set k { y with A := A', n := 1, cap := cap' }) ∧ Below w.heap.size w w' := by
  obtain ⟨A, ac, rfl, a1, a2⟩ := hm.len
  have hkl := (List.getElem?_eq_some_iff.1 hk).1
  obtain ⟨W, hW, hbW, hsW, B0, B1⟩ := box2 w #[.slice A vs.length ac, .int .i64 at_, .bool given] 33 #[.slice none 0 0, .int .i64 0, .bool false] 33
  have hGy := hm.2 y (List.mem_of_getElem? hk)
  have hy0 := h0 y (List.mem_of_getElem? hk)
  obtain ⟨wt, df, LA, n', lcp⟩ := y
  simp only at hy0
  subst hy0
  have HGy := Lib.hid hGy
  have Hm := Lib.hid hm; have Hc := Lib.hid hc; have Ha := Lib.hid ha; have H0 := Lib.hid h0; have Hk := Lib.hid hk
  have HbW := Lib.hid hbW
  have hsW' := bsz hsW
  obtain ⟨hc1, hc2⟩ := hcost
  have hkk : (k : Int) < (vs.length : Int) := by omega
  obtain ⟨x, b, off, hx, rfl, hbb, hcell⟩ := ln_at hm.1.rt hkl
  obtain rfl := (Option.some.inj (hk.symm.trans hx))
  have Hcell := Lib.hid hcell
  clear hm hbW hsW hc ha h0 hk hGy hcell hx
  obtain ⟨c00, c01, c02, f00, f01, f02, lt0⟩ := B0.c3
  obtain ⟨c10, c11, c12, f10, f11, f12, lt1⟩ := B1.c3
  go_enter Tryz.func18, Tryz.ntmps18
  go_wp2_with fail
  refine (lanRight_any W _ c at_ given vs Hc.out h1 h6 Ha.out (Hm.out.up HbW.out)).mono ?_
  rintro e V1 ⟨rfl, hb_V1⟩
  clear c00 c01 c02 f00 f01 f02 lt0 c10 c11 c12 f10 f11 f12 lt1 hW
  replace B0 := B0.up hb_V1
  replace B1 := B1.up hb_V1
  have Hb1 := Lib.hid (HbW.out.trans (hb_V1.mono hsW'))
  have hs_V1 := hb_V1.size
  clear hb_V1
  obtain ⟨c00, c01, c02, f00, f01, f02, lt0⟩ := B0.c3
  obtain ⟨c10, c11, c12, f10, f11, f12, lt1⟩ := B1.c3
  obtain ⟨_, _, g2⟩ := Hcell.out V1 Hb1.out
  try simp only at g2
  have hbV1 : b < V1.heap.size := by have := Hb1.out.size; omega
  go_wp2_with fail
  refine (clone_Ln Ln.cells ln_len ln_one V1 (some ⟨b, off, none⟩) ac vs (by omega) (Hm.out.1.rt.up Hb1.out)).mono ?_
  rintro e V2 ⟨L, lc, rfl, hoL, hb2⟩
  clear g2 hbV1 c00 c01 c02 f00 f01 f02 lt0 c10 c11 c12 f10 f11 f12 lt1
  have ltM := B1.lt
  replace B0 := B0.up hb2; replace B1 := B1.up hb2
  have Hb2 := Lib.hid (Hb1.out.trans (hb2.mono Hb1.out.size))
  obtain ⟨G, lc', hG, hGb, _, _⟩ := own_addr hoL (by omega)
  injection hG with hG1 _ hG2
  subst hG1
  subst hG2
  have HoL := Lib.hid (own_base hoL (show w.heap.size + 1 + 1 ≤ V1.heap.size from ltM))
  have hGM : w.heap.size + 1 + 1 ≤ G := by omega
  clear hoL hb2
  obtain ⟨c00, c01, c02, f00, f01, f02, lt0⟩ := B0.c3
  obtain ⟨c10, c11, c12, f10, f11, f12, lt1⟩ := B1.c3
  go_upto_region 6 with fail
  obtain ⟨V3, hV3, B0', hk3, hs3, hb3⟩ := st_3_0_1 (.slice (some ⟨G, 0, none⟩) vs.length lc) B0
  try rw [hV3]
  replace B1 := B1.keep (hk3 _ (by omega))
  have hoL3 : V3.ownsRow (w.heap.size + 1 + 1) 140 3 (.slice (some ⟨G, 0, none⟩) vs.length lc) vs.length (vs.flatMap Ln.cells) := by
    rw [← hV3]
    exact own_setCell (j := 0) HoL.out (by simp [Value.ownBlock]; omega) _
  have Hb3 := Lib.hid (hb3 _ _ Hb2.out (Nat.le_refl _))
  have gG : V3.cell? ⟨G, k * 3 + 2, none⟩ = some (.slice LA 0 lcp) := by
    rw [hoL3.cellAt (k * 3 + 2) (by omega), flat_at _ _ _ _ Hk.out (by omega)]
    rfl
  have ltG : G < V3.heap.size := (hoL3.lt G rfl).2
  have HoL3 := Lib.hid hoL3
  clear hV3 hk3 hs3 hb3 B0 HoL hoL3 c00 c01 c02 f00 f01 f02 lt0 c10 c11 c12 f10 f11 f12 lt1
  have B0 := B0'
  clear B0'
  obtain ⟨c00, c01, c02, f00, f01, f02, lt0⟩ := B0.c3
  obtain ⟨c10, c11, c12, f10, f11, f12, lt1⟩ := B1.c3
  refine wp_region_S 13 (fun U => ∃ y : BW V3, U = y.w) (by kernel_rfl) rfl rfl ?_
  have n_c00 := bw_cell c00 lt0
  have n_gG := bw_cell gG ltG
  have HC : Hid (∃ y : BW V3, V3.drew = y.w) := Lib.hid ⟨⟨_, (Below.refl _ _).drew⟩, rfl⟩
  clear c00 c01 c02 f00 f01 f02 c10 c11 c12 f10 f11 f12
  refine pureS 0 rfl (by kernel_rfl) rfl (fun _ _ _ _ _ h => h) HC.out ?_
  go_big_quiet_step (fail)
  refine wpQuiet_nil ?_
  refine pureS 1 rfl (by kernel_rfl) rfl (fun _ _ _ _ _ h => h) HC.out ?_
  go_big_quiet_step (fail)
  refine wpQuiet_nil ?_
  refine pureS 2 rfl (by kernel_rfl) rfl (fun _ _ _ _ _ h => h) HC.out ?_
  go_big_quiet_step (fail)
  refine wpQuiet_nil ?_
  refine pureS 3 rfl (by kernel_rfl) rfl (fun _ _ _ _ _ h => h) HC.out ?_
  go_big_quiet_step (fail)
  refine wpQuiet_nil ?_
  refine pureS 4 rfl (by kernel_rfl) rfl (fun _ _ _ _ _ h => h) HC.out ?_
  go_big_quiet_step (fail)
  refine wpQuiet_nil ?_
  refine pureS 5 rfl (by kernel_rfl) rfl (fun _ _ _ _ _ h => h) HC.out ?_
  go_big_quiet_step (fail)
  refine wpQuiet_nil ?_
  refine pureS 6 rfl (by kernel_rfl) rfl (fun _ _ _ _ _ h => h) HC.out ?_
  go_big_quiet_step (fail)
  refine wpQuiet_nil ?_
  refine pureS 7 rfl (by kernel_rfl) rfl (fun _ _ _ _ _ h => h) HC.out ?_
  go_big_quiet_step (fail)
  refine wpQuiet_nil ?_
  refine pureS 8 rfl (by kernel_rfl) rfl (fun _ _ _ _ _ h => h) HC.out ?_
  go_big_quiet_step (fail)
  refine wpQuiet_nil ?_
  refine pureS 10 rfl (by kernel_rfl) rfl (fun _ _ _ _ _ h => h) HC.out ?_
  go_big_quiet_step (fail)
  refine wpQuiet_nil ?_
  refine thS2 (n := 2) [9] [11] (fun p U => ∃ A' c', p = [(some 53, .slice A' 0 c')] ∧ U.ownsRow V3.heap.size 3 1 (.slice A' 0 c') 0 ((([] : List Int)).flatMap icells))
    (fun p U => ∃ g, p = [(some 55, .slice (some ⟨g, 0, none⟩) 1 1)] ∧ Bx g 3 #[.int .i64 cost] U) rfl rfl (by kernel_rfl) rfl rfl (by kernel_rfl) (by rintro _ w' ⟨y, rfl⟩ hb; exact ⟨⟨w', y.below.trans (hb.mono y.below.size)⟩, rfl⟩) HC.out (Rob_one ?_ ?_) (Rob_one ?_ ?_) ?_
  · rintro p U U' ⟨A', c', rfl, ho⟩ hb
    exact ⟨A', c', rfl, own_up ho hb⟩
  · rintro U ⟨y, rfl⟩ hbU
    unfold Gives
    go_simp
    refine (clone_In icells i_len i_one y.w LA lcp [] (by simp) Rt.nil).mono ?_
    rintro e U' ⟨A', c', rfl, ho, hb⟩
    exact ⟨_, rfl, hb, A', c', rfl, own_base ho y.below.size⟩
  · rintro p U U' ⟨g, rfl, hB⟩ hb
    exact ⟨g, rfl, hB.up hb⟩
  · rintro U ⟨y, rfl⟩ hbU
    unfold Gives
    go_simp
    exact ⟨(Below.refl _ _).alloc (Nat.le_refl _) _, Bx.new _ _ _⟩
  intro K hK
  rintro p1 p2 U ⟨A', c', rfl, ho⟩ ⟨g, rfl, hBg⟩ ⟨y, rfl⟩ hbU
  have HK := Lib.hid hK; clear hK
  simp only [putsL]
  go_simp
  refine HK.out _ _ ⟨y, rfl⟩ ?_
  clear HK K
  have Ho := Lib.hid ho; clear ho
  have HBg := Lib.hid hBg; clear hBg
  have Hby := Lib.hid y.below
  obtain ⟨U0, hU0⟩ : ∃ U0, y.w = U0 := ⟨_, rfl⟩
  rw [hU0] at Ho HBg Hby ⊢
  clear hU0 hbU
  refine oneS 12 (by kernel_rfl) rfl rfl rfl (fun K hK => ?_)
  have HK := Lib.hid hK; clear hK
  obtain ⟨i0, hi0, hz0, hz1, hz2⟩ := info_parts Tryz.infIn
  have Hi0 := Lib.hid hi0; have Hz0 := Lib.hid hz0; have Hz1 := Lib.hid hz1; have Hz2 := Lib.hid hz2
  clear hi0 hz0 hz1 hz2
  refine wp_app (.tmp 53) (.tmp 55) 43 rfl V3.heap.size 3 i0 (.int .i64 0) 1 8 Tryz.underlying43 Hi0.out Hz0.out Hz1.out Hz2.out rfl (by decide) rfl Ho.out (A := some ⟨g, 0, none⟩) (m := 1) (news := icells cost) rfl rfl (by simp) ?_ (i_one cost) (by unfold maxLen; omega) (by omega) Hby.out.size ?_
  · rintro ad e j u hu
    injection e with e
    subst e
    rw [Addr.add_lit, Nat.zero_add]
    exact HBg.out.cell (by rw [← hu]; simp [icells])
  intro v' U6 ho6 hg6 _
  obtain ⟨A6, c6, rfl, hc6a, hc6b⟩ := own_slice ho6
  have hb6 : Below V3.heap.size V3 U6 := Hby.out.grown hg6 Hby.out.size (fun q hq => (Ho.out.lt q hq).1)
  have Ho6 := Lib.hid ho6; have Hb6 := Lib.hid hb6
  clear ho6 hg6 hb6
  go_simp
  refine HK.out _ _ (fun _ => ⟨⟨U6, Hb6.out⟩, rfl⟩) ?_
  clear HK K
  replace B0 := B0.upB Hb6.out lt0
  replace B1 := B1.upB Hb6.out lt1
  clear lt0 lt1
  obtain ⟨c00, c01, c02, f00, f01, f02, lt0⟩ := B0.c3
  obtain ⟨c10, c11, c12, f10, f11, f12, lt1⟩ := B1.c3
  have hoL6 := own_up HoL3.out Hb6.out
  have k2 := hoL6.frozenAt (k * 3 + 2)
  have k1 : U6.cell? ⟨G, k * 3 + 2, none⟩ = some (.slice LA 0 lcp) := by
    rw [hoL6.cellAt (k * 3 + 2) (by omega), flat_at _ _ _ _ Hk.out (by omega)]
    rfl
  have hoL7 := (hoL6.stored (k * 3 + 2) (.slice A6 1 c6)).1
  rw [flat_set5 A6 1 c6 _ k _ Hk.out] at hoL7
  have HoL7 := Lib.hid hoL7
  have hcr := (Sl.of_own (f := icells) (l := [cost]) (by simpa using Ho6.out) rfl i_len (by decide)).rt
  have hblk : U6.heap[G]? = U6.heap[G]? := rfl
  obtain ⟨cur, hcur, _⟩ := own_row hoL6
  have hcr7 : Rt icells 1 3 (U6.setCell ⟨G, k * 3 + 2, none⟩ (.slice A6 1 c6)) A6 [cost] := hcr.keep fun b' cs fr hb' => Below.heap_setCell U6 ⟨G, k * 3 + 2, none⟩ _ b' (fun e => by
    subst e
    rw [hcur] at hb'
    injection hb' with hb'
    injection hb' with _ hb' _
    exact absurd hb' (by decide))
  have Hcr7 := Lib.hid hcr7
  have Hb7 := Lib.hid (show Below w.heap.size w (U6.setCell ⟨G, k * 3 + 2, none⟩ (.slice A6 1 c6)) from (Hb3.out.trans (Hb6.out.mono Hb3.out.size)).setCell (p := ⟨G, k * 3 + 2, none⟩) (by show w.heap.size ≤ G; omega) _)
  replace B0 := B0.other (M := G) (by omega) (k * 3 + 2) (.slice A6 1 c6); replace B1 := B1.other (M := G) (by omega) (k * 3 + 2) (.slice A6 1 c6)
  clear hoL6 hoL7 hcr hcr7 hblk hcur
  refine oneS 13 (by kernel_rfl) rfl rfl rfl (fun K hK => ?_)
  have HK := Lib.hid hK; clear hK
  go_simp
  refine HK.out _ _ (fun h => absurd h (by decide)) ?_
  clear HK K
  refine oneS 14 (by kernel_rfl) rfl rfl rfl (fun K hK => ?_)
  have HK := Lib.hid hK; clear hK
  go_simp
  refine HK.out _ _ (fun h => absurd h (by decide)) ?_
  clear HK K
  refine oneS 15 (by kernel_rfl) rfl rfl rfl (fun K hK => ?_)
  have HK := Lib.hid hK; clear hK
  go_simp
  refine HK.out _ _ (fun h => absurd h (by decide)) ?_
  clear HK K
  refine doneS (by kernel_rfl) ?_
  obtain ⟨U7, hU7⟩ : ∃ U7, U6.setCell ⟨G, k * 3 + 2, none⟩ (.slice A6 1 c6) = U7 := ⟨_, rfl⟩
  rw [hU7] at B0 B1 Hcr7 Hb7 HoL7 ⊢
  clear hU7 k1 k2 gG c00 c01 c02 f00 f01 f02 lt0 c10 c11 c12 f10 f11 f12 lt1
  obtain ⟨c00, c01, c02, f00, f01, f02, lt0⟩ := B0.c3
  obtain ⟨c10, c11, c12, f10, f11, f12, lt1⟩ := B1.c3
  go_wp2_with fail
  refine bodyPost_ret (v := .tuple #[.agg #[.slice (some ⟨G, 0, none⟩) vs.length lc, .int .i64 at_, .bool given], .int .i64 0]) (by simp [results, Tryz.results18, go_sem, c10, c11, c12]) rfl ?_
  obtain ⟨U8, hU8, _, hk8, _, hb8⟩ := st_3_0_3 (.slice (some ⟨G, 0, none⟩) vs.length lc) (.int .i64 at_) (.bool given) B1
  rw [hU8]
  refine ⟨_, rfl, ⟨A6, c6, MLn.keep (w := U7) ⟨Sl.of_own (f := Ln.cells) (l := vs.set k { weight := wt, deficit := df, A := A6, n := 1, cap := c6 }) HoL7.out (by simp) ln_len (by decide), fun z hz => ?_⟩ (fun b' t cs fr ht hb' => hk8 b' (B1.ne_type hb' (by rcases ht with rfl | rfl <;> decide)))⟩, hb8 _ _ Hb7.out (by omega)⟩
  obtain ⟨q1, q2, q3, q4, q5, q6, q7⟩ := HGy.out
  rcases List.mem_or_eq_of_mem_set hz with h | rfl
  · obtain ⟨p1, p2, p3, p4, p5, p6, p7⟩ := Hm.out.2 z h
    exact ⟨p1, p2, p3, p4, p5, p6, fun e => by rw [H0.out z h] at e; cases e⟩
  · exact ⟨q1, q2, q3, Nat.le_refl _, by simpa using hc6a, hc6b, fun _ => Hcr7.out⟩
end Go.Proofs.YthiblfkmcdnalaaGreat
