/- The contract of sched.Ask at good schedulers in which nothing waits. Printed by gen_ask.py. -/
import Derived.Test.YthiblfkmcdnalaaGreatTSchR
import Derived.Test.YthiblfkmcdnalaaGreatRegU2
namespace Go.Proofs.YthiblfkmcdnalaaGreat
set_option maxRecDepth 1000000
open Go.RowKit
set_option maxRecDepth 1000000

theorem jrflat : ∀ l : List Jr, l.flatMap Jr.cells = l.map fun x => .slice x.A x.n x.cap
  | [] => rfl
  | x :: l => by rw [List.flatMap_cons, List.map_cons, jrflat l]; rfl
theorem costK_le {kind page : Int} {data : ByteArray} (h : GRq kind page data) : 1 ≤ costK kind ∧ costK kind ≤ 8 ∧ (kind = 1 ∨ kind = 2) := by
  obtain ⟨_, _, ⟨rfl, _⟩ | ⟨rfl, _⟩⟩ := h <;> decide

set_option maxHeartbeats 16000000 in
theorem ask_any (w : World) (lv jv s c f ov : Value) (S : Sc) (k : Nat) (kind page : Int) (data : ByteArray) (l0 : Ln) (y0 : Jr) (hg : GSc S) (h0 : ∀ x ∈ S.vs, x.n = 0) (hk : S.vs[k]? = some l0) (hy : S.js[k]? = some y0) (hr : GRq kind page data) (hm : MSc w lv jv s c f ov S) :
    Calls Tryz.prog 7 #[.agg #[lv, .int .i64 S.at_, .bool S.given, jv, s, c, .int .i64 S.next, f, ov], .agg #[.int .i64 (k : Int), .int .i64 kind, .int .i64 page, .string data, .int .i64 0]] w fun e w' => ∃ lv' jv', e = .returned (.tuple #[.agg #[lv', .int .i64 S.at_, .bool S.given, jv', s, c, .int .i64 S.next, f, ov], .int .i64 0]) ∧
      (∃ A1 c1 A2 c2, 1 ≤ c2 ∧ c2 ≤ 9223372036854775807 ∧ MSc w' lv' jv' s c f ov { S with c := costK kind, vs := S.vs.set k { l0 with A := A1, n := 1, cap := c1 }, js := S.js.set k ⟨A2, 1, c2⟩, job := ⟨k, kind, page, data, 0⟩ }) ∧ Below w.heap.size w w' := by
  obtain ⟨⟨L, lc, rfl⟩, ⟨J, jc, rfl⟩, ⟨A, ac, rfl⟩, ⟨B, bc, rfl⟩, ⟨F, fc, rfl, _, _⟩, ⟨O, oc, rfl, _, _⟩⟩ := hm.len
  obtain ⟨at_, given, cst, vs, js, job, dk, next, out⟩ := S
  simp only at *
  have hkv := (List.getElem?_eq_some_iff.1 hk).1
  have hkj := (List.getElem?_eq_some_iff.1 hy).1
  obtain ⟨W, hW, hbW, hsW, B0, B1, B2⟩ := box3 w #[.slice L vs.length lc, .int .i64 at_, .bool given, .slice J js.length jc, .slice A dk.secs.length ac, .slice B dk.cache.length bc, .int .i64 next, .slice F out.length fc, .slice O out.length oc] 40 #[.int .i64 (k : Int), .int .i64 kind, .int .i64 page, .string data, .int .i64 0] 46 #[.slice none 0 0, .int .i64 0, .bool false, .slice none 0 0, .slice none 0 0, .slice none 0 0, .int .i64 0, .slice none 0 0, .slice none 0 0] 40
  obtain ⟨hcA, hcB, hk12⟩ := costK_le hr
  have hyn := (hg.rows k y0 l0 hy hk).1
  have hl0 := h0 l0 (List.mem_of_getElem? hk)
  obtain ⟨x, jb, jo, hx, rfl, hjb, hjcell⟩ := jr_at hm.jobs.rt hkj
  obtain rfl := Option.some.inj (hy.symm.trans hx)
  obtain ⟨JA, jn, jcp⟩ := y0
  obtain ⟨wt, df, LA, ln, lcp⟩ := l0
  simp only at hyn hl0 hjcell
  subst hl0
  subst hyn
  have Hm := Lib.hid hm; have Hg := Lib.hid hg; have H0 := Lib.hid h0; have Hk := Lib.hid hk; have Hy := Lib.hid hy; have Hr := Lib.hid hr
  have Hk12 := Lib.hid hk12; have Hjcell := Lib.hid hjcell
  have HbW := Lib.hid hbW
  have hsW' := bsz hsW
  have hl6 := hg.vs.2
  have hjl6 : js.length ≤ 6 := by rw [hg.js]; exact hl6
  have hki : (k : Int) < (js.length : Int) := by omega
  clear hm hg hbW hsW h0 hk hy hr hk12 hx hjcell
  obtain ⟨c00, c01, c02, c03, c04, c05, c06, c07, c08, f00, f01, f02, f03, f04, f05, f06, f07, f08, lt0⟩ := B0.c9
  obtain ⟨c10, c11, c12, c13, c14, f10, f11, f12, f13, f14, lt1⟩ := B1.c5
  obtain ⟨c20, c21, c22, c23, c24, c25, c26, c27, c28, f20, f21, f22, f23, f24, f25, f26, f27, f28, lt2⟩ := B2.c9
  go_enter Tryz.func7, Tryz.ntmps7
  go_wp2_with fail
  refine (schRight_any W _ _ _ _ _ _ _ Hg.out (Hm.out.up HbW.out)).mono ?_
  rintro e V1 ⟨rfl, hb_V1⟩
  clear c00 c01 c02 c03 c04 c05 c06 c07 c08 f00 f01 f02 f03 f04 f05 f06 f07 f08 lt0 c10 c11 c12 c13 c14 f10 f11 f12 f13 f14 lt1 c20 c21 c22 c23 c24 c25 c26 c27 c28 f20 f21 f22 f23 f24 f25 f26 f27 f28 lt2 hW
  replace B0 := B0.up hb_V1
  replace B1 := B1.up hb_V1
  replace B2 := B2.up hb_V1
  have Hb1 := Lib.hid (HbW.out.trans (hb_V1.mono hsW'))
  have hs_V1 := hb_V1.size
  clear hb_V1
  obtain ⟨c00, c01, c02, c03, c04, c05, c06, c07, c08, f00, f01, f02, f03, f04, f05, f06, f07, f08, lt0⟩ := B0.c9
  obtain ⟨c10, c11, c12, c13, c14, f10, f11, f12, f13, f14, lt1⟩ := B1.c5
  obtain ⟨c20, c21, c22, c23, c24, c25, c26, c27, c28, f20, f21, f22, f23, f24, f25, f26, f27, f28, lt2⟩ := B2.c9
  go_wp2_with fail
  refine (srequest_any V1 ⟨k, kind, page, data, 0⟩ Hr.out).mono ?_
  rintro e V2 ⟨rfl, hb_V2⟩
  clear c00 c01 c02 c03 c04 c05 c06 c07 c08 f00 f01 f02 f03 f04 f05 f06 f07 f08 lt0 c10 c11 c12 c13 c14 f10 f11 f12 f13 f14 lt1 c20 c21 c22 c23 c24 c25 c26 c27 c28 f20 f21 f22 f23 f24 f25 f26 f27 f28 lt2 
  replace B0 := B0.up hb_V2
  replace B1 := B1.up hb_V2
  replace B2 := B2.up hb_V2
  have Hb2 := Lib.hid (Hb1.out.trans (hb_V2.mono Hb1.out.size))
  have hs_V2 := hb_V2.size
  clear hb_V2
  obtain ⟨c00, c01, c02, c03, c04, c05, c06, c07, c08, f00, f01, f02, f03, f04, f05, f06, f07, f08, lt0⟩ := B0.c9
  obtain ⟨c10, c11, c12, c13, c14, f10, f11, f12, f13, f14, lt1⟩ := B1.c5
  obtain ⟨c20, c21, c22, c23, c24, c25, c26, c27, c28, f20, f21, f22, f23, f24, f25, f26, f27, f28, lt2⟩ := B2.c9
  have j0 := Hjcell.out V2 Hb2.out
  have ltj : jb < V2.heap.size := by have := Hb2.out.size; omega
  go_upto_region 5 with fail
  clear j0 ltj
  refine wp_region_S 13 (fun U => ∃ y : BW V2, U = y.w) (by kernel_rfl) rfl rfl ?_
  have n_c00 := bw_cell c00 lt0
  have n_c01 := bw_cell c01 lt0
  have n_c02 := bw_cell c02 lt0
  have n_c10 := bw_cell c10 lt1
  have n_c11 := bw_cell c11 lt1
  have HC : Hid (∃ y : BW V2, V2.drew = y.w) := Lib.hid ⟨⟨_, (Below.refl _ _).drew⟩, rfl⟩
  clear c00 c01 c02 c03 c04 c05 c06 c07 c08 f00 f01 f02 f03 f04 f05 f06 f07 f08 c10 c11 c12 c13 c14 f10 f11 f12 f13 f14 c20 c21 c22 c23 c24 c25 c26 c27 c28 f20 f21 f22 f23 f24 f25 f26 f27 f28
  refine pureS 0 rfl (by kernel_rfl) rfl (fun _ _ _ _ _ h => h) HC.out ?_
  go_big_quiet_step (fail)
  refine wpQuiet_nil ?_
  refine pureS 1 rfl (by kernel_rfl) rfl (fun _ _ _ _ _ h => h) HC.out ?_
  go_big_quiet_step (fail)
  refine wpQuiet_nil ?_
  refine pureS 2 rfl (by kernel_rfl) rfl (fun _ _ _ _ _ h => h) HC.out ?_
  go_big_quiet_step (fail)
  refine wpQuiet_nil ?_
  refine pureS 3 rfl (by kernel_rfl) rfl (fun _ _ _ _ _ h => h) HC.out ?_
  go_big_quiet_step (fail)
  refine wpQuiet_nil ?_
  refine pureS 4 rfl (by kernel_rfl) rfl (fun _ _ _ _ _ h => h) HC.out ?_
  go_big_quiet_step (fail)
  refine wpQuiet_nil ?_
  refine pureS 5 rfl (by kernel_rfl) rfl (fun _ _ _ _ _ h => h) HC.out ?_
  go_big_quiet_step (fail)
  refine wpQuiet_nil ?_
  refine thU2 (n := 6) [(6, false), (7, false), (8, true), (9, true), (10, true)] [(11, false)] (fun p U => ∃ L1 lc1, p = [(some 51, .int .i64 (costK kind)), (some 52, .tuple #[.agg #[.slice L1 vs.length lc1, .int .i64 at_, .bool given], .int .i64 0]), (some 44, .tuple #[.agg #[.slice L1 vs.length lc1, .int .i64 at_, .bool given], .int .i64 0]), (some 53, .agg #[.slice L1 vs.length lc1, .int .i64 at_, .bool given]), (some 54, .int .i64 0)] ∧ ∃ A' c', MLn U (.slice L1 vs.length lc1) (costK kind) (vs.set k { weight := wt, deficit := df, A := A', n := 1, cap := c' }))
    (fun p U => ∃ g, p = [(some 6, .pointer (some ⟨g, 0, none⟩))] ∧ V2.heap.size ≤ g ∧ Bx g 33 #[.slice none 0 0, .int .i64 0, .bool false] U) rfl rfl (by kernel_rfl) rfl rfl (by kernel_rfl) (by rintro _ w' ⟨y, rfl⟩ hb; exact ⟨⟨w', y.below.trans (hb.mono y.below.size)⟩, rfl⟩) HC.out (fun _ _ _ _ _ h => h) ?_ ?_ ?_
  · rintro U ⟨y, rfl⟩ hbU
    unfold Gives
    go_simp
    refine (cost_any y.w kind Hk12.out).mono ?_
    rintro e U' ⟨rfl, rfl⟩
    refine ⟨_, rfl, Below.refl _ _, ?_⟩
    rintro U2 ⟨y2, rfl⟩ hb2
    unfold Gives
    go_simp
    refine (push_any y2.w _ cst at_ (costK kind) given vs k _ Hg.out.c ⟨hcA, hcB⟩ Hg.out.vs.1 hl6 Hg.out.at_ (Hm.out.lan.up (Hb2.out.trans (y2.below.mono Hb2.out.size))) H0.out Hk.out).mono ?_
    rintro e U3 ⟨v', A', c', rfl, hml, hb3⟩
    refine ⟨_, rfl, hb3, ?_⟩
    obtain ⟨L1, lc1, rfl, _, _⟩ := hml.len
    simp only [List.length_set] at hml ⊢
    refine ⟨.tuple #[.agg #[.slice L1 vs.length lc1, .int .i64 at_, .bool given], .int .i64 0], fun U _ => by go_simp, ?_⟩
    refine ⟨.agg #[.slice L1 vs.length lc1, .int .i64 at_, .bool given], fun U _ => by go_simp, ?_⟩
    refine ⟨.int .i64 0, fun U _ => by go_simp, ?_⟩
    rintro U7 _ hb7
    exact ⟨L1, lc1, rfl, A', c', hml.up hb7⟩
  · rintro U ⟨y, rfl⟩ hbU
    unfold Gives
    go_simp
    refine ⟨(Below.refl _ _).alloc (Nat.le_refl _) _, ?_⟩
    rintro U' _ hb
    exact ⟨_, rfl, y.below.size, (Bx.new _ _ _).up hb⟩
  intro K hK
  rintro p1 p2 U ⟨L1, lc1, rfl, A1, c1, hml⟩ ⟨g, rfl, hgg, hBg⟩ ⟨y, rfl⟩ hbU
  have HK := Lib.hid hK; clear hK
  simp only [putsL]
  go_simp
  refine HK.out _ _ ⟨y, rfl⟩ ?_
  clear HK K
  have Hby := Lib.hid y.below
  obtain ⟨U0, hU0⟩ : ∃ U0, y.w = U0 := ⟨_, rfl⟩
  rw [hU0] at hml hBg Hby ⊢
  clear hU0 hbU
  obtain ⟨cg0, cg1, cg2, fg0, fg1, fg2, ltg⟩ := hBg.c3
  obtain ⟨R0, hU_R0, B_R0, hk_R0, hs_R0, hb_R0⟩ := st_3_0_3 (.slice L1 vs.length lc1) (.int .i64 at_) (.bool given) hBg
  have HbR0 := Lib.hid (hb_R0 _ _ Hby.out hgg)
  have HmR := Lib.hid (hml.keep (fun b' t cs fr ht hb' => hk_R0 b' (hBg.ne_type hb' (by rcases ht with rfl | rfl <;> decide))))
  clear hml hk_R0 hs_R0 hb_R0
  refine oneS 12 (by kernel_rfl) rfl rfl rfl (fun K hK => ?_)
  have HK := Lib.hid hK; clear hK
  go_simp
  try rw [hU_R0]
  refine HK.out _ _ (fun _ => ⟨⟨R0, HbR0.out⟩, rfl⟩) ?_
  clear HK K hU_R0 cg0 cg1 cg2 fg0 fg1 fg2 ltg hBg
  replace B0 := B0.upB HbR0.out lt0
  replace B1 := B1.upB HbR0.out lt1
  replace B2 := B2.upB HbR0.out lt2
  clear lt0 lt1 lt2
  obtain ⟨c00, c01, c02, c03, c04, c05, c06, c07, c08, f00, f01, f02, f03, f04, f05, f06, f07, f08, lt0⟩ := B0.c9
  obtain ⟨c10, c11, c12, c13, c14, f10, f11, f12, f13, f14, lt1⟩ := B1.c5
  obtain ⟨c20, c21, c22, c23, c24, c25, c26, c27, c28, f20, f21, f22, f23, f24, f25, f26, f27, f28, lt2⟩ := B2.c9
  obtain ⟨cg0, cg1, cg2, fg0, fg1, fg2, ltg⟩ := B_R0.c3
  refine oneS 13 (by kernel_rfl) rfl rfl rfl (fun K hK => ?_)
  have HK := Lib.hid hK; clear hK
  go_simp
  refine HK.out _ _ (fun h => absurd h (by decide)) ?_
  clear HK K
  refine doneS (by kernel_rfl) ?_
  have Hb3 := Lib.hid (Hb2.out.trans (HbR0.out.mono Hb2.out.size))
  go_upto_region 9 with fail
  obtain ⟨V3, hV3, B0', hk3, hs3, hb3⟩ := st_9_0_3 (.slice L1 vs.length lc1) (.int .i64 at_) (.bool given) B0
  try rw [hV3]
  replace B1 := B1.keep (hk3 _ (by omega)); replace B2 := B2.keep (hk3 _ (by omega))
  have Hm3 := Lib.hid (HmR.out.keep (fun b' t cs fr ht hb' => hk3 b' (B0.ne_type hb' (by rcases ht with rfl | rfl <;> decide))))
  have Hb4 := Lib.hid (hb3 _ _ Hb3.out (Nat.le_refl _))
  clear hV3 hk3 hs3 hb3 B0 HmR B_R0 HbR0 Hb3 c00 c01 c02 c03 c04 c05 c06 c07 c08 f00 f01 f02 f03 f04 f05 f06 f07 f08 lt0 c10 c11 c12 c13 c14 f10 f11 f12 f13 f14 lt1 c20 c21 c22 c23 c24 c25 c26 c27 c28 f20 f21 f22 f23 f24 f25 f26 f27 f28 lt2 cg0 cg1 cg2 fg0 fg1 fg2 ltg
  have B0 := B0'
  clear B0'
  obtain ⟨c00, c01, c02, c03, c04, c05, c06, c07, c08, f00, f01, f02, f03, f04, f05, f06, f07, f08, lt0⟩ := B0.c9
  obtain ⟨c10, c11, c12, c13, c14, f10, f11, f12, f13, f14, lt1⟩ := B1.c5
  obtain ⟨c20, c21, c22, c23, c24, c25, c26, c27, c28, f20, f21, f22, f23, f24, f25, f26, f27, f28, lt2⟩ := B2.c9
  go_wp2_with fail
  refine (clone_Jr Jr.cells jr_len jr_one V3 (some ⟨jb, jo, none⟩) jc js (by omega) (Hm.out.jobs.rt.up Hb4.out)).mono ?_
  rintro e V4 ⟨J2, jc2, rfl, hoJ, hb4⟩
  clear c00 c01 c02 c03 c04 c05 c06 c07 c08 f00 f01 f02 f03 f04 f05 f06 f07 f08 lt0 c10 c11 c12 c13 c14 f10 f11 f12 f13 f14 lt1 c20 c21 c22 c23 c24 c25 c26 c27 c28 f20 f21 f22 f23 f24 f25 f26 f27 f28 lt2
  have ltM := B2.lt
  replace B0 := B0.up hb4; replace B1 := B1.up hb4; replace B2 := B2.up hb4
  have Hb5 := Lib.hid (Hb4.out.trans (hb4.mono Hb4.out.size))
  have Hm4 := Lib.hid (Hm3.out.up hb4)
  obtain ⟨G, jc2', hG, hGb, _, _⟩ := own_addr hoJ (by omega)
  injection hG with hG1 _ hG2
  subst hG1
  subst hG2
  have HoJ := Lib.hid (own_base hoJ (show w.heap.size + 1 + 1 + 1 ≤ V3.heap.size from ltM))
  have hGM : w.heap.size + 1 + 1 + 1 ≤ G := by omega
  clear hoJ hb4 Hm3 Hb4
  obtain ⟨c00, c01, c02, c03, c04, c05, c06, c07, c08, f00, f01, f02, f03, f04, f05, f06, f07, f08, lt0⟩ := B0.c9
  obtain ⟨c10, c11, c12, c13, c14, f10, f11, f12, f13, f14, lt1⟩ := B1.c5
  obtain ⟨c20, c21, c22, c23, c24, c25, c26, c27, c28, f20, f21, f22, f23, f24, f25, f26, f27, f28, lt2⟩ := B2.c9
  go_upto_region 10 with fail
  obtain ⟨V5, hV5, B0', hk5, hs5, hb5⟩ := st_9_3_1 (.slice (some ⟨G, 0, none⟩) js.length jc2) B0
  try rw [hV5]
  replace B1 := B1.keep (hk5 _ (by omega)); replace B2 := B2.keep (hk5 _ (by omega))
  have hoJ5 : V5.ownsRow (w.heap.size + 1 + 1 + 1) 38 1 (.slice (some ⟨G, 0, none⟩) js.length jc2) js.length (js.flatMap Jr.cells) := by
    rw [← hV5]
    exact own_setCell (j := 3) HoJ.out (by simp [Value.ownBlock]; omega) _
  have Hb6' := Lib.hid (hb5 _ _ Hb5.out (Nat.le_refl _))
  have Hm5 := Lib.hid (Hm4.out.keep (fun b' t cs fr ht hb' => hk5 b' (B0.ne_type hb' (by rcases ht with rfl | rfl <;> decide))))
  have gG : V5.cell? ⟨G, k, none⟩ = some (.slice JA 0 jcp) := by
    rw [hoJ5.cellAt k (by omega), jrflat, List.getElem?_map, Hy.out]
    rfl
  have ltG : G < V5.heap.size := (hoJ5.lt G rfl).2
  have HoJ5 := Lib.hid hoJ5
  clear hV5 hk5 hs5 hb5 B0 HoJ hoJ5 Hm4 Hb5 c00 c01 c02 c03 c04 c05 c06 c07 c08 f00 f01 f02 f03 f04 f05 f06 f07 f08 lt0 c10 c11 c12 c13 c14 f10 f11 f12 f13 f14 lt1 c20 c21 c22 c23 c24 c25 c26 c27 c28 f20 f21 f22 f23 f24 f25 f26 f27 f28 lt2
  have B0 := B0'
  clear B0'
  obtain ⟨c00, c01, c02, c03, c04, c05, c06, c07, c08, f00, f01, f02, f03, f04, f05, f06, f07, f08, lt0⟩ := B0.c9
  obtain ⟨c10, c11, c12, c13, c14, f10, f11, f12, f13, f14, lt1⟩ := B1.c5
  obtain ⟨c20, c21, c22, c23, c24, c25, c26, c27, c28, f20, f21, f22, f23, f24, f25, f26, f27, f28, lt2⟩ := B2.c9
  refine wp_region_S 14 (fun U => ∃ y : BW V5, U = y.w) (by kernel_rfl) rfl rfl ?_
  have n_c03 := bw_cell c03 lt0
  have n_c10 := bw_cell c10 lt1
  have n_c11 := bw_cell c11 lt1
  have n_c12 := bw_cell c12 lt1
  have n_c13 := bw_cell c13 lt1
  have n_c14 := bw_cell c14 lt1
  have n_gG := bw_cell gG ltG
  have HC : Hid (∃ y : BW V5, V5.drew = y.w) := Lib.hid ⟨⟨_, (Below.refl _ _).drew⟩, rfl⟩
  clear c00 c01 c02 c03 c04 c05 c06 c07 c08 f00 f01 f02 f03 f04 f05 f06 f07 f08 c10 c11 c12 c13 c14 f10 f11 f12 f13 f14 c20 c21 c22 c23 c24 c25 c26 c27 c28 f20 f21 f22 f23 f24 f25 f26 f27 f28
  refine pureS 0 rfl (by kernel_rfl) rfl (fun _ _ _ _ _ h => h) HC.out ?_
  go_big_quiet_step (fail)
  refine wpQuiet_nil ?_
  refine pureS 1 rfl (by kernel_rfl) rfl (fun _ _ _ _ _ h => h) HC.out ?_
  go_big_quiet_step (fail)
  refine wpQuiet_nil ?_
  refine pureS 2 rfl (by kernel_rfl) rfl (fun _ _ _ _ _ h => h) HC.out ?_
  go_big_quiet_step (fail)
  refine wpQuiet_nil ?_
  refine pureS 3 rfl (by kernel_rfl) rfl (fun _ _ _ _ _ h => h) HC.out ?_
  go_big_quiet_step (fail)
  refine wpQuiet_nil ?_
  refine pureS 4 rfl (by kernel_rfl) rfl (fun _ _ _ _ _ h => h) HC.out ?_
  go_big_quiet_step (fail)
  refine wpQuiet_nil ?_
  refine pureS 5 rfl (by kernel_rfl) rfl (fun _ _ _ _ _ h => h) HC.out ?_
  go_big_quiet_step (fail)
  refine wpQuiet_nil ?_
  refine pureS 6 rfl (by kernel_rfl) rfl (fun _ _ _ _ _ h => h) HC.out ?_
  go_big_quiet_step (fail)
  refine wpQuiet_nil ?_
  refine pureS 7 rfl (by kernel_rfl) rfl (fun _ _ _ _ _ h => h) HC.out ?_
  go_big_quiet_step (fail)
  refine wpQuiet_nil ?_
  refine pureS 8 rfl (by kernel_rfl) rfl (fun _ _ _ _ _ h => h) HC.out ?_
  go_big_quiet_step (fail)
  refine wpQuiet_nil ?_
  refine pureS 9 rfl (by kernel_rfl) rfl (fun _ _ _ _ _ h => h) HC.out ?_
  go_big_quiet_step (fail)
  refine wpQuiet_nil ?_
  refine pureS 11 rfl (by kernel_rfl) rfl (fun _ _ _ _ _ h => h) HC.out ?_
  go_big_quiet_step (fail)
  refine wpQuiet_nil ?_
  refine thS2 (n := 2) [10] [12] (fun p U => ∃ A' c', p = [(some 75, .slice A' 0 c')] ∧ U.ownsRow V5.heap.size 46 5 (.slice A' 0 c') 0 ((([] : List Jb)).flatMap Jb.cells))
    (fun p U => ∃ g, p = [(some 77, .slice (some ⟨g, 0, none⟩) 1 1)] ∧ Bx g 46 #[.int .i64 (k : Int), .int .i64 kind, .int .i64 page, .string data, .int .i64 0] U) rfl rfl (by kernel_rfl) rfl rfl (by kernel_rfl) (by rintro _ w' ⟨y, rfl⟩ hb; exact ⟨⟨w', y.below.trans (hb.mono y.below.size)⟩, rfl⟩) HC.out (Rob_one ?_ ?_) (Rob_one ?_ ?_) ?_
  · rintro p U U' ⟨A', c', rfl, ho⟩ hb
    exact ⟨A', c', rfl, own_up ho hb⟩
  · rintro U ⟨y, rfl⟩ hbU
    unfold Gives
    go_simp
    refine (clone_Jb Jb.cells jb_len jb_one y.w JA jcp [] (by simp) Rt.nil).mono ?_
    rintro e U' ⟨A', c', rfl, ho, hb⟩
    exact ⟨_, rfl, hb, A', c', rfl, own_base ho y.below.size⟩
  · rintro p U U' ⟨g, rfl, hB⟩ hb
    exact ⟨g, rfl, hB.up hb⟩
  · rintro U ⟨y, rfl⟩ hbU
    unfold Gives
    go_simp
    exact ⟨(Below.refl _ _).alloc (Nat.le_refl _) _, Bx.new _ _ _⟩
  intro K hK
  rintro p1 p2 U ⟨A', c', rfl, ho⟩ ⟨g, rfl, hBg⟩ ⟨y, rfl⟩ hbU
  have HK := Lib.hid hK; clear hK
  simp only [putsL]
  go_simp
  refine HK.out _ _ ⟨y, rfl⟩ ?_
  clear HK K
  have Ho := Lib.hid ho; clear ho
  have HBg := Lib.hid hBg; clear hBg
  have Hby := Lib.hid y.below
  obtain ⟨U0, hU0⟩ : ∃ U0, y.w = U0 := ⟨_, rfl⟩
  rw [hU0] at Ho HBg Hby ⊢
  clear hU0 hbU
  refine oneS 13 (by kernel_rfl) rfl rfl rfl (fun K hK => ?_)
  have HK := Lib.hid hK; clear hK
  obtain ⟨i0, hi0, hz0, hz1, hz2⟩ := info_parts Tryz.infJb
  have Hi0 := Lib.hid hi0; have Hz0 := Lib.hid hz0; have Hz1 := Lib.hid hz1; have Hz2 := Lib.hid hz2
  clear hi0 hz0 hz1 hz2
  refine wp_app (.tmp 75) (.tmp 77) 38 rfl V5.heap.size 46 i0 (.agg #[.int .i64 0, .int .i64 0, .int .i64 0, .string ⟨#[]⟩, .int .i64 0]) 5 48 Tryz.underlying38 Hi0.out Hz0.out Hz1.out Hz2.out rfl (by decide) rfl Ho.out (A := some ⟨g, 0, none⟩) (m := 1) (news := Jb.cells ⟨k, kind, page, data, 0⟩) rfl rfl (by simp) ?_ (jb_one ⟨k, kind, page, data, 0⟩) (by unfold maxLen; omega) (by omega) Hby.out.size ?_
  · rintro ad e j u hu
    injection e with e
    subst e
    rw [Addr.add_lit, Nat.zero_add]
    exact HBg.out.cell (by rw [← hu]; simp [Jb.cells])
  intro v' U6 ho6 hg6 _
  obtain ⟨A6, c6, rfl, hc6a, hc6b⟩ := own_slice ho6
  have hb6 : Below V5.heap.size V5 U6 := Hby.out.grown hg6 Hby.out.size (fun q hq => (Ho.out.lt q hq).1)
  have Ho6 := Lib.hid ho6; have Hb6 := Lib.hid hb6
  clear ho6 hg6 hb6
  go_simp
  refine HK.out _ _ (fun _ => ⟨⟨U6, Hb6.out⟩, rfl⟩) ?_
  clear HK K
  replace B0 := B0.upB Hb6.out lt0
  replace B1 := B1.upB Hb6.out lt1
  replace B2 := B2.upB Hb6.out lt2
  clear lt0 lt1 lt2
  obtain ⟨c00, c01, c02, c03, c04, c05, c06, c07, c08, f00, f01, f02, f03, f04, f05, f06, f07, f08, lt0⟩ := B0.c9
  obtain ⟨c10, c11, c12, c13, c14, f10, f11, f12, f13, f14, lt1⟩ := B1.c5
  obtain ⟨c20, c21, c22, c23, c24, c25, c26, c27, c28, f20, f21, f22, f23, f24, f25, f26, f27, f28, lt2⟩ := B2.c9
  have hoJ6 := own_up HoJ5.out Hb6.out
  have k2 := hoJ6.frozenAt k
  have k1 : U6.cell? ⟨G, k, none⟩ = some (.slice JA 0 jcp) := by
    rw [hoJ6.cellAt k (by omega), jrflat, List.getElem?_map, Hy.out]
    rfl
  have hoJ7 := (hoJ6.stored k (.slice A6 1 c6)).1
  have HoJ7 := Lib.hid hoJ7
  have hcr := (Sl.of_own (f := Jb.cells) (l := [⟨k, kind, page, data, 0⟩]) (by simpa using Ho6.out) rfl jb_len (by decide)).rt
  obtain ⟨cur, hcur, _⟩ := own_row hoJ6
  have hkeep : ∀ (b' : Nat) t cs fr, t ≠ 38 → U6.heap[b']? = some (Obj.cells cs t fr) → (U6.setCell ⟨G, k, none⟩ (.slice A6 1 c6)).heap[b']? = U6.heap[b']? := fun b' t cs fr ht hb' => Below.heap_setCell U6 ⟨G, k, none⟩ _ b' (fun e => by
    subst e
    rw [hcur] at hb'
    injection hb' with hb'
    injection hb' with _ hb' _
    exact ht hb'.symm)
  have Hcr7 := Lib.hid (hcr.keep (w' := U6.setCell ⟨G, k, none⟩ (.slice A6 1 c6)) fun b' cs fr hb' => hkeep b' _ cs fr (by decide) hb')
  have Hm7 := Lib.hid ((Hm5.out.up Hb6.out).keep (w' := U6.setCell ⟨G, k, none⟩ (.slice A6 1 c6)) fun b' t cs fr ht hb' => hkeep b' t cs fr (by rcases ht with rfl | rfl <;> decide) hb')
  have Hb7 := Lib.hid (show Below w.heap.size w (U6.setCell ⟨G, k, none⟩ (.slice A6 1 c6)) from (Hb6'.out.trans (Hb6.out.mono Hb6'.out.size)).setCell (p := ⟨G, k, none⟩) (by show w.heap.size ≤ G; omega) _)
  replace B0 := B0.other (M := G) (by omega) k (.slice A6 1 c6); replace B1 := B1.other (M := G) (by omega) k (.slice A6 1 c6); replace B2 := B2.other (M := G) (by omega) k (.slice A6 1 c6)
  clear hoJ6 hoJ7 hcr hcur hkeep
  refine oneS 14 (by kernel_rfl) rfl rfl rfl (fun K hK => ?_)
  have HK := Lib.hid hK; clear hK
  go_simp
  refine HK.out _ _ (fun h => absurd h (by decide)) ?_
  clear HK K
  refine oneS 15 (by kernel_rfl) rfl rfl rfl (fun K hK => ?_)
  have HK := Lib.hid hK; clear hK
  go_simp
  refine HK.out _ _ (fun h => absurd h (by decide)) ?_
  clear HK K
  refine doneS (by kernel_rfl) ?_
  obtain ⟨U7, hU7⟩ : ∃ U7, U6.setCell ⟨G, k, none⟩ (.slice A6 1 c6) = U7 := ⟨_, rfl⟩
  rw [hU7] at B0 B1 B2 Hcr7 Hb7 HoJ7 Hm7 ⊢
  clear hU7 k1 k2 gG c00 c01 c02 c03 c04 c05 c06 c07 c08 f00 f01 f02 f03 f04 f05 f06 f07 f08 lt0 c10 c11 c12 c13 c14 f10 f11 f12 f13 f14 lt1 c20 c21 c22 c23 c24 c25 c26 c27 c28 f20 f21 f22 f23 f24 f25 f26 f27 f28 lt2
  obtain ⟨c00, c01, c02, c03, c04, c05, c06, c07, c08, f00, f01, f02, f03, f04, f05, f06, f07, f08, lt0⟩ := B0.c9
  obtain ⟨c10, c11, c12, c13, c14, f10, f11, f12, f13, f14, lt1⟩ := B1.c5
  obtain ⟨c20, c21, c22, c23, c24, c25, c26, c27, c28, f20, f21, f22, f23, f24, f25, f26, f27, f28, lt2⟩ := B2.c9
  go_wp2_with fail
  refine bodyPost_ret (v := .tuple #[.agg #[.slice L1 vs.length lc1, .int .i64 at_, .bool given, .slice (some ⟨G, 0, none⟩) js.length jc2, .slice A dk.secs.length ac, .slice B dk.cache.length bc, .int .i64 next, .slice F out.length fc, .slice O out.length oc], .int .i64 0]) (by simp [results, Tryz.results7, go_sem, c20, c21, c22, c23, c24, c25, c26, c27, c28]) rfl ?_
  obtain ⟨U8, hU8, _, hk8, _, hb8⟩ := st_9_0_9 (.slice L1 vs.length lc1) (.int .i64 at_) (.bool given) (.slice (some ⟨G, 0, none⟩) js.length jc2) (.slice A dk.secs.length ac) (.slice B dk.cache.length bc) (.int .i64 next) (.slice F out.length fc) (.slice O out.length oc) B2
  rw [hU8]
  have Hb8 := hb8 _ _ Hb7.out (by omega)
  have hS : Sl Jr.cells 1 38 U7 (.slice (some ⟨G, 0, none⟩) js.length jc2) (js.set k ⟨A6, 1, c6⟩) := Sl.of_own (f := Jr.cells) (l := js.set k ⟨A6, 1, c6⟩) (by
    have := HoJ7.out
    rw [jrflat] at this
    rw [jrflat, List.map_set]
    exact this) (by simp) jr_len (by decide)
  refine ⟨_, _, rfl, ⟨A1, c1, A6, c6, by simpa using hc6a, hc6b, ?_⟩, Hb8⟩
  refine ⟨Hm7.out.keep (fun b' t cs fr ht hb' => hk8 b' (B2.ne_type hb' (by rcases ht with rfl | rfl <;> decide))), hS.off B2 (by decide) hk8, fun z hz e => ?_, Hm.out.dev.up Hb8, Hm.out.out.up Hb8⟩
  rcases List.mem_or_eq_of_mem_set hz with h | rfl
  · obtain ⟨q, hq⟩ := List.mem_iff_getElem?.1 h
    have hql := (List.getElem?_eq_some_iff.1 hq).1
    have hqv : q < vs.length := by have := Hg.out.js; simp only at this; omega
    have h1 := (Hg.out.rows q z vs[q] hq (List.getElem?_eq_getElem hqv)).1
    have h2 := H0.out vs[q] (List.getElem_mem hqv)
    omega
  · exact Hcr7.out.keep fun b' cs fr hb' => hk8 b' (B2.ne_type hb' (by decide))
end Go.Proofs.YthiblfkmcdnalaaGreat
