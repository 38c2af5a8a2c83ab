/- The contract of sched.New. Printed by gen_schn.py. -/
import Derived.Test.YthiblfkmcdnalaaGreatTAsk
namespace Go.Proofs.YthiblfkmcdnalaaGreat
set_option maxRecDepth 1000000
open Go.RowKit
set_option maxRecDepth 1000000

theorem wp_make {P : Program} {w : World} {o : Oper} {a : Act} {K : Act → World → Prop} {Q : Exit → Act → World → Prop}
    (l c : Operand) (t : TypeId) (hop : o.op = Op.makeSlice t l c)
    (base : Nat) (e : TypeId) (i : TypeInfo) (z : Value) (size : Nat) (h1 : P.underlying t = some (.slice e)) (h2 : P.info? e = some i) (h3 : i.zero = some z) (h4 : i.size = size)
    (kl kc : IntKind) (L C : Int) (n : Nat) (hl : a.eval l = .int kl L) (hc : a.eval c = .int kc C) (hL : L = (n : Int)) (hC : C = (n : Int)) (b2 : i.bytes * n ≤ 281474976710656) (b3 : n ≤ maxLen) (b4 : base ≤ w.heap.size)
    (h : ∀ w', w'.ownsRow base e size (.slice (some ⟨w.heap.size, 0, none⟩) n n) n (madeCells z.cells (n * size)).toList → w.grownBy w' none → K (a.put o.dst (.slice (some ⟨w.heap.size, 0, none⟩) n n)) w') :
    o.wp P a w K Q := by
  obtain ⟨w', hrun, r1, r2⟩ := run_make_full (P := P) w base t e i z size h1 h2 h3 h4 kl kc n b2 b3 b4
  subst hL
  subst hC
  unfold Oper.wp
  simp [execOp, hop, hl, hc, hrun, Result.andThen]
  exact h w' r1 r2
theorem made_jr (n : Nat) : (madeCells #[.slice none 0 0] n).toList = (List.replicate n (⟨none, 0, 0⟩ : Jr)).flatMap Jr.cells := by
  rw [jrflat, List.map_replicate]
  apply List.ext_getElem?
  intro j
  by_cases hj : j < n
  · simp [madeCells, hj, Nat.mod_one]
  · rw [List.getElem?_eq_none (by simp [madeCells]; omega), List.getElem?_eq_none (by simp; omega)]

set_option maxHeartbeats 8000000 in
theorem schNew_any (w : World) (s c f : Value) (dk : Dk) (next : Int) (WA : Option Addr) (wc : Nat) (ws : List Int) (hg : GDv ⟨dk, next, []⟩) (hm : MDv w s c f ⟨dk, next, []⟩) (h1 : 1 ≤ ws.length) (h6 : ws.length ≤ 6) (hw : ∀ x ∈ ws, 1 ≤ x ∧ x ≤ 8) (hr : Rt icells 1 3 w WA ws) :
    Calls Tryz.prog 6 #[.agg #[s, c, .int .i64 next, f], .slice WA ws.length wc] w fun e w' => ∃ lv jv, e = .returned (.tuple #[.agg #[lv, .int .i64 0, .bool false, jv, s, c, .int .i64 next, f, .slice none 0 0], .int .i64 0]) ∧
      MSc w' lv jv s c f (.slice none 0 0) ⟨0, false, 4, ws.map mkLn, List.replicate ws.length ⟨none, 0, 0⟩, ⟨0, 0, 0, ⟨#[]⟩, 0⟩, dk, next, []⟩ ∧ Below w.heap.size w w' := by
  obtain ⟨⟨A, ac, rfl⟩, ⟨B, bc, rfl⟩, ⟨F, fc, rfl, _, _⟩⟩ := hm.len
  obtain ⟨i1, hi1, hy0, hy1, hy2⟩ := info_parts Tryz.infJr
  simp only [List.length_nil] at *
  obtain ⟨W, hW, hbW, hsW, B0, B1⟩ := box2 w #[.slice A dk.secs.length ac, .slice B dk.cache.length bc, .int .i64 next, .slice F 0 fc] 37 #[.slice none 0 0, .int .i64 0, .bool false, .slice none 0 0, .slice none 0 0, .slice none 0 0, .int .i64 0, .slice none 0 0, .slice none 0 0] 40
  have Hm := Lib.hid hm; have Hg := Lib.hid hg; have Hw := Lib.hid hw; have Hr := Lib.hid hr
  have Hi1 := Lib.hid hi1; have Hy0 := Lib.hid hy0; have Hy1 := Lib.hid hy1; have Hy2 := Lib.hid hy2
  have HbW := Lib.hid hbW
  have hsW' := bsz hsW
  clear hm hg hbW hsW hw hr hi1 hy0 hy1 hy2
  obtain ⟨c00, c01, c02, c03, f00, f01, f02, f03, lt0⟩ := B0.c4
  obtain ⟨c10, c11, c12, c13, c14, c15, c16, c17, c18, f10, f11, f12, f13, f14, f15, f16, f17, f18, lt1⟩ := B1.c9
  go_enter Tryz.func6, Tryz.ntmps6
  go_wp2_with fail
  refine (devRight_any W _ _ _ ⟨dk, next, []⟩ Hg.out (Hm.out.up HbW.out)).mono ?_
  rintro e V1 ⟨rfl, hb_V1⟩
  clear c00 c01 c02 c03 f00 f01 f02 f03 lt0 c10 c11 c12 c13 c14 c15 c16 c17 c18 f10 f11 f12 f13 f14 f15 f16 f17 f18 lt1 hW
  replace B0 := B0.up hb_V1
  replace B1 := B1.up hb_V1
  have Hb1 := Lib.hid (HbW.out.trans (hb_V1.mono hsW'))
  have hs_V1 := hb_V1.size
  clear hb_V1
  obtain ⟨c00, c01, c02, c03, f00, f01, f02, f03, lt0⟩ := B0.c4
  obtain ⟨c10, c11, c12, c13, c14, c15, c16, c17, c18, f10, f11, f12, f13, f14, f15, f16, f17, f18, lt1⟩ := B1.c9
  go_wp2_with fail
  refine (lanNew_any V1 WA wc ws 4 h1 h6 Hw.out (Hr.out.up Hb1.out)).mono ?_
  rintro e V2 ⟨v', rfl, hml, hb_V2⟩
  obtain ⟨L, lc, rfl, _, _⟩ := hml.len
  simp only [List.length_map] at hml ⊢
  clear c00 c01 c02 c03 f00 f01 f02 f03 lt0 c10 c11 c12 c13 c14 c15 c16 c17 c18 f10 f11 f12 f13 f14 f15 f16 f17 f18 lt1
  replace B0 := B0.up hb_V2; replace B1 := B1.up hb_V2
  have Hb2 := Lib.hid (Hb1.out.trans (hb_V2.mono Hb1.out.size))
  have Hml := Lib.hid hml
  clear hb_V2 hml
  obtain ⟨c00, c01, c02, c03, f00, f01, f02, f03, lt0⟩ := B0.c4
  obtain ⟨c10, c11, c12, c13, c14, c15, c16, c17, c18, f10, f11, f12, f13, f14, f15, f16, f17, f18, lt1⟩ := B1.c9
  go_upto_region 6 with fail
  obtain ⟨V3, hV3⟩ : ∃ V3, V2.alloc (.cells #[.slice L ws.length lc, .int .i64 0, .bool false] 33) = V3 := ⟨_, rfl⟩
  try rw [hV3]
  have hb3 : Below V2.heap.size V2 V3 := by rw [← hV3]; exact (Below.refl _ _).alloc (Nat.le_refl _) _
  have B2 : Bx V2.heap.size 33 #[.slice L ws.length lc, .int .i64 0, .bool false] V3 := by rw [← hV3]; exact Bx.new _ _ _
  obtain ⟨M, hM⟩ : ∃ M, V2.heap.size = M := ⟨_, rfl⟩
  try rw [hM] at B2 ⊢
  clear hV3 c00 c01 c02 c03 f00 f01 f02 f03 lt0 c10 c11 c12 c13 c14 c15 c16 c17 c18 f10 f11 f12 f13 f14 f15 f16 f17 f18 lt1
  replace B0 := B0.up hb3; replace B1 := B1.up hb3
  have Hb3 := Lib.hid (Hb2.out.trans (hb3.mono Hb2.out.size))
  have Hml3 := Lib.hid (Hml.out.up hb3)
  clear hb3 hM Hml
  obtain ⟨c00, c01, c02, c03, f00, f01, f02, f03, lt0⟩ := B0.c4
  obtain ⟨c10, c11, c12, c13, c14, c15, c16, c17, c18, f10, f11, f12, f13, f14, f15, f16, f17, f18, lt1⟩ := B1.c9
  obtain ⟨c20, c21, c22, f20, f21, f22, lt2⟩ := B2.c3
  refine wp_region_S 6 (fun U => ∃ y : BW V3, U = y.w) (by kernel_rfl) rfl rfl ?_
  have n_c00 := bw_cell c00 lt0
  have n_c01 := bw_cell c01 lt0
  have n_c02 := bw_cell c02 lt0
  have n_c03 := bw_cell c03 lt0
  have n_c20 := bw_cell c20 lt2
  have n_c21 := bw_cell c21 lt2
  have n_c22 := bw_cell c22 lt2
  have HC : Hid (∃ y : BW V3, V3.drew = y.w) := Lib.hid ⟨⟨_, (Below.refl _ _).drew⟩, rfl⟩
  clear c00 c01 c02 c03 f00 f01 f02 f03 c10 c11 c12 c13 c14 c15 c16 c17 c18 f10 f11 f12 f13 f14 f15 f16 f17 f18 c20 c21 c22 f20 f21 f22
  refine pureS 0 rfl (by kernel_rfl) rfl (fun _ _ _ _ _ h => h) HC.out ?_
  go_big_quiet_step (fail)
  refine wpQuiet_nil ?_
  refine pureS 1 rfl (by kernel_rfl) rfl (fun _ _ _ _ _ h => h) HC.out ?_
  go_big_quiet_step (fail)
  refine wpQuiet_nil ?_
  refine pureS 2 rfl (by kernel_rfl) rfl (fun _ _ _ _ _ h => h) HC.out ?_
  go_big_quiet_step (fail)
  refine wpQuiet_nil ?_
  refine pureS 4 rfl (by kernel_rfl) rfl (fun _ _ _ _ _ h => h) HC.out ?_
  go_big_quiet_step (fail)
  refine wpQuiet_nil ?_
  refine oneS 3 (by kernel_rfl) rfl rfl rfl (fun K hK => ?_)
  have HK := Lib.hid hK; clear hK
  refine wp_make _ _ 34 rfl V3.heap.size 38 i1 (.slice none 0 0) 1 Tryz.underlying34 Hi1.out Hy0.out Hy1.out .i64 .i64 _ _ ws.length rfl rfl rfl rfl (by rw [Hy2.out]; omega) (by unfold maxLen; omega) (by simp) ?_
  intro U ho hgr
  have hbU : Below V3.heap.size V3 U := (Below.refl _ _).drew.grown hgr (by simp) (by simp)
  have ltJ : V3.heap.size ≤ V3.drew.heap.size := by simp
  obtain ⟨J, hJ⟩ : ∃ J, V3.drew.heap.size = J := ⟨_, rfl⟩
  rw [hJ] at ho ltJ ⊢
  rw [Nat.mul_one] at ho
  have ho2 : U.ownsRow V3.heap.size 38 1 (.slice (some ⟨J, 0, none⟩) ws.length ws.length) ws.length ((List.replicate ws.length (⟨none, 0, 0⟩ : Jr)).flatMap Jr.cells) := by
    rw [← made_jr]; exact ho
  have Ho := Lib.hid ho2
  have HbU := Lib.hid hbU
  clear ho ho2 hgr hbU hJ
  go_simp
  refine HK.out _ _ (fun _ => ⟨⟨U, HbU.out⟩, rfl⟩) ?_
  clear HK K
  refine oneS 5 (by kernel_rfl) rfl rfl rfl (fun K hK => ?_)
  have HK := Lib.hid hK; clear hK
  go_simp
  refine HK.out _ _ (fun _ => ⟨⟨U, HbU.out⟩, rfl⟩) ?_
  clear HK K
  replace B0 := B0.upB HbU.out lt0; replace B1 := B1.upB HbU.out lt1; replace B2 := B2.upB HbU.out lt2
  clear lt0 lt1 lt2
  obtain ⟨c00, c01, c02, c03, f00, f01, f02, f03, lt0⟩ := B0.c4
  obtain ⟨c10, c11, c12, c13, c14, c15, c16, c17, c18, f10, f11, f12, f13, f14, f15, f16, f17, f18, lt1⟩ := B1.c9
  obtain ⟨c20, c21, c22, f20, f21, f22, lt2⟩ := B2.c3
  obtain ⟨U8, hU8, B1', hk8, _, hb8⟩ := st_9_0_9 (.slice L ws.length lc) (.int .i64 0) (.bool false) (.slice (some ⟨J, 0, none⟩) ws.length ws.length) (.slice A dk.secs.length ac) (.slice B dk.cache.length bc) (.int .i64 next) (.slice F 0 fc) (.slice none 0 0) B1
  have hb4 := hb8 _ _ (Hb3.out.trans (HbU.out.mono Hb3.out.size)) (by omega)
  have Hb4 := Lib.hid hb4
  have Hml4 := Lib.hid ((Hml3.out.up HbU.out).keep (fun b' t cs fr ht hb' => hk8 b' (B1.ne_type hb' (by rcases ht with rfl | rfl <;> decide))))
  have hS : Sl Jr.cells 1 38 U (.slice (some ⟨J, 0, none⟩) ws.length ws.length) (List.replicate ws.length ⟨none, 0, 0⟩) := Sl.of_own (f := Jr.cells) Ho.out (by simp) jr_len (by decide)
  have HS := Lib.hid (hS.off B1 (by decide) hk8)
  clear hb4 hS hb8 hk8
  refine oneS 6 (by kernel_rfl) rfl rfl rfl (fun K hK => ?_)
  have HK := Lib.hid hK; clear hK
  go_simp
  try rw [hU8]
  refine HK.out _ _ (fun h => absurd h (by decide)) ?_
  clear HK K hU8 B1 c00 c01 c02 c03 f00 f01 f02 f03 lt0 c10 c11 c12 c13 c14 c15 c16 c17 c18 f10 f11 f12 f13 f14 f15 f16 f17 f18 lt1 c20 c21 c22 f20 f21 f22 lt2
  obtain ⟨c10, c11, c12, c13, c14, c15, c16, c17, c18, f10, f11, f12, f13, f14, f15, f16, f17, f18, lt1⟩ := B1'.c9
  refine oneS 7 (by kernel_rfl) rfl rfl rfl (fun K hK => ?_)
  have HK := Lib.hid hK; clear hK
  go_simp
  refine HK.out _ _ (fun h => absurd h (by decide)) ?_
  clear HK K
  refine doneS (by kernel_rfl) ?_
  go_wp2_with fail
  refine bodyPost_ret (v := .tuple #[.agg #[.slice L ws.length lc, .int .i64 0, .bool false, .slice (some ⟨J, 0, none⟩) ws.length ws.length, .slice A dk.secs.length ac, .slice B dk.cache.length bc, .int .i64 next, .slice F 0 fc, .slice none 0 0], .int .i64 0]) (by simp [results, Tryz.results6, go_sem, c10, c11, c12, c13, c14, c15, c16, c17, c18]) rfl ?_
  refine ⟨_, _, rfl, ⟨Hml4.out, HS.out, fun z hz e => ?_, Hm.out.up Hb4.out, Sl.nil⟩, Hb4.out⟩
  obtain ⟨_, rfl⟩ := List.mem_replicate.1 hz
  cases e
end Go.Proofs.YthiblfkmcdnalaaGreat
