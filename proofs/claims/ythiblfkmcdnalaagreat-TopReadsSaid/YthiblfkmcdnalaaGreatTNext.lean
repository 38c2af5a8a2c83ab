/- The contracts of lanes.Next: nothing waits; one thing waits in one of two lanes. Printed by gen_next.py. -/
import Derived.Test.YthiblfkmcdnalaaGreatTPush
import Derived.Deep.CutBlock
namespace Go.Proofs.YthiblfkmcdnalaaGreat
set_option maxRecDepth 1000000
open Go.RowKit
set_option maxRecDepth 1000000

set_option maxHeartbeats 4000000 in
theorem next_no (w : World) (v : Value) (c at_ : Int) (given : Bool) (vs : List Ln) (hc : 1 ≤ c ∧ c ≤ 8) (h1 : 1 ≤ vs.length) (h6 : vs.length ≤ 6) (ha : 0 ≤ at_ ∧ at_ < vs.length) (hm : MLn w v c vs) (h0 : ∀ x ∈ vs, x.n = 0) :
    Calls Tryz.prog 22 #[.agg #[v, .int .i64 at_, .bool given]] w fun e w' => e = .returned (.tuple #[.agg #[v, .int .i64 at_, .bool given], .int .i64 0, .int .i64 0, .bool false]) ∧ Below w.heap.size w w' := by
  obtain ⟨A, ac, rfl, a1, a2⟩ := hm.len
  obtain ⟨W, hW, hbW, hsW, B0, B1⟩ := box2 w #[.slice A vs.length ac, .int .i64 at_, .bool given] 33 #[.slice none 0 0, .int .i64 0, .bool false] 33
  have Hm := Lib.hid hm; have Hc := Lib.hid hc; have Ha := Lib.hid ha; have H0 := Lib.hid h0
  have HbW := Lib.hid hbW
  have hsW' := bsz hsW
  clear hm hbW hsW hc ha h0
  obtain ⟨c00, c01, c02, f00, f01, f02, lt0⟩ := B0.c3
  obtain ⟨c10, c11, c12, f10, f11, f12, lt1⟩ := B1.c3
  go_enter Tryz.func22, Tryz.ntmps22
  go_wp2_with fail
  go_step3
  go_wp2_with fail
  refine (lanRight_any W _ c at_ given vs Hc.out h1 h6 Ha.out (Hm.out.up HbW.out)).mono ?_
  rintro e V1 ⟨rfl, hb_V1⟩
  clear c00 c01 c02 f00 f01 f02 lt0 c10 c11 c12 f10 f11 f12 lt1 hW
  replace B0 := B0.up hb_V1
  replace B1 := B1.up hb_V1
  have Hb1 := Lib.hid (HbW.out.trans (hb_V1.mono hsW'))
  have hs_V1 := hb_V1.size
  clear hb_V1
  obtain ⟨c00, c01, c02, f00, f01, f02, lt0⟩ := B0.c3
  obtain ⟨c10, c11, c12, f10, f11, f12, lt1⟩ := B1.c3
  go_wp2_with fail
  refine (waits_no V1 _ c at_ given vs h6 (Hm.out.up Hb1.out) H0.out).mono ?_
  rintro e V2 ⟨rfl, hb_V2⟩
  clear c00 c01 c02 f00 f01 f02 lt0 c10 c11 c12 f10 f11 f12 lt1 
  replace B0 := B0.up hb_V2
  replace B1 := B1.up hb_V2
  have Hb2 := Lib.hid (Hb1.out.trans (hb_V2.mono Hb1.out.size))
  have hs_V2 := hb_V2.size
  clear hb_V2
  obtain ⟨c00, c01, c02, f00, f01, f02, lt0⟩ := B0.c3
  obtain ⟨c10, c11, c12, f10, f11, f12, lt1⟩ := B1.c3
  go_wp2_with fail
  rw [Exit.noGoto_ret]
  refine bodyPost_ret (v := .tuple #[.agg #[.slice A vs.length ac, .int .i64 at_, .bool given], .int .i64 0, .int .i64 0, .bool false]) (by simp [results, Tryz.results22, go_sem, c10, c11, c12]) rfl ?_
  obtain ⟨U8, hU8, _, hk8, _, hb8⟩ := st_3_0_3 (.slice A vs.length ac) (.int .i64 at_) (.bool given) B1
  rw [hU8]
  exact ⟨rfl, hb8 _ _ Hb2.out (by omega)⟩

def NextRel0 (w : World) (G lc : Nat) (cells : List Value) (g : Nat) (s : Value) (wr : World) : Prop :=
  ∃ (at' : Int) (gv : Bool), s = .int .i64 0 ∧ ((at' = 0 ∧ gv = false) ∨ (at' = 1 ∧ g = 1)) ∧ Bx w.heap.size 33 #[.slice (some ⟨G, 0, none⟩) 2 lc, .int .i64 at', .bool gv] wr ∧ Bx (w.heap.size + 1) 33 #[.slice none 0 0, .int .i64 0, .bool false] wr ∧ wr.ownsRow (w.heap.size + 1 + 1) 140 3 (.slice (some ⟨G, 0, none⟩) 2 lc) 2 cells ∧ Below w.heap.size w wr
set_option maxHeartbeats 8000000 in
theorem next_yes0 (w : World) (v : Value) (c at_ wk wo : Int) (given : Bool) (KA OA : Option Addr) (kcp ocp : Nat) (hc : 1 ≤ c ∧ c ≤ 8) (hcw : c ≤ wk * 4) (ha : (at_ = 0 ∧ given = false) ∨ at_ = 1) (hm : MLn w v c [⟨wk, 0, KA, 1, kcp⟩, ⟨wo, 0, OA, 0, ocp⟩]) :
    Calls Tryz.prog 22 #[.agg #[v, .int .i64 at_, .bool given]] w fun e w' => ∃ v', e = .returned (.tuple #[.agg #[v', .int .i64 0, .bool true], .int .i64 0, .int .i64 c, .bool true]) ∧ (∃ LA lcp, MLn w' v' c [⟨wk, 0, LA, 0, lcp⟩, ⟨wo, 0, OA, 0, ocp⟩]) ∧ Below w.heap.size w w' := by
  obtain ⟨A, ac, rfl, a1, a2⟩ := hm.len
  obtain ⟨W, hW, hbW, hsW, B0, B1⟩ := box2 w #[.slice A 2 ac, .int .i64 at_, .bool given] 33 #[.slice none 0 0, .int .i64 0, .bool false] 33
  have hGk := hm.2 ⟨wk, 0, KA, 1, kcp⟩ (by simp)
  have hGo := hm.2 ⟨wo, 0, OA, 0, ocp⟩ (by simp)
  obtain ⟨wk1, wk2, _, _, kc1, kc2, hrt⟩ := hGk
  simp only at wk1 wk2 kc1 kc2
  have Hrt := Lib.hid (hrt rfl)
  obtain ⟨q, cb, co, hq, rfl, hcb, hcell⟩ := int_at (hrt rfl) (k := 0) (by simp)
  obtain rfl : c = q := by simpa using hq
  have Hcell := Lib.hid hcell; have HGo := Lib.hid hGo
  have Hm := Lib.hid hm; have Hc := Lib.hid hc
  have ha1 : 0 ≤ at_ ∧ at_ < 2 := by rcases ha with ⟨rfl, _⟩ | rfl <;> omega
  have Ha := Lib.hid ha; have Ha1 := Lib.hid ha1
  have HbW := Lib.hid hbW
  have hsW' := bsz hsW
  obtain ⟨hc1, hc2⟩ := hc
  clear hm hbW hsW ha ha1 hrt hq hcell hGo
  simp only [List.length_cons, List.length_nil, Nat.zero_add, Nat.reduceAdd] at a1 ⊢
  obtain ⟨c00, c01, c02, f00, f01, f02, lt0⟩ := B0.c3
  obtain ⟨c10, c11, c12, f10, f11, f12, lt1⟩ := B1.c3
  go_enter Tryz.func22, Tryz.ntmps22
  go_wp2_with fail
  go_step3
  go_wp2_with fail
  refine (lanRight_any W _ c at_ given [⟨wk, 0, some ⟨cb, co, none⟩, 1, kcp⟩, ⟨wo, 0, OA, 0, ocp⟩] Hc.out (by simp) (by simp) Ha1.out (Hm.out.up HbW.out)).mono ?_
  rintro e V1 ⟨rfl, hb_V1⟩
  clear c00 c01 c02 f00 f01 f02 lt0 c10 c11 c12 f10 f11 f12 lt1 hW
  replace B0 := B0.up hb_V1
  replace B1 := B1.up hb_V1
  have Hb1 := Lib.hid (HbW.out.trans (hb_V1.mono hsW'))
  have hs_V1 := hb_V1.size
  clear hb_V1
  obtain ⟨c00, c01, c02, f00, f01, f02, lt0⟩ := B0.c3
  obtain ⟨c10, c11, c12, f10, f11, f12, lt1⟩ := B1.c3
  go_wp2_with fail
  refine (waits_yes V1 _ c at_ given [⟨wk, 0, some ⟨cb, co, none⟩, 1, kcp⟩, ⟨wo, 0, OA, 0, ocp⟩] 0 ⟨wk, 0, some ⟨cb, co, none⟩, 1, kcp⟩ (by simp) (Hm.out.up Hb1.out) (fun j y hj => absurd hj (by omega)) rfl rfl).mono ?_
  rintro e V2 ⟨rfl, hb_V2⟩
  clear c00 c01 c02 f00 f01 f02 lt0 c10 c11 c12 f10 f11 f12 lt1 
  replace B0 := B0.up hb_V2
  replace B1 := B1.up hb_V2
  have Hb2 := Lib.hid (Hb1.out.trans (hb_V2.mono Hb1.out.size))
  have hs_V2 := hb_V2.size
  clear hb_V2
  obtain ⟨c00, c01, c02, f00, f01, f02, lt0⟩ := B0.c3
  obtain ⟨c10, c11, c12, f10, f11, f12, lt1⟩ := B1.c3
  go_wp2_with fail
  refine (clone_Ln Ln.cells ln_len ln_one V2 A ac [⟨wk, 0, some ⟨cb, co, none⟩, 1, kcp⟩, ⟨wo, 0, OA, 0, ocp⟩] (by simp) (Hm.out.1.rt.up Hb2.out)).mono ?_
  rintro e V3 ⟨L, lc, rfl, hoL, hb3⟩
  clear c00 c01 c02 f00 f01 f02 lt0 c10 c11 c12 f10 f11 f12 lt1
  have ltM := B1.lt
  replace B0 := B0.up hb3; replace B1 := B1.up hb3
  have Hb3 := Lib.hid (Hb2.out.trans (hb3.mono Hb2.out.size))
  obtain ⟨G, lc', hG, hGb, _, _⟩ := own_addr hoL (by simp)
  injection hG with hG1 _ hG2
  subst hG1
  subst hG2
  have hGM : w.heap.size + 1 + 1 ≤ G := by omega
  have HoL : Hid (V3.ownsRow (w.heap.size + 1 + 1) 140 3 (.slice (some ⟨G, 0, none⟩) 2 lc) 2 [.int .i64 wk, .int .i64 0, .slice (some ⟨cb, co, none⟩) 1 kcp, .int .i64 wo, .int .i64 0, .slice OA 0 ocp]) := Lib.hid (own_base hoL (show w.heap.size + 1 + 1 ≤ V2.heap.size from ltM))
  clear hoL hb3
  obtain ⟨c00, c01, c02, f00, f01, f02, lt0⟩ := B0.c3
  obtain ⟨c10, c11, c12, f10, f11, f12, lt1⟩ := B1.c3
  simp only [List.length_cons, List.length_nil, Nat.zero_add, Nat.reduceAdd]
  go_upto_region 4 with fail
  obtain ⟨V4, hV4, B0', hk4, hs4, hb4⟩ := st_3_0_1 (.slice (some ⟨G, 0, none⟩) 2 lc) B0
  try rw [hV4]
  replace B1 := B1.keep (hk4 _ (by omega))
  have HoL4 := Lib.hid (show V4.ownsRow (w.heap.size + 1 + 1) 140 3 (.slice (some ⟨G, 0, none⟩) 2 lc) 2 [.int .i64 wk, .int .i64 0, .slice (some ⟨cb, co, none⟩) 1 kcp, .int .i64 wo, .int .i64 0, .slice OA 0 ocp] from by
    rw [← hV4]
    exact own_setCell (j := 0) HoL.out (by simp [Value.ownBlock]; omega) _)
  have Hb4 := Lib.hid (hb4 _ _ Hb3.out (Nat.le_refl _))
  clear hV4 hk4 hs4 hb4 B0 HoL c00 c01 c02 f00 f01 f02 lt0 c10 c11 c12 f10 f11 f12 lt1
  have B0 := B0'
  clear B0'
  go_wp2_with fail
  go_step3
  go_wp2_with fail
  go_loopg [6] 1 (fun g s wr => NextRel0 w G lc [.int .i64 wk, .int .i64 0, .slice (some ⟨cb, co, none⟩) 1 kcp, .int .i64 wo, .int .i64 0, .slice OA 0 ocp] g s wr)
  case atStart =>
    rcases Ha.out with ⟨rfl, rfl⟩ | rfl
    · exact ⟨0, false, rfl, .inl ⟨rfl, rfl⟩, B0, B1, HoL4.out, Hb4.out⟩
    · exact ⟨1, given, rfl, .inr ⟨rfl, rfl⟩, B0, B1, HoL4.out, Hb4.out⟩
  case round =>
    clear B0 B1
    obtain ⟨at', gv, rfl, hcs, B0, B1, ho, hb⟩ := hrel
    have Ho := Lib.hid ho; have Hb := Lib.hid hb
    clear ho hb
    rcases hcs with ⟨rfl, rfl⟩ | ⟨rfl, hg⟩
    · skip
      obtain ⟨c00, c01, c02, f00, f01, f02, lt0⟩ := B0.c3
      obtain ⟨c10, c11, c12, f10, f11, f12, lt1⟩ := B1.c3
      have r0 : wr.cell? ⟨G, 0, none⟩ = some (.int .i64 wk) := Ho.out.cellAt 0 (by decide)
      have q0 := Ho.out.frozenAt 0
      have r1 : wr.cell? ⟨G, 1, none⟩ = some (.int .i64 0) := Ho.out.cellAt 1 (by decide)
      have q1 := Ho.out.frozenAt 1
      have r2 : wr.cell? ⟨G, 2, none⟩ = some (.slice (some ⟨cb, co, none⟩) 1 kcp) := Ho.out.cellAt 2 (by decide)
      have q2 := Ho.out.frozenAt 2
      have r3 : wr.cell? ⟨G, 3, none⟩ = some (.int .i64 wo) := Ho.out.cellAt 3 (by decide)
      have q3 := Ho.out.frozenAt 3
      have r4 : wr.cell? ⟨G, 4, none⟩ = some (.int .i64 0) := Ho.out.cellAt 4 (by decide)
      have q4 := Ho.out.frozenAt 4
      have r5 : wr.cell? ⟨G, 5, none⟩ = some (.slice OA 0 ocp) := Ho.out.cellAt 5 (by decide)
      have q5 := Ho.out.frozenAt 5
      have ltG : G < wr.heap.size := (Ho.out.lt G rfl).2
      go_upto_region 10 with fail
      refine wp_region_S 10 (fun U => ∃ y : BW wr, U = y.w) (by kernel_rfl) rfl rfl ?_
      have n_a := bw_cell r0 ltG
      have n_b := bw_cell r1 ltG
      have HC : Hid (∃ y : BW wr, wr.drew = y.w) := Lib.hid ⟨⟨_, (Below.refl _ _).drew⟩, rfl⟩
      refine pureS 0 rfl (by kernel_rfl) rfl (fun _ _ _ _ _ h => h) HC.out ?_
      go_big_quiet_step (fail)
      refine wpQuiet_nil ?_
      refine pureS 1 rfl (by kernel_rfl) rfl (fun _ _ _ _ _ h => h) HC.out ?_
      go_big_quiet_step (fail)
      refine wpQuiet_nil ?_
      refine pureS 2 rfl (by kernel_rfl) rfl (fun _ _ _ _ _ h => h) HC.out ?_
      go_big_quiet_step (fail)
      refine wpQuiet_nil ?_
      refine pureS 3 rfl (by kernel_rfl) rfl (fun _ _ _ _ _ h => h) HC.out ?_
      go_big_quiet_step (fail)
      refine wpQuiet_nil ?_
      refine pureS 4 rfl (by kernel_rfl) rfl (fun _ _ _ _ _ h => h) HC.out ?_
      go_big_quiet_step (fail)
      refine wpQuiet_nil ?_
      refine pureS 5 rfl (by kernel_rfl) rfl (fun _ _ _ _ _ h => h) HC.out ?_
      go_big_quiet_step (fail)
      refine wpQuiet_nil ?_
      refine pureS 6 rfl (by kernel_rfl) rfl (fun _ _ _ _ _ h => h) HC.out ?_
      go_big_quiet_step (fail)
      refine wpQuiet_nil ?_
      refine pureS 7 rfl (by kernel_rfl) rfl (fun _ _ _ _ _ h => h) HC.out ?_
      go_big_quiet_step (fail)
      refine wpQuiet_nil ?_
      refine pureS 8 rfl (by kernel_rfl) rfl (fun _ _ _ _ _ h => h) HC.out ?_
      go_big_quiet_step (fail)
      refine wpQuiet_nil ?_
      refine pureS 9 rfl (by kernel_rfl) rfl (fun _ _ _ _ _ h => h) HC.out ?_
      go_big_quiet_step (fail)
      refine wpQuiet_nil ?_
      refine oneS 10 (by kernel_rfl) rfl rfl rfl (fun K hK => ?_)
      have HK := Lib.hid hK; clear hK
      go_simp
      refine HK.out _ _ (fun h => absurd h (by decide)) ?_
      clear HK K
      refine oneS 11 (by kernel_rfl) rfl rfl rfl (fun K hK => ?_)
      have HK := Lib.hid hK; clear hK
      go_simp
      refine HK.out _ _ (fun h => absurd h (by decide)) ?_
      clear HK K
      refine oneS 12 (by kernel_rfl) rfl rfl rfl (fun K hK => ?_)
      have HK := Lib.hid hK; clear hK
      go_simp
      refine HK.out _ _ (fun h => absurd h (by decide)) ?_
      clear HK K
      refine doneS (by kernel_rfl) ?_
      obtain ⟨X, hX⟩ : ∃ X, wr.setCell ⟨G, 1, none⟩ (.int .i64 (wk * 4)) = X := ⟨_, rfl⟩
      rw [hX]
      have ho_ := (Ho.out.stored 1 (.int .i64 (wk * 4))).1
      have HoX : Hid (World.ownsRow (wr.setCell ⟨G, 1, none⟩ (.int .i64 (wk * 4))) (w.heap.size + 1 + 1) 140 3 (.slice (some ⟨G, 0, none⟩) 2 lc) 2 [.int .i64 wk, .int .i64 (wk * 4), .slice (some ⟨cb, co, none⟩) 1 kcp, .int .i64 wo, .int .i64 0, .slice OA 0 ocp]) := Lib.hid ho_
      clear ho_
      rw [hX] at HoX
      replace B0 := B0.other (M := G) (by omega) 1 (.int .i64 (wk * 4)); replace B1 := B1.other (M := G) (by omega) 1 (.int .i64 (wk * 4))
      rw [hX] at B0 B1
      have HbX := Lib.hid (Hb.out.setCell (p := ⟨G, 1, none⟩) (by show w.heap.size ≤ G; omega) (.int .i64 (wk * 4)))
      rw [hX] at HbX
      clear hX Ho Hb HC n_a n_b r0 q0 r1 q1 r2 q2 r3 q3 r4 q4 r5 q5 ltG c00 c01 c02 f00 f01 f02 lt0 c10 c11 c12 f10 f11 f12 lt1
      obtain ⟨c00, c01, c02, f00, f01, f02, lt0⟩ := B0.c3
      obtain ⟨c10, c11, c12, f10, f11, f12, lt1⟩ := B1.c3
      have r0 : X.cell? ⟨G, 0, none⟩ = some (.int .i64 wk) := HoX.out.cellAt 0 (by decide)
      have q0 := HoX.out.frozenAt 0
      have r1 : X.cell? ⟨G, 1, none⟩ = some (.int .i64 (wk * 4)) := HoX.out.cellAt 1 (by decide)
      have q1 := HoX.out.frozenAt 1
      have r2 : X.cell? ⟨G, 2, none⟩ = some (.slice (some ⟨cb, co, none⟩) 1 kcp) := HoX.out.cellAt 2 (by decide)
      have q2 := HoX.out.frozenAt 2
      have r3 : X.cell? ⟨G, 3, none⟩ = some (.int .i64 wo) := HoX.out.cellAt 3 (by decide)
      have q3 := HoX.out.frozenAt 3
      have r4 : X.cell? ⟨G, 4, none⟩ = some (.int .i64 0) := HoX.out.cellAt 4 (by decide)
      have q4 := HoX.out.frozenAt 4
      have r5 : X.cell? ⟨G, 5, none⟩ = some (.slice OA 0 ocp) := HoX.out.cellAt 5 (by decide)
      have q5 := HoX.out.frozenAt 5
      have ltG : G < X.heap.size := (HoX.out.lt G rfl).2
      go_upto_region 12 with fail
      obtain ⟨Y, hY, B0a, hkY, _, hbY⟩ := st_3_2_1 (.bool true) B0
      rw [hY]
      have HoY := Lib.hid (show Y.ownsRow (w.heap.size + 1 + 1) 140 3 (.slice (some ⟨G, 0, none⟩) 2 lc) 2 [.int .i64 wk, .int .i64 (wk * 4), .slice (some ⟨cb, co, none⟩) 1 kcp, .int .i64 wo, .int .i64 0, .slice OA 0 ocp] from by
        rw [← hY]
        exact own_setCell (j := 2) HoX.out (by simp [Value.ownBlock]; omega) _)
      have HbY := Lib.hid (hbY _ _ HbX.out (Nat.le_refl _))
      replace B1 := B1.keep (hkY _ (by omega))
      clear hY hkY hbY B0 HoX HbX r0 q0 r1 q1 r2 q2 r3 q3 r4 q4 r5 q5 ltG c00 c01 c02 f00 f01 f02 lt0 c10 c11 c12 f10 f11 f12 lt1
      have B0 := B0a
      clear B0a
      obtain ⟨c00, c01, c02, f00, f01, f02, lt0⟩ := B0.c3
      obtain ⟨c10, c11, c12, f10, f11, f12, lt1⟩ := B1.c3
      have r0 : Y.cell? ⟨G, 0, none⟩ = some (.int .i64 wk) := HoY.out.cellAt 0 (by decide)
      have q0 := HoY.out.frozenAt 0
      have r1 : Y.cell? ⟨G, 1, none⟩ = some (.int .i64 (wk * 4)) := HoY.out.cellAt 1 (by decide)
      have q1 := HoY.out.frozenAt 1
      have r2 : Y.cell? ⟨G, 2, none⟩ = some (.slice (some ⟨cb, co, none⟩) 1 kcp) := HoY.out.cellAt 2 (by decide)
      have q2 := HoY.out.frozenAt 2
      have r3 : Y.cell? ⟨G, 3, none⟩ = some (.int .i64 wo) := HoY.out.cellAt 3 (by decide)
      have q3 := HoY.out.frozenAt 3
      have r4 : Y.cell? ⟨G, 4, none⟩ = some (.int .i64 0) := HoY.out.cellAt 4 (by decide)
      have q4 := HoY.out.frozenAt 4
      have r5 : Y.cell? ⟨G, 5, none⟩ = some (.slice OA 0 ocp) := HoY.out.cellAt 5 (by decide)
      have q5 := HoY.out.frozenAt 5
      have ltG : G < Y.heap.size := (HoY.out.lt G rfl).2
      have g0 := Hcell.out Y HbY.out
      simp only [Nat.add_zero] at g0
      have ltc : cb < Y.heap.size := by have := HbY.out.size; omega
      refine wp_region_S 11 (fun U => ∃ y : BW Y, U = y.w) (by kernel_rfl) rfl rfl ?_
      have n_a := bw_cell r1 ltG
      have n_b := bw_cell r2 ltG
      have n_c := bw_cell g0 ltc
      have HC : Hid (∃ y : BW Y, Y.drew.drew = y.w) := Lib.hid ⟨⟨_, (Below.refl _ _).drew.drew⟩, rfl⟩
      refine pureS 0 rfl (by kernel_rfl) rfl (fun _ _ _ _ _ h => h) HC.out ?_
      go_big_quiet_step (fail)
      refine wpQuiet_nil ?_
      refine pureS 1 rfl (by kernel_rfl) rfl (fun _ _ _ _ _ h => h) HC.out ?_
      go_big_quiet_step (fail)
      refine wpQuiet_nil ?_
      refine pureS 2 rfl (by kernel_rfl) rfl (fun _ _ _ _ _ h => h) HC.out ?_
      go_big_quiet_step (fail)
      refine wpQuiet_nil ?_
      refine pureS 3 rfl (by kernel_rfl) rfl (fun _ _ _ _ _ h => h) HC.out ?_
      go_big_quiet_step (fail)
      refine wpQuiet_nil ?_
      refine pureS 4 rfl (by kernel_rfl) rfl (fun _ _ _ _ _ h => h) HC.out ?_
      go_big_quiet_step (fail)
      refine wpQuiet_nil ?_
      refine pureS 5 rfl (by kernel_rfl) rfl (fun _ _ _ _ _ h => h) HC.out ?_
      go_big_quiet_step (fail)
      refine wpQuiet_nil ?_
      refine pureS 6 rfl (by kernel_rfl) rfl (fun _ _ _ _ _ h => h) HC.out ?_
      go_big_quiet_step (fail)
      refine wpQuiet_nil ?_
      refine pureS 7 rfl (by kernel_rfl) rfl (fun _ _ _ _ _ h => h) HC.out ?_
      go_big_quiet_step (fail)
      refine wpQuiet_nil ?_
      refine pureS 8 rfl (by kernel_rfl) rfl (fun _ _ _ _ _ h => h) HC.out ?_
      go_big_quiet_step (fail)
      refine wpQuiet_nil ?_
      refine pureS 9 rfl (by kernel_rfl) rfl (fun _ _ _ _ _ h => h) HC.out ?_
      go_big_quiet_step (fail)
      refine wpQuiet_nil ?_
      refine pureS 10 rfl (by kernel_rfl) rfl (fun _ _ _ _ _ h => h) HC.out ?_
      go_big_quiet_step (fail)
      refine wpQuiet_nil ?_
      refine doneS (by kernel_rfl) ?_
      clear n_a n_b n_c HC
      rcases Classical.em (kcp = 1) with rfl | hkc
      · skip
        go_wp2_with fail
        refine (clone_In icells i_len i_one _ (some ⟨cb, co, none⟩) 0 [] (by simp) Rt.nil).mono ?_
        rintro e V ⟨CA, cc, rfl, hoC, hbV⟩
        have hbV' : Below Y.heap.size Y V := (Below.refl _ Y).drew.drew.trans hbV
        obtain ⟨CA', cc', heC, hcc1, hcc2⟩ := own_slice hoC
        injection heC with heA heB heC
        subst heA
        subst heC
        have HoV := Lib.hid (own_up HoY.out hbV')
        have HbV := Lib.hid (HbY.out.trans (hbV'.mono HbY.out.size))
        clear hbV hoC heB g0 ltc r0 q0 r1 q1 r2 q2 r3 q3 r4 q4 r5 q5 ltG c00 c01 c02 f00 f01 f02 lt0 c10 c11 c12 f10 f11 f12 lt1
        replace B0 := B0.up hbV'; replace B1 := B1.up hbV'
        clear hbV'
        obtain ⟨c00, c01, c02, f00, f01, f02, lt0⟩ := B0.c3
        obtain ⟨c10, c11, c12, f10, f11, f12, lt1⟩ := B1.c3
        have r0 : V.cell? ⟨G, 0, none⟩ = some (.int .i64 wk) := HoV.out.cellAt 0 (by decide)
        have q0 := HoV.out.frozenAt 0
        have r1 : V.cell? ⟨G, 1, none⟩ = some (.int .i64 (wk * 4)) := HoV.out.cellAt 1 (by decide)
        have q1 := HoV.out.frozenAt 1
        have r2 : V.cell? ⟨G, 2, none⟩ = some (.slice (some ⟨cb, co, none⟩) 1 1) := HoV.out.cellAt 2 (by decide)
        have q2 := HoV.out.frozenAt 2
        have r3 : V.cell? ⟨G, 3, none⟩ = some (.int .i64 wo) := HoV.out.cellAt 3 (by decide)
        have q3 := HoV.out.frozenAt 3
        have r4 : V.cell? ⟨G, 4, none⟩ = some (.int .i64 0) := HoV.out.cellAt 4 (by decide)
        have q4 := HoV.out.frozenAt 4
        have r5 : V.cell? ⟨G, 5, none⟩ = some (.slice OA 0 ocp) := HoV.out.cellAt 5 (by decide)
        have q5 := HoV.out.frozenAt 5
        have ltG : G < V.heap.size := (HoV.out.lt G rfl).2
        have ho_ := (HoV.out.stored 2 (.slice CA 0 cc)).1
        have HoV1 : Hid (World.ownsRow (V.setCell ⟨G, 2, none⟩ (.slice CA 0 cc)) (w.heap.size + 1 + 1) 140 3 (.slice (some ⟨G, 0, none⟩) 2 lc) 2 [.int .i64 wk, .int .i64 (wk * 4), .slice CA 0 cc, .int .i64 wo, .int .i64 0, .slice OA 0 ocp]) := Lib.hid ho_
        clear ho_
        have ho_ := (HoV1.out.stored 1 (.int .i64 (wk * 4 - c))).1
        have HoV2 : Hid (World.ownsRow ((V.setCell ⟨G, 2, none⟩ (.slice CA 0 cc)).setCell ⟨G, 1, none⟩ (.int .i64 (wk * 4 - c))) (w.heap.size + 1 + 1) 140 3 (.slice (some ⟨G, 0, none⟩) 2 lc) 2 [.int .i64 wk, .int .i64 (wk * 4 - c), .slice CA 0 cc, .int .i64 wo, .int .i64 0, .slice OA 0 ocp]) := Lib.hid ho_
        clear ho_
        have ho_ := (HoV2.out.stored 1 (.int .i64 0)).1
        have HoV3 : Hid (World.ownsRow (((V.setCell ⟨G, 2, none⟩ (.slice CA 0 cc)).setCell ⟨G, 1, none⟩ (.int .i64 (wk * 4 - c))).setCell ⟨G, 1, none⟩ (.int .i64 0)) (w.heap.size + 1 + 1) 140 3 (.slice (some ⟨G, 0, none⟩) 2 lc) 2 [.int .i64 wk, .int .i64 0, .slice CA 0 cc, .int .i64 wo, .int .i64 0, .slice OA 0 ocp]) := Lib.hid ho_
        clear ho_
        go_upto_region 18 with fail
        obtain ⟨Z, hZ⟩ : ∃ Z, ((V.setCell ⟨G, 2, none⟩ (.slice CA 0 cc)).setCell ⟨G, 1, none⟩ (.int .i64 (wk * 4 - c))).setCell ⟨G, 1, none⟩ (.int .i64 0) = Z := ⟨_, rfl⟩
        rw [hZ] at HoV3 ⊢
        replace B0 := ((B0.other (M := G) (by omega) 2 (.slice CA 0 cc)).other (M := G) (by omega) 1 (.int .i64 (wk * 4 - c))).other (M := G) (by omega) 1 (.int .i64 0); replace B1 := ((B1.other (M := G) (by omega) 2 (.slice CA 0 cc)).other (M := G) (by omega) 1 (.int .i64 (wk * 4 - c))).other (M := G) (by omega) 1 (.int .i64 0)
        rw [hZ] at B0 B1
        have HbZ := Lib.hid (show Below w.heap.size w Z from by
          rw [← hZ]
          exact ((HbV.out.setCell (p := ⟨G, 2, none⟩) (by show w.heap.size ≤ G; omega) _).setCell (p := ⟨G, 1, none⟩) (by show w.heap.size ≤ G; omega) _).setCell (p := ⟨G, 1, none⟩) (by show w.heap.size ≤ G; omega) _)
        clear hZ HoV HoV1 HoV2 HbV r0 q0 r1 q1 r2 q2 r3 q3 r4 q4 r5 q5 ltG c00 c01 c02 f00 f01 f02 lt0 c10 c11 c12 f10 f11 f12 lt1
        have B1k := B1
        obtain ⟨c00, c01, c02, f00, f01, f02, lt0⟩ := B0.c3
        obtain ⟨c10, c11, c12, f10, f11, f12, lt1⟩ := B1.c3
        refine wp_region_S 8 (fun U => ∃ y : KW Z (fun N => N ≠ w.heap.size + 1), U = y.w) (by kernel_rfl) rfl rfl ?_
        have n_c00 := kw_cell c00 (ok := fun N => N ≠ w.heap.size + 1) (by first | omega | exact ⟨by omega, by omega⟩)
        have n_c01 := kw_cell c01 (ok := fun N => N ≠ w.heap.size + 1) (by first | omega | exact ⟨by omega, by omega⟩)
        have n_c02 := kw_cell c02 (ok := fun N => N ≠ w.heap.size + 1) (by first | omega | exact ⟨by omega, by omega⟩)
        have HC : Hid (∃ y : KW Z (fun N => N ≠ w.heap.size + 1), Z.drew = y.w) := Lib.hid ⟨⟨Z.drew, fun _ _ => rfl⟩, rfl⟩
        refine pureS 0 rfl (by kernel_rfl) rfl (fun _ _ _ _ _ h => h) HC.out ?_
        go_big_quiet_step (fail)
        refine wpQuiet_nil ?_
        refine pureS 1 rfl (by kernel_rfl) rfl (fun _ _ _ _ _ h => h) HC.out ?_
        go_big_quiet_step (fail)
        refine wpQuiet_nil ?_
        refine pureS 2 rfl (by kernel_rfl) rfl (fun _ _ _ _ _ h => h) HC.out ?_
        go_big_quiet_step (fail)
        refine wpQuiet_nil ?_
        refine pureS 3 rfl (by kernel_rfl) rfl (fun _ _ _ _ _ h => h) HC.out ?_
        go_big_quiet_step (fail)
        refine wpQuiet_nil ?_
        obtain ⟨R0, hU_R0, B_R0, hk_R0, hs_R0, hb_R0⟩ := st_3_0_3 (.slice (some ⟨G, 0, none⟩) 2 lc) (.int .i64 0) (.bool true) B1
        refine oneS 4 (by kernel_rfl) rfl rfl rfl (fun K hK => ?_)
        have HK := Lib.hid hK; clear hK
        go_simp
        try rw [hU_R0]
        refine HK.out _ _ (fun _ => ⟨⟨R0.drew, fun N hN => hk_R0 N hN⟩, rfl⟩) ?_
        clear HK K
        have Hb_R0 := Lib.hid (hb_R0 _ _ HbZ.out (by first | omega | exact Nat.le_refl _))
        have hkk_R0 : ∀ N, N ≠ w.heap.size + 1 →  R0.heap[N]? = Z.heap[N]? := fun N q0 => hk_R0 N q0
        clear hU_R0 hs_R0 hb_R0
        clear c10 c11 c12 f10 f11 f12 lt1
        refine oneS 5 (by kernel_rfl) rfl rfl rfl (fun K hK => ?_)
        have HK := Lib.hid hK; clear hK
        go_simp
        refine HK.out _ _ (fun _ => ⟨⟨R0.drew, fun N hN => hk_R0 N hN⟩, rfl⟩) ?_
        clear HK K
        refine oneS 6 (by kernel_rfl) rfl rfl rfl (fun K hK => ?_)
        have HK := Lib.hid hK; clear hK
        go_simp
        refine HK.out _ _ (fun _ => ⟨⟨R0.drew, fun N hN => hk_R0 N hN⟩, rfl⟩) ?_
        clear HK K
        refine oneS 7 (by kernel_rfl) rfl rfl rfl (fun K hK => ?_)
        have HK := Lib.hid hK; clear hK
        go_simp
        refine HK.out _ _ (fun _ => ⟨⟨R0.drew, fun N hN => hk_R0 N hN⟩, rfl⟩) ?_
        clear HK K
        refine doneS (by kernel_rfl) ?_
        obtain ⟨c10, c11, c12, f10, f11, f12, lt1⟩ := B_R0.c3
        go_wp2_with fail
        rw [Exit.noGoto_ret]
        refine bodyPost_ret (v := .tuple #[.agg #[.slice (some ⟨G, 0, none⟩) 2 lc, .int .i64 0, .bool true], .int .i64 0, .int .i64 c, .bool true]) (by simp [results, Tryz.results22, go_sem, c10, c11, c12]) rfl ?_
        have hsl := Sl.of_own (f := Ln.cells) (l := ([⟨wk, 0, CA, 0, cc⟩, ⟨wo, 0, OA, 0, ocp⟩] : List Ln)) HoV3.out rfl ln_len (by decide)
        have hsl2 := hsl.keep (w' := R0.drew) fun g cs fr hg => hkk_R0 g (B1k.ne_type hg (by decide))
        refine ⟨_, rfl, ⟨CA, cc, hsl2, fun z hz => ?_⟩, Hb_R0.out.drew⟩
        simp only [List.mem_cons, List.mem_nil_iff, or_false] at hz
        obtain ⟨p1, p2, p3, p4, p5, p6, p7⟩ := HGo.out
        rcases hz with rfl | rfl
        · exact ⟨wk1, wk2, rfl, by simp, by first | (simp; done) | simpa using hcc1, hcc2, fun e => by cases e⟩
        · exact ⟨p1, p2, rfl, by simp, p5, p6, fun e => by cases e⟩
      · skip
        go_wp2_with fail
        refine (clone_In icells i_len i_one _ (some ⟨cb, co + 1, none⟩) (kcp - 1) [] (by simp) Rt.nil).mono ?_
        rintro e V ⟨CA, cc, rfl, hoC, hbV⟩
        have hbV' : Below Y.heap.size Y V := (Below.refl _ Y).drew.drew.trans hbV
        obtain ⟨CA', cc', heC, hcc1, hcc2⟩ := own_slice hoC
        injection heC with heA heB heC
        subst heA
        subst heC
        have HoV := Lib.hid (own_up HoY.out hbV')
        have HbV := Lib.hid (HbY.out.trans (hbV'.mono HbY.out.size))
        clear hbV hoC heB g0 ltc r0 q0 r1 q1 r2 q2 r3 q3 r4 q4 r5 q5 ltG c00 c01 c02 f00 f01 f02 lt0 c10 c11 c12 f10 f11 f12 lt1
        replace B0 := B0.up hbV'; replace B1 := B1.up hbV'
        clear hbV'
        obtain ⟨c00, c01, c02, f00, f01, f02, lt0⟩ := B0.c3
        obtain ⟨c10, c11, c12, f10, f11, f12, lt1⟩ := B1.c3
        have r0 : V.cell? ⟨G, 0, none⟩ = some (.int .i64 wk) := HoV.out.cellAt 0 (by decide)
        have q0 := HoV.out.frozenAt 0
        have r1 : V.cell? ⟨G, 1, none⟩ = some (.int .i64 (wk * 4)) := HoV.out.cellAt 1 (by decide)
        have q1 := HoV.out.frozenAt 1
        have r2 : V.cell? ⟨G, 2, none⟩ = some (.slice (some ⟨cb, co, none⟩) 1 kcp) := HoV.out.cellAt 2 (by decide)
        have q2 := HoV.out.frozenAt 2
        have r3 : V.cell? ⟨G, 3, none⟩ = some (.int .i64 wo) := HoV.out.cellAt 3 (by decide)
        have q3 := HoV.out.frozenAt 3
        have r4 : V.cell? ⟨G, 4, none⟩ = some (.int .i64 0) := HoV.out.cellAt 4 (by decide)
        have q4 := HoV.out.frozenAt 4
        have r5 : V.cell? ⟨G, 5, none⟩ = some (.slice OA 0 ocp) := HoV.out.cellAt 5 (by decide)
        have q5 := HoV.out.frozenAt 5
        have ltG : G < V.heap.size := (HoV.out.lt G rfl).2
        have ho_ := (HoV.out.stored 2 (.slice CA 0 cc)).1
        have HoV1 : Hid (World.ownsRow (V.setCell ⟨G, 2, none⟩ (.slice CA 0 cc)) (w.heap.size + 1 + 1) 140 3 (.slice (some ⟨G, 0, none⟩) 2 lc) 2 [.int .i64 wk, .int .i64 (wk * 4), .slice CA 0 cc, .int .i64 wo, .int .i64 0, .slice OA 0 ocp]) := Lib.hid ho_
        clear ho_
        have ho_ := (HoV1.out.stored 1 (.int .i64 (wk * 4 - c))).1
        have HoV2 : Hid (World.ownsRow ((V.setCell ⟨G, 2, none⟩ (.slice CA 0 cc)).setCell ⟨G, 1, none⟩ (.int .i64 (wk * 4 - c))) (w.heap.size + 1 + 1) 140 3 (.slice (some ⟨G, 0, none⟩) 2 lc) 2 [.int .i64 wk, .int .i64 (wk * 4 - c), .slice CA 0 cc, .int .i64 wo, .int .i64 0, .slice OA 0 ocp]) := Lib.hid ho_
        clear ho_
        have ho_ := (HoV2.out.stored 1 (.int .i64 0)).1
        have HoV3 : Hid (World.ownsRow (((V.setCell ⟨G, 2, none⟩ (.slice CA 0 cc)).setCell ⟨G, 1, none⟩ (.int .i64 (wk * 4 - c))).setCell ⟨G, 1, none⟩ (.int .i64 0)) (w.heap.size + 1 + 1) 140 3 (.slice (some ⟨G, 0, none⟩) 2 lc) 2 [.int .i64 wk, .int .i64 0, .slice CA 0 cc, .int .i64 wo, .int .i64 0, .slice OA 0 ocp]) := Lib.hid ho_
        clear ho_
        go_upto_region 18 with fail
        obtain ⟨Z, hZ⟩ : ∃ Z, ((V.setCell ⟨G, 2, none⟩ (.slice CA 0 cc)).setCell ⟨G, 1, none⟩ (.int .i64 (wk * 4 - c))).setCell ⟨G, 1, none⟩ (.int .i64 0) = Z := ⟨_, rfl⟩
        rw [hZ] at HoV3 ⊢
        replace B0 := ((B0.other (M := G) (by omega) 2 (.slice CA 0 cc)).other (M := G) (by omega) 1 (.int .i64 (wk * 4 - c))).other (M := G) (by omega) 1 (.int .i64 0); replace B1 := ((B1.other (M := G) (by omega) 2 (.slice CA 0 cc)).other (M := G) (by omega) 1 (.int .i64 (wk * 4 - c))).other (M := G) (by omega) 1 (.int .i64 0)
        rw [hZ] at B0 B1
        have HbZ := Lib.hid (show Below w.heap.size w Z from by
          rw [← hZ]
          exact ((HbV.out.setCell (p := ⟨G, 2, none⟩) (by show w.heap.size ≤ G; omega) _).setCell (p := ⟨G, 1, none⟩) (by show w.heap.size ≤ G; omega) _).setCell (p := ⟨G, 1, none⟩) (by show w.heap.size ≤ G; omega) _)
        clear hZ HoV HoV1 HoV2 HbV r0 q0 r1 q1 r2 q2 r3 q3 r4 q4 r5 q5 ltG c00 c01 c02 f00 f01 f02 lt0 c10 c11 c12 f10 f11 f12 lt1
        have B1k := B1
        obtain ⟨c00, c01, c02, f00, f01, f02, lt0⟩ := B0.c3
        obtain ⟨c10, c11, c12, f10, f11, f12, lt1⟩ := B1.c3
        refine wp_region_S 8 (fun U => ∃ y : KW Z (fun N => N ≠ w.heap.size + 1), U = y.w) (by kernel_rfl) rfl rfl ?_
        have n_c00 := kw_cell c00 (ok := fun N => N ≠ w.heap.size + 1) (by first | omega | exact ⟨by omega, by omega⟩)
        have n_c01 := kw_cell c01 (ok := fun N => N ≠ w.heap.size + 1) (by first | omega | exact ⟨by omega, by omega⟩)
        have n_c02 := kw_cell c02 (ok := fun N => N ≠ w.heap.size + 1) (by first | omega | exact ⟨by omega, by omega⟩)
        have HC : Hid (∃ y : KW Z (fun N => N ≠ w.heap.size + 1), Z.drew = y.w) := Lib.hid ⟨⟨Z.drew, fun _ _ => rfl⟩, rfl⟩
        refine pureS 0 rfl (by kernel_rfl) rfl (fun _ _ _ _ _ h => h) HC.out ?_
        go_big_quiet_step (fail)
        refine wpQuiet_nil ?_
        refine pureS 1 rfl (by kernel_rfl) rfl (fun _ _ _ _ _ h => h) HC.out ?_
        go_big_quiet_step (fail)
        refine wpQuiet_nil ?_
        refine pureS 2 rfl (by kernel_rfl) rfl (fun _ _ _ _ _ h => h) HC.out ?_
        go_big_quiet_step (fail)
        refine wpQuiet_nil ?_
        refine pureS 3 rfl (by kernel_rfl) rfl (fun _ _ _ _ _ h => h) HC.out ?_
        go_big_quiet_step (fail)
        refine wpQuiet_nil ?_
        obtain ⟨R0, hU_R0, B_R0, hk_R0, hs_R0, hb_R0⟩ := st_3_0_3 (.slice (some ⟨G, 0, none⟩) 2 lc) (.int .i64 0) (.bool true) B1
        refine oneS 4 (by kernel_rfl) rfl rfl rfl (fun K hK => ?_)
        have HK := Lib.hid hK; clear hK
        go_simp
        try rw [hU_R0]
        refine HK.out _ _ (fun _ => ⟨⟨R0.drew, fun N hN => hk_R0 N hN⟩, rfl⟩) ?_
        clear HK K
        have Hb_R0 := Lib.hid (hb_R0 _ _ HbZ.out (by first | omega | exact Nat.le_refl _))
        have hkk_R0 : ∀ N, N ≠ w.heap.size + 1 →  R0.heap[N]? = Z.heap[N]? := fun N q0 => hk_R0 N q0
        clear hU_R0 hs_R0 hb_R0
        clear c10 c11 c12 f10 f11 f12 lt1
        refine oneS 5 (by kernel_rfl) rfl rfl rfl (fun K hK => ?_)
        have HK := Lib.hid hK; clear hK
        go_simp
        refine HK.out _ _ (fun _ => ⟨⟨R0.drew, fun N hN => hk_R0 N hN⟩, rfl⟩) ?_
        clear HK K
        refine oneS 6 (by kernel_rfl) rfl rfl rfl (fun K hK => ?_)
        have HK := Lib.hid hK; clear hK
        go_simp
        refine HK.out _ _ (fun _ => ⟨⟨R0.drew, fun N hN => hk_R0 N hN⟩, rfl⟩) ?_
        clear HK K
        refine oneS 7 (by kernel_rfl) rfl rfl rfl (fun K hK => ?_)
        have HK := Lib.hid hK; clear hK
        go_simp
        refine HK.out _ _ (fun _ => ⟨⟨R0.drew, fun N hN => hk_R0 N hN⟩, rfl⟩) ?_
        clear HK K
        refine doneS (by kernel_rfl) ?_
        obtain ⟨c10, c11, c12, f10, f11, f12, lt1⟩ := B_R0.c3
        go_wp2_with fail
        rw [Exit.noGoto_ret]
        refine bodyPost_ret (v := .tuple #[.agg #[.slice (some ⟨G, 0, none⟩) 2 lc, .int .i64 0, .bool true], .int .i64 0, .int .i64 c, .bool true]) (by simp [results, Tryz.results22, go_sem, c10, c11, c12]) rfl ?_
        have hsl := Sl.of_own (f := Ln.cells) (l := ([⟨wk, 0, CA, 0, cc⟩, ⟨wo, 0, OA, 0, ocp⟩] : List Ln)) HoV3.out rfl ln_len (by decide)
        have hsl2 := hsl.keep (w' := R0.drew) fun g cs fr hg => hkk_R0 g (B1k.ne_type hg (by decide))
        refine ⟨_, rfl, ⟨CA, cc, hsl2, fun z hz => ?_⟩, Hb_R0.out.drew⟩
        simp only [List.mem_cons, List.mem_nil_iff, or_false] at hz
        obtain ⟨p1, p2, p3, p4, p5, p6, p7⟩ := HGo.out
        rcases hz with rfl | rfl
        · exact ⟨wk1, wk2, rfl, by simp, by first | (simp; done) | simpa using hcc1, hcc2, fun e => by cases e⟩
        · exact ⟨p1, p2, rfl, by simp, p5, p6, fun e => by cases e⟩

    · have Hg := Lib.hid hg; clear hg
      obtain ⟨c00, c01, c02, f00, f01, f02, lt0⟩ := B0.c3
      obtain ⟨c10, c11, c12, f10, f11, f12, lt1⟩ := B1.c3
      have r0 : wr.cell? ⟨G, 0, none⟩ = some (.int .i64 wk) := Ho.out.cellAt 0 (by decide)
      have q0 := Ho.out.frozenAt 0
      have r1 : wr.cell? ⟨G, 1, none⟩ = some (.int .i64 0) := Ho.out.cellAt 1 (by decide)
      have q1 := Ho.out.frozenAt 1
      have r2 : wr.cell? ⟨G, 2, none⟩ = some (.slice (some ⟨cb, co, none⟩) 1 kcp) := Ho.out.cellAt 2 (by decide)
      have q2 := Ho.out.frozenAt 2
      have r3 : wr.cell? ⟨G, 3, none⟩ = some (.int .i64 wo) := Ho.out.cellAt 3 (by decide)
      have q3 := Ho.out.frozenAt 3
      have r4 : wr.cell? ⟨G, 4, none⟩ = some (.int .i64 0) := Ho.out.cellAt 4 (by decide)
      have q4 := Ho.out.frozenAt 4
      have r5 : wr.cell? ⟨G, 5, none⟩ = some (.slice OA 0 ocp) := Ho.out.cellAt 5 (by decide)
      have q5 := Ho.out.frozenAt 5
      have ltG : G < wr.heap.size := (Ho.out.lt G rfl).2
      go_upto_region 5 with fail
      obtain ⟨X, hX⟩ : ∃ X, wr.setCell ⟨G, 4, none⟩ (.int .i64 0) = X := ⟨_, rfl⟩
      try rw [hX]
      have hoX := (Ho.out.stored 4 (.int .i64 0)).1
      rw [hX] at hoX
      have hoX' : X.ownsRow (w.heap.size + 1 + 1) 140 3 (.slice (some ⟨G, 0, none⟩) 2 lc) 2 [.int .i64 wk, .int .i64 0, .slice (some ⟨cb, co, none⟩) 1 kcp, .int .i64 wo, .int .i64 0, .slice OA 0 ocp] := hoX
      replace B0 := B0.other (M := G) (by omega) 4 (.int .i64 0); replace B1 := B1.other (M := G) (by omega) 4 (.int .i64 0)
      rw [hX] at B0 B1
      have hbX := Hb.out.setCell (p := ⟨G, 4, none⟩) (by show w.heap.size ≤ G; omega) (.int .i64 0)
      rw [hX] at hbX
      clear hX hoX r0 q0 r1 q1 r2 q2 r3 q3 r4 q4 r5 q5 ltG c00 c01 c02 f00 f01 f02 lt0 c10 c11 c12 f10 f11 f12 lt1
      obtain ⟨c00, c01, c02, f00, f01, f02, lt0⟩ := B0.c3
      obtain ⟨c10, c11, c12, f10, f11, f12, lt1⟩ := B1.c3
      obtain ⟨X1, hX1, B0a, hk1, _, hb1⟩ := st_3_1_1 (.int .i64 0) B0
      obtain ⟨X2, hX2, B0b, hk2, _, hb2⟩ := st_3_2_1 (.bool false) B0a
      have hoX2 : X2.ownsRow (w.heap.size + 1 + 1) 140 3 (.slice (some ⟨G, 0, none⟩) 2 lc) 2 [.int .i64 wk, .int .i64 0, .slice (some ⟨cb, co, none⟩) 1 kcp, .int .i64 wo, .int .i64 0, .slice OA 0 ocp] := by
        rw [← hX2, ← hX1]
        exact own_setCell (j := 2) (own_setCell (j := 1) hoX' (by simp [Value.ownBlock]; omega) _) (by simp [Value.ownBlock]; omega) _
      have Hfin := Lib.hid (show NextRel0 w G lc [.int .i64 wk, .int .i64 0, .slice (some ⟨cb, co, none⟩) 1 kcp, .int .i64 wo, .int .i64 0, .slice OA 0 ocp] 0 (.int .i64 0) ((X.setCell ⟨w.heap.size, 1, none⟩ (.int .i64 0)).setCell ⟨w.heap.size, 2, none⟩ (.bool false)) from by
        rw [hX1, hX2]
        exact ⟨0, false, rfl, .inl ⟨rfl, rfl⟩, B0b, B1.keep ((hk2 _ (by omega)).trans (hk1 _ (by omega))), hoX2, hb2 _ _ (hb1 _ _ hbX (Nat.le_refl _)) (Nat.le_refl _)⟩)
      clear hX1 hX2 hoX' hbX B0a hk1 hb1 B0b hk2 hb2 hoX2
      go_wp2_with fail
      go_roundg 0
      case measure => have := Hg.out; omega
      case rel => exact Hfin.out

def NextRel1 (w : World) (G lc : Nat) (cells : List Value) (g : Nat) (s : Value) (wr : World) : Prop :=
  ∃ (at' : Int) (gv : Bool), s = .int .i64 0 ∧ ((at' = 1 ∧ gv = false) ∨ (at' = 0 ∧ g = 1)) ∧ Bx w.heap.size 33 #[.slice (some ⟨G, 0, none⟩) 2 lc, .int .i64 at', .bool gv] wr ∧ Bx (w.heap.size + 1) 33 #[.slice none 0 0, .int .i64 0, .bool false] wr ∧ wr.ownsRow (w.heap.size + 1 + 1) 140 3 (.slice (some ⟨G, 0, none⟩) 2 lc) 2 cells ∧ Below w.heap.size w wr
set_option maxHeartbeats 8000000 in
theorem next_yes1 (w : World) (v : Value) (c at_ wk wo : Int) (given : Bool) (KA OA : Option Addr) (kcp ocp : Nat) (hc : 1 ≤ c ∧ c ≤ 8) (hcw : c ≤ wk * 4) (ha : (at_ = 1 ∧ given = false) ∨ at_ = 0) (hm : MLn w v c [⟨wo, 0, OA, 0, ocp⟩, ⟨wk, 0, KA, 1, kcp⟩]) :
    Calls Tryz.prog 22 #[.agg #[v, .int .i64 at_, .bool given]] w fun e w' => ∃ v', e = .returned (.tuple #[.agg #[v', .int .i64 1, .bool true], .int .i64 1, .int .i64 c, .bool true]) ∧ (∃ LA lcp, MLn w' v' c [⟨wo, 0, OA, 0, ocp⟩, ⟨wk, 0, LA, 0, lcp⟩]) ∧ Below w.heap.size w w' := by
  obtain ⟨A, ac, rfl, a1, a2⟩ := hm.len
  obtain ⟨W, hW, hbW, hsW, B0, B1⟩ := box2 w #[.slice A 2 ac, .int .i64 at_, .bool given] 33 #[.slice none 0 0, .int .i64 0, .bool false] 33
  have hGk := hm.2 ⟨wk, 0, KA, 1, kcp⟩ (by simp)
  have hGo := hm.2 ⟨wo, 0, OA, 0, ocp⟩ (by simp)
  obtain ⟨wk1, wk2, _, _, kc1, kc2, hrt⟩ := hGk
  simp only at wk1 wk2 kc1 kc2
  have Hrt := Lib.hid (hrt rfl)
  obtain ⟨q, cb, co, hq, rfl, hcb, hcell⟩ := int_at (hrt rfl) (k := 0) (by simp)
  obtain rfl : c = q := by simpa using hq
  have Hcell := Lib.hid hcell; have HGo := Lib.hid hGo
  have Hm := Lib.hid hm; have Hc := Lib.hid hc
  have ha1 : 0 ≤ at_ ∧ at_ < 2 := by rcases ha with ⟨rfl, _⟩ | rfl <;> omega
  have Ha := Lib.hid ha; have Ha1 := Lib.hid ha1
  have HbW := Lib.hid hbW
  have hsW' := bsz hsW
  obtain ⟨hc1, hc2⟩ := hc
  clear hm hbW hsW ha ha1 hrt hq hcell hGo
  simp only [List.length_cons, List.length_nil, Nat.zero_add, Nat.reduceAdd] at a1 ⊢
  obtain ⟨c00, c01, c02, f00, f01, f02, lt0⟩ := B0.c3
  obtain ⟨c10, c11, c12, f10, f11, f12, lt1⟩ := B1.c3
  go_enter Tryz.func22, Tryz.ntmps22
  go_wp2_with fail
  go_step3
  go_wp2_with fail
  refine (lanRight_any W _ c at_ given [⟨wo, 0, OA, 0, ocp⟩, ⟨wk, 0, some ⟨cb, co, none⟩, 1, kcp⟩] Hc.out (by simp) (by simp) Ha1.out (Hm.out.up HbW.out)).mono ?_
  rintro e V1 ⟨rfl, hb_V1⟩
  clear c00 c01 c02 f00 f01 f02 lt0 c10 c11 c12 f10 f11 f12 lt1 hW
  replace B0 := B0.up hb_V1
  replace B1 := B1.up hb_V1
  have Hb1 := Lib.hid (HbW.out.trans (hb_V1.mono hsW'))
  have hs_V1 := hb_V1.size
  clear hb_V1
  obtain ⟨c00, c01, c02, f00, f01, f02, lt0⟩ := B0.c3
  obtain ⟨c10, c11, c12, f10, f11, f12, lt1⟩ := B1.c3
  go_wp2_with fail
  refine (waits_yes V1 _ c at_ given [⟨wo, 0, OA, 0, ocp⟩, ⟨wk, 0, some ⟨cb, co, none⟩, 1, kcp⟩] 1 ⟨wk, 0, some ⟨cb, co, none⟩, 1, kcp⟩ (by simp) (Hm.out.up Hb1.out) (fun j y hj hy => by obtain rfl : j = 0 := (by omega); obtain rfl := Option.some.inj hy; rfl) rfl rfl).mono ?_
  rintro e V2 ⟨rfl, hb_V2⟩
  clear c00 c01 c02 f00 f01 f02 lt0 c10 c11 c12 f10 f11 f12 lt1 
  replace B0 := B0.up hb_V2
  replace B1 := B1.up hb_V2
  have Hb2 := Lib.hid (Hb1.out.trans (hb_V2.mono Hb1.out.size))
  have hs_V2 := hb_V2.size
  clear hb_V2
  obtain ⟨c00, c01, c02, f00, f01, f02, lt0⟩ := B0.c3
  obtain ⟨c10, c11, c12, f10, f11, f12, lt1⟩ := B1.c3
  go_wp2_with fail
  refine (clone_Ln Ln.cells ln_len ln_one V2 A ac [⟨wo, 0, OA, 0, ocp⟩, ⟨wk, 0, some ⟨cb, co, none⟩, 1, kcp⟩] (by simp) (Hm.out.1.rt.up Hb2.out)).mono ?_
  rintro e V3 ⟨L, lc, rfl, hoL, hb3⟩
  clear c00 c01 c02 f00 f01 f02 lt0 c10 c11 c12 f10 f11 f12 lt1
  have ltM := B1.lt
  replace B0 := B0.up hb3; replace B1 := B1.up hb3
  have Hb3 := Lib.hid (Hb2.out.trans (hb3.mono Hb2.out.size))
  obtain ⟨G, lc', hG, hGb, _, _⟩ := own_addr hoL (by simp)
  injection hG with hG1 _ hG2
  subst hG1
  subst hG2
  have hGM : w.heap.size + 1 + 1 ≤ G := by omega
  have HoL : Hid (V3.ownsRow (w.heap.size + 1 + 1) 140 3 (.slice (some ⟨G, 0, none⟩) 2 lc) 2 [.int .i64 wo, .int .i64 0, .slice OA 0 ocp, .int .i64 wk, .int .i64 0, .slice (some ⟨cb, co, none⟩) 1 kcp]) := Lib.hid (own_base hoL (show w.heap.size + 1 + 1 ≤ V2.heap.size from ltM))
  clear hoL hb3
  obtain ⟨c00, c01, c02, f00, f01, f02, lt0⟩ := B0.c3
  obtain ⟨c10, c11, c12, f10, f11, f12, lt1⟩ := B1.c3
  simp only [List.length_cons, List.length_nil, Nat.zero_add, Nat.reduceAdd]
  go_upto_region 4 with fail
  obtain ⟨V4, hV4, B0', hk4, hs4, hb4⟩ := st_3_0_1 (.slice (some ⟨G, 0, none⟩) 2 lc) B0
  try rw [hV4]
  replace B1 := B1.keep (hk4 _ (by omega))
  have HoL4 := Lib.hid (show V4.ownsRow (w.heap.size + 1 + 1) 140 3 (.slice (some ⟨G, 0, none⟩) 2 lc) 2 [.int .i64 wo, .int .i64 0, .slice OA 0 ocp, .int .i64 wk, .int .i64 0, .slice (some ⟨cb, co, none⟩) 1 kcp] from by
    rw [← hV4]
    exact own_setCell (j := 0) HoL.out (by simp [Value.ownBlock]; omega) _)
  have Hb4 := Lib.hid (hb4 _ _ Hb3.out (Nat.le_refl _))
  clear hV4 hk4 hs4 hb4 B0 HoL c00 c01 c02 f00 f01 f02 lt0 c10 c11 c12 f10 f11 f12 lt1
  have B0 := B0'
  clear B0'
  go_wp2_with fail
  go_step3
  go_wp2_with fail
  go_loopg [6] 1 (fun g s wr => NextRel1 w G lc [.int .i64 wo, .int .i64 0, .slice OA 0 ocp, .int .i64 wk, .int .i64 0, .slice (some ⟨cb, co, none⟩) 1 kcp] g s wr)
  case atStart =>
    rcases Ha.out with ⟨rfl, rfl⟩ | rfl
    · exact ⟨1, false, rfl, .inl ⟨rfl, rfl⟩, B0, B1, HoL4.out, Hb4.out⟩
    · exact ⟨0, given, rfl, .inr ⟨rfl, rfl⟩, B0, B1, HoL4.out, Hb4.out⟩
  case round =>
    clear B0 B1
    obtain ⟨at', gv, rfl, hcs, B0, B1, ho, hb⟩ := hrel
    have Ho := Lib.hid ho; have Hb := Lib.hid hb
    clear ho hb
    rcases hcs with ⟨rfl, rfl⟩ | ⟨rfl, hg⟩
    · skip
      obtain ⟨c00, c01, c02, f00, f01, f02, lt0⟩ := B0.c3
      obtain ⟨c10, c11, c12, f10, f11, f12, lt1⟩ := B1.c3
      have r0 : wr.cell? ⟨G, 0, none⟩ = some (.int .i64 wo) := Ho.out.cellAt 0 (by decide)
      have q0 := Ho.out.frozenAt 0
      have r1 : wr.cell? ⟨G, 1, none⟩ = some (.int .i64 0) := Ho.out.cellAt 1 (by decide)
      have q1 := Ho.out.frozenAt 1
      have r2 : wr.cell? ⟨G, 2, none⟩ = some (.slice OA 0 ocp) := Ho.out.cellAt 2 (by decide)
      have q2 := Ho.out.frozenAt 2
      have r3 : wr.cell? ⟨G, 3, none⟩ = some (.int .i64 wk) := Ho.out.cellAt 3 (by decide)
      have q3 := Ho.out.frozenAt 3
      have r4 : wr.cell? ⟨G, 4, none⟩ = some (.int .i64 0) := Ho.out.cellAt 4 (by decide)
      have q4 := Ho.out.frozenAt 4
      have r5 : wr.cell? ⟨G, 5, none⟩ = some (.slice (some ⟨cb, co, none⟩) 1 kcp) := Ho.out.cellAt 5 (by decide)
      have q5 := Ho.out.frozenAt 5
      have ltG : G < wr.heap.size := (Ho.out.lt G rfl).2
      go_upto_region 10 with fail
      refine wp_region_S 10 (fun U => ∃ y : BW wr, U = y.w) (by kernel_rfl) rfl rfl ?_
      have n_a := bw_cell r3 ltG
      have n_b := bw_cell r4 ltG
      have HC : Hid (∃ y : BW wr, wr.drew = y.w) := Lib.hid ⟨⟨_, (Below.refl _ _).drew⟩, rfl⟩
      refine pureS 0 rfl (by kernel_rfl) rfl (fun _ _ _ _ _ h => h) HC.out ?_
      go_big_quiet_step (fail)
      refine wpQuiet_nil ?_
      refine pureS 1 rfl (by kernel_rfl) rfl (fun _ _ _ _ _ h => h) HC.out ?_
      go_big_quiet_step (fail)
      refine wpQuiet_nil ?_
      refine pureS 2 rfl (by kernel_rfl) rfl (fun _ _ _ _ _ h => h) HC.out ?_
      go_big_quiet_step (fail)
      refine wpQuiet_nil ?_
      refine pureS 3 rfl (by kernel_rfl) rfl (fun _ _ _ _ _ h => h) HC.out ?_
      go_big_quiet_step (fail)
      refine wpQuiet_nil ?_
      refine pureS 4 rfl (by kernel_rfl) rfl (fun _ _ _ _ _ h => h) HC.out ?_
      go_big_quiet_step (fail)
      refine wpQuiet_nil ?_
      refine pureS 5 rfl (by kernel_rfl) rfl (fun _ _ _ _ _ h => h) HC.out ?_
      go_big_quiet_step (fail)
      refine wpQuiet_nil ?_
      refine pureS 6 rfl (by kernel_rfl) rfl (fun _ _ _ _ _ h => h) HC.out ?_
      go_big_quiet_step (fail)
      refine wpQuiet_nil ?_
      refine pureS 7 rfl (by kernel_rfl) rfl (fun _ _ _ _ _ h => h) HC.out ?_
      go_big_quiet_step (fail)
      refine wpQuiet_nil ?_
      refine pureS 8 rfl (by kernel_rfl) rfl (fun _ _ _ _ _ h => h) HC.out ?_
      go_big_quiet_step (fail)
      refine wpQuiet_nil ?_
      refine pureS 9 rfl (by kernel_rfl) rfl (fun _ _ _ _ _ h => h) HC.out ?_
      go_big_quiet_step (fail)
      refine wpQuiet_nil ?_
      refine oneS 10 (by kernel_rfl) rfl rfl rfl (fun K hK => ?_)
      have HK := Lib.hid hK; clear hK
      go_simp
      refine HK.out _ _ (fun h => absurd h (by decide)) ?_
      clear HK K
      refine oneS 11 (by kernel_rfl) rfl rfl rfl (fun K hK => ?_)
      have HK := Lib.hid hK; clear hK
      go_simp
      refine HK.out _ _ (fun h => absurd h (by decide)) ?_
      clear HK K
      refine oneS 12 (by kernel_rfl) rfl rfl rfl (fun K hK => ?_)
      have HK := Lib.hid hK; clear hK
      go_simp
      refine HK.out _ _ (fun h => absurd h (by decide)) ?_
      clear HK K
      refine doneS (by kernel_rfl) ?_
      obtain ⟨X, hX⟩ : ∃ X, wr.setCell ⟨G, 4, none⟩ (.int .i64 (wk * 4)) = X := ⟨_, rfl⟩
      rw [hX]
      have ho_ := (Ho.out.stored 4 (.int .i64 (wk * 4))).1
      have HoX : Hid (World.ownsRow (wr.setCell ⟨G, 4, none⟩ (.int .i64 (wk * 4))) (w.heap.size + 1 + 1) 140 3 (.slice (some ⟨G, 0, none⟩) 2 lc) 2 [.int .i64 wo, .int .i64 0, .slice OA 0 ocp, .int .i64 wk, .int .i64 (wk * 4), .slice (some ⟨cb, co, none⟩) 1 kcp]) := Lib.hid ho_
      clear ho_
      rw [hX] at HoX
      replace B0 := B0.other (M := G) (by omega) 4 (.int .i64 (wk * 4)); replace B1 := B1.other (M := G) (by omega) 4 (.int .i64 (wk * 4))
      rw [hX] at B0 B1
      have HbX := Lib.hid (Hb.out.setCell (p := ⟨G, 4, none⟩) (by show w.heap.size ≤ G; omega) (.int .i64 (wk * 4)))
      rw [hX] at HbX
      clear hX Ho Hb HC n_a n_b r0 q0 r1 q1 r2 q2 r3 q3 r4 q4 r5 q5 ltG c00 c01 c02 f00 f01 f02 lt0 c10 c11 c12 f10 f11 f12 lt1
      obtain ⟨c00, c01, c02, f00, f01, f02, lt0⟩ := B0.c3
      obtain ⟨c10, c11, c12, f10, f11, f12, lt1⟩ := B1.c3
      have r0 : X.cell? ⟨G, 0, none⟩ = some (.int .i64 wo) := HoX.out.cellAt 0 (by decide)
      have q0 := HoX.out.frozenAt 0
      have r1 : X.cell? ⟨G, 1, none⟩ = some (.int .i64 0) := HoX.out.cellAt 1 (by decide)
      have q1 := HoX.out.frozenAt 1
      have r2 : X.cell? ⟨G, 2, none⟩ = some (.slice OA 0 ocp) := HoX.out.cellAt 2 (by decide)
      have q2 := HoX.out.frozenAt 2
      have r3 : X.cell? ⟨G, 3, none⟩ = some (.int .i64 wk) := HoX.out.cellAt 3 (by decide)
      have q3 := HoX.out.frozenAt 3
      have r4 : X.cell? ⟨G, 4, none⟩ = some (.int .i64 (wk * 4)) := HoX.out.cellAt 4 (by decide)
      have q4 := HoX.out.frozenAt 4
      have r5 : X.cell? ⟨G, 5, none⟩ = some (.slice (some ⟨cb, co, none⟩) 1 kcp) := HoX.out.cellAt 5 (by decide)
      have q5 := HoX.out.frozenAt 5
      have ltG : G < X.heap.size := (HoX.out.lt G rfl).2
      go_upto_region 12 with fail
      obtain ⟨Y, hY, B0a, hkY, _, hbY⟩ := st_3_2_1 (.bool true) B0
      rw [hY]
      have HoY := Lib.hid (show Y.ownsRow (w.heap.size + 1 + 1) 140 3 (.slice (some ⟨G, 0, none⟩) 2 lc) 2 [.int .i64 wo, .int .i64 0, .slice OA 0 ocp, .int .i64 wk, .int .i64 (wk * 4), .slice (some ⟨cb, co, none⟩) 1 kcp] from by
        rw [← hY]
        exact own_setCell (j := 2) HoX.out (by simp [Value.ownBlock]; omega) _)
      have HbY := Lib.hid (hbY _ _ HbX.out (Nat.le_refl _))
      replace B1 := B1.keep (hkY _ (by omega))
      clear hY hkY hbY B0 HoX HbX r0 q0 r1 q1 r2 q2 r3 q3 r4 q4 r5 q5 ltG c00 c01 c02 f00 f01 f02 lt0 c10 c11 c12 f10 f11 f12 lt1
      have B0 := B0a
      clear B0a
      obtain ⟨c00, c01, c02, f00, f01, f02, lt0⟩ := B0.c3
      obtain ⟨c10, c11, c12, f10, f11, f12, lt1⟩ := B1.c3
      have r0 : Y.cell? ⟨G, 0, none⟩ = some (.int .i64 wo) := HoY.out.cellAt 0 (by decide)
      have q0 := HoY.out.frozenAt 0
      have r1 : Y.cell? ⟨G, 1, none⟩ = some (.int .i64 0) := HoY.out.cellAt 1 (by decide)
      have q1 := HoY.out.frozenAt 1
      have r2 : Y.cell? ⟨G, 2, none⟩ = some (.slice OA 0 ocp) := HoY.out.cellAt 2 (by decide)
      have q2 := HoY.out.frozenAt 2
      have r3 : Y.cell? ⟨G, 3, none⟩ = some (.int .i64 wk) := HoY.out.cellAt 3 (by decide)
      have q3 := HoY.out.frozenAt 3
      have r4 : Y.cell? ⟨G, 4, none⟩ = some (.int .i64 (wk * 4)) := HoY.out.cellAt 4 (by decide)
      have q4 := HoY.out.frozenAt 4
      have r5 : Y.cell? ⟨G, 5, none⟩ = some (.slice (some ⟨cb, co, none⟩) 1 kcp) := HoY.out.cellAt 5 (by decide)
      have q5 := HoY.out.frozenAt 5
      have ltG : G < Y.heap.size := (HoY.out.lt G rfl).2
      have g0 := Hcell.out Y HbY.out
      simp only [Nat.add_zero] at g0
      have ltc : cb < Y.heap.size := by have := HbY.out.size; omega
      refine wp_region_S 11 (fun U => ∃ y : BW Y, U = y.w) (by kernel_rfl) rfl rfl ?_
      have n_a := bw_cell r4 ltG
      have n_b := bw_cell r5 ltG
      have n_c := bw_cell g0 ltc
      have HC : Hid (∃ y : BW Y, Y.drew.drew = y.w) := Lib.hid ⟨⟨_, (Below.refl _ _).drew.drew⟩, rfl⟩
      refine pureS 0 rfl (by kernel_rfl) rfl (fun _ _ _ _ _ h => h) HC.out ?_
      go_big_quiet_step (fail)
      refine wpQuiet_nil ?_
      refine pureS 1 rfl (by kernel_rfl) rfl (fun _ _ _ _ _ h => h) HC.out ?_
      go_big_quiet_step (fail)
      refine wpQuiet_nil ?_
      refine pureS 2 rfl (by kernel_rfl) rfl (fun _ _ _ _ _ h => h) HC.out ?_
      go_big_quiet_step (fail)
      refine wpQuiet_nil ?_
      refine pureS 3 rfl (by kernel_rfl) rfl (fun _ _ _ _ _ h => h) HC.out ?_
      go_big_quiet_step (fail)
      refine wpQuiet_nil ?_
      refine pureS 4 rfl (by kernel_rfl) rfl (fun _ _ _ _ _ h => h) HC.out ?_
      go_big_quiet_step (fail)
      refine wpQuiet_nil ?_
      refine pureS 5 rfl (by kernel_rfl) rfl (fun _ _ _ _ _ h => h) HC.out ?_
      go_big_quiet_step (fail)
      refine wpQuiet_nil ?_
      refine pureS 6 rfl (by kernel_rfl) rfl (fun _ _ _ _ _ h => h) HC.out ?_
      go_big_quiet_step (fail)
      refine wpQuiet_nil ?_
      refine pureS 7 rfl (by kernel_rfl) rfl (fun _ _ _ _ _ h => h) HC.out ?_
      go_big_quiet_step (fail)
      refine wpQuiet_nil ?_
      refine pureS 8 rfl (by kernel_rfl) rfl (fun _ _ _ _ _ h => h) HC.out ?_
      go_big_quiet_step (fail)
      refine wpQuiet_nil ?_
      refine pureS 9 rfl (by kernel_rfl) rfl (fun _ _ _ _ _ h => h) HC.out ?_
      go_big_quiet_step (fail)
      refine wpQuiet_nil ?_
      refine pureS 10 rfl (by kernel_rfl) rfl (fun _ _ _ _ _ h => h) HC.out ?_
      go_big_quiet_step (fail)
      refine wpQuiet_nil ?_
      refine doneS (by kernel_rfl) ?_
      clear n_a n_b n_c HC
      rcases Classical.em (kcp = 1) with rfl | hkc
      · skip
        go_wp2_with fail
        refine (clone_In icells i_len i_one _ (some ⟨cb, co, none⟩) 0 [] (by simp) Rt.nil).mono ?_
        rintro e V ⟨CA, cc, rfl, hoC, hbV⟩
        have hbV' : Below Y.heap.size Y V := (Below.refl _ Y).drew.drew.trans hbV
        obtain ⟨CA', cc', heC, hcc1, hcc2⟩ := own_slice hoC
        injection heC with heA heB heC
        subst heA
        subst heC
        have HoV := Lib.hid (own_up HoY.out hbV')
        have HbV := Lib.hid (HbY.out.trans (hbV'.mono HbY.out.size))
        clear hbV hoC heB g0 ltc r0 q0 r1 q1 r2 q2 r3 q3 r4 q4 r5 q5 ltG c00 c01 c02 f00 f01 f02 lt0 c10 c11 c12 f10 f11 f12 lt1
        replace B0 := B0.up hbV'; replace B1 := B1.up hbV'
        clear hbV'
        obtain ⟨c00, c01, c02, f00, f01, f02, lt0⟩ := B0.c3
        obtain ⟨c10, c11, c12, f10, f11, f12, lt1⟩ := B1.c3
        have r0 : V.cell? ⟨G, 0, none⟩ = some (.int .i64 wo) := HoV.out.cellAt 0 (by decide)
        have q0 := HoV.out.frozenAt 0
        have r1 : V.cell? ⟨G, 1, none⟩ = some (.int .i64 0) := HoV.out.cellAt 1 (by decide)
        have q1 := HoV.out.frozenAt 1
        have r2 : V.cell? ⟨G, 2, none⟩ = some (.slice OA 0 ocp) := HoV.out.cellAt 2 (by decide)
        have q2 := HoV.out.frozenAt 2
        have r3 : V.cell? ⟨G, 3, none⟩ = some (.int .i64 wk) := HoV.out.cellAt 3 (by decide)
        have q3 := HoV.out.frozenAt 3
        have r4 : V.cell? ⟨G, 4, none⟩ = some (.int .i64 (wk * 4)) := HoV.out.cellAt 4 (by decide)
        have q4 := HoV.out.frozenAt 4
        have r5 : V.cell? ⟨G, 5, none⟩ = some (.slice (some ⟨cb, co, none⟩) 1 1) := HoV.out.cellAt 5 (by decide)
        have q5 := HoV.out.frozenAt 5
        have ltG : G < V.heap.size := (HoV.out.lt G rfl).2
        have ho_ := (HoV.out.stored 5 (.slice CA 0 cc)).1
        have HoV1 : Hid (World.ownsRow (V.setCell ⟨G, 5, none⟩ (.slice CA 0 cc)) (w.heap.size + 1 + 1) 140 3 (.slice (some ⟨G, 0, none⟩) 2 lc) 2 [.int .i64 wo, .int .i64 0, .slice OA 0 ocp, .int .i64 wk, .int .i64 (wk * 4), .slice CA 0 cc]) := Lib.hid ho_
        clear ho_
        have ho_ := (HoV1.out.stored 4 (.int .i64 (wk * 4 - c))).1
        have HoV2 : Hid (World.ownsRow ((V.setCell ⟨G, 5, none⟩ (.slice CA 0 cc)).setCell ⟨G, 4, none⟩ (.int .i64 (wk * 4 - c))) (w.heap.size + 1 + 1) 140 3 (.slice (some ⟨G, 0, none⟩) 2 lc) 2 [.int .i64 wo, .int .i64 0, .slice OA 0 ocp, .int .i64 wk, .int .i64 (wk * 4 - c), .slice CA 0 cc]) := Lib.hid ho_
        clear ho_
        have ho_ := (HoV2.out.stored 4 (.int .i64 0)).1
        have HoV3 : Hid (World.ownsRow (((V.setCell ⟨G, 5, none⟩ (.slice CA 0 cc)).setCell ⟨G, 4, none⟩ (.int .i64 (wk * 4 - c))).setCell ⟨G, 4, none⟩ (.int .i64 0)) (w.heap.size + 1 + 1) 140 3 (.slice (some ⟨G, 0, none⟩) 2 lc) 2 [.int .i64 wo, .int .i64 0, .slice OA 0 ocp, .int .i64 wk, .int .i64 0, .slice CA 0 cc]) := Lib.hid ho_
        clear ho_
        go_upto_region 18 with fail
        obtain ⟨Z, hZ⟩ : ∃ Z, ((V.setCell ⟨G, 5, none⟩ (.slice CA 0 cc)).setCell ⟨G, 4, none⟩ (.int .i64 (wk * 4 - c))).setCell ⟨G, 4, none⟩ (.int .i64 0) = Z := ⟨_, rfl⟩
        rw [hZ] at HoV3 ⊢
        replace B0 := ((B0.other (M := G) (by omega) 5 (.slice CA 0 cc)).other (M := G) (by omega) 4 (.int .i64 (wk * 4 - c))).other (M := G) (by omega) 4 (.int .i64 0); replace B1 := ((B1.other (M := G) (by omega) 5 (.slice CA 0 cc)).other (M := G) (by omega) 4 (.int .i64 (wk * 4 - c))).other (M := G) (by omega) 4 (.int .i64 0)
        rw [hZ] at B0 B1
        have HbZ := Lib.hid (show Below w.heap.size w Z from by
          rw [← hZ]
          exact ((HbV.out.setCell (p := ⟨G, 5, none⟩) (by show w.heap.size ≤ G; omega) _).setCell (p := ⟨G, 4, none⟩) (by show w.heap.size ≤ G; omega) _).setCell (p := ⟨G, 4, none⟩) (by show w.heap.size ≤ G; omega) _)
        clear hZ HoV HoV1 HoV2 HbV r0 q0 r1 q1 r2 q2 r3 q3 r4 q4 r5 q5 ltG c00 c01 c02 f00 f01 f02 lt0 c10 c11 c12 f10 f11 f12 lt1
        have B1k := B1
        obtain ⟨c00, c01, c02, f00, f01, f02, lt0⟩ := B0.c3
        obtain ⟨c10, c11, c12, f10, f11, f12, lt1⟩ := B1.c3
        refine wp_region_S 8 (fun U => ∃ y : KW Z (fun N => N ≠ w.heap.size + 1), U = y.w) (by kernel_rfl) rfl rfl ?_
        have n_c00 := kw_cell c00 (ok := fun N => N ≠ w.heap.size + 1) (by first | omega | exact ⟨by omega, by omega⟩)
        have n_c01 := kw_cell c01 (ok := fun N => N ≠ w.heap.size + 1) (by first | omega | exact ⟨by omega, by omega⟩)
        have n_c02 := kw_cell c02 (ok := fun N => N ≠ w.heap.size + 1) (by first | omega | exact ⟨by omega, by omega⟩)
        have HC : Hid (∃ y : KW Z (fun N => N ≠ w.heap.size + 1), Z.drew = y.w) := Lib.hid ⟨⟨Z.drew, fun _ _ => rfl⟩, rfl⟩
        refine pureS 0 rfl (by kernel_rfl) rfl (fun _ _ _ _ _ h => h) HC.out ?_
        go_big_quiet_step (fail)
        refine wpQuiet_nil ?_
        refine pureS 1 rfl (by kernel_rfl) rfl (fun _ _ _ _ _ h => h) HC.out ?_
        go_big_quiet_step (fail)
        refine wpQuiet_nil ?_
        refine pureS 2 rfl (by kernel_rfl) rfl (fun _ _ _ _ _ h => h) HC.out ?_
        go_big_quiet_step (fail)
        refine wpQuiet_nil ?_
        refine pureS 3 rfl (by kernel_rfl) rfl (fun _ _ _ _ _ h => h) HC.out ?_
        go_big_quiet_step (fail)
        refine wpQuiet_nil ?_
        obtain ⟨R0, hU_R0, B_R0, hk_R0, hs_R0, hb_R0⟩ := st_3_0_3 (.slice (some ⟨G, 0, none⟩) 2 lc) (.int .i64 1) (.bool true) B1
        refine oneS 4 (by kernel_rfl) rfl rfl rfl (fun K hK => ?_)
        have HK := Lib.hid hK; clear hK
        go_simp
        try rw [hU_R0]
        refine HK.out _ _ (fun _ => ⟨⟨R0.drew, fun N hN => hk_R0 N hN⟩, rfl⟩) ?_
        clear HK K
        have Hb_R0 := Lib.hid (hb_R0 _ _ HbZ.out (by first | omega | exact Nat.le_refl _))
        have hkk_R0 : ∀ N, N ≠ w.heap.size + 1 →  R0.heap[N]? = Z.heap[N]? := fun N q0 => hk_R0 N q0
        clear hU_R0 hs_R0 hb_R0
        clear c10 c11 c12 f10 f11 f12 lt1
        refine oneS 5 (by kernel_rfl) rfl rfl rfl (fun K hK => ?_)
        have HK := Lib.hid hK; clear hK
        go_simp
        refine HK.out _ _ (fun _ => ⟨⟨R0.drew, fun N hN => hk_R0 N hN⟩, rfl⟩) ?_
        clear HK K
        refine oneS 6 (by kernel_rfl) rfl rfl rfl (fun K hK => ?_)
        have HK := Lib.hid hK; clear hK
        go_simp
        refine HK.out _ _ (fun _ => ⟨⟨R0.drew, fun N hN => hk_R0 N hN⟩, rfl⟩) ?_
        clear HK K
        refine oneS 7 (by kernel_rfl) rfl rfl rfl (fun K hK => ?_)
        have HK := Lib.hid hK; clear hK
        go_simp
        refine HK.out _ _ (fun _ => ⟨⟨R0.drew, fun N hN => hk_R0 N hN⟩, rfl⟩) ?_
        clear HK K
        refine doneS (by kernel_rfl) ?_
        obtain ⟨c10, c11, c12, f10, f11, f12, lt1⟩ := B_R0.c3
        go_wp2_with fail
        rw [Exit.noGoto_ret]
        refine bodyPost_ret (v := .tuple #[.agg #[.slice (some ⟨G, 0, none⟩) 2 lc, .int .i64 1, .bool true], .int .i64 1, .int .i64 c, .bool true]) (by simp [results, Tryz.results22, go_sem, c10, c11, c12]) rfl ?_
        have hsl := Sl.of_own (f := Ln.cells) (l := ([⟨wo, 0, OA, 0, ocp⟩, ⟨wk, 0, CA, 0, cc⟩] : List Ln)) HoV3.out rfl ln_len (by decide)
        have hsl2 := hsl.keep (w' := R0.drew) fun g cs fr hg => hkk_R0 g (B1k.ne_type hg (by decide))
        refine ⟨_, rfl, ⟨CA, cc, hsl2, fun z hz => ?_⟩, Hb_R0.out.drew⟩
        simp only [List.mem_cons, List.mem_nil_iff, or_false] at hz
        obtain ⟨p1, p2, p3, p4, p5, p6, p7⟩ := HGo.out
        rcases hz with rfl | rfl
        · exact ⟨p1, p2, rfl, by simp, p5, p6, fun e => by cases e⟩
        · exact ⟨wk1, wk2, rfl, by simp, by first | (simp; done) | simpa using hcc1, hcc2, fun e => by cases e⟩
      · skip
        go_wp2_with fail
        refine (clone_In icells i_len i_one _ (some ⟨cb, co + 1, none⟩) (kcp - 1) [] (by simp) Rt.nil).mono ?_
        rintro e V ⟨CA, cc, rfl, hoC, hbV⟩
        have hbV' : Below Y.heap.size Y V := (Below.refl _ Y).drew.drew.trans hbV
        obtain ⟨CA', cc', heC, hcc1, hcc2⟩ := own_slice hoC
        injection heC with heA heB heC
        subst heA
        subst heC
        have HoV := Lib.hid (own_up HoY.out hbV')
        have HbV := Lib.hid (HbY.out.trans (hbV'.mono HbY.out.size))
        clear hbV hoC heB g0 ltc r0 q0 r1 q1 r2 q2 r3 q3 r4 q4 r5 q5 ltG c00 c01 c02 f00 f01 f02 lt0 c10 c11 c12 f10 f11 f12 lt1
        replace B0 := B0.up hbV'; replace B1 := B1.up hbV'
        clear hbV'
        obtain ⟨c00, c01, c02, f00, f01, f02, lt0⟩ := B0.c3
        obtain ⟨c10, c11, c12, f10, f11, f12, lt1⟩ := B1.c3
        have r0 : V.cell? ⟨G, 0, none⟩ = some (.int .i64 wo) := HoV.out.cellAt 0 (by decide)
        have q0 := HoV.out.frozenAt 0
        have r1 : V.cell? ⟨G, 1, none⟩ = some (.int .i64 0) := HoV.out.cellAt 1 (by decide)
        have q1 := HoV.out.frozenAt 1
        have r2 : V.cell? ⟨G, 2, none⟩ = some (.slice OA 0 ocp) := HoV.out.cellAt 2 (by decide)
        have q2 := HoV.out.frozenAt 2
        have r3 : V.cell? ⟨G, 3, none⟩ = some (.int .i64 wk) := HoV.out.cellAt 3 (by decide)
        have q3 := HoV.out.frozenAt 3
        have r4 : V.cell? ⟨G, 4, none⟩ = some (.int .i64 (wk * 4)) := HoV.out.cellAt 4 (by decide)
        have q4 := HoV.out.frozenAt 4
        have r5 : V.cell? ⟨G, 5, none⟩ = some (.slice (some ⟨cb, co, none⟩) 1 kcp) := HoV.out.cellAt 5 (by decide)
        have q5 := HoV.out.frozenAt 5
        have ltG : G < V.heap.size := (HoV.out.lt G rfl).2
        have ho_ := (HoV.out.stored 5 (.slice CA 0 cc)).1
        have HoV1 : Hid (World.ownsRow (V.setCell ⟨G, 5, none⟩ (.slice CA 0 cc)) (w.heap.size + 1 + 1) 140 3 (.slice (some ⟨G, 0, none⟩) 2 lc) 2 [.int .i64 wo, .int .i64 0, .slice OA 0 ocp, .int .i64 wk, .int .i64 (wk * 4), .slice CA 0 cc]) := Lib.hid ho_
        clear ho_
        have ho_ := (HoV1.out.stored 4 (.int .i64 (wk * 4 - c))).1
        have HoV2 : Hid (World.ownsRow ((V.setCell ⟨G, 5, none⟩ (.slice CA 0 cc)).setCell ⟨G, 4, none⟩ (.int .i64 (wk * 4 - c))) (w.heap.size + 1 + 1) 140 3 (.slice (some ⟨G, 0, none⟩) 2 lc) 2 [.int .i64 wo, .int .i64 0, .slice OA 0 ocp, .int .i64 wk, .int .i64 (wk * 4 - c), .slice CA 0 cc]) := Lib.hid ho_
        clear ho_
        have ho_ := (HoV2.out.stored 4 (.int .i64 0)).1
        have HoV3 : Hid (World.ownsRow (((V.setCell ⟨G, 5, none⟩ (.slice CA 0 cc)).setCell ⟨G, 4, none⟩ (.int .i64 (wk * 4 - c))).setCell ⟨G, 4, none⟩ (.int .i64 0)) (w.heap.size + 1 + 1) 140 3 (.slice (some ⟨G, 0, none⟩) 2 lc) 2 [.int .i64 wo, .int .i64 0, .slice OA 0 ocp, .int .i64 wk, .int .i64 0, .slice CA 0 cc]) := Lib.hid ho_
        clear ho_
        go_upto_region 18 with fail
        obtain ⟨Z, hZ⟩ : ∃ Z, ((V.setCell ⟨G, 5, none⟩ (.slice CA 0 cc)).setCell ⟨G, 4, none⟩ (.int .i64 (wk * 4 - c))).setCell ⟨G, 4, none⟩ (.int .i64 0) = Z := ⟨_, rfl⟩
        rw [hZ] at HoV3 ⊢
        replace B0 := ((B0.other (M := G) (by omega) 5 (.slice CA 0 cc)).other (M := G) (by omega) 4 (.int .i64 (wk * 4 - c))).other (M := G) (by omega) 4 (.int .i64 0); replace B1 := ((B1.other (M := G) (by omega) 5 (.slice CA 0 cc)).other (M := G) (by omega) 4 (.int .i64 (wk * 4 - c))).other (M := G) (by omega) 4 (.int .i64 0)
        rw [hZ] at B0 B1
        have HbZ := Lib.hid (show Below w.heap.size w Z from by
          rw [← hZ]
          exact ((HbV.out.setCell (p := ⟨G, 5, none⟩) (by show w.heap.size ≤ G; omega) _).setCell (p := ⟨G, 4, none⟩) (by show w.heap.size ≤ G; omega) _).setCell (p := ⟨G, 4, none⟩) (by show w.heap.size ≤ G; omega) _)
        clear hZ HoV HoV1 HoV2 HbV r0 q0 r1 q1 r2 q2 r3 q3 r4 q4 r5 q5 ltG c00 c01 c02 f00 f01 f02 lt0 c10 c11 c12 f10 f11 f12 lt1
        have B1k := B1
        obtain ⟨c00, c01, c02, f00, f01, f02, lt0⟩ := B0.c3
        obtain ⟨c10, c11, c12, f10, f11, f12, lt1⟩ := B1.c3
        refine wp_region_S 8 (fun U => ∃ y : KW Z (fun N => N ≠ w.heap.size + 1), U = y.w) (by kernel_rfl) rfl rfl ?_
        have n_c00 := kw_cell c00 (ok := fun N => N ≠ w.heap.size + 1) (by first | omega | exact ⟨by omega, by omega⟩)
        have n_c01 := kw_cell c01 (ok := fun N => N ≠ w.heap.size + 1) (by first | omega | exact ⟨by omega, by omega⟩)
        have n_c02 := kw_cell c02 (ok := fun N => N ≠ w.heap.size + 1) (by first | omega | exact ⟨by omega, by omega⟩)
        have HC : Hid (∃ y : KW Z (fun N => N ≠ w.heap.size + 1), Z.drew = y.w) := Lib.hid ⟨⟨Z.drew, fun _ _ => rfl⟩, rfl⟩
        refine pureS 0 rfl (by kernel_rfl) rfl (fun _ _ _ _ _ h => h) HC.out ?_
        go_big_quiet_step (fail)
        refine wpQuiet_nil ?_
        refine pureS 1 rfl (by kernel_rfl) rfl (fun _ _ _ _ _ h => h) HC.out ?_
        go_big_quiet_step (fail)
        refine wpQuiet_nil ?_
        refine pureS 2 rfl (by kernel_rfl) rfl (fun _ _ _ _ _ h => h) HC.out ?_
        go_big_quiet_step (fail)
        refine wpQuiet_nil ?_
        refine pureS 3 rfl (by kernel_rfl) rfl (fun _ _ _ _ _ h => h) HC.out ?_
        go_big_quiet_step (fail)
        refine wpQuiet_nil ?_
        obtain ⟨R0, hU_R0, B_R0, hk_R0, hs_R0, hb_R0⟩ := st_3_0_3 (.slice (some ⟨G, 0, none⟩) 2 lc) (.int .i64 1) (.bool true) B1
        refine oneS 4 (by kernel_rfl) rfl rfl rfl (fun K hK => ?_)
        have HK := Lib.hid hK; clear hK
        go_simp
        try rw [hU_R0]
        refine HK.out _ _ (fun _ => ⟨⟨R0.drew, fun N hN => hk_R0 N hN⟩, rfl⟩) ?_
        clear HK K
        have Hb_R0 := Lib.hid (hb_R0 _ _ HbZ.out (by first | omega | exact Nat.le_refl _))
        have hkk_R0 : ∀ N, N ≠ w.heap.size + 1 →  R0.heap[N]? = Z.heap[N]? := fun N q0 => hk_R0 N q0
        clear hU_R0 hs_R0 hb_R0
        clear c10 c11 c12 f10 f11 f12 lt1
        refine oneS 5 (by kernel_rfl) rfl rfl rfl (fun K hK => ?_)
        have HK := Lib.hid hK; clear hK
        go_simp
        refine HK.out _ _ (fun _ => ⟨⟨R0.drew, fun N hN => hk_R0 N hN⟩, rfl⟩) ?_
        clear HK K
        refine oneS 6 (by kernel_rfl) rfl rfl rfl (fun K hK => ?_)
        have HK := Lib.hid hK; clear hK
        go_simp
        refine HK.out _ _ (fun _ => ⟨⟨R0.drew, fun N hN => hk_R0 N hN⟩, rfl⟩) ?_
        clear HK K
        refine oneS 7 (by kernel_rfl) rfl rfl rfl (fun K hK => ?_)
        have HK := Lib.hid hK; clear hK
        go_simp
        refine HK.out _ _ (fun _ => ⟨⟨R0.drew, fun N hN => hk_R0 N hN⟩, rfl⟩) ?_
        clear HK K
        refine doneS (by kernel_rfl) ?_
        obtain ⟨c10, c11, c12, f10, f11, f12, lt1⟩ := B_R0.c3
        go_wp2_with fail
        rw [Exit.noGoto_ret]
        refine bodyPost_ret (v := .tuple #[.agg #[.slice (some ⟨G, 0, none⟩) 2 lc, .int .i64 1, .bool true], .int .i64 1, .int .i64 c, .bool true]) (by simp [results, Tryz.results22, go_sem, c10, c11, c12]) rfl ?_
        have hsl := Sl.of_own (f := Ln.cells) (l := ([⟨wo, 0, OA, 0, ocp⟩, ⟨wk, 0, CA, 0, cc⟩] : List Ln)) HoV3.out rfl ln_len (by decide)
        have hsl2 := hsl.keep (w' := R0.drew) fun g cs fr hg => hkk_R0 g (B1k.ne_type hg (by decide))
        refine ⟨_, rfl, ⟨CA, cc, hsl2, fun z hz => ?_⟩, Hb_R0.out.drew⟩
        simp only [List.mem_cons, List.mem_nil_iff, or_false] at hz
        obtain ⟨p1, p2, p3, p4, p5, p6, p7⟩ := HGo.out
        rcases hz with rfl | rfl
        · exact ⟨p1, p2, rfl, by simp, p5, p6, fun e => by cases e⟩
        · exact ⟨wk1, wk2, rfl, by simp, by first | (simp; done) | simpa using hcc1, hcc2, fun e => by cases e⟩

    · have Hg := Lib.hid hg; clear hg
      obtain ⟨c00, c01, c02, f00, f01, f02, lt0⟩ := B0.c3
      obtain ⟨c10, c11, c12, f10, f11, f12, lt1⟩ := B1.c3
      have r0 : wr.cell? ⟨G, 0, none⟩ = some (.int .i64 wo) := Ho.out.cellAt 0 (by decide)
      have q0 := Ho.out.frozenAt 0
      have r1 : wr.cell? ⟨G, 1, none⟩ = some (.int .i64 0) := Ho.out.cellAt 1 (by decide)
      have q1 := Ho.out.frozenAt 1
      have r2 : wr.cell? ⟨G, 2, none⟩ = some (.slice OA 0 ocp) := Ho.out.cellAt 2 (by decide)
      have q2 := Ho.out.frozenAt 2
      have r3 : wr.cell? ⟨G, 3, none⟩ = some (.int .i64 wk) := Ho.out.cellAt 3 (by decide)
      have q3 := Ho.out.frozenAt 3
      have r4 : wr.cell? ⟨G, 4, none⟩ = some (.int .i64 0) := Ho.out.cellAt 4 (by decide)
      have q4 := Ho.out.frozenAt 4
      have r5 : wr.cell? ⟨G, 5, none⟩ = some (.slice (some ⟨cb, co, none⟩) 1 kcp) := Ho.out.cellAt 5 (by decide)
      have q5 := Ho.out.frozenAt 5
      have ltG : G < wr.heap.size := (Ho.out.lt G rfl).2
      go_upto_region 5 with fail
      obtain ⟨X, hX⟩ : ∃ X, wr.setCell ⟨G, 1, none⟩ (.int .i64 0) = X := ⟨_, rfl⟩
      try rw [hX]
      have hoX := (Ho.out.stored 1 (.int .i64 0)).1
      rw [hX] at hoX
      have hoX' : X.ownsRow (w.heap.size + 1 + 1) 140 3 (.slice (some ⟨G, 0, none⟩) 2 lc) 2 [.int .i64 wo, .int .i64 0, .slice OA 0 ocp, .int .i64 wk, .int .i64 0, .slice (some ⟨cb, co, none⟩) 1 kcp] := hoX
      replace B0 := B0.other (M := G) (by omega) 1 (.int .i64 0); replace B1 := B1.other (M := G) (by omega) 1 (.int .i64 0)
      rw [hX] at B0 B1
      have hbX := Hb.out.setCell (p := ⟨G, 1, none⟩) (by show w.heap.size ≤ G; omega) (.int .i64 0)
      rw [hX] at hbX
      clear hX hoX r0 q0 r1 q1 r2 q2 r3 q3 r4 q4 r5 q5 ltG c00 c01 c02 f00 f01 f02 lt0 c10 c11 c12 f10 f11 f12 lt1
      obtain ⟨c00, c01, c02, f00, f01, f02, lt0⟩ := B0.c3
      obtain ⟨c10, c11, c12, f10, f11, f12, lt1⟩ := B1.c3
      obtain ⟨X1, hX1, B0a, hk1, _, hb1⟩ := st_3_1_1 (.int .i64 1) B0
      obtain ⟨X2, hX2, B0b, hk2, _, hb2⟩ := st_3_2_1 (.bool false) B0a
      have hoX2 : X2.ownsRow (w.heap.size + 1 + 1) 140 3 (.slice (some ⟨G, 0, none⟩) 2 lc) 2 [.int .i64 wo, .int .i64 0, .slice OA 0 ocp, .int .i64 wk, .int .i64 0, .slice (some ⟨cb, co, none⟩) 1 kcp] := by
        rw [← hX2, ← hX1]
        exact own_setCell (j := 2) (own_setCell (j := 1) hoX' (by simp [Value.ownBlock]; omega) _) (by simp [Value.ownBlock]; omega) _
      have Hfin := Lib.hid (show NextRel1 w G lc [.int .i64 wo, .int .i64 0, .slice OA 0 ocp, .int .i64 wk, .int .i64 0, .slice (some ⟨cb, co, none⟩) 1 kcp] 0 (.int .i64 0) ((X.setCell ⟨w.heap.size, 1, none⟩ (.int .i64 1)).setCell ⟨w.heap.size, 2, none⟩ (.bool false)) from by
        rw [hX1, hX2]
        exact ⟨1, false, rfl, .inl ⟨rfl, rfl⟩, B0b, B1.keep ((hk2 _ (by omega)).trans (hk1 _ (by omega))), hoX2, hb2 _ _ (hb1 _ _ hbX (Nat.le_refl _)) (Nat.le_refl _)⟩)
      clear hX1 hX2 hoX' hbX B0a hk1 hb1 B0b hk2 hb2 hoX2
      go_wp2_with fail
      go_roundg 0
      case measure => have := Hg.out; omega
      case rel => exact Hfin.out
end Go.Proofs.YthiblfkmcdnalaaGreat
