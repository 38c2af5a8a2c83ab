/- The contract of sched.Done. Printed by gen_done.py. -/
import Derived.Test.YthiblfkmcdnalaaGreatTPumpY
namespace Go.Proofs.YthiblfkmcdnalaaGreat
set_option maxRecDepth 1000000
open Go.RowKit
set_option maxRecDepth 1000000

theorem MDv.off {U U' : World} {s c f : Value} {d : Dv} {N : Nat} {t : TypeId} {cs : Array Value} (h : MDv U s c f d) (B : Bx N t cs U) (h1 : t ≠ 9) (h2 : t ≠ 169) (h3 : t ≠ 81) (hk : ∀ g, g ≠ N → U'.heap[g]? = U.heap[g]?) : MDv U' s c f d :=
  ⟨⟨h.1.1.off B h1 hk, h.1.2.off B h2 hk⟩, h.2.off B h3 hk⟩

set_option maxHeartbeats 8000000 in
theorem done_idle (w : World) (lv jv s c f ov : Value) (at_ cst next : Int) (given fault : Bool) (vs : List Ln) (js : List Jr) (job : Jb) (dk : Dk) (hg : GSc ⟨at_, given, cst, vs, js, job, dk, next, []⟩) (hm : MSc w lv jv s c f ov ⟨at_, given, cst, vs, js, job, dk, next, []⟩) :
    Calls Tryz.prog 9 #[.agg #[lv, .int .i64 at_, .bool given, jv, s, c, .int .i64 next, f, ov], .int .i64 0, .bool fault] w fun e w' => e = .returned (.tuple #[.agg #[lv, .int .i64 at_, .bool given, jv, s, c, .int .i64 next, f, ov], .agg #[.int .i64 0, .int .i64 0, .int .i64 0, .string ⟨#[]⟩, .int .i64 0], .int .i64 1, .bool false]) ∧ Below w.heap.size w w' := by
  obtain ⟨⟨L, lc, rfl⟩, ⟨J, jc, rfl⟩, ⟨A, ac, rfl⟩, ⟨B, bc, rfl⟩, ⟨F, fc, rfl, _, _⟩, ⟨O, oc, rfl, _, _⟩⟩ := hm.len
  simp only [List.length_nil] at *
  obtain ⟨W, hW, hbW, hsW, B0, B1, B2⟩ := box3 w #[.slice L vs.length lc, .int .i64 at_, .bool given, .slice J js.length jc, .slice A dk.secs.length ac, .slice B dk.cache.length bc, .int .i64 next, .slice F 0 fc, .slice O 0 oc] 40 #[.slice none 0 0, .int .i64 0, .bool false, .slice none 0 0, .slice none 0 0, .slice none 0 0, .int .i64 0, .slice none 0 0, .slice none 0 0] 40 #[.int .i64 0, .int .i64 0, .int .i64 0, .string ⟨#[]⟩, .int .i64 0] 46
  have Hm := Lib.hid hm; have Hg := Lib.hid hg
  have HbW := Lib.hid hbW
  have hsW' := bsz hsW
  clear hm hg hbW hsW
  obtain ⟨c00, c01, c02, c03, c04, c05, c06, c07, c08, f00, f01, f02, f03, f04, f05, f06, f07, f08, lt0⟩ := B0.c9
  obtain ⟨c10, c11, c12, c13, c14, c15, c16, c17, c18, f10, f11, f12, f13, f14, f15, f16, f17, f18, lt1⟩ := B1.c9
  obtain ⟨c20, c21, c22, c23, c24, f20, f21, f22, f23, f24, lt2⟩ := B2.c5
  go_enter Tryz.func9, Tryz.ntmps9
  go_wp2_with fail
  refine (schRight_any W _ _ _ _ _ _ _ Hg.out (Hm.out.up HbW.out)).mono ?_
  rintro e V1 ⟨rfl, hb_V1⟩
  clear c00 c01 c02 c03 c04 c05 c06 c07 c08 f00 f01 f02 f03 f04 f05 f06 f07 f08 lt0 c10 c11 c12 c13 c14 c15 c16 c17 c18 f10 f11 f12 f13 f14 f15 f16 f17 f18 lt1 c20 c21 c22 c23 c24 f20 f21 f22 f23 f24 lt2 hW
  replace B0 := B0.up hb_V1
  replace B1 := B1.up hb_V1
  replace B2 := B2.up hb_V1
  have Hb1 := Lib.hid (HbW.out.trans (hb_V1.mono hsW'))
  have hs_V1 := hb_V1.size
  clear hb_V1
  obtain ⟨c00, c01, c02, c03, c04, c05, c06, c07, c08, f00, f01, f02, f03, f04, f05, f06, f07, f08, lt0⟩ := B0.c9
  obtain ⟨c10, c11, c12, c13, c14, c15, c16, c17, c18, f10, f11, f12, f13, f14, f15, f16, f17, f18, lt1⟩ := B1.c9
  obtain ⟨c20, c21, c22, c23, c24, f20, f21, f22, f23, f24, lt2⟩ := B2.c5
  go_wp2_with fail
  obtain ⟨U1, hU1, B1', hk1, _, hb1⟩ := st_9_0_9 (.slice L vs.length lc) (.int .i64 at_) (.bool given) (.slice J js.length jc) (.slice A dk.secs.length ac) (.slice B dk.cache.length bc) (.int .i64 next) (.slice F 0 fc) (.slice O 0 oc) B1
  have B2' := B2.keep (hk1 _ (by omega))
  obtain ⟨U2, hU2, B2'', hk2, _, hb2⟩ := st_5_0_5 (.int .i64 0) (.int .i64 0) (.int .i64 0) (.string ⟨#[]⟩) (.int .i64 0) B2'
  have B1'' := B1'.keep (hk2 _ (by omega))
  try rw [hU1]
  try rw [hU2]
  have Hbz := Lib.hid (hb2 _ _ (hb1 _ _ Hb1.out (by omega)) (show w.heap.size ≤ w.heap.size + 1 + 1 by omega))
  clear c00 c01 c02 c03 c04 c05 c06 c07 c08 f00 f01 f02 f03 f04 f05 f06 f07 f08 lt0 c10 c11 c12 c13 c14 c15 c16 c17 c18 f10 f11 f12 f13 f14 f15 f16 f17 f18 lt1 c20 c21 c22 c23 c24 f20 f21 f22 f23 f24 lt2 hU1 hU2 hk1 hk2 hb1 hb2 B1 B2 B1' B2'
  obtain ⟨c10, c11, c12, c13, c14, c15, c16, c17, c18, f10, f11, f12, f13, f14, f15, f16, f17, f18, lt1⟩ := B1''.c9
  obtain ⟨c20, c21, c22, c23, c24, f20, f21, f22, f23, f24, lt2⟩ := B2''.c5
  refine bodyPost_ret (v := .tuple #[.agg #[.slice L vs.length lc, .int .i64 at_, .bool given, .slice J js.length jc, .slice A dk.secs.length ac, .slice B dk.cache.length bc, .int .i64 next, .slice F 0 fc, .slice O 0 oc], .agg #[.int .i64 0, .int .i64 0, .int .i64 0, .string ⟨#[]⟩, .int .i64 0], .int .i64 1, .bool false]) (by simp [results, Tryz.results9, go_sem, c10, c11, c12, c13, c14, c15, c16, c17, c18, c20, c21, c22, c23, c24]) rfl ?_
  exact ⟨rfl, Hbz.out⟩
end Go.Proofs.YthiblfkmcdnalaaGreat
