/- The contract of sched.Pump where nothing waits. Printed by gen_pump.py. -/
import Derived.Test.YthiblfkmcdnalaaGreatTSchN
namespace Go.Proofs.YthiblfkmcdnalaaGreat
set_option maxRecDepth 1000000
open Go.RowKit
set_option maxRecDepth 1000000

theorem clone_jobs (w : World) (O : Option Addr) (oc : Nat) (S : Sc) (h1 : S.out.length ≤ 1) (hr : Rt Jb.cells 5 46 w O S.jobs) :
    Calls Tryz.prog 21 #[.slice O S.out.length oc] w fun e w' => ∃ O2 oc2, e = .returned (.slice O2 S.out.length oc2) ∧ Sl Jb.cells 5 46 w' (.slice O2 S.out.length oc2) S.jobs ∧ Below w.heap.size w w' := by
  have := clone_Jb Jb.cells jb_len jb_one w O oc S.jobs (by rw [Sc.jobs_len]; omega) hr
  rw [Sc.jobs_len] at this
  refine this.mono ?_
  rintro e w' ⟨O2, oc2, rfl, ho, hb⟩
  rw [Sc.jobs_len] at ho ⊢
  exact ⟨O2, oc2, rfl, Sl.of_own (f := Jb.cells) ho (Sc.jobs_len S).symm jb_len (by decide), hb⟩

set_option maxHeartbeats 8000000 in
theorem pump_idle (w : World) (lv jv s c f ov : Value) (S : Sc) (hg : GSc S) (h0 : ∀ x ∈ S.vs, x.n = 0) (hm : MSc w lv jv s c f ov S) :
    Calls Tryz.prog 8 #[.agg #[lv, .int .i64 S.at_, .bool S.given, jv, s, c, .int .i64 S.next, f, ov]] w fun e w' => ∃ jv' ov', e = .returned (.agg #[lv, .int .i64 S.at_, .bool S.given, jv', s, c, .int .i64 S.next, f, ov']) ∧
      MSc w' lv jv' s c f ov' S ∧ Below w.heap.size w w' := by
  obtain ⟨⟨L, lc, rfl⟩, ⟨J, jc, rfl⟩, ⟨A, ac, rfl⟩, ⟨B, bc, rfl⟩, ⟨F, fc, rfl, _, _⟩, ⟨O, oc, rfl, _, _⟩⟩ := hm.len
  obtain ⟨at_, given, cst, vs, js, job, dk, next, out⟩ := S
  simp only at *
  obtain ⟨W, hW, hbW, hsW, B0, B1⟩ := box2 w #[.slice L vs.length lc, .int .i64 at_, .bool given, .slice J js.length jc, .slice A dk.secs.length ac, .slice B dk.cache.length bc, .int .i64 next, .slice F out.length fc, .slice O out.length oc] 40 #[.slice none 0 0, .int .i64 0, .bool false, .slice none 0 0, .slice none 0 0, .slice none 0 0, .int .i64 0, .slice none 0 0, .slice none 0 0] 40
  have Hm := Lib.hid hm; have Hg := Lib.hid hg; have H0 := Lib.hid h0
  have HbW := Lib.hid hbW
  have hsW' := bsz hsW
  have hl1 := hg.vs.1
  have hl6 := hg.vs.2
  have hjl6 : js.length ≤ 6 := by rw [hg.js]; exact hl6
  have hout1 : out.length ≤ 1 := by have := hg.dev.f1; rw [Sc.flight_len] at this; exact this
  obtain ⟨hn0, hn1⟩ := hg.dev.next
  simp only at hn0 hn1
  clear hm hg hbW hsW h0
  obtain ⟨c00, c01, c02, c03, c04, c05, c06, c07, c08, f00, f01, f02, f03, f04, f05, f06, f07, f08, lt0⟩ := B0.c9
  obtain ⟨c10, c11, c12, c13, c14, c15, c16, c17, c18, f10, f11, f12, f13, f14, f15, f16, f17, f18, lt1⟩ := B1.c9
  go_enter Tryz.func8, Tryz.ntmps8
  go_wp2_with fail
  refine (schRight_any W _ _ _ _ _ _ _ Hg.out (Hm.out.up HbW.out)).mono ?_
  rintro e V1 ⟨rfl, hb_V1⟩
  clear c00 c01 c02 c03 c04 c05 c06 c07 c08 f00 f01 f02 f03 f04 f05 f06 f07 f08 lt0 c10 c11 c12 c13 c14 c15 c16 c17 c18 f10 f11 f12 f13 f14 f15 f16 f17 f18 lt1 hW
  replace B0 := B0.up hb_V1
  replace B1 := B1.up hb_V1
  have Hb1 := Lib.hid (HbW.out.trans (hb_V1.mono hsW'))
  have hs_V1 := hb_V1.size
  clear hb_V1
  obtain ⟨c00, c01, c02, c03, c04, c05, c06, c07, c08, f00, f01, f02, f03, f04, f05, f06, f07, f08, lt0⟩ := B0.c9
  obtain ⟨c10, c11, c12, c13, c14, c15, c16, c17, c18, f10, f11, f12, f13, f14, f15, f16, f17, f18, lt1⟩ := B1.c9
  go_wp2_with fail
  refine (clone_Jr Jr.cells jr_len jr_one V1 J jc js (by omega) (Hm.out.jobs.rt.up Hb1.out)).mono ?_
  rintro e V2 ⟨J2, jc2, rfl, hoJ, hb2⟩
  clear c00 c01 c02 c03 c04 c05 c06 c07 c08 f00 f01 f02 f03 f04 f05 f06 f07 f08 lt0 c10 c11 c12 c13 c14 c15 c16 c17 c18 f10 f11 f12 f13 f14 f15 f16 f17 f18 lt1
  have ltM := B1.lt
  replace B0 := B0.up hb2; replace B1 := B1.up hb2
  have Hb2 := Lib.hid (Hb1.out.trans (hb2.mono Hb1.out.size))
  have HJ := Lib.hid (Sl.of_own (f := Jr.cells) hoJ rfl jr_len (by decide))
  clear hoJ hb2
  obtain ⟨c00, c01, c02, c03, c04, c05, c06, c07, c08, f00, f01, f02, f03, f04, f05, f06, f07, f08, lt0⟩ := B0.c9
  obtain ⟨c10, c11, c12, c13, c14, c15, c16, c17, c18, f10, f11, f12, f13, f14, f15, f16, f17, f18, lt1⟩ := B1.c9
  go_upto_region 4 with fail
  obtain ⟨V3, hV3, B0', hk3, _, hb3⟩ := st_9_3_1 (.slice J2 js.length jc2) B0
  try rw [hV3]
  replace B1 := B1.keep (hk3 _ (by omega))
  have HJ3 := Lib.hid (HJ.out.off B0 (by decide) hk3)
  have Hb3 := Lib.hid (hb3 _ _ Hb2.out (Nat.le_refl _))
  clear hV3 hk3 hb3 B0 HJ c00 c01 c02 c03 c04 c05 c06 c07 c08 f00 f01 f02 f03 f04 f05 f06 f07 f08 lt0 c10 c11 c12 c13 c14 c15 c16 c17 c18 f10 f11 f12 f13 f14 f15 f16 f17 f18 lt1
  have B0 := B0'
  clear B0'
  obtain ⟨c00, c01, c02, c03, c04, c05, c06, c07, c08, f00, f01, f02, f03, f04, f05, f06, f07, f08, lt0⟩ := B0.c9
  obtain ⟨c10, c11, c12, c13, c14, c15, c16, c17, c18, f10, f11, f12, f13, f14, f15, f16, f17, f18, lt1⟩ := B1.c9
  go_wp2_with fail
  refine (clone_jobs V3 O oc ⟨at_, given, cst, vs, js, job, dk, next, out⟩ hout1 (Hm.out.out.rt.up Hb3.out)).mono ?_
  rintro e V4 ⟨O2, oc2, rfl, hoO, hb4⟩
  clear c00 c01 c02 c03 c04 c05 c06 c07 c08 f00 f01 f02 f03 f04 f05 f06 f07 f08 lt0 c10 c11 c12 c13 c14 c15 c16 c17 c18 f10 f11 f12 f13 f14 f15 f16 f17 f18 lt1
  replace B0 := B0.up hb4; replace B1 := B1.up hb4
  have Hb4 := Lib.hid (Hb3.out.trans (hb4.mono Hb3.out.size))
  have HO := Lib.hid hoO
  have HJ4 := Lib.hid (HJ3.out.up hb4)
  clear hoO hb4 HJ3 Hb3
  obtain ⟨c00, c01, c02, c03, c04, c05, c06, c07, c08, f00, f01, f02, f03, f04, f05, f06, f07, f08, lt0⟩ := B0.c9
  obtain ⟨c10, c11, c12, c13, c14, c15, c16, c17, c18, f10, f11, f12, f13, f14, f15, f16, f17, f18, lt1⟩ := B1.c9
  go_wp2_with fail
  obtain ⟨V5, hV5, B0', hk5, _, hb5⟩ := st_9_8_1 (.slice O2 out.length oc2) B0
  try rw [hV5]
  replace B1 := B1.keep (hk5 _ (by omega))
  have HJ5 := Lib.hid (HJ4.out.off B0 (by decide) hk5)
  have HO5 := Lib.hid (HO.out.off B0 (by decide) hk5)
  have Hb5 := Lib.hid (hb5 _ _ Hb4.out (Nat.le_refl _))
  clear hV5 hk5 hb5 B0 HJ4 HO c00 c01 c02 c03 c04 c05 c06 c07 c08 f00 f01 f02 f03 f04 f05 f06 f07 f08 lt0 c10 c11 c12 c13 c14 c15 c16 c17 c18 f10 f11 f12 f13 f14 f15 f16 f17 f18 lt1
  have B0 := B0'
  clear B0'
  go_loopg [] 0 (fun g wr => g = 0 ∧ V5 = wr)
  case atStart => exact ⟨rfl, rfl⟩
  case round =>
    obtain ⟨rfl, rfl⟩ := hrel
    obtain ⟨c00, c01, c02, c03, c04, c05, c06, c07, c08, f00, f01, f02, f03, f04, f05, f06, f07, f08, lt0⟩ := B0.c9
    obtain ⟨c10, c11, c12, c13, c14, c15, c16, c17, c18, f10, f11, f12, f13, f14, f15, f16, f17, f18, lt1⟩ := B1.c9
    go_wp2_with fail
    refine (next_no V5 _ cst at_ given vs Hg.out.c hl1 hl6 Hg.out.at_ (Hm.out.lan.up Hb5.out) H0.out).mono ?_
    rintro e V6 ⟨rfl, hb6⟩
    clear c00 c01 c02 c03 c04 c05 c06 c07 c08 f00 f01 f02 f03 f04 f05 f06 f07 f08 lt0 c10 c11 c12 c13 c14 c15 c16 c17 c18 f10 f11 f12 f13 f14 f15 f16 f17 f18 lt1
    replace B0 := B0.up hb6; replace B1 := B1.up hb6
    have Hb6 := Lib.hid (Hb5.out.trans (hb6.mono Hb5.out.size))
    have HJ6 := Lib.hid (HJ5.out.up hb6); have HO6 := Lib.hid (HO5.out.up hb6)
    clear hb6
    obtain ⟨c00, c01, c02, c03, c04, c05, c06, c07, c08, f00, f01, f02, f03, f04, f05, f06, f07, f08, lt0⟩ := B0.c9
    obtain ⟨c10, c11, c12, c13, c14, c15, c16, c17, c18, f10, f11, f12, f13, f14, f15, f16, f17, f18, lt1⟩ := B1.c9
    go_wp2_with fail
    refine bodyPost_ret (v := .agg #[.slice L vs.length lc, .int .i64 at_, .bool given, .slice J2 js.length jc2, .slice A dk.secs.length ac, .slice B dk.cache.length bc, .int .i64 next, .slice F out.length fc, .slice O2 out.length oc2]) (by simp [results, Tryz.results8, go_sem, c10, c11, c12, c13, c14, c15, c16, c17, c18, lt1]) rfl ?_
    obtain ⟨U8, hU8, _, hk8, _, hb8⟩ := st_9_0_9 (.slice L vs.length lc) (.int .i64 at_) (.bool given) (.slice J2 js.length jc2) (.slice A dk.secs.length ac) (.slice B dk.cache.length bc) (.int .i64 next) (.slice F out.length fc) (.slice O2 out.length oc2) B1
    rw [hU8]
    have hba : Below U8.heap.size U8 (U8.alloc (.cells #[.slice L vs.length lc, .int .i64 at_, .bool given] 33)) := (Below.refl _ _).alloc (Nat.le_refl _) _
    have hb0 := hb8 _ _ Hb6.out (by omega)
    have hb := hb0.trans (hba.mono hb0.size)
    have h1 := (HJ6.out.off B1 (by decide) hk8).up hba
    have h2 := (HO6.out.off B1 (by decide) hk8).up hba
    exact ⟨_, _, rfl, ⟨Hm.out.lan.up hb, h1, fun y hy e => (Hm.out.row y hy e).up hb, Hm.out.dev.up hb, h2⟩, hb⟩
end Go.Proofs.YthiblfkmcdnalaaGreat
