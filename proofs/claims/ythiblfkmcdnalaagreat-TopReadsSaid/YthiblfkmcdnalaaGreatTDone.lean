/- The contract of sched.Done where one job is in flight. Printed by gen_doney.py. -/
import Derived.Test.YthiblfkmcdnalaaGreatTDoneI
namespace Go.Proofs.YthiblfkmcdnalaaGreat
set_option maxRecDepth 1000000
open Go.RowKit
set_option maxRecDepth 1000000

def FinC (fault : Bool) (dk : Dk) (next tk kind page : Int) (data : ByteArray) (E : Int) (dk' : Dk) (rdata : ByteArray) : Prop :=
  ∀ (w : World) (s c f : Value), MDv w s c f ⟨dk, next, [⟨tk, kind, page, data⟩]⟩ →
    Calls Tryz.prog 24 #[.agg #[s, c, .int .i64 next, f], .int .i64 0, .bool fault] w fun e w' => ∃ c', e = .returned (.tuple #[.agg #[s, c', .int .i64 next, .slice none 0 0], .agg #[.int .i64 tk, .int .i64 kind, .int .i64 page, .string rdata], .int .i64 E]) ∧ MDv w' s c' (.slice none 0 0) ⟨dk', next, []⟩ ∧ Below w.heap.size w w'

set_option maxHeartbeats 16000000 in
theorem done_told0 (w : World) (lv jv s c f ov : Value) (at_ cst next tk who kind page tries : Int) (data rdata : ByteArray) (given fault : Bool) (vs : List Ln) (js : List Jr) (wj : Jb) (dk dk' : Dk) (hg : GSc ⟨at_, given, cst, vs, js, wj, dk, next, [(tk, ⟨who, kind, page, data, tries⟩)]⟩) (hF : FinC fault dk next tk kind page data 0 dk' rdata) (hm : MSc w lv jv s c f ov ⟨at_, given, cst, vs, js, wj, dk, next, [(tk, ⟨who, kind, page, data, tries⟩)]⟩) :
    Calls Tryz.prog 9 #[.agg #[lv, .int .i64 at_, .bool given, jv, s, c, .int .i64 next, f, ov], .int .i64 0, .bool fault] w fun e w' => ∃ c', e = .returned (.tuple #[.agg #[lv, .int .i64 at_, .bool given, jv, s, c', .int .i64 next, .slice none 0 0, .slice none 0 0], .agg #[.int .i64 who, .int .i64 kind, .int .i64 page, .string rdata, .int .i64 tries], .int .i64 0, .bool true]) ∧ MSc w' lv jv s c' (.slice none 0 0) (.slice none 0 0) ⟨at_, given, cst, vs, js, wj, dk', next, []⟩ ∧ Below w.heap.size w w' := by
  obtain ⟨⟨L, lc, rfl⟩, ⟨J, jc, rfl⟩, ⟨A, ac, rfl⟩, ⟨B, bc, rfl⟩, ⟨F, fc, rfl, _, _⟩, ⟨O, oc, rfl, hoa, hob⟩⟩ := hm.len
  simp only [List.length_cons, List.length_nil, Nat.zero_add] at *
  obtain ⟨x, b, off, hx, rfl, hbb, hcell⟩ := jb_at hm.out.rt (k := 0) (by simp [Sc.jobs])
  obtain rfl : (⟨who, kind, page, data, tries⟩ : Jb) = x := by simpa [Sc.jobs] using hx
  obtain ⟨W, hW, hbW, hsW, B0, B1, B2⟩ := box3 w #[.slice L vs.length lc, .int .i64 at_, .bool given, .slice J js.length jc, .slice A dk.secs.length ac, .slice B dk.cache.length bc, .int .i64 next, .slice F 1 fc, .slice (some ⟨b, off, none⟩) 1 oc] 40 #[.slice none 0 0, .int .i64 0, .bool false, .slice none 0 0, .slice none 0 0, .slice none 0 0, .int .i64 0, .slice none 0 0, .slice none 0 0] 40 #[.int .i64 0, .int .i64 0, .int .i64 0, .string ⟨#[]⟩, .int .i64 0] 46
  have Hcell := Lib.hid hcell
  have Hm := Lib.hid hm; have Hg := Lib.hid hg
  have HbW := Lib.hid hbW
  have HF := Lib.hid hF
  have hsW' := bsz hsW
  obtain ⟨hn0, _⟩ := hg.dev.next
  simp only at hn0
  clear hm hg hbW hsW hx hcell hF
  rcases Classical.em (oc = 1) with rfl | hoc
  · obtain ⟨c00, c01, c02, c03, c04, c05, c06, c07, c08, f00, f01, f02, f03, f04, f05, f06, f07, f08, lt0⟩ := B0.c9
    obtain ⟨c10, c11, c12, c13, c14, c15, c16, c17, c18, f10, f11, f12, f13, f14, f15, f16, f17, f18, lt1⟩ := B1.c9
    obtain ⟨c20, c21, c22, c23, c24, f20, f21, f22, f23, f24, lt2⟩ := B2.c5
    go_enter Tryz.func9, Tryz.ntmps9
    go_wp2_with fail
    refine (schRight_any W _ _ _ _ _ _ _ Hg.out (Hm.out.up HbW.out)).mono ?_
    rintro e V1 ⟨rfl, hb_V1⟩
    clear c00 c01 c02 c03 c04 c05 c06 c07 c08 f00 f01 f02 f03 f04 f05 f06 f07 f08 lt0 c10 c11 c12 c13 c14 c15 c16 c17 c18 f10 f11 f12 f13 f14 f15 f16 f17 f18 lt1 c20 c21 c22 c23 c24 f20 f21 f22 f23 f24 lt2 hW
    replace B0 := B0.up hb_V1
    replace B1 := B1.up hb_V1
    replace B2 := B2.up hb_V1
    have Hb1 := Lib.hid (HbW.out.trans (hb_V1.mono hsW'))
    have hs_V1 := hb_V1.size
    clear hb_V1
    obtain ⟨c00, c01, c02, c03, c04, c05, c06, c07, c08, f00, f01, f02, f03, f04, f05, f06, f07, f08, lt0⟩ := B0.c9
    obtain ⟨c10, c11, c12, c13, c14, c15, c16, c17, c18, f10, f11, f12, f13, f14, f15, f16, f17, f18, lt1⟩ := B1.c9
    obtain ⟨c20, c21, c22, c23, c24, f20, f21, f22, f23, f24, lt2⟩ := B2.c5
    obtain ⟨g0, g1, g2, g3, g4⟩ := Hcell.out V1 Hb1.out
    simp only [Nat.zero_mul, Nat.add_zero] at g0 g1 g2 g3 g4
    have hbV1 : b < V1.heap.size := by have := Hb1.out.size; omega
    go_upto_region 4 with fail
    obtain ⟨V2, hV2⟩ : ∃ V2, V1.alloc (.cells #[.int .i64 who, .int .i64 kind, .int .i64 page, .string data, .int .i64 tries] 46) = V2 := ⟨_, rfl⟩
    rw [hV2]
    have hb2 : Below V1.heap.size V1 V2 := by rw [← hV2]; exact (Below.refl _ _).alloc (Nat.le_refl _) _
    have B3 : Bx V1.heap.size 46 #[.int .i64 who, .int .i64 kind, .int .i64 page, .string data, .int .i64 tries] V2 := by rw [← hV2]; exact Bx.new _ _ _
    have hMs := lt2
    obtain ⟨M, hM⟩ : ∃ M, V1.heap.size = M := ⟨_, rfl⟩
    rw [hM] at B3 hMs ⊢
    clear hV2 g0 g1 g2 g3 g4 c00 c01 c02 c03 c04 c05 c06 c07 c08 f00 f01 f02 f03 f04 f05 f06 f07 f08 lt0 c10 c11 c12 c13 c14 c15 c16 c17 c18 f10 f11 f12 f13 f14 f15 f16 f17 f18 lt1 c20 c21 c22 c23 c24 f20 f21 f22 f23 f24 lt2
    replace B0 := B0.up hb2; replace B1 := B1.up hb2; replace B2 := B2.up hb2
    have Hb2 := Lib.hid (Hb1.out.trans (hb2.mono Hb1.out.size))
    clear hb2 hM
    obtain ⟨c00, c01, c02, c03, c04, c05, c06, c07, c08, f00, f01, f02, f03, f04, f05, f06, f07, f08, lt0⟩ := B0.c9
    obtain ⟨c10, c11, c12, c13, c14, c15, c16, c17, c18, f10, f11, f12, f13, f14, f15, f16, f17, f18, lt1⟩ := B1.c9
    obtain ⟨c20, c21, c22, c23, c24, f20, f21, f22, f23, f24, lt2⟩ := B2.c5
    obtain ⟨c30, c31, c32, c33, c34, f30, f31, f32, f33, f34, lt3⟩ := B3.c5
    go_wp2_with fail
    refine (HF.out V2 _ _ _ (Hm.out.dev.up Hb2.out)).mono ?_
    rintro e V3 ⟨c', rfl, hmd, hb3⟩
    obtain ⟨_, ⟨C', cc', rfl⟩, _⟩ := hmd.len
    have Hmd3 := Lib.hid hmd
    clear c00 c01 c02 c03 c04 c05 c06 c07 c08 f00 f01 f02 f03 f04 f05 f06 f07 f08 lt0 c10 c11 c12 c13 c14 c15 c16 c17 c18 f10 f11 f12 f13 f14 f15 f16 f17 f18 lt1 c20 c21 c22 c23 c24 f20 f21 f22 f23 f24 lt2 c30 c31 c32 c33 c34 f30 f31 f32 f33 f34 lt3 hmd
    replace B0 := B0.up hb3; replace B1 := B1.up hb3; replace B2 := B2.up hb3; replace B3 := B3.up hb3
    have Hb3 := Lib.hid (Hb2.out.trans (hb3.mono Hb2.out.size))
    clear hb3 Hb2
    obtain ⟨cl, hcl⟩ : ∃ cl, dk'.cache.length = cl := ⟨_, rfl⟩
    simp only [hcl] at Hmd3 ⊢
    obtain ⟨c00, c01, c02, c03, c04, c05, c06, c07, c08, f00, f01, f02, f03, f04, f05, f06, f07, f08, lt0⟩ := B0.c9
    obtain ⟨c10, c11, c12, c13, c14, c15, c16, c17, c18, f10, f11, f12, f13, f14, f15, f16, f17, f18, lt1⟩ := B1.c9
    obtain ⟨c20, c21, c22, c23, c24, f20, f21, f22, f23, f24, lt2⟩ := B2.c5
    obtain ⟨c30, c31, c32, c33, c34, f30, f31, f32, f33, f34, lt3⟩ := B3.c5
    go_upto_region 5 with fail
    obtain ⟨V4, hV4, hb4, hs4, B4, B5⟩ := box2 V3 #[.slice A dk.secs.length ac, .slice C' cl cc', .int .i64 next, .slice none 0 0] 37 #[.int .i64 tk, .int .i64 kind, .int .i64 page, .string rdata] 81
    try rw [hV4]
    have hMs2 := lt3
    obtain ⟨M2, hM2⟩ : ∃ M2, V3.heap.size = M2 := ⟨_, rfl⟩
    rw [hM2] at B4 B5 hMs2 ⊢
    clear hV4 hs4 c00 c01 c02 c03 c04 c05 c06 c07 c08 f00 f01 f02 f03 f04 f05 f06 f07 f08 lt0 c10 c11 c12 c13 c14 c15 c16 c17 c18 f10 f11 f12 f13 f14 f15 f16 f17 f18 lt1 c20 c21 c22 c23 c24 f20 f21 f22 f23 f24 lt2 c30 c31 c32 c33 c34 f30 f31 f32 f33 f34 lt3
    replace B0 := B0.up hb4; replace B1 := B1.up hb4; replace B2 := B2.up hb4; replace B3 := B3.up hb4
    have Hb4 := Lib.hid (Hb3.out.trans (hb4.mono Hb3.out.size))
    have Hmd4 := Lib.hid (Hmd3.out.up hb4)
    clear hb4 hM2 Hb3 Hmd3
    obtain ⟨c00, c01, c02, c03, c04, c05, c06, c07, c08, f00, f01, f02, f03, f04, f05, f06, f07, f08, lt0⟩ := B0.c9
    obtain ⟨c10, c11, c12, c13, c14, c15, c16, c17, c18, f10, f11, f12, f13, f14, f15, f16, f17, f18, lt1⟩ := B1.c9
    obtain ⟨c20, c21, c22, c23, c24, f20, f21, f22, f23, f24, lt2⟩ := B2.c5
    obtain ⟨c30, c31, c32, c33, c34, f30, f31, f32, f33, f34, lt3⟩ := B3.c5
    obtain ⟨c40, c41, c42, c43, f40, f41, f42, f43, lt4⟩ := B4.c4
    obtain ⟨c50, c51, c52, c53, f50, f51, f52, f53, lt5⟩ := B5.c4
    go_upto_region 6 with fail
    obtain ⟨V5, hV5, B0', hk5, hs5, hb5⟩ := st_9_4_4 (.slice A dk.secs.length ac) (.slice C' cl cc') (.int .i64 next) (.slice none 0 0) B0
    try rw [hV5]
    replace B1 := B1.keep (hk5 _ (by omega)); replace B2 := B2.keep (hk5 _ (by omega)); replace B3 := B3.keep (hk5 _ (by omega)); replace B4 := B4.keep (hk5 _ (by omega)); replace B5 := B5.keep (hk5 _ (by omega))
    have Hmd5 := Lib.hid (Hmd4.out.off B0 (by decide) (by decide) (by decide) hk5)
    have Hb5 := Lib.hid (hb5 _ _ Hb4.out (Nat.le_refl _))
    clear hV5 hk5 hs5 hb5 B0 Hb4 Hmd4 c00 c01 c02 c03 c04 c05 c06 c07 c08 f00 f01 f02 f03 f04 f05 f06 f07 f08 lt0 c10 c11 c12 c13 c14 c15 c16 c17 c18 f10 f11 f12 f13 f14 f15 f16 f17 f18 lt1 c20 c21 c22 c23 c24 f20 f21 f22 f23 f24 lt2 c30 c31 c32 c33 c34 f30 f31 f32 f33 f34 lt3 c40 c41 c42 c43 f40 f41 f42 f43 lt4 c50 c51 c52 c53 f50 f51 f52 f53 lt5
    have B0 := B0'
    clear B0'
    obtain ⟨c00, c01, c02, c03, c04, c05, c06, c07, c08, f00, f01, f02, f03, f04, f05, f06, f07, f08, lt0⟩ := B0.c9
    obtain ⟨c10, c11, c12, c13, c14, c15, c16, c17, c18, f10, f11, f12, f13, f14, f15, f16, f17, f18, lt1⟩ := B1.c9
    obtain ⟨c20, c21, c22, c23, c24, f20, f21, f22, f23, f24, lt2⟩ := B2.c5
    obtain ⟨c30, c31, c32, c33, c34, f30, f31, f32, f33, f34, lt3⟩ := B3.c5
    obtain ⟨c40, c41, c42, c43, f40, f41, f42, f43, lt4⟩ := B4.c4
    obtain ⟨c50, c51, c52, c53, f50, f51, f52, f53, lt5⟩ := B5.c4
    refine wp_region_S 11 (fun U => ∃ y : BW V5, U = y.w) (by kernel_rfl) rfl rfl ?_
    have n08 := bw_cell c08 lt0
    have HC : Hid (∃ y : BW V5, V5.drew = y.w) := Lib.hid ⟨⟨_, (Below.refl _ _).drew⟩, rfl⟩
    clear c00 c01 c02 c03 c04 c05 c06 c07 c08 f00 f01 f02 f03 f04 f05 f06 f07 f08 c10 c11 c12 c13 c14 c15 c16 c17 c18 f10 f11 f12 f13 f14 f15 f16 f17 f18 c20 c21 c22 c23 c24 f20 f21 f22 f23 f24 c30 c31 c32 c33 c34 f30 f31 f32 f33 f34 c40 c41 c42 c43 f40 f41 f42 f43 c50 c51 c52 c53 f50 f51 f52 f53
    refine pureS 0 rfl (by kernel_rfl) rfl (fun _ _ _ _ _ h => h) HC.out ?_
    go_big_quiet_step (fail)
    refine wpQuiet_nil ?_
    refine pureS 1 rfl (by kernel_rfl) rfl (fun _ _ _ _ _ h => h) HC.out ?_
    go_big_quiet_step (fail)
    refine wpQuiet_nil ?_
    refine pureS 2 rfl (by kernel_rfl) rfl (fun _ _ _ _ _ h => h) HC.out ?_
    go_big_quiet_step (fail)
    refine wpQuiet_nil ?_
    refine pureS 3 rfl (by kernel_rfl) rfl (fun _ _ _ _ _ h => h) HC.out ?_
    go_big_quiet_step (fail)
    refine wpQuiet_nil ?_
    refine pureS 4 rfl (by kernel_rfl) rfl (fun _ _ _ _ _ h => h) HC.out ?_
    go_big_quiet_step (fail)
    refine wpQuiet_nil ?_
    refine pureS 5 rfl (by kernel_rfl) rfl (fun _ _ _ _ _ h => h) HC.out ?_
    go_big_quiet_step (fail)
    refine wpQuiet_nil ?_
    refine pureS 6 rfl (by kernel_rfl) rfl (fun _ _ _ _ _ h => h) HC.out ?_
    go_big_quiet_step (fail)
    refine wpQuiet_nil ?_
    refine pureS 7 rfl (by kernel_rfl) rfl (fun _ _ _ _ _ h => h) HC.out ?_
    go_big_quiet_step (fail)
    refine wpQuiet_nil ?_
    refine pureS 8 rfl (by kernel_rfl) rfl (fun _ _ _ _ _ h => h) HC.out ?_
    go_big_quiet_step (fail)
    refine wpQuiet_nil ?_
    refine oneS 9 (by kernel_rfl) rfl rfl rfl (fun K hK => ?_)
    have HK := Lib.hid hK; clear hK
    go_simp
    refine HK.out _ _ (fun _ => ⟨⟨_, ((Below.refl _ V5).alloc (Nat.le_refl _) _).drew⟩, rfl⟩) ?_
    clear HK K
    obtain ⟨V6, hV6⟩ : ∃ V6, (V5.alloc (.cells #[.slice (some ⟨b, off, none⟩) 0 1, .slice (some ⟨b, off, none⟩) 0 0] 38)).drew = V6 := ⟨_, rfl⟩
    rw [hV6]
    have hb6 : Below V5.heap.size V5 V6 := by rw [← hV6]; exact ((Below.refl _ V5).alloc (Nat.le_refl _) _).drew
    have BC : Bx V5.heap.size 38 #[.slice (some ⟨b, off, none⟩) 0 1, .slice (some ⟨b, off, none⟩) 0 0] V6 := by rw [← hV6]; exact Bx.new V5 _ _
    refine oneS 10 (by kernel_rfl) rfl rfl rfl (fun K hK => ?_)
    have HK := Lib.hid hK; clear hK
    go_simp
    refine (concat_nil_Jb _ _ _ _ _ _ BC).mono ?_
    rintro e U ⟨rfl, rfl⟩
    refine HK.out _ _ (fun _ => ⟨⟨_, hb6⟩, rfl⟩) ?_
    clear HK K hV6 BC
    replace B0 := B0.upB hb6 lt0; replace B1 := B1.upB hb6 lt1; replace B2 := B2.upB hb6 lt2; replace B3 := B3.upB hb6 lt3; replace B4 := B4.upB hb6 lt4; replace B5 := B5.upB hb6 lt5
    have Hb6 := Lib.hid (Hb5.out.trans (hb6.mono Hb5.out.size))
    have Hmd6 := Lib.hid (Hmd5.out.up hb6)
    clear hb6 lt0 lt1 lt2 lt3 lt4 lt5 Hb5 Hmd5
    obtain ⟨c00, c01, c02, c03, c04, c05, c06, c07, c08, f00, f01, f02, f03, f04, f05, f06, f07, f08, lt0⟩ := B0.c9
    obtain ⟨c10, c11, c12, c13, c14, c15, c16, c17, c18, f10, f11, f12, f13, f14, f15, f16, f17, f18, lt1⟩ := B1.c9
    obtain ⟨c20, c21, c22, c23, c24, f20, f21, f22, f23, f24, lt2⟩ := B2.c5
    obtain ⟨c30, c31, c32, c33, c34, f30, f31, f32, f33, f34, lt3⟩ := B3.c5
    obtain ⟨c40, c41, c42, c43, f40, f41, f42, f43, lt4⟩ := B4.c4
    obtain ⟨c50, c51, c52, c53, f50, f51, f52, f53, lt5⟩ := B5.c4
    refine oneS 11 (by kernel_rfl) rfl rfl rfl (fun K hK => ?_)
    have HK := Lib.hid hK; clear hK
    go_simp
    refine HK.out _ _ (fun h => absurd h (by decide)) ?_
    clear HK K
    refine oneS 12 (by kernel_rfl) rfl rfl rfl (fun K hK => ?_)
    have HK := Lib.hid hK; clear hK
    go_simp
    refine HK.out _ _ (fun h => absurd h (by decide)) ?_
    clear HK K
    refine doneS (by kernel_rfl) ?_
    obtain ⟨V7, hV7, B0', hk7, hs7, hb7⟩ := st_9_8_1 (.slice none 0 0) B0
    rw [hV7]
    replace B1 := B1.keep (hk7 _ (by omega)); replace B2 := B2.keep (hk7 _ (by omega)); replace B3 := B3.keep (hk7 _ (by omega)); replace B4 := B4.keep (hk7 _ (by omega)); replace B5 := B5.keep (hk7 _ (by omega))
    have Hmd7 := Lib.hid (Hmd6.out.off B0 (by decide) (by decide) (by decide) hk7)
    have Hb7 := Lib.hid (hb7 _ _ Hb6.out (Nat.le_refl _))
    clear hV7 hk7 hs7 hb7 B0 Hb6 Hmd6 c00 c01 c02 c03 c04 c05 c06 c07 c08 f00 f01 f02 f03 f04 f05 f06 f07 f08 lt0 c10 c11 c12 c13 c14 c15 c16 c17 c18 f10 f11 f12 f13 f14 f15 f16 f17 f18 lt1 c20 c21 c22 c23 c24 f20 f21 f22 f23 f24 lt2 c30 c31 c32 c33 c34 f30 f31 f32 f33 f34 lt3 c40 c41 c42 c43 f40 f41 f42 f43 lt4 c50 c51 c52 c53 f50 f51 f52 f53 lt5
    have B0 := B0'
    clear B0'
    obtain ⟨c00, c01, c02, c03, c04, c05, c06, c07, c08, f00, f01, f02, f03, f04, f05, f06, f07, f08, lt0⟩ := B0.c9
    obtain ⟨c10, c11, c12, c13, c14, c15, c16, c17, c18, f10, f11, f12, f13, f14, f15, f16, f17, f18, lt1⟩ := B1.c9
    obtain ⟨c20, c21, c22, c23, c24, f20, f21, f22, f23, f24, lt2⟩ := B2.c5
    obtain ⟨c30, c31, c32, c33, c34, f30, f31, f32, f33, f34, lt3⟩ := B3.c5
    obtain ⟨c40, c41, c42, c43, f40, f41, f42, f43, lt4⟩ := B4.c4
    obtain ⟨c50, c51, c52, c53, f50, f51, f52, f53, lt5⟩ := B5.c4
    go_upto_region 13 with fail
    obtain ⟨V8, hV8, B3', hk8, hs8, hb8⟩ := st_5_3_1 (.string rdata) B3
    try rw [hV8]
    replace B0 := B0.keep (hk8 _ (by omega)); replace B1 := B1.keep (hk8 _ (by omega)); replace B2 := B2.keep (hk8 _ (by omega))
    have Hmd8 := Lib.hid (Hmd7.out.off B3 (by decide) (by decide) (by decide) hk8)
    have Hb8 := Lib.hid (hb8 _ _ Hb7.out (by omega))
    clear hV8 hk8 hs8 hb8 B3 B4 B5 Hb7 Hmd7 c00 c01 c02 c03 c04 c05 c06 c07 c08 f00 f01 f02 f03 f04 f05 f06 f07 f08 lt0 c10 c11 c12 c13 c14 c15 c16 c17 c18 f10 f11 f12 f13 f14 f15 f16 f17 f18 lt1 c20 c21 c22 c23 c24 f20 f21 f22 f23 f24 lt2 c30 c31 c32 c33 c34 f30 f31 f32 f33 f34 lt3 c40 c41 c42 c43 f40 f41 f42 f43 lt4 c50 c51 c52 c53 f50 f51 f52 f53 lt5
    have B3 := B3'
    clear B3'
    obtain ⟨c00, c01, c02, c03, c04, c05, c06, c07, c08, f00, f01, f02, f03, f04, f05, f06, f07, f08, lt0⟩ := B0.c9
    obtain ⟨c10, c11, c12, c13, c14, c15, c16, c17, c18, f10, f11, f12, f13, f14, f15, f16, f17, f18, lt1⟩ := B1.c9
    obtain ⟨c20, c21, c22, c23, c24, f20, f21, f22, f23, f24, lt2⟩ := B2.c5
    obtain ⟨c30, c31, c32, c33, c34, f30, f31, f32, f33, f34, lt3⟩ := B3.c5
    refine wp_region_S 7 (fun U => ∃ y : KW V8 (fun N => N ≠ w.heap.size + 1 ∧ N ≠ w.heap.size + 1 + 1), U = y.w) (by kernel_rfl) rfl rfl ?_
    have n_c00 := kw_cell c00 (ok := fun N => N ≠ w.heap.size + 1 ∧ N ≠ w.heap.size + 1 + 1) (by first | omega | exact ⟨by omega, by omega⟩)
    have n_c01 := kw_cell c01 (ok := fun N => N ≠ w.heap.size + 1 ∧ N ≠ w.heap.size + 1 + 1) (by first | omega | exact ⟨by omega, by omega⟩)
    have n_c02 := kw_cell c02 (ok := fun N => N ≠ w.heap.size + 1 ∧ N ≠ w.heap.size + 1 + 1) (by first | omega | exact ⟨by omega, by omega⟩)
    have n_c03 := kw_cell c03 (ok := fun N => N ≠ w.heap.size + 1 ∧ N ≠ w.heap.size + 1 + 1) (by first | omega | exact ⟨by omega, by omega⟩)
    have n_c04 := kw_cell c04 (ok := fun N => N ≠ w.heap.size + 1 ∧ N ≠ w.heap.size + 1 + 1) (by first | omega | exact ⟨by omega, by omega⟩)
    have n_c05 := kw_cell c05 (ok := fun N => N ≠ w.heap.size + 1 ∧ N ≠ w.heap.size + 1 + 1) (by first | omega | exact ⟨by omega, by omega⟩)
    have n_c06 := kw_cell c06 (ok := fun N => N ≠ w.heap.size + 1 ∧ N ≠ w.heap.size + 1 + 1) (by first | omega | exact ⟨by omega, by omega⟩)
    have n_c07 := kw_cell c07 (ok := fun N => N ≠ w.heap.size + 1 ∧ N ≠ w.heap.size + 1 + 1) (by first | omega | exact ⟨by omega, by omega⟩)
    have n_c08 := kw_cell c08 (ok := fun N => N ≠ w.heap.size + 1 ∧ N ≠ w.heap.size + 1 + 1) (by first | omega | exact ⟨by omega, by omega⟩)
    have n_c30 := kw_cell c30 (ok := fun N => N ≠ w.heap.size + 1 ∧ N ≠ w.heap.size + 1 + 1) (by first | omega | exact ⟨by omega, by omega⟩)
    have n_c31 := kw_cell c31 (ok := fun N => N ≠ w.heap.size + 1 ∧ N ≠ w.heap.size + 1 + 1) (by first | omega | exact ⟨by omega, by omega⟩)
    have n_c32 := kw_cell c32 (ok := fun N => N ≠ w.heap.size + 1 ∧ N ≠ w.heap.size + 1 + 1) (by first | omega | exact ⟨by omega, by omega⟩)
    have n_c33 := kw_cell c33 (ok := fun N => N ≠ w.heap.size + 1 ∧ N ≠ w.heap.size + 1 + 1) (by first | omega | exact ⟨by omega, by omega⟩)
    have n_c34 := kw_cell c34 (ok := fun N => N ≠ w.heap.size + 1 ∧ N ≠ w.heap.size + 1 + 1) (by first | omega | exact ⟨by omega, by omega⟩)
    have HC : Hid (∃ y : KW V8 (fun N => N ≠ w.heap.size + 1 ∧ N ≠ w.heap.size + 1 + 1), V8.drew = y.w) := Lib.hid ⟨⟨V8.drew, fun _ _ => rfl⟩, rfl⟩
    refine pureS 0 rfl (by kernel_rfl) rfl (fun _ _ _ _ _ h => h) HC.out ?_
    go_big_quiet_step (fail)
    refine wpQuiet_nil ?_
    refine pureS 1 rfl (by kernel_rfl) rfl (fun _ _ _ _ _ h => h) HC.out ?_
    go_big_quiet_step (fail)
    refine wpQuiet_nil ?_
    refine pureS 2 rfl (by kernel_rfl) rfl (fun _ _ _ _ _ h => h) HC.out ?_
    go_big_quiet_step (fail)
    refine wpQuiet_nil ?_
    obtain ⟨R0, hU_R0, B_R0, hk_R0, hs_R0, hb_R0⟩ := st_9_0_9 (.slice L vs.length lc) (.int .i64 at_) (.bool given) (.slice J js.length jc) (.slice A dk.secs.length ac) (.slice C' cl cc') (.int .i64 next) (.slice none 0 0) (.slice none 0 0) B1
    refine oneS 3 (by kernel_rfl) rfl rfl rfl (fun K hK => ?_)
    have HK := Lib.hid hK; clear hK
    go_simp
    try rw [hU_R0]
    refine HK.out _ _ (fun _ => ⟨⟨R0.drew, fun N hN => hk_R0 N hN.1⟩, rfl⟩) ?_
    clear HK K
    replace B2 := B2.keep (hk_R0 _ (by omega))
    have Hb_R0 := Lib.hid (hb_R0 _ _ Hb8.out (by first | omega | exact Nat.le_refl _))
    have hkk_R0 : ∀ N, N ≠ w.heap.size + 1 → N ≠ w.heap.size + 1 + 1 →  R0.heap[N]? = V8.heap[N]? := fun N q0 q1 => hk_R0 N q0
    clear hU_R0 hs_R0 hb_R0
    clear c10 c11 c12 c13 c14 c15 c16 c17 c18 f10 f11 f12 f13 f14 f15 f16 f17 f18 lt1 c20 c21 c22 c23 c24 f20 f21 f22 f23 f24 lt2
    obtain ⟨c20, c21, c22, c23, c24, f20, f21, f22, f23, f24, lt2⟩ := B2.c5
    obtain ⟨R1, hU_R1, B_R1, hk_R1, hs_R1, hb_R1⟩ := st_5_0_5 (.int .i64 who) (.int .i64 kind) (.int .i64 page) (.string rdata) (.int .i64 tries) B2
    refine oneS 4 (by kernel_rfl) rfl rfl rfl (fun K hK => ?_)
    have HK := Lib.hid hK; clear hK
    go_simp
    try rw [hU_R1]
    refine HK.out _ _ (fun _ => ⟨⟨R1.drew, fun N hN => (hk_R1 N hN.2).trans (hk_R0 N hN.1)⟩, rfl⟩) ?_
    clear HK K
    replace B_R0 := B_R0.keep (hk_R1 _ (by omega))
    have Hb_R1 := Lib.hid (hb_R1 _ _ Hb_R0.out (by first | omega | exact Nat.le_refl _))
    have hkk_R1 : ∀ N, N ≠ w.heap.size + 1 → N ≠ w.heap.size + 1 + 1 →  R1.heap[N]? = V8.heap[N]? := fun N q0 q1 => (hk_R1 N q1).trans (hkk_R0 N q0 q1)
    clear hU_R1 hs_R1 hb_R1
    refine oneS 5 (by kernel_rfl) rfl rfl rfl (fun K hK => ?_)
    have HK := Lib.hid hK; clear hK
    go_simp
    refine HK.out _ _ (fun _ => ⟨⟨R1.drew, fun N hN => (hk_R1 N hN.2).trans (hk_R0 N hN.1)⟩, rfl⟩) ?_
    clear HK K
    refine oneS 6 (by kernel_rfl) rfl rfl rfl (fun K hK => ?_)
    have HK := Lib.hid hK; clear hK
    go_simp
    refine HK.out _ _ (fun _ => ⟨⟨R1.drew, fun N hN => (hk_R1 N hN.2).trans (hk_R0 N hN.1)⟩, rfl⟩) ?_
    clear HK K
    refine doneS (by kernel_rfl) ?_
    obtain ⟨c10, c11, c12, c13, c14, c15, c16, c17, c18, f10, f11, f12, f13, f14, f15, f16, f17, f18, lt1⟩ := B_R0.c9
    obtain ⟨c20, c21, c22, c23, c24, f20, f21, f22, f23, f24, lt2⟩ := B_R1.c5
    go_wp2_with fail
    refine bodyPost_ret (v := .tuple #[.agg #[.slice L vs.length lc, .int .i64 at_, .bool given, .slice J js.length jc, .slice A dk.secs.length ac, .slice C' cl cc', .int .i64 next, .slice none 0 0, .slice none 0 0], .agg #[.int .i64 who, .int .i64 kind, .int .i64 page, .string rdata, .int .i64 tries], .int .i64 0, .bool true]) (by simp [results, Tryz.results9, go_sem, c10, c11, c12, c13, c14, c15, c16, c17, c18, c20, c21, c22, c23, c24]) rfl ?_
    have hmR := (Hmd8.out.off B1 (by decide) (by decide) (by decide) hk_R0).off B2 (by decide) (by decide) (by decide) hk_R1
    have hm2 := Hm.out.up Hb_R1.out
    subst hcl
    exact ⟨_, rfl, MSc.up ⟨hm2.lan, hm2.jobs, hm2.row, hmR, Sl.nil⟩ ((Below.refl _ _).drew), Hb_R1.out.drew⟩
  · obtain ⟨c00, c01, c02, c03, c04, c05, c06, c07, c08, f00, f01, f02, f03, f04, f05, f06, f07, f08, lt0⟩ := B0.c9
    obtain ⟨c10, c11, c12, c13, c14, c15, c16, c17, c18, f10, f11, f12, f13, f14, f15, f16, f17, f18, lt1⟩ := B1.c9
    obtain ⟨c20, c21, c22, c23, c24, f20, f21, f22, f23, f24, lt2⟩ := B2.c5
    go_enter Tryz.func9, Tryz.ntmps9
    go_wp2_with fail
    refine (schRight_any W _ _ _ _ _ _ _ Hg.out (Hm.out.up HbW.out)).mono ?_
    rintro e V1 ⟨rfl, hb_V1⟩
    clear c00 c01 c02 c03 c04 c05 c06 c07 c08 f00 f01 f02 f03 f04 f05 f06 f07 f08 lt0 c10 c11 c12 c13 c14 c15 c16 c17 c18 f10 f11 f12 f13 f14 f15 f16 f17 f18 lt1 c20 c21 c22 c23 c24 f20 f21 f22 f23 f24 lt2 hW
    replace B0 := B0.up hb_V1
    replace B1 := B1.up hb_V1
    replace B2 := B2.up hb_V1
    have Hb1 := Lib.hid (HbW.out.trans (hb_V1.mono hsW'))
    have hs_V1 := hb_V1.size
    clear hb_V1
    obtain ⟨c00, c01, c02, c03, c04, c05, c06, c07, c08, f00, f01, f02, f03, f04, f05, f06, f07, f08, lt0⟩ := B0.c9
    obtain ⟨c10, c11, c12, c13, c14, c15, c16, c17, c18, f10, f11, f12, f13, f14, f15, f16, f17, f18, lt1⟩ := B1.c9
    obtain ⟨c20, c21, c22, c23, c24, f20, f21, f22, f23, f24, lt2⟩ := B2.c5
    obtain ⟨g0, g1, g2, g3, g4⟩ := Hcell.out V1 Hb1.out
    simp only [Nat.zero_mul, Nat.add_zero] at g0 g1 g2 g3 g4
    have hbV1 : b < V1.heap.size := by have := Hb1.out.size; omega
    go_upto_region 4 with fail
    obtain ⟨V2, hV2⟩ : ∃ V2, V1.alloc (.cells #[.int .i64 who, .int .i64 kind, .int .i64 page, .string data, .int .i64 tries] 46) = V2 := ⟨_, rfl⟩
    rw [hV2]
    have hb2 : Below V1.heap.size V1 V2 := by rw [← hV2]; exact (Below.refl _ _).alloc (Nat.le_refl _) _
    have B3 : Bx V1.heap.size 46 #[.int .i64 who, .int .i64 kind, .int .i64 page, .string data, .int .i64 tries] V2 := by rw [← hV2]; exact Bx.new _ _ _
    have hMs := lt2
    obtain ⟨M, hM⟩ : ∃ M, V1.heap.size = M := ⟨_, rfl⟩
    rw [hM] at B3 hMs ⊢
    clear hV2 g0 g1 g2 g3 g4 c00 c01 c02 c03 c04 c05 c06 c07 c08 f00 f01 f02 f03 f04 f05 f06 f07 f08 lt0 c10 c11 c12 c13 c14 c15 c16 c17 c18 f10 f11 f12 f13 f14 f15 f16 f17 f18 lt1 c20 c21 c22 c23 c24 f20 f21 f22 f23 f24 lt2
    replace B0 := B0.up hb2; replace B1 := B1.up hb2; replace B2 := B2.up hb2
    have Hb2 := Lib.hid (Hb1.out.trans (hb2.mono Hb1.out.size))
    clear hb2 hM
    obtain ⟨c00, c01, c02, c03, c04, c05, c06, c07, c08, f00, f01, f02, f03, f04, f05, f06, f07, f08, lt0⟩ := B0.c9
    obtain ⟨c10, c11, c12, c13, c14, c15, c16, c17, c18, f10, f11, f12, f13, f14, f15, f16, f17, f18, lt1⟩ := B1.c9
    obtain ⟨c20, c21, c22, c23, c24, f20, f21, f22, f23, f24, lt2⟩ := B2.c5
    obtain ⟨c30, c31, c32, c33, c34, f30, f31, f32, f33, f34, lt3⟩ := B3.c5
    go_wp2_with fail
    refine (HF.out V2 _ _ _ (Hm.out.dev.up Hb2.out)).mono ?_
    rintro e V3 ⟨c', rfl, hmd, hb3⟩
    obtain ⟨_, ⟨C', cc', rfl⟩, _⟩ := hmd.len
    have Hmd3 := Lib.hid hmd
    clear c00 c01 c02 c03 c04 c05 c06 c07 c08 f00 f01 f02 f03 f04 f05 f06 f07 f08 lt0 c10 c11 c12 c13 c14 c15 c16 c17 c18 f10 f11 f12 f13 f14 f15 f16 f17 f18 lt1 c20 c21 c22 c23 c24 f20 f21 f22 f23 f24 lt2 c30 c31 c32 c33 c34 f30 f31 f32 f33 f34 lt3 hmd
    replace B0 := B0.up hb3; replace B1 := B1.up hb3; replace B2 := B2.up hb3; replace B3 := B3.up hb3
    have Hb3 := Lib.hid (Hb2.out.trans (hb3.mono Hb2.out.size))
    clear hb3 Hb2
    obtain ⟨cl, hcl⟩ : ∃ cl, dk'.cache.length = cl := ⟨_, rfl⟩
    simp only [hcl] at Hmd3 ⊢
    obtain ⟨c00, c01, c02, c03, c04, c05, c06, c07, c08, f00, f01, f02, f03, f04, f05, f06, f07, f08, lt0⟩ := B0.c9
    obtain ⟨c10, c11, c12, c13, c14, c15, c16, c17, c18, f10, f11, f12, f13, f14, f15, f16, f17, f18, lt1⟩ := B1.c9
    obtain ⟨c20, c21, c22, c23, c24, f20, f21, f22, f23, f24, lt2⟩ := B2.c5
    obtain ⟨c30, c31, c32, c33, c34, f30, f31, f32, f33, f34, lt3⟩ := B3.c5
    go_upto_region 5 with fail
    obtain ⟨V4, hV4, hb4, hs4, B4, B5⟩ := box2 V3 #[.slice A dk.secs.length ac, .slice C' cl cc', .int .i64 next, .slice none 0 0] 37 #[.int .i64 tk, .int .i64 kind, .int .i64 page, .string rdata] 81
    try rw [hV4]
    have hMs2 := lt3
    obtain ⟨M2, hM2⟩ : ∃ M2, V3.heap.size = M2 := ⟨_, rfl⟩
    rw [hM2] at B4 B5 hMs2 ⊢
    clear hV4 hs4 c00 c01 c02 c03 c04 c05 c06 c07 c08 f00 f01 f02 f03 f04 f05 f06 f07 f08 lt0 c10 c11 c12 c13 c14 c15 c16 c17 c18 f10 f11 f12 f13 f14 f15 f16 f17 f18 lt1 c20 c21 c22 c23 c24 f20 f21 f22 f23 f24 lt2 c30 c31 c32 c33 c34 f30 f31 f32 f33 f34 lt3
    replace B0 := B0.up hb4; replace B1 := B1.up hb4; replace B2 := B2.up hb4; replace B3 := B3.up hb4
    have Hb4 := Lib.hid (Hb3.out.trans (hb4.mono Hb3.out.size))
    have Hmd4 := Lib.hid (Hmd3.out.up hb4)
    clear hb4 hM2 Hb3 Hmd3
    obtain ⟨c00, c01, c02, c03, c04, c05, c06, c07, c08, f00, f01, f02, f03, f04, f05, f06, f07, f08, lt0⟩ := B0.c9
    obtain ⟨c10, c11, c12, c13, c14, c15, c16, c17, c18, f10, f11, f12, f13, f14, f15, f16, f17, f18, lt1⟩ := B1.c9
    obtain ⟨c20, c21, c22, c23, c24, f20, f21, f22, f23, f24, lt2⟩ := B2.c5
    obtain ⟨c30, c31, c32, c33, c34, f30, f31, f32, f33, f34, lt3⟩ := B3.c5
    obtain ⟨c40, c41, c42, c43, f40, f41, f42, f43, lt4⟩ := B4.c4
    obtain ⟨c50, c51, c52, c53, f50, f51, f52, f53, lt5⟩ := B5.c4
    go_upto_region 6 with fail
    obtain ⟨V5, hV5, B0', hk5, hs5, hb5⟩ := st_9_4_4 (.slice A dk.secs.length ac) (.slice C' cl cc') (.int .i64 next) (.slice none 0 0) B0
    try rw [hV5]
    replace B1 := B1.keep (hk5 _ (by omega)); replace B2 := B2.keep (hk5 _ (by omega)); replace B3 := B3.keep (hk5 _ (by omega)); replace B4 := B4.keep (hk5 _ (by omega)); replace B5 := B5.keep (hk5 _ (by omega))
    have Hmd5 := Lib.hid (Hmd4.out.off B0 (by decide) (by decide) (by decide) hk5)
    have Hb5 := Lib.hid (hb5 _ _ Hb4.out (Nat.le_refl _))
    clear hV5 hk5 hs5 hb5 B0 Hb4 Hmd4 c00 c01 c02 c03 c04 c05 c06 c07 c08 f00 f01 f02 f03 f04 f05 f06 f07 f08 lt0 c10 c11 c12 c13 c14 c15 c16 c17 c18 f10 f11 f12 f13 f14 f15 f16 f17 f18 lt1 c20 c21 c22 c23 c24 f20 f21 f22 f23 f24 lt2 c30 c31 c32 c33 c34 f30 f31 f32 f33 f34 lt3 c40 c41 c42 c43 f40 f41 f42 f43 lt4 c50 c51 c52 c53 f50 f51 f52 f53 lt5
    have B0 := B0'
    clear B0'
    obtain ⟨c00, c01, c02, c03, c04, c05, c06, c07, c08, f00, f01, f02, f03, f04, f05, f06, f07, f08, lt0⟩ := B0.c9
    obtain ⟨c10, c11, c12, c13, c14, c15, c16, c17, c18, f10, f11, f12, f13, f14, f15, f16, f17, f18, lt1⟩ := B1.c9
    obtain ⟨c20, c21, c22, c23, c24, f20, f21, f22, f23, f24, lt2⟩ := B2.c5
    obtain ⟨c30, c31, c32, c33, c34, f30, f31, f32, f33, f34, lt3⟩ := B3.c5
    obtain ⟨c40, c41, c42, c43, f40, f41, f42, f43, lt4⟩ := B4.c4
    obtain ⟨c50, c51, c52, c53, f50, f51, f52, f53, lt5⟩ := B5.c4
    refine wp_region_S 11 (fun U => ∃ y : BW V5, U = y.w) (by kernel_rfl) rfl rfl ?_
    have n08 := bw_cell c08 lt0
    have HC : Hid (∃ y : BW V5, V5.drew = y.w) := Lib.hid ⟨⟨_, (Below.refl _ _).drew⟩, rfl⟩
    clear c00 c01 c02 c03 c04 c05 c06 c07 c08 f00 f01 f02 f03 f04 f05 f06 f07 f08 c10 c11 c12 c13 c14 c15 c16 c17 c18 f10 f11 f12 f13 f14 f15 f16 f17 f18 c20 c21 c22 c23 c24 f20 f21 f22 f23 f24 c30 c31 c32 c33 c34 f30 f31 f32 f33 f34 c40 c41 c42 c43 f40 f41 f42 f43 c50 c51 c52 c53 f50 f51 f52 f53
    refine pureS 0 rfl (by kernel_rfl) rfl (fun _ _ _ _ _ h => h) HC.out ?_
    go_big_quiet_step (fail)
    refine wpQuiet_nil ?_
    refine pureS 1 rfl (by kernel_rfl) rfl (fun _ _ _ _ _ h => h) HC.out ?_
    go_big_quiet_step (fail)
    refine wpQuiet_nil ?_
    refine pureS 2 rfl (by kernel_rfl) rfl (fun _ _ _ _ _ h => h) HC.out ?_
    go_big_quiet_step (fail)
    refine wpQuiet_nil ?_
    refine pureS 3 rfl (by kernel_rfl) rfl (fun _ _ _ _ _ h => h) HC.out ?_
    go_big_quiet_step (fail)
    refine wpQuiet_nil ?_
    refine pureS 4 rfl (by kernel_rfl) rfl (fun _ _ _ _ _ h => h) HC.out ?_
    go_big_quiet_step (fail)
    refine wpQuiet_nil ?_
    refine pureS 5 rfl (by kernel_rfl) rfl (fun _ _ _ _ _ h => h) HC.out ?_
    go_big_quiet_step (fail)
    refine wpQuiet_nil ?_
    refine pureS 6 rfl (by kernel_rfl) rfl (fun _ _ _ _ _ h => h) HC.out ?_
    go_big_quiet_step (fail)
    refine wpQuiet_nil ?_
    refine pureS 7 rfl (by kernel_rfl) rfl (fun _ _ _ _ _ h => h) HC.out ?_
    go_big_quiet_step (fail)
    refine wpQuiet_nil ?_
    refine pureS 8 rfl (by kernel_rfl) rfl (fun _ _ _ _ _ h => h) HC.out ?_
    go_big_quiet_step (fail)
    refine wpQuiet_nil ?_
    refine oneS 9 (by kernel_rfl) rfl rfl rfl (fun K hK => ?_)
    have HK := Lib.hid hK; clear hK
    go_simp
    refine HK.out _ _ (fun _ => ⟨⟨_, ((Below.refl _ V5).alloc (Nat.le_refl _) _).drew⟩, rfl⟩) ?_
    clear HK K
    obtain ⟨V6, hV6⟩ : ∃ V6, (V5.alloc (.cells #[.slice (some ⟨b, off, none⟩) 0 oc, .slice (some ⟨b, off + 5, none⟩) 0 (oc - 1)] 38)).drew = V6 := ⟨_, rfl⟩
    rw [hV6]
    have hb6 : Below V5.heap.size V5 V6 := by rw [← hV6]; exact ((Below.refl _ V5).alloc (Nat.le_refl _) _).drew
    have BC : Bx V5.heap.size 38 #[.slice (some ⟨b, off, none⟩) 0 oc, .slice (some ⟨b, off + 5, none⟩) 0 (oc - 1)] V6 := by rw [← hV6]; exact Bx.new V5 _ _
    refine oneS 10 (by kernel_rfl) rfl rfl rfl (fun K hK => ?_)
    have HK := Lib.hid hK; clear hK
    go_simp
    refine (concat_nil_Jb _ _ _ _ _ _ BC).mono ?_
    rintro e U ⟨rfl, rfl⟩
    refine HK.out _ _ (fun _ => ⟨⟨_, hb6⟩, rfl⟩) ?_
    clear HK K hV6 BC
    replace B0 := B0.upB hb6 lt0; replace B1 := B1.upB hb6 lt1; replace B2 := B2.upB hb6 lt2; replace B3 := B3.upB hb6 lt3; replace B4 := B4.upB hb6 lt4; replace B5 := B5.upB hb6 lt5
    have Hb6 := Lib.hid (Hb5.out.trans (hb6.mono Hb5.out.size))
    have Hmd6 := Lib.hid (Hmd5.out.up hb6)
    clear hb6 lt0 lt1 lt2 lt3 lt4 lt5 Hb5 Hmd5
    obtain ⟨c00, c01, c02, c03, c04, c05, c06, c07, c08, f00, f01, f02, f03, f04, f05, f06, f07, f08, lt0⟩ := B0.c9
    obtain ⟨c10, c11, c12, c13, c14, c15, c16, c17, c18, f10, f11, f12, f13, f14, f15, f16, f17, f18, lt1⟩ := B1.c9
    obtain ⟨c20, c21, c22, c23, c24, f20, f21, f22, f23, f24, lt2⟩ := B2.c5
    obtain ⟨c30, c31, c32, c33, c34, f30, f31, f32, f33, f34, lt3⟩ := B3.c5
    obtain ⟨c40, c41, c42, c43, f40, f41, f42, f43, lt4⟩ := B4.c4
    obtain ⟨c50, c51, c52, c53, f50, f51, f52, f53, lt5⟩ := B5.c4
    refine oneS 11 (by kernel_rfl) rfl rfl rfl (fun K hK => ?_)
    have HK := Lib.hid hK; clear hK
    go_simp
    refine HK.out _ _ (fun h => absurd h (by decide)) ?_
    clear HK K
    refine oneS 12 (by kernel_rfl) rfl rfl rfl (fun K hK => ?_)
    have HK := Lib.hid hK; clear hK
    go_simp
    refine HK.out _ _ (fun h => absurd h (by decide)) ?_
    clear HK K
    refine doneS (by kernel_rfl) ?_
    obtain ⟨V7, hV7, B0', hk7, hs7, hb7⟩ := st_9_8_1 (.slice none 0 0) B0
    rw [hV7]
    replace B1 := B1.keep (hk7 _ (by omega)); replace B2 := B2.keep (hk7 _ (by omega)); replace B3 := B3.keep (hk7 _ (by omega)); replace B4 := B4.keep (hk7 _ (by omega)); replace B5 := B5.keep (hk7 _ (by omega))
    have Hmd7 := Lib.hid (Hmd6.out.off B0 (by decide) (by decide) (by decide) hk7)
    have Hb7 := Lib.hid (hb7 _ _ Hb6.out (Nat.le_refl _))
    clear hV7 hk7 hs7 hb7 B0 Hb6 Hmd6 c00 c01 c02 c03 c04 c05 c06 c07 c08 f00 f01 f02 f03 f04 f05 f06 f07 f08 lt0 c10 c11 c12 c13 c14 c15 c16 c17 c18 f10 f11 f12 f13 f14 f15 f16 f17 f18 lt1 c20 c21 c22 c23 c24 f20 f21 f22 f23 f24 lt2 c30 c31 c32 c33 c34 f30 f31 f32 f33 f34 lt3 c40 c41 c42 c43 f40 f41 f42 f43 lt4 c50 c51 c52 c53 f50 f51 f52 f53 lt5
    have B0 := B0'
    clear B0'
    obtain ⟨c00, c01, c02, c03, c04, c05, c06, c07, c08, f00, f01, f02, f03, f04, f05, f06, f07, f08, lt0⟩ := B0.c9
    obtain ⟨c10, c11, c12, c13, c14, c15, c16, c17, c18, f10, f11, f12, f13, f14, f15, f16, f17, f18, lt1⟩ := B1.c9
    obtain ⟨c20, c21, c22, c23, c24, f20, f21, f22, f23, f24, lt2⟩ := B2.c5
    obtain ⟨c30, c31, c32, c33, c34, f30, f31, f32, f33, f34, lt3⟩ := B3.c5
    obtain ⟨c40, c41, c42, c43, f40, f41, f42, f43, lt4⟩ := B4.c4
    obtain ⟨c50, c51, c52, c53, f50, f51, f52, f53, lt5⟩ := B5.c4
    go_upto_region 13 with fail
    obtain ⟨V8, hV8, B3', hk8, hs8, hb8⟩ := st_5_3_1 (.string rdata) B3
    try rw [hV8]
    replace B0 := B0.keep (hk8 _ (by omega)); replace B1 := B1.keep (hk8 _ (by omega)); replace B2 := B2.keep (hk8 _ (by omega))
    have Hmd8 := Lib.hid (Hmd7.out.off B3 (by decide) (by decide) (by decide) hk8)
    have Hb8 := Lib.hid (hb8 _ _ Hb7.out (by omega))
    clear hV8 hk8 hs8 hb8 B3 B4 B5 Hb7 Hmd7 c00 c01 c02 c03 c04 c05 c06 c07 c08 f00 f01 f02 f03 f04 f05 f06 f07 f08 lt0 c10 c11 c12 c13 c14 c15 c16 c17 c18 f10 f11 f12 f13 f14 f15 f16 f17 f18 lt1 c20 c21 c22 c23 c24 f20 f21 f22 f23 f24 lt2 c30 c31 c32 c33 c34 f30 f31 f32 f33 f34 lt3 c40 c41 c42 c43 f40 f41 f42 f43 lt4 c50 c51 c52 c53 f50 f51 f52 f53 lt5
    have B3 := B3'
    clear B3'
    obtain ⟨c00, c01, c02, c03, c04, c05, c06, c07, c08, f00, f01, f02, f03, f04, f05, f06, f07, f08, lt0⟩ := B0.c9
    obtain ⟨c10, c11, c12, c13, c14, c15, c16, c17, c18, f10, f11, f12, f13, f14, f15, f16, f17, f18, lt1⟩ := B1.c9
    obtain ⟨c20, c21, c22, c23, c24, f20, f21, f22, f23, f24, lt2⟩ := B2.c5
    obtain ⟨c30, c31, c32, c33, c34, f30, f31, f32, f33, f34, lt3⟩ := B3.c5
    refine wp_region_S 7 (fun U => ∃ y : KW V8 (fun N => N ≠ w.heap.size + 1 ∧ N ≠ w.heap.size + 1 + 1), U = y.w) (by kernel_rfl) rfl rfl ?_
    have n_c00 := kw_cell c00 (ok := fun N => N ≠ w.heap.size + 1 ∧ N ≠ w.heap.size + 1 + 1) (by first | omega | exact ⟨by omega, by omega⟩)
    have n_c01 := kw_cell c01 (ok := fun N => N ≠ w.heap.size + 1 ∧ N ≠ w.heap.size + 1 + 1) (by first | omega | exact ⟨by omega, by omega⟩)
    have n_c02 := kw_cell c02 (ok := fun N => N ≠ w.heap.size + 1 ∧ N ≠ w.heap.size + 1 + 1) (by first | omega | exact ⟨by omega, by omega⟩)
    have n_c03 := kw_cell c03 (ok := fun N => N ≠ w.heap.size + 1 ∧ N ≠ w.heap.size + 1 + 1) (by first | omega | exact ⟨by omega, by omega⟩)
    have n_c04 := kw_cell c04 (ok := fun N => N ≠ w.heap.size + 1 ∧ N ≠ w.heap.size + 1 + 1) (by first | omega | exact ⟨by omega, by omega⟩)
    have n_c05 := kw_cell c05 (ok := fun N => N ≠ w.heap.size + 1 ∧ N ≠ w.heap.size + 1 + 1) (by first | omega | exact ⟨by omega, by omega⟩)
    have n_c06 := kw_cell c06 (ok := fun N => N ≠ w.heap.size + 1 ∧ N ≠ w.heap.size + 1 + 1) (by first | omega | exact ⟨by omega, by omega⟩)
    have n_c07 := kw_cell c07 (ok := fun N => N ≠ w.heap.size + 1 ∧ N ≠ w.heap.size + 1 + 1) (by first | omega | exact ⟨by omega, by omega⟩)
    have n_c08 := kw_cell c08 (ok := fun N => N ≠ w.heap.size + 1 ∧ N ≠ w.heap.size + 1 + 1) (by first | omega | exact ⟨by omega, by omega⟩)
    have n_c30 := kw_cell c30 (ok := fun N => N ≠ w.heap.size + 1 ∧ N ≠ w.heap.size + 1 + 1) (by first | omega | exact ⟨by omega, by omega⟩)
    have n_c31 := kw_cell c31 (ok := fun N => N ≠ w.heap.size + 1 ∧ N ≠ w.heap.size + 1 + 1) (by first | omega | exact ⟨by omega, by omega⟩)
    have n_c32 := kw_cell c32 (ok := fun N => N ≠ w.heap.size + 1 ∧ N ≠ w.heap.size + 1 + 1) (by first | omega | exact ⟨by omega, by omega⟩)
    have n_c33 := kw_cell c33 (ok := fun N => N ≠ w.heap.size + 1 ∧ N ≠ w.heap.size + 1 + 1) (by first | omega | exact ⟨by omega, by omega⟩)
    have n_c34 := kw_cell c34 (ok := fun N => N ≠ w.heap.size + 1 ∧ N ≠ w.heap.size + 1 + 1) (by first | omega | exact ⟨by omega, by omega⟩)
    have HC : Hid (∃ y : KW V8 (fun N => N ≠ w.heap.size + 1 ∧ N ≠ w.heap.size + 1 + 1), V8.drew = y.w) := Lib.hid ⟨⟨V8.drew, fun _ _ => rfl⟩, rfl⟩
    refine pureS 0 rfl (by kernel_rfl) rfl (fun _ _ _ _ _ h => h) HC.out ?_
    go_big_quiet_step (fail)
    refine wpQuiet_nil ?_
    refine pureS 1 rfl (by kernel_rfl) rfl (fun _ _ _ _ _ h => h) HC.out ?_
    go_big_quiet_step (fail)
    refine wpQuiet_nil ?_
    refine pureS 2 rfl (by kernel_rfl) rfl (fun _ _ _ _ _ h => h) HC.out ?_
    go_big_quiet_step (fail)
    refine wpQuiet_nil ?_
    obtain ⟨R0, hU_R0, B_R0, hk_R0, hs_R0, hb_R0⟩ := st_9_0_9 (.slice L vs.length lc) (.int .i64 at_) (.bool given) (.slice J js.length jc) (.slice A dk.secs.length ac) (.slice C' cl cc') (.int .i64 next) (.slice none 0 0) (.slice none 0 0) B1
    refine oneS 3 (by kernel_rfl) rfl rfl rfl (fun K hK => ?_)
    have HK := Lib.hid hK; clear hK
    go_simp
    try rw [hU_R0]
    refine HK.out _ _ (fun _ => ⟨⟨R0.drew, fun N hN => hk_R0 N hN.1⟩, rfl⟩) ?_
    clear HK K
    replace B2 := B2.keep (hk_R0 _ (by omega))
    have Hb_R0 := Lib.hid (hb_R0 _ _ Hb8.out (by first | omega | exact Nat.le_refl _))
    have hkk_R0 : ∀ N, N ≠ w.heap.size + 1 → N ≠ w.heap.size + 1 + 1 →  R0.heap[N]? = V8.heap[N]? := fun N q0 q1 => hk_R0 N q0
    clear hU_R0 hs_R0 hb_R0
    clear c10 c11 c12 c13 c14 c15 c16 c17 c18 f10 f11 f12 f13 f14 f15 f16 f17 f18 lt1 c20 c21 c22 c23 c24 f20 f21 f22 f23 f24 lt2
    obtain ⟨c20, c21, c22, c23, c24, f20, f21, f22, f23, f24, lt2⟩ := B2.c5
    obtain ⟨R1, hU_R1, B_R1, hk_R1, hs_R1, hb_R1⟩ := st_5_0_5 (.int .i64 who) (.int .i64 kind) (.int .i64 page) (.string rdata) (.int .i64 tries) B2
    refine oneS 4 (by kernel_rfl) rfl rfl rfl (fun K hK => ?_)
    have HK := Lib.hid hK; clear hK
    go_simp
    try rw [hU_R1]
    refine HK.out _ _ (fun _ => ⟨⟨R1.drew, fun N hN => (hk_R1 N hN.2).trans (hk_R0 N hN.1)⟩, rfl⟩) ?_
    clear HK K
    replace B_R0 := B_R0.keep (hk_R1 _ (by omega))
    have Hb_R1 := Lib.hid (hb_R1 _ _ Hb_R0.out (by first | omega | exact Nat.le_refl _))
    have hkk_R1 : ∀ N, N ≠ w.heap.size + 1 → N ≠ w.heap.size + 1 + 1 →  R1.heap[N]? = V8.heap[N]? := fun N q0 q1 => (hk_R1 N q1).trans (hkk_R0 N q0 q1)
    clear hU_R1 hs_R1 hb_R1
    refine oneS 5 (by kernel_rfl) rfl rfl rfl (fun K hK => ?_)
    have HK := Lib.hid hK; clear hK
    go_simp
    refine HK.out _ _ (fun _ => ⟨⟨R1.drew, fun N hN => (hk_R1 N hN.2).trans (hk_R0 N hN.1)⟩, rfl⟩) ?_
    clear HK K
    refine oneS 6 (by kernel_rfl) rfl rfl rfl (fun K hK => ?_)
    have HK := Lib.hid hK; clear hK
    go_simp
    refine HK.out _ _ (fun _ => ⟨⟨R1.drew, fun N hN => (hk_R1 N hN.2).trans (hk_R0 N hN.1)⟩, rfl⟩) ?_
    clear HK K
    refine doneS (by kernel_rfl) ?_
    obtain ⟨c10, c11, c12, c13, c14, c15, c16, c17, c18, f10, f11, f12, f13, f14, f15, f16, f17, f18, lt1⟩ := B_R0.c9
    obtain ⟨c20, c21, c22, c23, c24, f20, f21, f22, f23, f24, lt2⟩ := B_R1.c5
    go_wp2_with fail
    refine bodyPost_ret (v := .tuple #[.agg #[.slice L vs.length lc, .int .i64 at_, .bool given, .slice J js.length jc, .slice A dk.secs.length ac, .slice C' cl cc', .int .i64 next, .slice none 0 0, .slice none 0 0], .agg #[.int .i64 who, .int .i64 kind, .int .i64 page, .string rdata, .int .i64 tries], .int .i64 0, .bool true]) (by simp [results, Tryz.results9, go_sem, c10, c11, c12, c13, c14, c15, c16, c17, c18, c20, c21, c22, c23, c24]) rfl ?_
    have hmR := (Hmd8.out.off B1 (by decide) (by decide) (by decide) hk_R0).off B2 (by decide) (by decide) (by decide) hk_R1
    have hm2 := Hm.out.up Hb_R1.out
    subst hcl
    exact ⟨_, rfl, MSc.up ⟨hm2.lan, hm2.jobs, hm2.row, hmR, Sl.nil⟩ ((Below.refl _ _).drew), Hb_R1.out.drew⟩

set_option maxHeartbeats 16000000 in
theorem done_told8 (w : World) (lv jv s c f ov : Value) (at_ cst next tk who kind page : Int) (data rdata : ByteArray) (given fault : Bool) (vs : List Ln) (js : List Jr) (wj : Jb) (dk dk' : Dk) (hg : GSc ⟨at_, given, cst, vs, js, wj, dk, next, [(tk, ⟨who, kind, page, data, 3⟩)]⟩) (hF : FinC fault dk next tk kind page data 8 dk' rdata) (hm : MSc w lv jv s c f ov ⟨at_, given, cst, vs, js, wj, dk, next, [(tk, ⟨who, kind, page, data, 3⟩)]⟩) :
    Calls Tryz.prog 9 #[.agg #[lv, .int .i64 at_, .bool given, jv, s, c, .int .i64 next, f, ov], .int .i64 0, .bool fault] w fun e w' => ∃ c', e = .returned (.tuple #[.agg #[lv, .int .i64 at_, .bool given, jv, s, c', .int .i64 next, .slice none 0 0, .slice none 0 0], .agg #[.int .i64 who, .int .i64 kind, .int .i64 page, .string rdata, .int .i64 3], .int .i64 8, .bool true]) ∧ MSc w' lv jv s c' (.slice none 0 0) (.slice none 0 0) ⟨at_, given, cst, vs, js, wj, dk', next, []⟩ ∧ Below w.heap.size w w' := by
  obtain ⟨⟨L, lc, rfl⟩, ⟨J, jc, rfl⟩, ⟨A, ac, rfl⟩, ⟨B, bc, rfl⟩, ⟨F, fc, rfl, _, _⟩, ⟨O, oc, rfl, hoa, hob⟩⟩ := hm.len
  simp only [List.length_cons, List.length_nil, Nat.zero_add] at *
  obtain ⟨x, b, off, hx, rfl, hbb, hcell⟩ := jb_at hm.out.rt (k := 0) (by simp [Sc.jobs])
  obtain rfl : (⟨who, kind, page, data, 3⟩ : Jb) = x := by simpa [Sc.jobs] using hx
  obtain ⟨W, hW, hbW, hsW, B0, B1, B2⟩ := box3 w #[.slice L vs.length lc, .int .i64 at_, .bool given, .slice J js.length jc, .slice A dk.secs.length ac, .slice B dk.cache.length bc, .int .i64 next, .slice F 1 fc, .slice (some ⟨b, off, none⟩) 1 oc] 40 #[.slice none 0 0, .int .i64 0, .bool false, .slice none 0 0, .slice none 0 0, .slice none 0 0, .int .i64 0, .slice none 0 0, .slice none 0 0] 40 #[.int .i64 0, .int .i64 0, .int .i64 0, .string ⟨#[]⟩, .int .i64 0] 46
  have Hcell := Lib.hid hcell
  have Hm := Lib.hid hm; have Hg := Lib.hid hg
  have HbW := Lib.hid hbW
  have HF := Lib.hid hF
  have hsW' := bsz hsW
  obtain ⟨hn0, _⟩ := hg.dev.next
  simp only at hn0
  clear hm hg hbW hsW hx hcell hF
  rcases Classical.em (oc = 1) with rfl | hoc
  · obtain ⟨c00, c01, c02, c03, c04, c05, c06, c07, c08, f00, f01, f02, f03, f04, f05, f06, f07, f08, lt0⟩ := B0.c9
    obtain ⟨c10, c11, c12, c13, c14, c15, c16, c17, c18, f10, f11, f12, f13, f14, f15, f16, f17, f18, lt1⟩ := B1.c9
    obtain ⟨c20, c21, c22, c23, c24, f20, f21, f22, f23, f24, lt2⟩ := B2.c5
    go_enter Tryz.func9, Tryz.ntmps9
    go_wp2_with fail
    refine (schRight_any W _ _ _ _ _ _ _ Hg.out (Hm.out.up HbW.out)).mono ?_
    rintro e V1 ⟨rfl, hb_V1⟩
    clear c00 c01 c02 c03 c04 c05 c06 c07 c08 f00 f01 f02 f03 f04 f05 f06 f07 f08 lt0 c10 c11 c12 c13 c14 c15 c16 c17 c18 f10 f11 f12 f13 f14 f15 f16 f17 f18 lt1 c20 c21 c22 c23 c24 f20 f21 f22 f23 f24 lt2 hW
    replace B0 := B0.up hb_V1
    replace B1 := B1.up hb_V1
    replace B2 := B2.up hb_V1
    have Hb1 := Lib.hid (HbW.out.trans (hb_V1.mono hsW'))
    have hs_V1 := hb_V1.size
    clear hb_V1
    obtain ⟨c00, c01, c02, c03, c04, c05, c06, c07, c08, f00, f01, f02, f03, f04, f05, f06, f07, f08, lt0⟩ := B0.c9
    obtain ⟨c10, c11, c12, c13, c14, c15, c16, c17, c18, f10, f11, f12, f13, f14, f15, f16, f17, f18, lt1⟩ := B1.c9
    obtain ⟨c20, c21, c22, c23, c24, f20, f21, f22, f23, f24, lt2⟩ := B2.c5
    obtain ⟨g0, g1, g2, g3, g4⟩ := Hcell.out V1 Hb1.out
    simp only [Nat.zero_mul, Nat.add_zero] at g0 g1 g2 g3 g4
    have hbV1 : b < V1.heap.size := by have := Hb1.out.size; omega
    go_upto_region 4 with fail
    obtain ⟨V2, hV2⟩ : ∃ V2, V1.alloc (.cells #[.int .i64 who, .int .i64 kind, .int .i64 page, .string data, .int .i64 3] 46) = V2 := ⟨_, rfl⟩
    rw [hV2]
    have hb2 : Below V1.heap.size V1 V2 := by rw [← hV2]; exact (Below.refl _ _).alloc (Nat.le_refl _) _
    have B3 : Bx V1.heap.size 46 #[.int .i64 who, .int .i64 kind, .int .i64 page, .string data, .int .i64 3] V2 := by rw [← hV2]; exact Bx.new _ _ _
    have hMs := lt2
    obtain ⟨M, hM⟩ : ∃ M, V1.heap.size = M := ⟨_, rfl⟩
    rw [hM] at B3 hMs ⊢
    clear hV2 g0 g1 g2 g3 g4 c00 c01 c02 c03 c04 c05 c06 c07 c08 f00 f01 f02 f03 f04 f05 f06 f07 f08 lt0 c10 c11 c12 c13 c14 c15 c16 c17 c18 f10 f11 f12 f13 f14 f15 f16 f17 f18 lt1 c20 c21 c22 c23 c24 f20 f21 f22 f23 f24 lt2
    replace B0 := B0.up hb2; replace B1 := B1.up hb2; replace B2 := B2.up hb2
    have Hb2 := Lib.hid (Hb1.out.trans (hb2.mono Hb1.out.size))
    clear hb2 hM
    obtain ⟨c00, c01, c02, c03, c04, c05, c06, c07, c08, f00, f01, f02, f03, f04, f05, f06, f07, f08, lt0⟩ := B0.c9
    obtain ⟨c10, c11, c12, c13, c14, c15, c16, c17, c18, f10, f11, f12, f13, f14, f15, f16, f17, f18, lt1⟩ := B1.c9
    obtain ⟨c20, c21, c22, c23, c24, f20, f21, f22, f23, f24, lt2⟩ := B2.c5
    obtain ⟨c30, c31, c32, c33, c34, f30, f31, f32, f33, f34, lt3⟩ := B3.c5
    go_wp2_with fail
    refine (HF.out V2 _ _ _ (Hm.out.dev.up Hb2.out)).mono ?_
    rintro e V3 ⟨c', rfl, hmd, hb3⟩
    obtain ⟨_, ⟨C', cc', rfl⟩, _⟩ := hmd.len
    have Hmd3 := Lib.hid hmd
    clear c00 c01 c02 c03 c04 c05 c06 c07 c08 f00 f01 f02 f03 f04 f05 f06 f07 f08 lt0 c10 c11 c12 c13 c14 c15 c16 c17 c18 f10 f11 f12 f13 f14 f15 f16 f17 f18 lt1 c20 c21 c22 c23 c24 f20 f21 f22 f23 f24 lt2 c30 c31 c32 c33 c34 f30 f31 f32 f33 f34 lt3 hmd
    replace B0 := B0.up hb3; replace B1 := B1.up hb3; replace B2 := B2.up hb3; replace B3 := B3.up hb3
    have Hb3 := Lib.hid (Hb2.out.trans (hb3.mono Hb2.out.size))
    clear hb3 Hb2
    obtain ⟨cl, hcl⟩ : ∃ cl, dk'.cache.length = cl := ⟨_, rfl⟩
    simp only [hcl] at Hmd3 ⊢
    obtain ⟨c00, c01, c02, c03, c04, c05, c06, c07, c08, f00, f01, f02, f03, f04, f05, f06, f07, f08, lt0⟩ := B0.c9
    obtain ⟨c10, c11, c12, c13, c14, c15, c16, c17, c18, f10, f11, f12, f13, f14, f15, f16, f17, f18, lt1⟩ := B1.c9
    obtain ⟨c20, c21, c22, c23, c24, f20, f21, f22, f23, f24, lt2⟩ := B2.c5
    obtain ⟨c30, c31, c32, c33, c34, f30, f31, f32, f33, f34, lt3⟩ := B3.c5
    go_upto_region 5 with fail
    obtain ⟨V4, hV4, hb4, hs4, B4, B5⟩ := box2 V3 #[.slice A dk.secs.length ac, .slice C' cl cc', .int .i64 next, .slice none 0 0] 37 #[.int .i64 tk, .int .i64 kind, .int .i64 page, .string rdata] 81
    try rw [hV4]
    have hMs2 := lt3
    obtain ⟨M2, hM2⟩ : ∃ M2, V3.heap.size = M2 := ⟨_, rfl⟩
    rw [hM2] at B4 B5 hMs2 ⊢
    clear hV4 hs4 c00 c01 c02 c03 c04 c05 c06 c07 c08 f00 f01 f02 f03 f04 f05 f06 f07 f08 lt0 c10 c11 c12 c13 c14 c15 c16 c17 c18 f10 f11 f12 f13 f14 f15 f16 f17 f18 lt1 c20 c21 c22 c23 c24 f20 f21 f22 f23 f24 lt2 c30 c31 c32 c33 c34 f30 f31 f32 f33 f34 lt3
    replace B0 := B0.up hb4; replace B1 := B1.up hb4; replace B2 := B2.up hb4; replace B3 := B3.up hb4
    have Hb4 := Lib.hid (Hb3.out.trans (hb4.mono Hb3.out.size))
    have Hmd4 := Lib.hid (Hmd3.out.up hb4)
    clear hb4 hM2 Hb3 Hmd3
    obtain ⟨c00, c01, c02, c03, c04, c05, c06, c07, c08, f00, f01, f02, f03, f04, f05, f06, f07, f08, lt0⟩ := B0.c9
    obtain ⟨c10, c11, c12, c13, c14, c15, c16, c17, c18, f10, f11, f12, f13, f14, f15, f16, f17, f18, lt1⟩ := B1.c9
    obtain ⟨c20, c21, c22, c23, c24, f20, f21, f22, f23, f24, lt2⟩ := B2.c5
    obtain ⟨c30, c31, c32, c33, c34, f30, f31, f32, f33, f34, lt3⟩ := B3.c5
    obtain ⟨c40, c41, c42, c43, f40, f41, f42, f43, lt4⟩ := B4.c4
    obtain ⟨c50, c51, c52, c53, f50, f51, f52, f53, lt5⟩ := B5.c4
    go_upto_region 6 with fail
    obtain ⟨V5, hV5, B0', hk5, hs5, hb5⟩ := st_9_4_4 (.slice A dk.secs.length ac) (.slice C' cl cc') (.int .i64 next) (.slice none 0 0) B0
    try rw [hV5]
    replace B1 := B1.keep (hk5 _ (by omega)); replace B2 := B2.keep (hk5 _ (by omega)); replace B3 := B3.keep (hk5 _ (by omega)); replace B4 := B4.keep (hk5 _ (by omega)); replace B5 := B5.keep (hk5 _ (by omega))
    have Hmd5 := Lib.hid (Hmd4.out.off B0 (by decide) (by decide) (by decide) hk5)
    have Hb5 := Lib.hid (hb5 _ _ Hb4.out (Nat.le_refl _))
    clear hV5 hk5 hs5 hb5 B0 Hb4 Hmd4 c00 c01 c02 c03 c04 c05 c06 c07 c08 f00 f01 f02 f03 f04 f05 f06 f07 f08 lt0 c10 c11 c12 c13 c14 c15 c16 c17 c18 f10 f11 f12 f13 f14 f15 f16 f17 f18 lt1 c20 c21 c22 c23 c24 f20 f21 f22 f23 f24 lt2 c30 c31 c32 c33 c34 f30 f31 f32 f33 f34 lt3 c40 c41 c42 c43 f40 f41 f42 f43 lt4 c50 c51 c52 c53 f50 f51 f52 f53 lt5
    have B0 := B0'
    clear B0'
    obtain ⟨c00, c01, c02, c03, c04, c05, c06, c07, c08, f00, f01, f02, f03, f04, f05, f06, f07, f08, lt0⟩ := B0.c9
    obtain ⟨c10, c11, c12, c13, c14, c15, c16, c17, c18, f10, f11, f12, f13, f14, f15, f16, f17, f18, lt1⟩ := B1.c9
    obtain ⟨c20, c21, c22, c23, c24, f20, f21, f22, f23, f24, lt2⟩ := B2.c5
    obtain ⟨c30, c31, c32, c33, c34, f30, f31, f32, f33, f34, lt3⟩ := B3.c5
    obtain ⟨c40, c41, c42, c43, f40, f41, f42, f43, lt4⟩ := B4.c4
    obtain ⟨c50, c51, c52, c53, f50, f51, f52, f53, lt5⟩ := B5.c4
    refine wp_region_S 11 (fun U => ∃ y : BW V5, U = y.w) (by kernel_rfl) rfl rfl ?_
    have n08 := bw_cell c08 lt0
    have HC : Hid (∃ y : BW V5, V5.drew = y.w) := Lib.hid ⟨⟨_, (Below.refl _ _).drew⟩, rfl⟩
    clear c00 c01 c02 c03 c04 c05 c06 c07 c08 f00 f01 f02 f03 f04 f05 f06 f07 f08 c10 c11 c12 c13 c14 c15 c16 c17 c18 f10 f11 f12 f13 f14 f15 f16 f17 f18 c20 c21 c22 c23 c24 f20 f21 f22 f23 f24 c30 c31 c32 c33 c34 f30 f31 f32 f33 f34 c40 c41 c42 c43 f40 f41 f42 f43 c50 c51 c52 c53 f50 f51 f52 f53
    refine pureS 0 rfl (by kernel_rfl) rfl (fun _ _ _ _ _ h => h) HC.out ?_
    go_big_quiet_step (fail)
    refine wpQuiet_nil ?_
    refine pureS 1 rfl (by kernel_rfl) rfl (fun _ _ _ _ _ h => h) HC.out ?_
    go_big_quiet_step (fail)
    refine wpQuiet_nil ?_
    refine pureS 2 rfl (by kernel_rfl) rfl (fun _ _ _ _ _ h => h) HC.out ?_
    go_big_quiet_step (fail)
    refine wpQuiet_nil ?_
    refine pureS 3 rfl (by kernel_rfl) rfl (fun _ _ _ _ _ h => h) HC.out ?_
    go_big_quiet_step (fail)
    refine wpQuiet_nil ?_
    refine pureS 4 rfl (by kernel_rfl) rfl (fun _ _ _ _ _ h => h) HC.out ?_
    go_big_quiet_step (fail)
    refine wpQuiet_nil ?_
    refine pureS 5 rfl (by kernel_rfl) rfl (fun _ _ _ _ _ h => h) HC.out ?_
    go_big_quiet_step (fail)
    refine wpQuiet_nil ?_
    refine pureS 6 rfl (by kernel_rfl) rfl (fun _ _ _ _ _ h => h) HC.out ?_
    go_big_quiet_step (fail)
    refine wpQuiet_nil ?_
    refine pureS 7 rfl (by kernel_rfl) rfl (fun _ _ _ _ _ h => h) HC.out ?_
    go_big_quiet_step (fail)
    refine wpQuiet_nil ?_
    refine pureS 8 rfl (by kernel_rfl) rfl (fun _ _ _ _ _ h => h) HC.out ?_
    go_big_quiet_step (fail)
    refine wpQuiet_nil ?_
    refine oneS 9 (by kernel_rfl) rfl rfl rfl (fun K hK => ?_)
    have HK := Lib.hid hK; clear hK
    go_simp
    refine HK.out _ _ (fun _ => ⟨⟨_, ((Below.refl _ V5).alloc (Nat.le_refl _) _).drew⟩, rfl⟩) ?_
    clear HK K
    obtain ⟨V6, hV6⟩ : ∃ V6, (V5.alloc (.cells #[.slice (some ⟨b, off, none⟩) 0 1, .slice (some ⟨b, off, none⟩) 0 0] 38)).drew = V6 := ⟨_, rfl⟩
    rw [hV6]
    have hb6 : Below V5.heap.size V5 V6 := by rw [← hV6]; exact ((Below.refl _ V5).alloc (Nat.le_refl _) _).drew
    have BC : Bx V5.heap.size 38 #[.slice (some ⟨b, off, none⟩) 0 1, .slice (some ⟨b, off, none⟩) 0 0] V6 := by rw [← hV6]; exact Bx.new V5 _ _
    refine oneS 10 (by kernel_rfl) rfl rfl rfl (fun K hK => ?_)
    have HK := Lib.hid hK; clear hK
    go_simp
    refine (concat_nil_Jb _ _ _ _ _ _ BC).mono ?_
    rintro e U ⟨rfl, rfl⟩
    refine HK.out _ _ (fun _ => ⟨⟨_, hb6⟩, rfl⟩) ?_
    clear HK K hV6 BC
    replace B0 := B0.upB hb6 lt0; replace B1 := B1.upB hb6 lt1; replace B2 := B2.upB hb6 lt2; replace B3 := B3.upB hb6 lt3; replace B4 := B4.upB hb6 lt4; replace B5 := B5.upB hb6 lt5
    have Hb6 := Lib.hid (Hb5.out.trans (hb6.mono Hb5.out.size))
    have Hmd6 := Lib.hid (Hmd5.out.up hb6)
    clear hb6 lt0 lt1 lt2 lt3 lt4 lt5 Hb5 Hmd5
    obtain ⟨c00, c01, c02, c03, c04, c05, c06, c07, c08, f00, f01, f02, f03, f04, f05, f06, f07, f08, lt0⟩ := B0.c9
    obtain ⟨c10, c11, c12, c13, c14, c15, c16, c17, c18, f10, f11, f12, f13, f14, f15, f16, f17, f18, lt1⟩ := B1.c9
    obtain ⟨c20, c21, c22, c23, c24, f20, f21, f22, f23, f24, lt2⟩ := B2.c5
    obtain ⟨c30, c31, c32, c33, c34, f30, f31, f32, f33, f34, lt3⟩ := B3.c5
    obtain ⟨c40, c41, c42, c43, f40, f41, f42, f43, lt4⟩ := B4.c4
    obtain ⟨c50, c51, c52, c53, f50, f51, f52, f53, lt5⟩ := B5.c4
    refine oneS 11 (by kernel_rfl) rfl rfl rfl (fun K hK => ?_)
    have HK := Lib.hid hK; clear hK
    go_simp
    refine HK.out _ _ (fun h => absurd h (by decide)) ?_
    clear HK K
    refine oneS 12 (by kernel_rfl) rfl rfl rfl (fun K hK => ?_)
    have HK := Lib.hid hK; clear hK
    go_simp
    refine HK.out _ _ (fun h => absurd h (by decide)) ?_
    clear HK K
    refine doneS (by kernel_rfl) ?_
    obtain ⟨V7, hV7, B0', hk7, hs7, hb7⟩ := st_9_8_1 (.slice none 0 0) B0
    rw [hV7]
    replace B1 := B1.keep (hk7 _ (by omega)); replace B2 := B2.keep (hk7 _ (by omega)); replace B3 := B3.keep (hk7 _ (by omega)); replace B4 := B4.keep (hk7 _ (by omega)); replace B5 := B5.keep (hk7 _ (by omega))
    have Hmd7 := Lib.hid (Hmd6.out.off B0 (by decide) (by decide) (by decide) hk7)
    have Hb7 := Lib.hid (hb7 _ _ Hb6.out (Nat.le_refl _))
    clear hV7 hk7 hs7 hb7 B0 Hb6 Hmd6 c00 c01 c02 c03 c04 c05 c06 c07 c08 f00 f01 f02 f03 f04 f05 f06 f07 f08 lt0 c10 c11 c12 c13 c14 c15 c16 c17 c18 f10 f11 f12 f13 f14 f15 f16 f17 f18 lt1 c20 c21 c22 c23 c24 f20 f21 f22 f23 f24 lt2 c30 c31 c32 c33 c34 f30 f31 f32 f33 f34 lt3 c40 c41 c42 c43 f40 f41 f42 f43 lt4 c50 c51 c52 c53 f50 f51 f52 f53 lt5
    have B0 := B0'
    clear B0'
    obtain ⟨c00, c01, c02, c03, c04, c05, c06, c07, c08, f00, f01, f02, f03, f04, f05, f06, f07, f08, lt0⟩ := B0.c9
    obtain ⟨c10, c11, c12, c13, c14, c15, c16, c17, c18, f10, f11, f12, f13, f14, f15, f16, f17, f18, lt1⟩ := B1.c9
    obtain ⟨c20, c21, c22, c23, c24, f20, f21, f22, f23, f24, lt2⟩ := B2.c5
    obtain ⟨c30, c31, c32, c33, c34, f30, f31, f32, f33, f34, lt3⟩ := B3.c5
    obtain ⟨c40, c41, c42, c43, f40, f41, f42, f43, lt4⟩ := B4.c4
    obtain ⟨c50, c51, c52, c53, f50, f51, f52, f53, lt5⟩ := B5.c4
    go_upto_region 13 with fail
    obtain ⟨V8, hV8, B3', hk8, hs8, hb8⟩ := st_5_3_1 (.string rdata) B3
    try rw [hV8]
    replace B0 := B0.keep (hk8 _ (by omega)); replace B1 := B1.keep (hk8 _ (by omega)); replace B2 := B2.keep (hk8 _ (by omega))
    have Hmd8 := Lib.hid (Hmd7.out.off B3 (by decide) (by decide) (by decide) hk8)
    have Hb8 := Lib.hid (hb8 _ _ Hb7.out (by omega))
    clear hV8 hk8 hs8 hb8 B3 B4 B5 Hb7 Hmd7 c00 c01 c02 c03 c04 c05 c06 c07 c08 f00 f01 f02 f03 f04 f05 f06 f07 f08 lt0 c10 c11 c12 c13 c14 c15 c16 c17 c18 f10 f11 f12 f13 f14 f15 f16 f17 f18 lt1 c20 c21 c22 c23 c24 f20 f21 f22 f23 f24 lt2 c30 c31 c32 c33 c34 f30 f31 f32 f33 f34 lt3 c40 c41 c42 c43 f40 f41 f42 f43 lt4 c50 c51 c52 c53 f50 f51 f52 f53 lt5
    have B3 := B3'
    clear B3'
    obtain ⟨c00, c01, c02, c03, c04, c05, c06, c07, c08, f00, f01, f02, f03, f04, f05, f06, f07, f08, lt0⟩ := B0.c9
    obtain ⟨c10, c11, c12, c13, c14, c15, c16, c17, c18, f10, f11, f12, f13, f14, f15, f16, f17, f18, lt1⟩ := B1.c9
    obtain ⟨c20, c21, c22, c23, c24, f20, f21, f22, f23, f24, lt2⟩ := B2.c5
    obtain ⟨c30, c31, c32, c33, c34, f30, f31, f32, f33, f34, lt3⟩ := B3.c5
    refine wp_region_S 7 (fun U => ∃ y : KW V8 (fun N => N ≠ w.heap.size + 1 ∧ N ≠ w.heap.size + 1 + 1), U = y.w) (by kernel_rfl) rfl rfl ?_
    have n_c00 := kw_cell c00 (ok := fun N => N ≠ w.heap.size + 1 ∧ N ≠ w.heap.size + 1 + 1) (by first | omega | exact ⟨by omega, by omega⟩)
    have n_c01 := kw_cell c01 (ok := fun N => N ≠ w.heap.size + 1 ∧ N ≠ w.heap.size + 1 + 1) (by first | omega | exact ⟨by omega, by omega⟩)
    have n_c02 := kw_cell c02 (ok := fun N => N ≠ w.heap.size + 1 ∧ N ≠ w.heap.size + 1 + 1) (by first | omega | exact ⟨by omega, by omega⟩)
    have n_c03 := kw_cell c03 (ok := fun N => N ≠ w.heap.size + 1 ∧ N ≠ w.heap.size + 1 + 1) (by first | omega | exact ⟨by omega, by omega⟩)
    have n_c04 := kw_cell c04 (ok := fun N => N ≠ w.heap.size + 1 ∧ N ≠ w.heap.size + 1 + 1) (by first | omega | exact ⟨by omega, by omega⟩)
    have n_c05 := kw_cell c05 (ok := fun N => N ≠ w.heap.size + 1 ∧ N ≠ w.heap.size + 1 + 1) (by first | omega | exact ⟨by omega, by omega⟩)
    have n_c06 := kw_cell c06 (ok := fun N => N ≠ w.heap.size + 1 ∧ N ≠ w.heap.size + 1 + 1) (by first | omega | exact ⟨by omega, by omega⟩)
    have n_c07 := kw_cell c07 (ok := fun N => N ≠ w.heap.size + 1 ∧ N ≠ w.heap.size + 1 + 1) (by first | omega | exact ⟨by omega, by omega⟩)
    have n_c08 := kw_cell c08 (ok := fun N => N ≠ w.heap.size + 1 ∧ N ≠ w.heap.size + 1 + 1) (by first | omega | exact ⟨by omega, by omega⟩)
    have n_c30 := kw_cell c30 (ok := fun N => N ≠ w.heap.size + 1 ∧ N ≠ w.heap.size + 1 + 1) (by first | omega | exact ⟨by omega, by omega⟩)
    have n_c31 := kw_cell c31 (ok := fun N => N ≠ w.heap.size + 1 ∧ N ≠ w.heap.size + 1 + 1) (by first | omega | exact ⟨by omega, by omega⟩)
    have n_c32 := kw_cell c32 (ok := fun N => N ≠ w.heap.size + 1 ∧ N ≠ w.heap.size + 1 + 1) (by first | omega | exact ⟨by omega, by omega⟩)
    have n_c33 := kw_cell c33 (ok := fun N => N ≠ w.heap.size + 1 ∧ N ≠ w.heap.size + 1 + 1) (by first | omega | exact ⟨by omega, by omega⟩)
    have n_c34 := kw_cell c34 (ok := fun N => N ≠ w.heap.size + 1 ∧ N ≠ w.heap.size + 1 + 1) (by first | omega | exact ⟨by omega, by omega⟩)
    have HC : Hid (∃ y : KW V8 (fun N => N ≠ w.heap.size + 1 ∧ N ≠ w.heap.size + 1 + 1), V8.drew = y.w) := Lib.hid ⟨⟨V8.drew, fun _ _ => rfl⟩, rfl⟩
    refine pureS 0 rfl (by kernel_rfl) rfl (fun _ _ _ _ _ h => h) HC.out ?_
    go_big_quiet_step (fail)
    refine wpQuiet_nil ?_
    refine pureS 1 rfl (by kernel_rfl) rfl (fun _ _ _ _ _ h => h) HC.out ?_
    go_big_quiet_step (fail)
    refine wpQuiet_nil ?_
    refine pureS 2 rfl (by kernel_rfl) rfl (fun _ _ _ _ _ h => h) HC.out ?_
    go_big_quiet_step (fail)
    refine wpQuiet_nil ?_
    obtain ⟨R0, hU_R0, B_R0, hk_R0, hs_R0, hb_R0⟩ := st_9_0_9 (.slice L vs.length lc) (.int .i64 at_) (.bool given) (.slice J js.length jc) (.slice A dk.secs.length ac) (.slice C' cl cc') (.int .i64 next) (.slice none 0 0) (.slice none 0 0) B1
    refine oneS 3 (by kernel_rfl) rfl rfl rfl (fun K hK => ?_)
    have HK := Lib.hid hK; clear hK
    go_simp
    try rw [hU_R0]
    refine HK.out _ _ (fun _ => ⟨⟨R0.drew, fun N hN => hk_R0 N hN.1⟩, rfl⟩) ?_
    clear HK K
    replace B2 := B2.keep (hk_R0 _ (by omega))
    have Hb_R0 := Lib.hid (hb_R0 _ _ Hb8.out (by first | omega | exact Nat.le_refl _))
    have hkk_R0 : ∀ N, N ≠ w.heap.size + 1 → N ≠ w.heap.size + 1 + 1 →  R0.heap[N]? = V8.heap[N]? := fun N q0 q1 => hk_R0 N q0
    clear hU_R0 hs_R0 hb_R0
    clear c10 c11 c12 c13 c14 c15 c16 c17 c18 f10 f11 f12 f13 f14 f15 f16 f17 f18 lt1 c20 c21 c22 c23 c24 f20 f21 f22 f23 f24 lt2
    obtain ⟨c20, c21, c22, c23, c24, f20, f21, f22, f23, f24, lt2⟩ := B2.c5
    obtain ⟨R1, hU_R1, B_R1, hk_R1, hs_R1, hb_R1⟩ := st_5_0_5 (.int .i64 who) (.int .i64 kind) (.int .i64 page) (.string rdata) (.int .i64 3) B2
    refine oneS 4 (by kernel_rfl) rfl rfl rfl (fun K hK => ?_)
    have HK := Lib.hid hK; clear hK
    go_simp
    try rw [hU_R1]
    refine HK.out _ _ (fun _ => ⟨⟨R1.drew, fun N hN => (hk_R1 N hN.2).trans (hk_R0 N hN.1)⟩, rfl⟩) ?_
    clear HK K
    replace B_R0 := B_R0.keep (hk_R1 _ (by omega))
    have Hb_R1 := Lib.hid (hb_R1 _ _ Hb_R0.out (by first | omega | exact Nat.le_refl _))
    have hkk_R1 : ∀ N, N ≠ w.heap.size + 1 → N ≠ w.heap.size + 1 + 1 →  R1.heap[N]? = V8.heap[N]? := fun N q0 q1 => (hk_R1 N q1).trans (hkk_R0 N q0 q1)
    clear hU_R1 hs_R1 hb_R1
    refine oneS 5 (by kernel_rfl) rfl rfl rfl (fun K hK => ?_)
    have HK := Lib.hid hK; clear hK
    go_simp
    refine HK.out _ _ (fun _ => ⟨⟨R1.drew, fun N hN => (hk_R1 N hN.2).trans (hk_R0 N hN.1)⟩, rfl⟩) ?_
    clear HK K
    refine oneS 6 (by kernel_rfl) rfl rfl rfl (fun K hK => ?_)
    have HK := Lib.hid hK; clear hK
    go_simp
    refine HK.out _ _ (fun _ => ⟨⟨R1.drew, fun N hN => (hk_R1 N hN.2).trans (hk_R0 N hN.1)⟩, rfl⟩) ?_
    clear HK K
    refine doneS (by kernel_rfl) ?_
    obtain ⟨c10, c11, c12, c13, c14, c15, c16, c17, c18, f10, f11, f12, f13, f14, f15, f16, f17, f18, lt1⟩ := B_R0.c9
    obtain ⟨c20, c21, c22, c23, c24, f20, f21, f22, f23, f24, lt2⟩ := B_R1.c5
    go_wp2_with fail
    refine bodyPost_ret (v := .tuple #[.agg #[.slice L vs.length lc, .int .i64 at_, .bool given, .slice J js.length jc, .slice A dk.secs.length ac, .slice C' cl cc', .int .i64 next, .slice none 0 0, .slice none 0 0], .agg #[.int .i64 who, .int .i64 kind, .int .i64 page, .string rdata, .int .i64 3], .int .i64 8, .bool true]) (by simp [results, Tryz.results9, go_sem, c10, c11, c12, c13, c14, c15, c16, c17, c18, c20, c21, c22, c23, c24]) rfl ?_
    have hmR := (Hmd8.out.off B1 (by decide) (by decide) (by decide) hk_R0).off B2 (by decide) (by decide) (by decide) hk_R1
    have hm2 := Hm.out.up Hb_R1.out
    subst hcl
    exact ⟨_, rfl, MSc.up ⟨hm2.lan, hm2.jobs, hm2.row, hmR, Sl.nil⟩ ((Below.refl _ _).drew), Hb_R1.out.drew⟩
  · obtain ⟨c00, c01, c02, c03, c04, c05, c06, c07, c08, f00, f01, f02, f03, f04, f05, f06, f07, f08, lt0⟩ := B0.c9
    obtain ⟨c10, c11, c12, c13, c14, c15, c16, c17, c18, f10, f11, f12, f13, f14, f15, f16, f17, f18, lt1⟩ := B1.c9
    obtain ⟨c20, c21, c22, c23, c24, f20, f21, f22, f23, f24, lt2⟩ := B2.c5
    go_enter Tryz.func9, Tryz.ntmps9
    go_wp2_with fail
    refine (schRight_any W _ _ _ _ _ _ _ Hg.out (Hm.out.up HbW.out)).mono ?_
    rintro e V1 ⟨rfl, hb_V1⟩
    clear c00 c01 c02 c03 c04 c05 c06 c07 c08 f00 f01 f02 f03 f04 f05 f06 f07 f08 lt0 c10 c11 c12 c13 c14 c15 c16 c17 c18 f10 f11 f12 f13 f14 f15 f16 f17 f18 lt1 c20 c21 c22 c23 c24 f20 f21 f22 f23 f24 lt2 hW
    replace B0 := B0.up hb_V1
    replace B1 := B1.up hb_V1
    replace B2 := B2.up hb_V1
    have Hb1 := Lib.hid (HbW.out.trans (hb_V1.mono hsW'))
    have hs_V1 := hb_V1.size
    clear hb_V1
    obtain ⟨c00, c01, c02, c03, c04, c05, c06, c07, c08, f00, f01, f02, f03, f04, f05, f06, f07, f08, lt0⟩ := B0.c9
    obtain ⟨c10, c11, c12, c13, c14, c15, c16, c17, c18, f10, f11, f12, f13, f14, f15, f16, f17, f18, lt1⟩ := B1.c9
    obtain ⟨c20, c21, c22, c23, c24, f20, f21, f22, f23, f24, lt2⟩ := B2.c5
    obtain ⟨g0, g1, g2, g3, g4⟩ := Hcell.out V1 Hb1.out
    simp only [Nat.zero_mul, Nat.add_zero] at g0 g1 g2 g3 g4
    have hbV1 : b < V1.heap.size := by have := Hb1.out.size; omega
    go_upto_region 4 with fail
    obtain ⟨V2, hV2⟩ : ∃ V2, V1.alloc (.cells #[.int .i64 who, .int .i64 kind, .int .i64 page, .string data, .int .i64 3] 46) = V2 := ⟨_, rfl⟩
    rw [hV2]
    have hb2 : Below V1.heap.size V1 V2 := by rw [← hV2]; exact (Below.refl _ _).alloc (Nat.le_refl _) _
    have B3 : Bx V1.heap.size 46 #[.int .i64 who, .int .i64 kind, .int .i64 page, .string data, .int .i64 3] V2 := by rw [← hV2]; exact Bx.new _ _ _
    have hMs := lt2
    obtain ⟨M, hM⟩ : ∃ M, V1.heap.size = M := ⟨_, rfl⟩
    rw [hM] at B3 hMs ⊢
    clear hV2 g0 g1 g2 g3 g4 c00 c01 c02 c03 c04 c05 c06 c07 c08 f00 f01 f02 f03 f04 f05 f06 f07 f08 lt0 c10 c11 c12 c13 c14 c15 c16 c17 c18 f10 f11 f12 f13 f14 f15 f16 f17 f18 lt1 c20 c21 c22 c23 c24 f20 f21 f22 f23 f24 lt2
    replace B0 := B0.up hb2; replace B1 := B1.up hb2; replace B2 := B2.up hb2
    have Hb2 := Lib.hid (Hb1.out.trans (hb2.mono Hb1.out.size))
    clear hb2 hM
    obtain ⟨c00, c01, c02, c03, c04, c05, c06, c07, c08, f00, f01, f02, f03, f04, f05, f06, f07, f08, lt0⟩ := B0.c9
    obtain ⟨c10, c11, c12, c13, c14, c15, c16, c17, c18, f10, f11, f12, f13, f14, f15, f16, f17, f18, lt1⟩ := B1.c9
    obtain ⟨c20, c21, c22, c23, c24, f20, f21, f22, f23, f24, lt2⟩ := B2.c5
    obtain ⟨c30, c31, c32, c33, c34, f30, f31, f32, f33, f34, lt3⟩ := B3.c5
    go_wp2_with fail
    refine (HF.out V2 _ _ _ (Hm.out.dev.up Hb2.out)).mono ?_
    rintro e V3 ⟨c', rfl, hmd, hb3⟩
    obtain ⟨_, ⟨C', cc', rfl⟩, _⟩ := hmd.len
    have Hmd3 := Lib.hid hmd
    clear c00 c01 c02 c03 c04 c05 c06 c07 c08 f00 f01 f02 f03 f04 f05 f06 f07 f08 lt0 c10 c11 c12 c13 c14 c15 c16 c17 c18 f10 f11 f12 f13 f14 f15 f16 f17 f18 lt1 c20 c21 c22 c23 c24 f20 f21 f22 f23 f24 lt2 c30 c31 c32 c33 c34 f30 f31 f32 f33 f34 lt3 hmd
    replace B0 := B0.up hb3; replace B1 := B1.up hb3; replace B2 := B2.up hb3; replace B3 := B3.up hb3
    have Hb3 := Lib.hid (Hb2.out.trans (hb3.mono Hb2.out.size))
    clear hb3 Hb2
    obtain ⟨cl, hcl⟩ : ∃ cl, dk'.cache.length = cl := ⟨_, rfl⟩
    simp only [hcl] at Hmd3 ⊢
    obtain ⟨c00, c01, c02, c03, c04, c05, c06, c07, c08, f00, f01, f02, f03, f04, f05, f06, f07, f08, lt0⟩ := B0.c9
    obtain ⟨c10, c11, c12, c13, c14, c15, c16, c17, c18, f10, f11, f12, f13, f14, f15, f16, f17, f18, lt1⟩ := B1.c9
    obtain ⟨c20, c21, c22, c23, c24, f20, f21, f22, f23, f24, lt2⟩ := B2.c5
    obtain ⟨c30, c31, c32, c33, c34, f30, f31, f32, f33, f34, lt3⟩ := B3.c5
    go_upto_region 5 with fail
    obtain ⟨V4, hV4, hb4, hs4, B4, B5⟩ := box2 V3 #[.slice A dk.secs.length ac, .slice C' cl cc', .int .i64 next, .slice none 0 0] 37 #[.int .i64 tk, .int .i64 kind, .int .i64 page, .string rdata] 81
    try rw [hV4]
    have hMs2 := lt3
    obtain ⟨M2, hM2⟩ : ∃ M2, V3.heap.size = M2 := ⟨_, rfl⟩
    rw [hM2] at B4 B5 hMs2 ⊢
    clear hV4 hs4 c00 c01 c02 c03 c04 c05 c06 c07 c08 f00 f01 f02 f03 f04 f05 f06 f07 f08 lt0 c10 c11 c12 c13 c14 c15 c16 c17 c18 f10 f11 f12 f13 f14 f15 f16 f17 f18 lt1 c20 c21 c22 c23 c24 f20 f21 f22 f23 f24 lt2 c30 c31 c32 c33 c34 f30 f31 f32 f33 f34 lt3
    replace B0 := B0.up hb4; replace B1 := B1.up hb4; replace B2 := B2.up hb4; replace B3 := B3.up hb4
    have Hb4 := Lib.hid (Hb3.out.trans (hb4.mono Hb3.out.size))
    have Hmd4 := Lib.hid (Hmd3.out.up hb4)
    clear hb4 hM2 Hb3 Hmd3
    obtain ⟨c00, c01, c02, c03, c04, c05, c06, c07, c08, f00, f01, f02, f03, f04, f05, f06, f07, f08, lt0⟩ := B0.c9
    obtain ⟨c10, c11, c12, c13, c14, c15, c16, c17, c18, f10, f11, f12, f13, f14, f15, f16, f17, f18, lt1⟩ := B1.c9
    obtain ⟨c20, c21, c22, c23, c24, f20, f21, f22, f23, f24, lt2⟩ := B2.c5
    obtain ⟨c30, c31, c32, c33, c34, f30, f31, f32, f33, f34, lt3⟩ := B3.c5
    obtain ⟨c40, c41, c42, c43, f40, f41, f42, f43, lt4⟩ := B4.c4
    obtain ⟨c50, c51, c52, c53, f50, f51, f52, f53, lt5⟩ := B5.c4
    go_upto_region 6 with fail
    obtain ⟨V5, hV5, B0', hk5, hs5, hb5⟩ := st_9_4_4 (.slice A dk.secs.length ac) (.slice C' cl cc') (.int .i64 next) (.slice none 0 0) B0
    try rw [hV5]
    replace B1 := B1.keep (hk5 _ (by omega)); replace B2 := B2.keep (hk5 _ (by omega)); replace B3 := B3.keep (hk5 _ (by omega)); replace B4 := B4.keep (hk5 _ (by omega)); replace B5 := B5.keep (hk5 _ (by omega))
    have Hmd5 := Lib.hid (Hmd4.out.off B0 (by decide) (by decide) (by decide) hk5)
    have Hb5 := Lib.hid (hb5 _ _ Hb4.out (Nat.le_refl _))
    clear hV5 hk5 hs5 hb5 B0 Hb4 Hmd4 c00 c01 c02 c03 c04 c05 c06 c07 c08 f00 f01 f02 f03 f04 f05 f06 f07 f08 lt0 c10 c11 c12 c13 c14 c15 c16 c17 c18 f10 f11 f12 f13 f14 f15 f16 f17 f18 lt1 c20 c21 c22 c23 c24 f20 f21 f22 f23 f24 lt2 c30 c31 c32 c33 c34 f30 f31 f32 f33 f34 lt3 c40 c41 c42 c43 f40 f41 f42 f43 lt4 c50 c51 c52 c53 f50 f51 f52 f53 lt5
    have B0 := B0'
    clear B0'
    obtain ⟨c00, c01, c02, c03, c04, c05, c06, c07, c08, f00, f01, f02, f03, f04, f05, f06, f07, f08, lt0⟩ := B0.c9
    obtain ⟨c10, c11, c12, c13, c14, c15, c16, c17, c18, f10, f11, f12, f13, f14, f15, f16, f17, f18, lt1⟩ := B1.c9
    obtain ⟨c20, c21, c22, c23, c24, f20, f21, f22, f23, f24, lt2⟩ := B2.c5
    obtain ⟨c30, c31, c32, c33, c34, f30, f31, f32, f33, f34, lt3⟩ := B3.c5
    obtain ⟨c40, c41, c42, c43, f40, f41, f42, f43, lt4⟩ := B4.c4
    obtain ⟨c50, c51, c52, c53, f50, f51, f52, f53, lt5⟩ := B5.c4
    refine wp_region_S 11 (fun U => ∃ y : BW V5, U = y.w) (by kernel_rfl) rfl rfl ?_
    have n08 := bw_cell c08 lt0
    have HC : Hid (∃ y : BW V5, V5.drew = y.w) := Lib.hid ⟨⟨_, (Below.refl _ _).drew⟩, rfl⟩
    clear c00 c01 c02 c03 c04 c05 c06 c07 c08 f00 f01 f02 f03 f04 f05 f06 f07 f08 c10 c11 c12 c13 c14 c15 c16 c17 c18 f10 f11 f12 f13 f14 f15 f16 f17 f18 c20 c21 c22 c23 c24 f20 f21 f22 f23 f24 c30 c31 c32 c33 c34 f30 f31 f32 f33 f34 c40 c41 c42 c43 f40 f41 f42 f43 c50 c51 c52 c53 f50 f51 f52 f53
    refine pureS 0 rfl (by kernel_rfl) rfl (fun _ _ _ _ _ h => h) HC.out ?_
    go_big_quiet_step (fail)
    refine wpQuiet_nil ?_
    refine pureS 1 rfl (by kernel_rfl) rfl (fun _ _ _ _ _ h => h) HC.out ?_
    go_big_quiet_step (fail)
    refine wpQuiet_nil ?_
    refine pureS 2 rfl (by kernel_rfl) rfl (fun _ _ _ _ _ h => h) HC.out ?_
    go_big_quiet_step (fail)
    refine wpQuiet_nil ?_
    refine pureS 3 rfl (by kernel_rfl) rfl (fun _ _ _ _ _ h => h) HC.out ?_
    go_big_quiet_step (fail)
    refine wpQuiet_nil ?_
    refine pureS 4 rfl (by kernel_rfl) rfl (fun _ _ _ _ _ h => h) HC.out ?_
    go_big_quiet_step (fail)
    refine wpQuiet_nil ?_
    refine pureS 5 rfl (by kernel_rfl) rfl (fun _ _ _ _ _ h => h) HC.out ?_
    go_big_quiet_step (fail)
    refine wpQuiet_nil ?_
    refine pureS 6 rfl (by kernel_rfl) rfl (fun _ _ _ _ _ h => h) HC.out ?_
    go_big_quiet_step (fail)
    refine wpQuiet_nil ?_
    refine pureS 7 rfl (by kernel_rfl) rfl (fun _ _ _ _ _ h => h) HC.out ?_
    go_big_quiet_step (fail)
    refine wpQuiet_nil ?_
    refine pureS 8 rfl (by kernel_rfl) rfl (fun _ _ _ _ _ h => h) HC.out ?_
    go_big_quiet_step (fail)
    refine wpQuiet_nil ?_
    refine oneS 9 (by kernel_rfl) rfl rfl rfl (fun K hK => ?_)
    have HK := Lib.hid hK; clear hK
    go_simp
    refine HK.out _ _ (fun _ => ⟨⟨_, ((Below.refl _ V5).alloc (Nat.le_refl _) _).drew⟩, rfl⟩) ?_
    clear HK K
    obtain ⟨V6, hV6⟩ : ∃ V6, (V5.alloc (.cells #[.slice (some ⟨b, off, none⟩) 0 oc, .slice (some ⟨b, off + 5, none⟩) 0 (oc - 1)] 38)).drew = V6 := ⟨_, rfl⟩
    rw [hV6]
    have hb6 : Below V5.heap.size V5 V6 := by rw [← hV6]; exact ((Below.refl _ V5).alloc (Nat.le_refl _) _).drew
    have BC : Bx V5.heap.size 38 #[.slice (some ⟨b, off, none⟩) 0 oc, .slice (some ⟨b, off + 5, none⟩) 0 (oc - 1)] V6 := by rw [← hV6]; exact Bx.new V5 _ _
    refine oneS 10 (by kernel_rfl) rfl rfl rfl (fun K hK => ?_)
    have HK := Lib.hid hK; clear hK
    go_simp
    refine (concat_nil_Jb _ _ _ _ _ _ BC).mono ?_
    rintro e U ⟨rfl, rfl⟩
    refine HK.out _ _ (fun _ => ⟨⟨_, hb6⟩, rfl⟩) ?_
    clear HK K hV6 BC
    replace B0 := B0.upB hb6 lt0; replace B1 := B1.upB hb6 lt1; replace B2 := B2.upB hb6 lt2; replace B3 := B3.upB hb6 lt3; replace B4 := B4.upB hb6 lt4; replace B5 := B5.upB hb6 lt5
    have Hb6 := Lib.hid (Hb5.out.trans (hb6.mono Hb5.out.size))
    have Hmd6 := Lib.hid (Hmd5.out.up hb6)
    clear hb6 lt0 lt1 lt2 lt3 lt4 lt5 Hb5 Hmd5
    obtain ⟨c00, c01, c02, c03, c04, c05, c06, c07, c08, f00, f01, f02, f03, f04, f05, f06, f07, f08, lt0⟩ := B0.c9
    obtain ⟨c10, c11, c12, c13, c14, c15, c16, c17, c18, f10, f11, f12, f13, f14, f15, f16, f17, f18, lt1⟩ := B1.c9
    obtain ⟨c20, c21, c22, c23, c24, f20, f21, f22, f23, f24, lt2⟩ := B2.c5
    obtain ⟨c30, c31, c32, c33, c34, f30, f31, f32, f33, f34, lt3⟩ := B3.c5
    obtain ⟨c40, c41, c42, c43, f40, f41, f42, f43, lt4⟩ := B4.c4
    obtain ⟨c50, c51, c52, c53, f50, f51, f52, f53, lt5⟩ := B5.c4
    refine oneS 11 (by kernel_rfl) rfl rfl rfl (fun K hK => ?_)
    have HK := Lib.hid hK; clear hK
    go_simp
    refine HK.out _ _ (fun h => absurd h (by decide)) ?_
    clear HK K
    refine oneS 12 (by kernel_rfl) rfl rfl rfl (fun K hK => ?_)
    have HK := Lib.hid hK; clear hK
    go_simp
    refine HK.out _ _ (fun h => absurd h (by decide)) ?_
    clear HK K
    refine doneS (by kernel_rfl) ?_
    obtain ⟨V7, hV7, B0', hk7, hs7, hb7⟩ := st_9_8_1 (.slice none 0 0) B0
    rw [hV7]
    replace B1 := B1.keep (hk7 _ (by omega)); replace B2 := B2.keep (hk7 _ (by omega)); replace B3 := B3.keep (hk7 _ (by omega)); replace B4 := B4.keep (hk7 _ (by omega)); replace B5 := B5.keep (hk7 _ (by omega))
    have Hmd7 := Lib.hid (Hmd6.out.off B0 (by decide) (by decide) (by decide) hk7)
    have Hb7 := Lib.hid (hb7 _ _ Hb6.out (Nat.le_refl _))
    clear hV7 hk7 hs7 hb7 B0 Hb6 Hmd6 c00 c01 c02 c03 c04 c05 c06 c07 c08 f00 f01 f02 f03 f04 f05 f06 f07 f08 lt0 c10 c11 c12 c13 c14 c15 c16 c17 c18 f10 f11 f12 f13 f14 f15 f16 f17 f18 lt1 c20 c21 c22 c23 c24 f20 f21 f22 f23 f24 lt2 c30 c31 c32 c33 c34 f30 f31 f32 f33 f34 lt3 c40 c41 c42 c43 f40 f41 f42 f43 lt4 c50 c51 c52 c53 f50 f51 f52 f53 lt5
    have B0 := B0'
    clear B0'
    obtain ⟨c00, c01, c02, c03, c04, c05, c06, c07, c08, f00, f01, f02, f03, f04, f05, f06, f07, f08, lt0⟩ := B0.c9
    obtain ⟨c10, c11, c12, c13, c14, c15, c16, c17, c18, f10, f11, f12, f13, f14, f15, f16, f17, f18, lt1⟩ := B1.c9
    obtain ⟨c20, c21, c22, c23, c24, f20, f21, f22, f23, f24, lt2⟩ := B2.c5
    obtain ⟨c30, c31, c32, c33, c34, f30, f31, f32, f33, f34, lt3⟩ := B3.c5
    obtain ⟨c40, c41, c42, c43, f40, f41, f42, f43, lt4⟩ := B4.c4
    obtain ⟨c50, c51, c52, c53, f50, f51, f52, f53, lt5⟩ := B5.c4
    go_upto_region 13 with fail
    obtain ⟨V8, hV8, B3', hk8, hs8, hb8⟩ := st_5_3_1 (.string rdata) B3
    try rw [hV8]
    replace B0 := B0.keep (hk8 _ (by omega)); replace B1 := B1.keep (hk8 _ (by omega)); replace B2 := B2.keep (hk8 _ (by omega))
    have Hmd8 := Lib.hid (Hmd7.out.off B3 (by decide) (by decide) (by decide) hk8)
    have Hb8 := Lib.hid (hb8 _ _ Hb7.out (by omega))
    clear hV8 hk8 hs8 hb8 B3 B4 B5 Hb7 Hmd7 c00 c01 c02 c03 c04 c05 c06 c07 c08 f00 f01 f02 f03 f04 f05 f06 f07 f08 lt0 c10 c11 c12 c13 c14 c15 c16 c17 c18 f10 f11 f12 f13 f14 f15 f16 f17 f18 lt1 c20 c21 c22 c23 c24 f20 f21 f22 f23 f24 lt2 c30 c31 c32 c33 c34 f30 f31 f32 f33 f34 lt3 c40 c41 c42 c43 f40 f41 f42 f43 lt4 c50 c51 c52 c53 f50 f51 f52 f53 lt5
    have B3 := B3'
    clear B3'
    obtain ⟨c00, c01, c02, c03, c04, c05, c06, c07, c08, f00, f01, f02, f03, f04, f05, f06, f07, f08, lt0⟩ := B0.c9
    obtain ⟨c10, c11, c12, c13, c14, c15, c16, c17, c18, f10, f11, f12, f13, f14, f15, f16, f17, f18, lt1⟩ := B1.c9
    obtain ⟨c20, c21, c22, c23, c24, f20, f21, f22, f23, f24, lt2⟩ := B2.c5
    obtain ⟨c30, c31, c32, c33, c34, f30, f31, f32, f33, f34, lt3⟩ := B3.c5
    refine wp_region_S 7 (fun U => ∃ y : KW V8 (fun N => N ≠ w.heap.size + 1 ∧ N ≠ w.heap.size + 1 + 1), U = y.w) (by kernel_rfl) rfl rfl ?_
    have n_c00 := kw_cell c00 (ok := fun N => N ≠ w.heap.size + 1 ∧ N ≠ w.heap.size + 1 + 1) (by first | omega | exact ⟨by omega, by omega⟩)
    have n_c01 := kw_cell c01 (ok := fun N => N ≠ w.heap.size + 1 ∧ N ≠ w.heap.size + 1 + 1) (by first | omega | exact ⟨by omega, by omega⟩)
    have n_c02 := kw_cell c02 (ok := fun N => N ≠ w.heap.size + 1 ∧ N ≠ w.heap.size + 1 + 1) (by first | omega | exact ⟨by omega, by omega⟩)
    have n_c03 := kw_cell c03 (ok := fun N => N ≠ w.heap.size + 1 ∧ N ≠ w.heap.size + 1 + 1) (by first | omega | exact ⟨by omega, by omega⟩)
    have n_c04 := kw_cell c04 (ok := fun N => N ≠ w.heap.size + 1 ∧ N ≠ w.heap.size + 1 + 1) (by first | omega | exact ⟨by omega, by omega⟩)
    have n_c05 := kw_cell c05 (ok := fun N => N ≠ w.heap.size + 1 ∧ N ≠ w.heap.size + 1 + 1) (by first | omega | exact ⟨by omega, by omega⟩)
    have n_c06 := kw_cell c06 (ok := fun N => N ≠ w.heap.size + 1 ∧ N ≠ w.heap.size + 1 + 1) (by first | omega | exact ⟨by omega, by omega⟩)
    have n_c07 := kw_cell c07 (ok := fun N => N ≠ w.heap.size + 1 ∧ N ≠ w.heap.size + 1 + 1) (by first | omega | exact ⟨by omega, by omega⟩)
    have n_c08 := kw_cell c08 (ok := fun N => N ≠ w.heap.size + 1 ∧ N ≠ w.heap.size + 1 + 1) (by first | omega | exact ⟨by omega, by omega⟩)
    have n_c30 := kw_cell c30 (ok := fun N => N ≠ w.heap.size + 1 ∧ N ≠ w.heap.size + 1 + 1) (by first | omega | exact ⟨by omega, by omega⟩)
    have n_c31 := kw_cell c31 (ok := fun N => N ≠ w.heap.size + 1 ∧ N ≠ w.heap.size + 1 + 1) (by first | omega | exact ⟨by omega, by omega⟩)
    have n_c32 := kw_cell c32 (ok := fun N => N ≠ w.heap.size + 1 ∧ N ≠ w.heap.size + 1 + 1) (by first | omega | exact ⟨by omega, by omega⟩)
    have n_c33 := kw_cell c33 (ok := fun N => N ≠ w.heap.size + 1 ∧ N ≠ w.heap.size + 1 + 1) (by first | omega | exact ⟨by omega, by omega⟩)
    have n_c34 := kw_cell c34 (ok := fun N => N ≠ w.heap.size + 1 ∧ N ≠ w.heap.size + 1 + 1) (by first | omega | exact ⟨by omega, by omega⟩)
    have HC : Hid (∃ y : KW V8 (fun N => N ≠ w.heap.size + 1 ∧ N ≠ w.heap.size + 1 + 1), V8.drew = y.w) := Lib.hid ⟨⟨V8.drew, fun _ _ => rfl⟩, rfl⟩
    refine pureS 0 rfl (by kernel_rfl) rfl (fun _ _ _ _ _ h => h) HC.out ?_
    go_big_quiet_step (fail)
    refine wpQuiet_nil ?_
    refine pureS 1 rfl (by kernel_rfl) rfl (fun _ _ _ _ _ h => h) HC.out ?_
    go_big_quiet_step (fail)
    refine wpQuiet_nil ?_
    refine pureS 2 rfl (by kernel_rfl) rfl (fun _ _ _ _ _ h => h) HC.out ?_
    go_big_quiet_step (fail)
    refine wpQuiet_nil ?_
    obtain ⟨R0, hU_R0, B_R0, hk_R0, hs_R0, hb_R0⟩ := st_9_0_9 (.slice L vs.length lc) (.int .i64 at_) (.bool given) (.slice J js.length jc) (.slice A dk.secs.length ac) (.slice C' cl cc') (.int .i64 next) (.slice none 0 0) (.slice none 0 0) B1
    refine oneS 3 (by kernel_rfl) rfl rfl rfl (fun K hK => ?_)
    have HK := Lib.hid hK; clear hK
    go_simp
    try rw [hU_R0]
    refine HK.out _ _ (fun _ => ⟨⟨R0.drew, fun N hN => hk_R0 N hN.1⟩, rfl⟩) ?_
    clear HK K
    replace B2 := B2.keep (hk_R0 _ (by omega))
    have Hb_R0 := Lib.hid (hb_R0 _ _ Hb8.out (by first | omega | exact Nat.le_refl _))
    have hkk_R0 : ∀ N, N ≠ w.heap.size + 1 → N ≠ w.heap.size + 1 + 1 →  R0.heap[N]? = V8.heap[N]? := fun N q0 q1 => hk_R0 N q0
    clear hU_R0 hs_R0 hb_R0
    clear c10 c11 c12 c13 c14 c15 c16 c17 c18 f10 f11 f12 f13 f14 f15 f16 f17 f18 lt1 c20 c21 c22 c23 c24 f20 f21 f22 f23 f24 lt2
    obtain ⟨c20, c21, c22, c23, c24, f20, f21, f22, f23, f24, lt2⟩ := B2.c5
    obtain ⟨R1, hU_R1, B_R1, hk_R1, hs_R1, hb_R1⟩ := st_5_0_5 (.int .i64 who) (.int .i64 kind) (.int .i64 page) (.string rdata) (.int .i64 3) B2
    refine oneS 4 (by kernel_rfl) rfl rfl rfl (fun K hK => ?_)
    have HK := Lib.hid hK; clear hK
    go_simp
    try rw [hU_R1]
    refine HK.out _ _ (fun _ => ⟨⟨R1.drew, fun N hN => (hk_R1 N hN.2).trans (hk_R0 N hN.1)⟩, rfl⟩) ?_
    clear HK K
    replace B_R0 := B_R0.keep (hk_R1 _ (by omega))
    have Hb_R1 := Lib.hid (hb_R1 _ _ Hb_R0.out (by first | omega | exact Nat.le_refl _))
    have hkk_R1 : ∀ N, N ≠ w.heap.size + 1 → N ≠ w.heap.size + 1 + 1 →  R1.heap[N]? = V8.heap[N]? := fun N q0 q1 => (hk_R1 N q1).trans (hkk_R0 N q0 q1)
    clear hU_R1 hs_R1 hb_R1
    refine oneS 5 (by kernel_rfl) rfl rfl rfl (fun K hK => ?_)
    have HK := Lib.hid hK; clear hK
    go_simp
    refine HK.out _ _ (fun _ => ⟨⟨R1.drew, fun N hN => (hk_R1 N hN.2).trans (hk_R0 N hN.1)⟩, rfl⟩) ?_
    clear HK K
    refine oneS 6 (by kernel_rfl) rfl rfl rfl (fun K hK => ?_)
    have HK := Lib.hid hK; clear hK
    go_simp
    refine HK.out _ _ (fun _ => ⟨⟨R1.drew, fun N hN => (hk_R1 N hN.2).trans (hk_R0 N hN.1)⟩, rfl⟩) ?_
    clear HK K
    refine doneS (by kernel_rfl) ?_
    obtain ⟨c10, c11, c12, c13, c14, c15, c16, c17, c18, f10, f11, f12, f13, f14, f15, f16, f17, f18, lt1⟩ := B_R0.c9
    obtain ⟨c20, c21, c22, c23, c24, f20, f21, f22, f23, f24, lt2⟩ := B_R1.c5
    go_wp2_with fail
    refine bodyPost_ret (v := .tuple #[.agg #[.slice L vs.length lc, .int .i64 at_, .bool given, .slice J js.length jc, .slice A dk.secs.length ac, .slice C' cl cc', .int .i64 next, .slice none 0 0, .slice none 0 0], .agg #[.int .i64 who, .int .i64 kind, .int .i64 page, .string rdata, .int .i64 3], .int .i64 8, .bool true]) (by simp [results, Tryz.results9, go_sem, c10, c11, c12, c13, c14, c15, c16, c17, c18, c20, c21, c22, c23, c24]) rfl ?_
    have hmR := (Hmd8.out.off B1 (by decide) (by decide) (by decide) hk_R0).off B2 (by decide) (by decide) (by decide) hk_R1
    have hm2 := Hm.out.up Hb_R1.out
    subst hcl
    exact ⟨_, rfl, MSc.up ⟨hm2.lan, hm2.jobs, hm2.row, hmR, Sl.nil⟩ ((Below.refl _ _).drew), Hb_R1.out.drew⟩

set_option maxHeartbeats 16000000 in
theorem done_retry (w : World) (lv jv s c f ov : Value) (at_ cst next tk who kind page tries : Int) (data rdata : ByteArray) (given fault : Bool) (vs : List Ln) (js : List Jr) (wj : Jb) (dk dk' : Dk) (hg : GSc ⟨at_, given, cst, vs, js, wj, dk, next, [(tk, ⟨who, kind, page, data, tries⟩)]⟩) (hF : FinC fault dk next tk kind page data 8 dk' rdata) (hn9 : next ≤ 999) (htr : tries ≤ 2) (hgd : GDv ⟨dk', next, []⟩) (hrq : GRq kind page data) (hm : MSc w lv jv s c f ov ⟨at_, given, cst, vs, js, wj, dk, next, [(tk, ⟨who, kind, page, data, tries⟩)]⟩) :
    Calls Tryz.prog 9 #[.agg #[lv, .int .i64 at_, .bool given, jv, s, c, .int .i64 next, f, ov], .int .i64 0, .bool fault] w fun e w' => ∃ c' f' ov', e = .returned (.tuple #[.agg #[lv, .int .i64 at_, .bool given, jv, s, c', .int .i64 (next + 1), f', ov'], .agg #[.int .i64 0, .int .i64 0, .int .i64 0, .string ⟨#[]⟩, .int .i64 0], .int .i64 0, .bool false]) ∧ MSc w' lv jv s c' f' ov' ⟨at_, given, cst, vs, js, wj, dk', next + 1, [(next, ⟨who, kind, page, data, tries + 1⟩)]⟩ ∧ Below w.heap.size w w' := by
  obtain ⟨⟨L, lc, rfl⟩, ⟨J, jc, rfl⟩, ⟨A, ac, rfl⟩, ⟨B, bc, rfl⟩, ⟨F, fc, rfl, _, _⟩, ⟨O, oc, rfl, hoa, hob⟩⟩ := hm.len
  simp only [List.length_cons, List.length_nil, Nat.zero_add] at *
  obtain ⟨x, b, off, hx, rfl, hbb, hcell⟩ := jb_at hm.out.rt (k := 0) (by simp [Sc.jobs])
  obtain rfl : (⟨who, kind, page, data, tries⟩ : Jb) = x := by simpa [Sc.jobs] using hx
  obtain ⟨W, hW, hbW, hsW, B0, B1, B2⟩ := box3 w #[.slice L vs.length lc, .int .i64 at_, .bool given, .slice J js.length jc, .slice A dk.secs.length ac, .slice B dk.cache.length bc, .int .i64 next, .slice F 1 fc, .slice (some ⟨b, off, none⟩) 1 oc] 40 #[.slice none 0 0, .int .i64 0, .bool false, .slice none 0 0, .slice none 0 0, .slice none 0 0, .int .i64 0, .slice none 0 0, .slice none 0 0] 40 #[.int .i64 0, .int .i64 0, .int .i64 0, .string ⟨#[]⟩, .int .i64 0] 46
  have Hcell := Lib.hid hcell
  have Hm := Lib.hid hm; have Hg := Lib.hid hg
  have HbW := Lib.hid hbW
  have HF := Lib.hid hF
  have hsW' := bsz hsW
  obtain ⟨hn0, _⟩ := hg.dev.next
  simp only at hn0
  have Hgd := Lib.hid hgd; have Hrq := Lib.hid hrq
  obtain ⟨_, _, ht1, _⟩ := hg.out _ (List.mem_cons_self ..)
  simp only at ht1
  clear hgd hrq
  clear hm hg hbW hsW hx hcell hF
  rcases Classical.em (oc = 1) with rfl | hoc
  · obtain ⟨c00, c01, c02, c03, c04, c05, c06, c07, c08, f00, f01, f02, f03, f04, f05, f06, f07, f08, lt0⟩ := B0.c9
    obtain ⟨c10, c11, c12, c13, c14, c15, c16, c17, c18, f10, f11, f12, f13, f14, f15, f16, f17, f18, lt1⟩ := B1.c9
    obtain ⟨c20, c21, c22, c23, c24, f20, f21, f22, f23, f24, lt2⟩ := B2.c5
    go_enter Tryz.func9, Tryz.ntmps9
    go_wp2_with fail
    refine (schRight_any W _ _ _ _ _ _ _ Hg.out (Hm.out.up HbW.out)).mono ?_
    rintro e V1 ⟨rfl, hb_V1⟩
    clear c00 c01 c02 c03 c04 c05 c06 c07 c08 f00 f01 f02 f03 f04 f05 f06 f07 f08 lt0 c10 c11 c12 c13 c14 c15 c16 c17 c18 f10 f11 f12 f13 f14 f15 f16 f17 f18 lt1 c20 c21 c22 c23 c24 f20 f21 f22 f23 f24 lt2 hW
    replace B0 := B0.up hb_V1
    replace B1 := B1.up hb_V1
    replace B2 := B2.up hb_V1
    have Hb1 := Lib.hid (HbW.out.trans (hb_V1.mono hsW'))
    have hs_V1 := hb_V1.size
    clear hb_V1
    obtain ⟨c00, c01, c02, c03, c04, c05, c06, c07, c08, f00, f01, f02, f03, f04, f05, f06, f07, f08, lt0⟩ := B0.c9
    obtain ⟨c10, c11, c12, c13, c14, c15, c16, c17, c18, f10, f11, f12, f13, f14, f15, f16, f17, f18, lt1⟩ := B1.c9
    obtain ⟨c20, c21, c22, c23, c24, f20, f21, f22, f23, f24, lt2⟩ := B2.c5
    obtain ⟨g0, g1, g2, g3, g4⟩ := Hcell.out V1 Hb1.out
    simp only [Nat.zero_mul, Nat.add_zero] at g0 g1 g2 g3 g4
    have hbV1 : b < V1.heap.size := by have := Hb1.out.size; omega
    go_upto_region 4 with fail
    obtain ⟨V2, hV2⟩ : ∃ V2, V1.alloc (.cells #[.int .i64 who, .int .i64 kind, .int .i64 page, .string data, .int .i64 tries] 46) = V2 := ⟨_, rfl⟩
    rw [hV2]
    have hb2 : Below V1.heap.size V1 V2 := by rw [← hV2]; exact (Below.refl _ _).alloc (Nat.le_refl _) _
    have B3 : Bx V1.heap.size 46 #[.int .i64 who, .int .i64 kind, .int .i64 page, .string data, .int .i64 tries] V2 := by rw [← hV2]; exact Bx.new _ _ _
    have hMs := lt2
    obtain ⟨M, hM⟩ : ∃ M, V1.heap.size = M := ⟨_, rfl⟩
    rw [hM] at B3 hMs ⊢
    clear hV2 g0 g1 g2 g3 g4 c00 c01 c02 c03 c04 c05 c06 c07 c08 f00 f01 f02 f03 f04 f05 f06 f07 f08 lt0 c10 c11 c12 c13 c14 c15 c16 c17 c18 f10 f11 f12 f13 f14 f15 f16 f17 f18 lt1 c20 c21 c22 c23 c24 f20 f21 f22 f23 f24 lt2
    replace B0 := B0.up hb2; replace B1 := B1.up hb2; replace B2 := B2.up hb2
    have Hb2 := Lib.hid (Hb1.out.trans (hb2.mono Hb1.out.size))
    clear hb2 hM
    obtain ⟨c00, c01, c02, c03, c04, c05, c06, c07, c08, f00, f01, f02, f03, f04, f05, f06, f07, f08, lt0⟩ := B0.c9
    obtain ⟨c10, c11, c12, c13, c14, c15, c16, c17, c18, f10, f11, f12, f13, f14, f15, f16, f17, f18, lt1⟩ := B1.c9
    obtain ⟨c20, c21, c22, c23, c24, f20, f21, f22, f23, f24, lt2⟩ := B2.c5
    obtain ⟨c30, c31, c32, c33, c34, f30, f31, f32, f33, f34, lt3⟩ := B3.c5
    go_wp2_with fail
    refine (HF.out V2 _ _ _ (Hm.out.dev.up Hb2.out)).mono ?_
    rintro e V3 ⟨c', rfl, hmd, hb3⟩
    obtain ⟨_, ⟨C', cc', rfl⟩, _⟩ := hmd.len
    have Hmd3 := Lib.hid hmd
    clear c00 c01 c02 c03 c04 c05 c06 c07 c08 f00 f01 f02 f03 f04 f05 f06 f07 f08 lt0 c10 c11 c12 c13 c14 c15 c16 c17 c18 f10 f11 f12 f13 f14 f15 f16 f17 f18 lt1 c20 c21 c22 c23 c24 f20 f21 f22 f23 f24 lt2 c30 c31 c32 c33 c34 f30 f31 f32 f33 f34 lt3 hmd
    replace B0 := B0.up hb3; replace B1 := B1.up hb3; replace B2 := B2.up hb3; replace B3 := B3.up hb3
    have Hb3 := Lib.hid (Hb2.out.trans (hb3.mono Hb2.out.size))
    clear hb3 Hb2
    obtain ⟨cl, hcl⟩ : ∃ cl, dk'.cache.length = cl := ⟨_, rfl⟩
    simp only [hcl] at Hmd3 ⊢
    obtain ⟨c00, c01, c02, c03, c04, c05, c06, c07, c08, f00, f01, f02, f03, f04, f05, f06, f07, f08, lt0⟩ := B0.c9
    obtain ⟨c10, c11, c12, c13, c14, c15, c16, c17, c18, f10, f11, f12, f13, f14, f15, f16, f17, f18, lt1⟩ := B1.c9
    obtain ⟨c20, c21, c22, c23, c24, f20, f21, f22, f23, f24, lt2⟩ := B2.c5
    obtain ⟨c30, c31, c32, c33, c34, f30, f31, f32, f33, f34, lt3⟩ := B3.c5
    go_upto_region 5 with fail
    obtain ⟨V4, hV4, hb4, hs4, B4, B5⟩ := box2 V3 #[.slice A dk.secs.length ac, .slice C' cl cc', .int .i64 next, .slice none 0 0] 37 #[.int .i64 tk, .int .i64 kind, .int .i64 page, .string rdata] 81
    try rw [hV4]
    have hMs2 := lt3
    obtain ⟨M2, hM2⟩ : ∃ M2, V3.heap.size = M2 := ⟨_, rfl⟩
    rw [hM2] at B4 B5 hMs2 ⊢
    clear hV4 hs4 c00 c01 c02 c03 c04 c05 c06 c07 c08 f00 f01 f02 f03 f04 f05 f06 f07 f08 lt0 c10 c11 c12 c13 c14 c15 c16 c17 c18 f10 f11 f12 f13 f14 f15 f16 f17 f18 lt1 c20 c21 c22 c23 c24 f20 f21 f22 f23 f24 lt2 c30 c31 c32 c33 c34 f30 f31 f32 f33 f34 lt3
    replace B0 := B0.up hb4; replace B1 := B1.up hb4; replace B2 := B2.up hb4; replace B3 := B3.up hb4
    have Hb4 := Lib.hid (Hb3.out.trans (hb4.mono Hb3.out.size))
    have Hmd4 := Lib.hid (Hmd3.out.up hb4)
    clear hb4 hM2 Hb3 Hmd3
    obtain ⟨c00, c01, c02, c03, c04, c05, c06, c07, c08, f00, f01, f02, f03, f04, f05, f06, f07, f08, lt0⟩ := B0.c9
    obtain ⟨c10, c11, c12, c13, c14, c15, c16, c17, c18, f10, f11, f12, f13, f14, f15, f16, f17, f18, lt1⟩ := B1.c9
    obtain ⟨c20, c21, c22, c23, c24, f20, f21, f22, f23, f24, lt2⟩ := B2.c5
    obtain ⟨c30, c31, c32, c33, c34, f30, f31, f32, f33, f34, lt3⟩ := B3.c5
    obtain ⟨c40, c41, c42, c43, f40, f41, f42, f43, lt4⟩ := B4.c4
    obtain ⟨c50, c51, c52, c53, f50, f51, f52, f53, lt5⟩ := B5.c4
    go_upto_region 6 with fail
    obtain ⟨V5, hV5, B0', hk5, hs5, hb5⟩ := st_9_4_4 (.slice A dk.secs.length ac) (.slice C' cl cc') (.int .i64 next) (.slice none 0 0) B0
    try rw [hV5]
    replace B1 := B1.keep (hk5 _ (by omega)); replace B2 := B2.keep (hk5 _ (by omega)); replace B3 := B3.keep (hk5 _ (by omega)); replace B4 := B4.keep (hk5 _ (by omega)); replace B5 := B5.keep (hk5 _ (by omega))
    have Hmd5 := Lib.hid (Hmd4.out.off B0 (by decide) (by decide) (by decide) hk5)
    have Hb5 := Lib.hid (hb5 _ _ Hb4.out (Nat.le_refl _))
    clear hV5 hk5 hs5 hb5 B0 Hb4 Hmd4 c00 c01 c02 c03 c04 c05 c06 c07 c08 f00 f01 f02 f03 f04 f05 f06 f07 f08 lt0 c10 c11 c12 c13 c14 c15 c16 c17 c18 f10 f11 f12 f13 f14 f15 f16 f17 f18 lt1 c20 c21 c22 c23 c24 f20 f21 f22 f23 f24 lt2 c30 c31 c32 c33 c34 f30 f31 f32 f33 f34 lt3 c40 c41 c42 c43 f40 f41 f42 f43 lt4 c50 c51 c52 c53 f50 f51 f52 f53 lt5
    have B0 := B0'
    clear B0'
    obtain ⟨c00, c01, c02, c03, c04, c05, c06, c07, c08, f00, f01, f02, f03, f04, f05, f06, f07, f08, lt0⟩ := B0.c9
    obtain ⟨c10, c11, c12, c13, c14, c15, c16, c17, c18, f10, f11, f12, f13, f14, f15, f16, f17, f18, lt1⟩ := B1.c9
    obtain ⟨c20, c21, c22, c23, c24, f20, f21, f22, f23, f24, lt2⟩ := B2.c5
    obtain ⟨c30, c31, c32, c33, c34, f30, f31, f32, f33, f34, lt3⟩ := B3.c5
    obtain ⟨c40, c41, c42, c43, f40, f41, f42, f43, lt4⟩ := B4.c4
    obtain ⟨c50, c51, c52, c53, f50, f51, f52, f53, lt5⟩ := B5.c4
    refine wp_region_S 11 (fun U => ∃ y : BW V5, U = y.w) (by kernel_rfl) rfl rfl ?_
    have n08 := bw_cell c08 lt0
    have HC : Hid (∃ y : BW V5, V5.drew = y.w) := Lib.hid ⟨⟨_, (Below.refl _ _).drew⟩, rfl⟩
    clear c00 c01 c02 c03 c04 c05 c06 c07 c08 f00 f01 f02 f03 f04 f05 f06 f07 f08 c10 c11 c12 c13 c14 c15 c16 c17 c18 f10 f11 f12 f13 f14 f15 f16 f17 f18 c20 c21 c22 c23 c24 f20 f21 f22 f23 f24 c30 c31 c32 c33 c34 f30 f31 f32 f33 f34 c40 c41 c42 c43 f40 f41 f42 f43 c50 c51 c52 c53 f50 f51 f52 f53
    refine pureS 0 rfl (by kernel_rfl) rfl (fun _ _ _ _ _ h => h) HC.out ?_
    go_big_quiet_step (fail)
    refine wpQuiet_nil ?_
    refine pureS 1 rfl (by kernel_rfl) rfl (fun _ _ _ _ _ h => h) HC.out ?_
    go_big_quiet_step (fail)
    refine wpQuiet_nil ?_
    refine pureS 2 rfl (by kernel_rfl) rfl (fun _ _ _ _ _ h => h) HC.out ?_
    go_big_quiet_step (fail)
    refine wpQuiet_nil ?_
    refine pureS 3 rfl (by kernel_rfl) rfl (fun _ _ _ _ _ h => h) HC.out ?_
    go_big_quiet_step (fail)
    refine wpQuiet_nil ?_
    refine pureS 4 rfl (by kernel_rfl) rfl (fun _ _ _ _ _ h => h) HC.out ?_
    go_big_quiet_step (fail)
    refine wpQuiet_nil ?_
    refine pureS 5 rfl (by kernel_rfl) rfl (fun _ _ _ _ _ h => h) HC.out ?_
    go_big_quiet_step (fail)
    refine wpQuiet_nil ?_
    refine pureS 6 rfl (by kernel_rfl) rfl (fun _ _ _ _ _ h => h) HC.out ?_
    go_big_quiet_step (fail)
    refine wpQuiet_nil ?_
    refine pureS 7 rfl (by kernel_rfl) rfl (fun _ _ _ _ _ h => h) HC.out ?_
    go_big_quiet_step (fail)
    refine wpQuiet_nil ?_
    refine pureS 8 rfl (by kernel_rfl) rfl (fun _ _ _ _ _ h => h) HC.out ?_
    go_big_quiet_step (fail)
    refine wpQuiet_nil ?_
    refine oneS 9 (by kernel_rfl) rfl rfl rfl (fun K hK => ?_)
    have HK := Lib.hid hK; clear hK
    go_simp
    refine HK.out _ _ (fun _ => ⟨⟨_, ((Below.refl _ V5).alloc (Nat.le_refl _) _).drew⟩, rfl⟩) ?_
    clear HK K
    obtain ⟨V6, hV6⟩ : ∃ V6, (V5.alloc (.cells #[.slice (some ⟨b, off, none⟩) 0 1, .slice (some ⟨b, off, none⟩) 0 0] 38)).drew = V6 := ⟨_, rfl⟩
    rw [hV6]
    have hb6 : Below V5.heap.size V5 V6 := by rw [← hV6]; exact ((Below.refl _ V5).alloc (Nat.le_refl _) _).drew
    have BC : Bx V5.heap.size 38 #[.slice (some ⟨b, off, none⟩) 0 1, .slice (some ⟨b, off, none⟩) 0 0] V6 := by rw [← hV6]; exact Bx.new V5 _ _
    refine oneS 10 (by kernel_rfl) rfl rfl rfl (fun K hK => ?_)
    have HK := Lib.hid hK; clear hK
    go_simp
    refine (concat_nil_Jb _ _ _ _ _ _ BC).mono ?_
    rintro e U ⟨rfl, rfl⟩
    refine HK.out _ _ (fun _ => ⟨⟨_, hb6⟩, rfl⟩) ?_
    clear HK K hV6 BC
    replace B0 := B0.upB hb6 lt0; replace B1 := B1.upB hb6 lt1; replace B2 := B2.upB hb6 lt2; replace B3 := B3.upB hb6 lt3; replace B4 := B4.upB hb6 lt4; replace B5 := B5.upB hb6 lt5
    have Hb6 := Lib.hid (Hb5.out.trans (hb6.mono Hb5.out.size))
    have Hmd6 := Lib.hid (Hmd5.out.up hb6)
    clear hb6 lt0 lt1 lt2 lt3 lt4 lt5 Hb5 Hmd5
    obtain ⟨c00, c01, c02, c03, c04, c05, c06, c07, c08, f00, f01, f02, f03, f04, f05, f06, f07, f08, lt0⟩ := B0.c9
    obtain ⟨c10, c11, c12, c13, c14, c15, c16, c17, c18, f10, f11, f12, f13, f14, f15, f16, f17, f18, lt1⟩ := B1.c9
    obtain ⟨c20, c21, c22, c23, c24, f20, f21, f22, f23, f24, lt2⟩ := B2.c5
    obtain ⟨c30, c31, c32, c33, c34, f30, f31, f32, f33, f34, lt3⟩ := B3.c5
    obtain ⟨c40, c41, c42, c43, f40, f41, f42, f43, lt4⟩ := B4.c4
    obtain ⟨c50, c51, c52, c53, f50, f51, f52, f53, lt5⟩ := B5.c4
    refine oneS 11 (by kernel_rfl) rfl rfl rfl (fun K hK => ?_)
    have HK := Lib.hid hK; clear hK
    go_simp
    refine HK.out _ _ (fun h => absurd h (by decide)) ?_
    clear HK K
    refine oneS 12 (by kernel_rfl) rfl rfl rfl (fun K hK => ?_)
    have HK := Lib.hid hK; clear hK
    go_simp
    refine HK.out _ _ (fun h => absurd h (by decide)) ?_
    clear HK K
    refine doneS (by kernel_rfl) ?_
    obtain ⟨V7, hV7, B0', hk7, hs7, hb7⟩ := st_9_8_1 (.slice none 0 0) B0
    rw [hV7]
    replace B1 := B1.keep (hk7 _ (by omega)); replace B2 := B2.keep (hk7 _ (by omega)); replace B3 := B3.keep (hk7 _ (by omega)); replace B4 := B4.keep (hk7 _ (by omega)); replace B5 := B5.keep (hk7 _ (by omega))
    have Hmd7 := Lib.hid (Hmd6.out.off B0 (by decide) (by decide) (by decide) hk7)
    have Hb7 := Lib.hid (hb7 _ _ Hb6.out (Nat.le_refl _))
    clear hV7 hk7 hs7 hb7 B0 Hb6 Hmd6 c00 c01 c02 c03 c04 c05 c06 c07 c08 f00 f01 f02 f03 f04 f05 f06 f07 f08 lt0 c10 c11 c12 c13 c14 c15 c16 c17 c18 f10 f11 f12 f13 f14 f15 f16 f17 f18 lt1 c20 c21 c22 c23 c24 f20 f21 f22 f23 f24 lt2 c30 c31 c32 c33 c34 f30 f31 f32 f33 f34 lt3 c40 c41 c42 c43 f40 f41 f42 f43 lt4 c50 c51 c52 c53 f50 f51 f52 f53 lt5
    have B0 := B0'
    clear B0'
    obtain ⟨c00, c01, c02, c03, c04, c05, c06, c07, c08, f00, f01, f02, f03, f04, f05, f06, f07, f08, lt0⟩ := B0.c9
    obtain ⟨c10, c11, c12, c13, c14, c15, c16, c17, c18, f10, f11, f12, f13, f14, f15, f16, f17, f18, lt1⟩ := B1.c9
    obtain ⟨c20, c21, c22, c23, c24, f20, f21, f22, f23, f24, lt2⟩ := B2.c5
    obtain ⟨c30, c31, c32, c33, c34, f30, f31, f32, f33, f34, lt3⟩ := B3.c5
    obtain ⟨c40, c41, c42, c43, f40, f41, f42, f43, lt4⟩ := B4.c4
    obtain ⟨c50, c51, c52, c53, f50, f51, f52, f53, lt5⟩ := B5.c4
    go_wp2_with fail
    refine (submit_any V7 _ _ _ ⟨dk', next, []⟩ kind page data Hgd.out hn9 Hrq.out Hmd7.out).mono ?_
    rintro e Z ⟨f', rfl, hmd, hbZ⟩
    obtain ⟨_, _, F2, fc2, rfl, _, _⟩ := hmd.len
    simp only [List.nil_append, List.length_cons, List.length_nil, Nat.zero_add] at hmd ⊢
    clear c00 c01 c02 c03 c04 c05 c06 c07 c08 f00 f01 f02 f03 f04 f05 f06 f07 f08 lt0 c10 c11 c12 c13 c14 c15 c16 c17 c18 f10 f11 f12 f13 f14 f15 f16 f17 f18 lt1 c20 c21 c22 c23 c24 f20 f21 f22 f23 f24 lt2 c30 c31 c32 c33 c34 f30 f31 f32 f33 f34 lt3 c40 c41 c42 c43 f40 f41 f42 f43 lt4 c50 c51 c52 c53 f50 f51 f52 f53 lt5 B4 B5
    replace B0 := B0.up hbZ; replace B1 := B1.up hbZ; replace B2 := B2.up hbZ; replace B3 := B3.up hbZ
    have HmdZ := Lib.hid hmd
    have HbZ := Lib.hid (Hb7.out.trans (hbZ.mono Hb7.out.size))
    clear hmd hbZ Hb7 Hmd7
    obtain ⟨c00, c01, c02, c03, c04, c05, c06, c07, c08, f00, f01, f02, f03, f04, f05, f06, f07, f08, lt0⟩ := B0.c9
    obtain ⟨c10, c11, c12, c13, c14, c15, c16, c17, c18, f10, f11, f12, f13, f14, f15, f16, f17, f18, lt1⟩ := B1.c9
    obtain ⟨c20, c21, c22, c23, c24, f20, f21, f22, f23, f24, lt2⟩ := B2.c5
    obtain ⟨c30, c31, c32, c33, c34, f30, f31, f32, f33, f34, lt3⟩ := B3.c5
    go_upto_region 9 with fail
    obtain ⟨P, hP, B0', hkP, hsP, hbP⟩ := st_9_4_4 (.slice A dk.secs.length ac) (.slice C' cl cc') (.int .i64 (next + 1)) (.slice F2 1 fc2) B0
    try rw [hP]
    replace B1 := B1.keep (hkP _ (by omega)); replace B2 := B2.keep (hkP _ (by omega)); replace B3 := B3.keep (hkP _ (by omega))
    have HmdP := Lib.hid (HmdZ.out.off B0 (by decide) (by decide) (by decide) hkP)
    have HbP := Lib.hid (hbP _ _ HbZ.out (Nat.le_refl _))
    clear hP hkP hsP hbP B0 HmdZ HbZ c00 c01 c02 c03 c04 c05 c06 c07 c08 f00 f01 f02 f03 f04 f05 f06 f07 f08 lt0 c10 c11 c12 c13 c14 c15 c16 c17 c18 f10 f11 f12 f13 f14 f15 f16 f17 f18 lt1 c20 c21 c22 c23 c24 f20 f21 f22 f23 f24 lt2 c30 c31 c32 c33 c34 f30 f31 f32 f33 f34 lt3
    have B0 := B0'
    clear B0'
    obtain ⟨c00, c01, c02, c03, c04, c05, c06, c07, c08, f00, f01, f02, f03, f04, f05, f06, f07, f08, lt0⟩ := B0.c9
    obtain ⟨c10, c11, c12, c13, c14, c15, c16, c17, c18, f10, f11, f12, f13, f14, f15, f16, f17, f18, lt1⟩ := B1.c9
    obtain ⟨c20, c21, c22, c23, c24, f20, f21, f22, f23, f24, lt2⟩ := B2.c5
    obtain ⟨c30, c31, c32, c33, c34, f30, f31, f32, f33, f34, lt3⟩ := B3.c5
    go_upto_region 10 with fail
    obtain ⟨Q, hQ, B3', hkQ, hsQ, hbQ⟩ := st_5_4_1 (.int .i64 (tries + 1)) B3
    try rw [hQ]
    replace B0 := B0.keep (hkQ _ (by omega)); replace B1 := B1.keep (hkQ _ (by omega)); replace B2 := B2.keep (hkQ _ (by omega))
    have HmdQ := Lib.hid (HmdP.out.off B3 (by decide) (by decide) (by decide) hkQ)
    have HbQ := Lib.hid (hbQ _ _ HbP.out (by omega))
    clear hQ hkQ hsQ hbQ B3 HmdP HbP c00 c01 c02 c03 c04 c05 c06 c07 c08 f00 f01 f02 f03 f04 f05 f06 f07 f08 lt0 c10 c11 c12 c13 c14 c15 c16 c17 c18 f10 f11 f12 f13 f14 f15 f16 f17 f18 lt1 c20 c21 c22 c23 c24 f20 f21 f22 f23 f24 lt2 c30 c31 c32 c33 c34 f30 f31 f32 f33 f34 lt3
    have B3 := B3'
    clear B3'
    obtain ⟨i0, hi, hz0, hz1, hz2⟩ := info_parts Tryz.infJb
    have Hi := Lib.hid hi; have Hz0 := Lib.hid hz0; have Hz1 := Lib.hid hz1; have Hz2 := Lib.hid hz2
    clear hi hz0 hz1 hz2
    have HoQ : Hid (Q.ownsRow (w.heap.size + 1 + 1 + 1) 46 5 (.slice none 0 0) 0 []) := Lib.hid ⟨rfl, .inl ⟨rfl, rfl⟩⟩
    obtain ⟨c00, c01, c02, c03, c04, c05, c06, c07, c08, f00, f01, f02, f03, f04, f05, f06, f07, f08, lt0⟩ := B0.c9
    obtain ⟨c10, c11, c12, c13, c14, c15, c16, c17, c18, f10, f11, f12, f13, f14, f15, f16, f17, f18, lt1⟩ := B1.c9
    obtain ⟨c20, c21, c22, c23, c24, f20, f21, f22, f23, f24, lt2⟩ := B2.c5
    obtain ⟨c30, c31, c32, c33, c34, f30, f31, f32, f33, f34, lt3⟩ := B3.c5
    go_wp2_with (at_builtin; refine list_app rfl (.tmp 90) (.tmp 92) 38 rfl (w.heap.size + 1 + 1 + 1) 46 i0 (.agg #[.int .i64 0, .int .i64 0, .int .i64 0, .string ⟨#[]⟩, .int .i64 0]) 5 48 Tryz.underlying38 Hi.out Hz0.out Hz1.out Hz2.out rfl (by decide) rfl (own_up HoQ.out ((Below.refl _ _).alloc (Nat.le_refl _) _)) (A := some ⟨Q.heap.size, 0, none⟩) (m := 1) (news := Jb.cells ⟨who, kind, page, data, tries + 1⟩) rfl rfl (by simp) ?_ (jb_one ⟨who, kind, page, data, tries + 1⟩) ?_ ?_ ?_ ?_)
    · intro j u hu
      try rw [Addr.add_lit, Nat.zero_add]
      have h := (Bx.new Q 46 #[.int .i64 who, .int .i64 kind, .int .i64 page, .string data, .int .i64 (tries + 1)]).cell (j := j) (v := u) (by rw [← hu]; simp [Jb.cells])
      first | exact h | simpa using h
    · unfold maxLen; omega
    · omega
    intro v' U2 ho2 hg2 _
    obtain ⟨O3, oc3, rfl, ho3a, ho3b⟩ := own_slice ho2
    have hbU : Below (w.heap.size + 1 + 1 + 1) Q U2 := ((Below.refl (w.heap.size + 1 + 1 + 1) Q).alloc (by have := lt2; omega) _).grown hg2 (by have := lt2; simp; omega) (fun q hq => (HoQ.out.lt q hq).1)
    have hbU' : Below Q.heap.size Q U2 := ((Below.refl Q.heap.size Q).alloc (Nat.le_refl _) _).grown hg2 (by simp) (fun q hq => by cases hq)
    have HmdU := Lib.hid (HmdQ.out.up hbU')
    have HbU := Lib.hid (HbQ.out.trans (hbU.mono (by omega)))
    have HoU := Lib.hid ho2
    replace B0 := B0.up hbU'; replace B1 := B1.up hbU'; replace B2 := B2.up hbU'; replace B3 := B3.up hbU'
    clear ho2 hg2 hbU hbU' HoQ HmdQ HbQ c00 c01 c02 c03 c04 c05 c06 c07 c08 f00 f01 f02 f03 f04 f05 f06 f07 f08 lt0 c10 c11 c12 c13 c14 c15 c16 c17 c18 f10 f11 f12 f13 f14 f15 f16 f17 f18 lt1 c20 c21 c22 c23 c24 f20 f21 f22 f23 f24 lt2 c30 c31 c32 c33 c34 f30 f31 f32 f33 f34 lt3
    obtain ⟨c00, c01, c02, c03, c04, c05, c06, c07, c08, f00, f01, f02, f03, f04, f05, f06, f07, f08, lt0⟩ := B0.c9
    obtain ⟨c10, c11, c12, c13, c14, c15, c16, c17, c18, f10, f11, f12, f13, f14, f15, f16, f17, f18, lt1⟩ := B1.c9
    obtain ⟨c20, c21, c22, c23, c24, f20, f21, f22, f23, f24, lt2⟩ := B2.c5
    obtain ⟨c30, c31, c32, c33, c34, f30, f31, f32, f33, f34, lt3⟩ := B3.c5
    go_upto_region 11 with fail
    obtain ⟨R, hR, B0', hkR, hsR, hbR⟩ := st_9_8_1 (.slice O3 1 oc3) B0
    try rw [hR]
    replace B1 := B1.keep (hkR _ (by omega)); replace B2 := B2.keep (hkR _ (by omega)); replace B3 := B3.keep (hkR _ (by omega))
    have HmdR := Lib.hid (HmdU.out.off B0 (by decide) (by decide) (by decide) hkR)
    have HoR := Lib.hid (own_off HoU.out (by omega) hkR)
    have HbR := Lib.hid (hbR _ _ HbU.out (Nat.le_refl _))
    clear hR hkR hsR hbR B0 HmdU HoU HbU c00 c01 c02 c03 c04 c05 c06 c07 c08 f00 f01 f02 f03 f04 f05 f06 f07 f08 lt0 c10 c11 c12 c13 c14 c15 c16 c17 c18 f10 f11 f12 f13 f14 f15 f16 f17 f18 lt1 c20 c21 c22 c23 c24 f20 f21 f22 f23 f24 lt2 c30 c31 c32 c33 c34 f30 f31 f32 f33 f34 lt3
    have B0 := B0'
    clear B0'
    obtain ⟨c00, c01, c02, c03, c04, c05, c06, c07, c08, f00, f01, f02, f03, f04, f05, f06, f07, f08, lt0⟩ := B0.c9
    obtain ⟨c10, c11, c12, c13, c14, c15, c16, c17, c18, f10, f11, f12, f13, f14, f15, f16, f17, f18, lt1⟩ := B1.c9
    obtain ⟨c20, c21, c22, c23, c24, f20, f21, f22, f23, f24, lt2⟩ := B2.c5
    obtain ⟨c30, c31, c32, c33, c34, f30, f31, f32, f33, f34, lt3⟩ := B3.c5
    go_wp2_with fail
    obtain ⟨U1, hU1, B1', hk1, _, hb1⟩ := st_9_0_9 (.slice L vs.length lc) (.int .i64 at_) (.bool given) (.slice J js.length jc) (.slice A dk.secs.length ac) (.slice C' cl cc') (.int .i64 (next + 1)) (.slice F2 1 fc2) (.slice O3 1 oc3) B1
    have B2' := B2.keep (hk1 _ (by omega))
    obtain ⟨U3, hU3, B2'', hk3, _, hb3⟩ := st_5_0_5 (.int .i64 0) (.int .i64 0) (.int .i64 0) (.string ⟨#[]⟩) (.int .i64 0) B2'
    have B1'' := B1'.keep (hk3 _ (by omega))
    try rw [hU1]
    try rw [hU3]
    have Hbz := Lib.hid (hb3 _ _ (hb1 _ _ HbR.out (by omega)) (show w.heap.size ≤ w.heap.size + 1 + 1 by omega))
    have hmR := (HmdR.out.off B1 (by decide) (by decide) (by decide) hk1).off B2' (by decide) (by decide) (by decide) hk3
    have hoR := own_off (own_off HoR.out (by omega) hk1) (by omega) hk3
    have HmR := Lib.hid hmR; have HoR2 := Lib.hid hoR
    clear c00 c01 c02 c03 c04 c05 c06 c07 c08 f00 f01 f02 f03 f04 f05 f06 f07 f08 lt0 c10 c11 c12 c13 c14 c15 c16 c17 c18 f10 f11 f12 f13 f14 f15 f16 f17 f18 lt1 c20 c21 c22 c23 c24 f20 f21 f22 f23 f24 lt2 c30 c31 c32 c33 c34 f30 f31 f32 f33 f34 lt3 hU1 hU3 hk1 hk3 hb1 hb3 B1 B2 B1' B2' hmR hoR HmdR HoR HbR
    obtain ⟨c10, c11, c12, c13, c14, c15, c16, c17, c18, f10, f11, f12, f13, f14, f15, f16, f17, f18, lt1⟩ := B1''.c9
    obtain ⟨c20, c21, c22, c23, c24, f20, f21, f22, f23, f24, lt2⟩ := B2''.c5
    refine bodyPost_ret (v := .tuple #[.agg #[.slice L vs.length lc, .int .i64 at_, .bool given, .slice J js.length jc, .slice A dk.secs.length ac, .slice C' cl cc', .int .i64 (next + 1), .slice F2 1 fc2, .slice O3 1 oc3], .agg #[.int .i64 0, .int .i64 0, .int .i64 0, .string ⟨#[]⟩, .int .i64 0], .int .i64 0, .bool false]) (by simp [results, Tryz.results9, go_sem, c10, c11, c12, c13, c14, c15, c16, c17, c18, c20, c21, c22, c23, c24]) rfl ?_
    have hm2 := Hm.out.up Hbz.out
    subst hcl
    exact ⟨_, _, _, rfl, ⟨hm2.lan, hm2.jobs, hm2.row, HmR.out, Sl.of_own (f := Jb.cells) (l := [⟨who, kind, page, data, tries + 1⟩]) (by simpa using HoR2.out) rfl jb_len (by decide)⟩, Hbz.out⟩
  · obtain ⟨c00, c01, c02, c03, c04, c05, c06, c07, c08, f00, f01, f02, f03, f04, f05, f06, f07, f08, lt0⟩ := B0.c9
    obtain ⟨c10, c11, c12, c13, c14, c15, c16, c17, c18, f10, f11, f12, f13, f14, f15, f16, f17, f18, lt1⟩ := B1.c9
    obtain ⟨c20, c21, c22, c23, c24, f20, f21, f22, f23, f24, lt2⟩ := B2.c5
    go_enter Tryz.func9, Tryz.ntmps9
    go_wp2_with fail
    refine (schRight_any W _ _ _ _ _ _ _ Hg.out (Hm.out.up HbW.out)).mono ?_
    rintro e V1 ⟨rfl, hb_V1⟩
    clear c00 c01 c02 c03 c04 c05 c06 c07 c08 f00 f01 f02 f03 f04 f05 f06 f07 f08 lt0 c10 c11 c12 c13 c14 c15 c16 c17 c18 f10 f11 f12 f13 f14 f15 f16 f17 f18 lt1 c20 c21 c22 c23 c24 f20 f21 f22 f23 f24 lt2 hW
    replace B0 := B0.up hb_V1
    replace B1 := B1.up hb_V1
    replace B2 := B2.up hb_V1
    have Hb1 := Lib.hid (HbW.out.trans (hb_V1.mono hsW'))
    have hs_V1 := hb_V1.size
    clear hb_V1
    obtain ⟨c00, c01, c02, c03, c04, c05, c06, c07, c08, f00, f01, f02, f03, f04, f05, f06, f07, f08, lt0⟩ := B0.c9
    obtain ⟨c10, c11, c12, c13, c14, c15, c16, c17, c18, f10, f11, f12, f13, f14, f15, f16, f17, f18, lt1⟩ := B1.c9
    obtain ⟨c20, c21, c22, c23, c24, f20, f21, f22, f23, f24, lt2⟩ := B2.c5
    obtain ⟨g0, g1, g2, g3, g4⟩ := Hcell.out V1 Hb1.out
    simp only [Nat.zero_mul, Nat.add_zero] at g0 g1 g2 g3 g4
    have hbV1 : b < V1.heap.size := by have := Hb1.out.size; omega
    go_upto_region 4 with fail
    obtain ⟨V2, hV2⟩ : ∃ V2, V1.alloc (.cells #[.int .i64 who, .int .i64 kind, .int .i64 page, .string data, .int .i64 tries] 46) = V2 := ⟨_, rfl⟩
    rw [hV2]
    have hb2 : Below V1.heap.size V1 V2 := by rw [← hV2]; exact (Below.refl _ _).alloc (Nat.le_refl _) _
    have B3 : Bx V1.heap.size 46 #[.int .i64 who, .int .i64 kind, .int .i64 page, .string data, .int .i64 tries] V2 := by rw [← hV2]; exact Bx.new _ _ _
    have hMs := lt2
    obtain ⟨M, hM⟩ : ∃ M, V1.heap.size = M := ⟨_, rfl⟩
    rw [hM] at B3 hMs ⊢
    clear hV2 g0 g1 g2 g3 g4 c00 c01 c02 c03 c04 c05 c06 c07 c08 f00 f01 f02 f03 f04 f05 f06 f07 f08 lt0 c10 c11 c12 c13 c14 c15 c16 c17 c18 f10 f11 f12 f13 f14 f15 f16 f17 f18 lt1 c20 c21 c22 c23 c24 f20 f21 f22 f23 f24 lt2
    replace B0 := B0.up hb2; replace B1 := B1.up hb2; replace B2 := B2.up hb2
    have Hb2 := Lib.hid (Hb1.out.trans (hb2.mono Hb1.out.size))
    clear hb2 hM
    obtain ⟨c00, c01, c02, c03, c04, c05, c06, c07, c08, f00, f01, f02, f03, f04, f05, f06, f07, f08, lt0⟩ := B0.c9
    obtain ⟨c10, c11, c12, c13, c14, c15, c16, c17, c18, f10, f11, f12, f13, f14, f15, f16, f17, f18, lt1⟩ := B1.c9
    obtain ⟨c20, c21, c22, c23, c24, f20, f21, f22, f23, f24, lt2⟩ := B2.c5
    obtain ⟨c30, c31, c32, c33, c34, f30, f31, f32, f33, f34, lt3⟩ := B3.c5
    go_wp2_with fail
    refine (HF.out V2 _ _ _ (Hm.out.dev.up Hb2.out)).mono ?_
    rintro e V3 ⟨c', rfl, hmd, hb3⟩
    obtain ⟨_, ⟨C', cc', rfl⟩, _⟩ := hmd.len
    have Hmd3 := Lib.hid hmd
    clear c00 c01 c02 c03 c04 c05 c06 c07 c08 f00 f01 f02 f03 f04 f05 f06 f07 f08 lt0 c10 c11 c12 c13 c14 c15 c16 c17 c18 f10 f11 f12 f13 f14 f15 f16 f17 f18 lt1 c20 c21 c22 c23 c24 f20 f21 f22 f23 f24 lt2 c30 c31 c32 c33 c34 f30 f31 f32 f33 f34 lt3 hmd
    replace B0 := B0.up hb3; replace B1 := B1.up hb3; replace B2 := B2.up hb3; replace B3 := B3.up hb3
    have Hb3 := Lib.hid (Hb2.out.trans (hb3.mono Hb2.out.size))
    clear hb3 Hb2
    obtain ⟨cl, hcl⟩ : ∃ cl, dk'.cache.length = cl := ⟨_, rfl⟩
    simp only [hcl] at Hmd3 ⊢
    obtain ⟨c00, c01, c02, c03, c04, c05, c06, c07, c08, f00, f01, f02, f03, f04, f05, f06, f07, f08, lt0⟩ := B0.c9
    obtain ⟨c10, c11, c12, c13, c14, c15, c16, c17, c18, f10, f11, f12, f13, f14, f15, f16, f17, f18, lt1⟩ := B1.c9
    obtain ⟨c20, c21, c22, c23, c24, f20, f21, f22, f23, f24, lt2⟩ := B2.c5
    obtain ⟨c30, c31, c32, c33, c34, f30, f31, f32, f33, f34, lt3⟩ := B3.c5
    go_upto_region 5 with fail
    obtain ⟨V4, hV4, hb4, hs4, B4, B5⟩ := box2 V3 #[.slice A dk.secs.length ac, .slice C' cl cc', .int .i64 next, .slice none 0 0] 37 #[.int .i64 tk, .int .i64 kind, .int .i64 page, .string rdata] 81
    try rw [hV4]
    have hMs2 := lt3
    obtain ⟨M2, hM2⟩ : ∃ M2, V3.heap.size = M2 := ⟨_, rfl⟩
    rw [hM2] at B4 B5 hMs2 ⊢
    clear hV4 hs4 c00 c01 c02 c03 c04 c05 c06 c07 c08 f00 f01 f02 f03 f04 f05 f06 f07 f08 lt0 c10 c11 c12 c13 c14 c15 c16 c17 c18 f10 f11 f12 f13 f14 f15 f16 f17 f18 lt1 c20 c21 c22 c23 c24 f20 f21 f22 f23 f24 lt2 c30 c31 c32 c33 c34 f30 f31 f32 f33 f34 lt3
    replace B0 := B0.up hb4; replace B1 := B1.up hb4; replace B2 := B2.up hb4; replace B3 := B3.up hb4
    have Hb4 := Lib.hid (Hb3.out.trans (hb4.mono Hb3.out.size))
    have Hmd4 := Lib.hid (Hmd3.out.up hb4)
    clear hb4 hM2 Hb3 Hmd3
    obtain ⟨c00, c01, c02, c03, c04, c05, c06, c07, c08, f00, f01, f02, f03, f04, f05, f06, f07, f08, lt0⟩ := B0.c9
    obtain ⟨c10, c11, c12, c13, c14, c15, c16, c17, c18, f10, f11, f12, f13, f14, f15, f16, f17, f18, lt1⟩ := B1.c9
    obtain ⟨c20, c21, c22, c23, c24, f20, f21, f22, f23, f24, lt2⟩ := B2.c5
    obtain ⟨c30, c31, c32, c33, c34, f30, f31, f32, f33, f34, lt3⟩ := B3.c5
    obtain ⟨c40, c41, c42, c43, f40, f41, f42, f43, lt4⟩ := B4.c4
    obtain ⟨c50, c51, c52, c53, f50, f51, f52, f53, lt5⟩ := B5.c4
    go_upto_region 6 with fail
    obtain ⟨V5, hV5, B0', hk5, hs5, hb5⟩ := st_9_4_4 (.slice A dk.secs.length ac) (.slice C' cl cc') (.int .i64 next) (.slice none 0 0) B0
    try rw [hV5]
    replace B1 := B1.keep (hk5 _ (by omega)); replace B2 := B2.keep (hk5 _ (by omega)); replace B3 := B3.keep (hk5 _ (by omega)); replace B4 := B4.keep (hk5 _ (by omega)); replace B5 := B5.keep (hk5 _ (by omega))
    have Hmd5 := Lib.hid (Hmd4.out.off B0 (by decide) (by decide) (by decide) hk5)
    have Hb5 := Lib.hid (hb5 _ _ Hb4.out (Nat.le_refl _))
    clear hV5 hk5 hs5 hb5 B0 Hb4 Hmd4 c00 c01 c02 c03 c04 c05 c06 c07 c08 f00 f01 f02 f03 f04 f05 f06 f07 f08 lt0 c10 c11 c12 c13 c14 c15 c16 c17 c18 f10 f11 f12 f13 f14 f15 f16 f17 f18 lt1 c20 c21 c22 c23 c24 f20 f21 f22 f23 f24 lt2 c30 c31 c32 c33 c34 f30 f31 f32 f33 f34 lt3 c40 c41 c42 c43 f40 f41 f42 f43 lt4 c50 c51 c52 c53 f50 f51 f52 f53 lt5
    have B0 := B0'
    clear B0'
    obtain ⟨c00, c01, c02, c03, c04, c05, c06, c07, c08, f00, f01, f02, f03, f04, f05, f06, f07, f08, lt0⟩ := B0.c9
    obtain ⟨c10, c11, c12, c13, c14, c15, c16, c17, c18, f10, f11, f12, f13, f14, f15, f16, f17, f18, lt1⟩ := B1.c9
    obtain ⟨c20, c21, c22, c23, c24, f20, f21, f22, f23, f24, lt2⟩ := B2.c5
    obtain ⟨c30, c31, c32, c33, c34, f30, f31, f32, f33, f34, lt3⟩ := B3.c5
    obtain ⟨c40, c41, c42, c43, f40, f41, f42, f43, lt4⟩ := B4.c4
    obtain ⟨c50, c51, c52, c53, f50, f51, f52, f53, lt5⟩ := B5.c4
    refine wp_region_S 11 (fun U => ∃ y : BW V5, U = y.w) (by kernel_rfl) rfl rfl ?_
    have n08 := bw_cell c08 lt0
    have HC : Hid (∃ y : BW V5, V5.drew = y.w) := Lib.hid ⟨⟨_, (Below.refl _ _).drew⟩, rfl⟩
    clear c00 c01 c02 c03 c04 c05 c06 c07 c08 f00 f01 f02 f03 f04 f05 f06 f07 f08 c10 c11 c12 c13 c14 c15 c16 c17 c18 f10 f11 f12 f13 f14 f15 f16 f17 f18 c20 c21 c22 c23 c24 f20 f21 f22 f23 f24 c30 c31 c32 c33 c34 f30 f31 f32 f33 f34 c40 c41 c42 c43 f40 f41 f42 f43 c50 c51 c52 c53 f50 f51 f52 f53
    refine pureS 0 rfl (by kernel_rfl) rfl (fun _ _ _ _ _ h => h) HC.out ?_
    go_big_quiet_step (fail)
    refine wpQuiet_nil ?_
    refine pureS 1 rfl (by kernel_rfl) rfl (fun _ _ _ _ _ h => h) HC.out ?_
    go_big_quiet_step (fail)
    refine wpQuiet_nil ?_
    refine pureS 2 rfl (by kernel_rfl) rfl (fun _ _ _ _ _ h => h) HC.out ?_
    go_big_quiet_step (fail)
    refine wpQuiet_nil ?_
    refine pureS 3 rfl (by kernel_rfl) rfl (fun _ _ _ _ _ h => h) HC.out ?_
    go_big_quiet_step (fail)
    refine wpQuiet_nil ?_
    refine pureS 4 rfl (by kernel_rfl) rfl (fun _ _ _ _ _ h => h) HC.out ?_
    go_big_quiet_step (fail)
    refine wpQuiet_nil ?_
    refine pureS 5 rfl (by kernel_rfl) rfl (fun _ _ _ _ _ h => h) HC.out ?_
    go_big_quiet_step (fail)
    refine wpQuiet_nil ?_
    refine pureS 6 rfl (by kernel_rfl) rfl (fun _ _ _ _ _ h => h) HC.out ?_
    go_big_quiet_step (fail)
    refine wpQuiet_nil ?_
    refine pureS 7 rfl (by kernel_rfl) rfl (fun _ _ _ _ _ h => h) HC.out ?_
    go_big_quiet_step (fail)
    refine wpQuiet_nil ?_
    refine pureS 8 rfl (by kernel_rfl) rfl (fun _ _ _ _ _ h => h) HC.out ?_
    go_big_quiet_step (fail)
    refine wpQuiet_nil ?_
    refine oneS 9 (by kernel_rfl) rfl rfl rfl (fun K hK => ?_)
    have HK := Lib.hid hK; clear hK
    go_simp
    refine HK.out _ _ (fun _ => ⟨⟨_, ((Below.refl _ V5).alloc (Nat.le_refl _) _).drew⟩, rfl⟩) ?_
    clear HK K
    obtain ⟨V6, hV6⟩ : ∃ V6, (V5.alloc (.cells #[.slice (some ⟨b, off, none⟩) 0 oc, .slice (some ⟨b, off + 5, none⟩) 0 (oc - 1)] 38)).drew = V6 := ⟨_, rfl⟩
    rw [hV6]
    have hb6 : Below V5.heap.size V5 V6 := by rw [← hV6]; exact ((Below.refl _ V5).alloc (Nat.le_refl _) _).drew
    have BC : Bx V5.heap.size 38 #[.slice (some ⟨b, off, none⟩) 0 oc, .slice (some ⟨b, off + 5, none⟩) 0 (oc - 1)] V6 := by rw [← hV6]; exact Bx.new V5 _ _
    refine oneS 10 (by kernel_rfl) rfl rfl rfl (fun K hK => ?_)
    have HK := Lib.hid hK; clear hK
    go_simp
    refine (concat_nil_Jb _ _ _ _ _ _ BC).mono ?_
    rintro e U ⟨rfl, rfl⟩
    refine HK.out _ _ (fun _ => ⟨⟨_, hb6⟩, rfl⟩) ?_
    clear HK K hV6 BC
    replace B0 := B0.upB hb6 lt0; replace B1 := B1.upB hb6 lt1; replace B2 := B2.upB hb6 lt2; replace B3 := B3.upB hb6 lt3; replace B4 := B4.upB hb6 lt4; replace B5 := B5.upB hb6 lt5
    have Hb6 := Lib.hid (Hb5.out.trans (hb6.mono Hb5.out.size))
    have Hmd6 := Lib.hid (Hmd5.out.up hb6)
    clear hb6 lt0 lt1 lt2 lt3 lt4 lt5 Hb5 Hmd5
    obtain ⟨c00, c01, c02, c03, c04, c05, c06, c07, c08, f00, f01, f02, f03, f04, f05, f06, f07, f08, lt0⟩ := B0.c9
    obtain ⟨c10, c11, c12, c13, c14, c15, c16, c17, c18, f10, f11, f12, f13, f14, f15, f16, f17, f18, lt1⟩ := B1.c9
    obtain ⟨c20, c21, c22, c23, c24, f20, f21, f22, f23, f24, lt2⟩ := B2.c5
    obtain ⟨c30, c31, c32, c33, c34, f30, f31, f32, f33, f34, lt3⟩ := B3.c5
    obtain ⟨c40, c41, c42, c43, f40, f41, f42, f43, lt4⟩ := B4.c4
    obtain ⟨c50, c51, c52, c53, f50, f51, f52, f53, lt5⟩ := B5.c4
    refine oneS 11 (by kernel_rfl) rfl rfl rfl (fun K hK => ?_)
    have HK := Lib.hid hK; clear hK
    go_simp
    refine HK.out _ _ (fun h => absurd h (by decide)) ?_
    clear HK K
    refine oneS 12 (by kernel_rfl) rfl rfl rfl (fun K hK => ?_)
    have HK := Lib.hid hK; clear hK
    go_simp
    refine HK.out _ _ (fun h => absurd h (by decide)) ?_
    clear HK K
    refine doneS (by kernel_rfl) ?_
    obtain ⟨V7, hV7, B0', hk7, hs7, hb7⟩ := st_9_8_1 (.slice none 0 0) B0
    rw [hV7]
    replace B1 := B1.keep (hk7 _ (by omega)); replace B2 := B2.keep (hk7 _ (by omega)); replace B3 := B3.keep (hk7 _ (by omega)); replace B4 := B4.keep (hk7 _ (by omega)); replace B5 := B5.keep (hk7 _ (by omega))
    have Hmd7 := Lib.hid (Hmd6.out.off B0 (by decide) (by decide) (by decide) hk7)
    have Hb7 := Lib.hid (hb7 _ _ Hb6.out (Nat.le_refl _))
    clear hV7 hk7 hs7 hb7 B0 Hb6 Hmd6 c00 c01 c02 c03 c04 c05 c06 c07 c08 f00 f01 f02 f03 f04 f05 f06 f07 f08 lt0 c10 c11 c12 c13 c14 c15 c16 c17 c18 f10 f11 f12 f13 f14 f15 f16 f17 f18 lt1 c20 c21 c22 c23 c24 f20 f21 f22 f23 f24 lt2 c30 c31 c32 c33 c34 f30 f31 f32 f33 f34 lt3 c40 c41 c42 c43 f40 f41 f42 f43 lt4 c50 c51 c52 c53 f50 f51 f52 f53 lt5
    have B0 := B0'
    clear B0'
    obtain ⟨c00, c01, c02, c03, c04, c05, c06, c07, c08, f00, f01, f02, f03, f04, f05, f06, f07, f08, lt0⟩ := B0.c9
    obtain ⟨c10, c11, c12, c13, c14, c15, c16, c17, c18, f10, f11, f12, f13, f14, f15, f16, f17, f18, lt1⟩ := B1.c9
    obtain ⟨c20, c21, c22, c23, c24, f20, f21, f22, f23, f24, lt2⟩ := B2.c5
    obtain ⟨c30, c31, c32, c33, c34, f30, f31, f32, f33, f34, lt3⟩ := B3.c5
    obtain ⟨c40, c41, c42, c43, f40, f41, f42, f43, lt4⟩ := B4.c4
    obtain ⟨c50, c51, c52, c53, f50, f51, f52, f53, lt5⟩ := B5.c4
    go_wp2_with fail
    refine (submit_any V7 _ _ _ ⟨dk', next, []⟩ kind page data Hgd.out hn9 Hrq.out Hmd7.out).mono ?_
    rintro e Z ⟨f', rfl, hmd, hbZ⟩
    obtain ⟨_, _, F2, fc2, rfl, _, _⟩ := hmd.len
    simp only [List.nil_append, List.length_cons, List.length_nil, Nat.zero_add] at hmd ⊢
    clear c00 c01 c02 c03 c04 c05 c06 c07 c08 f00 f01 f02 f03 f04 f05 f06 f07 f08 lt0 c10 c11 c12 c13 c14 c15 c16 c17 c18 f10 f11 f12 f13 f14 f15 f16 f17 f18 lt1 c20 c21 c22 c23 c24 f20 f21 f22 f23 f24 lt2 c30 c31 c32 c33 c34 f30 f31 f32 f33 f34 lt3 c40 c41 c42 c43 f40 f41 f42 f43 lt4 c50 c51 c52 c53 f50 f51 f52 f53 lt5 B4 B5
    replace B0 := B0.up hbZ; replace B1 := B1.up hbZ; replace B2 := B2.up hbZ; replace B3 := B3.up hbZ
    have HmdZ := Lib.hid hmd
    have HbZ := Lib.hid (Hb7.out.trans (hbZ.mono Hb7.out.size))
    clear hmd hbZ Hb7 Hmd7
    obtain ⟨c00, c01, c02, c03, c04, c05, c06, c07, c08, f00, f01, f02, f03, f04, f05, f06, f07, f08, lt0⟩ := B0.c9
    obtain ⟨c10, c11, c12, c13, c14, c15, c16, c17, c18, f10, f11, f12, f13, f14, f15, f16, f17, f18, lt1⟩ := B1.c9
    obtain ⟨c20, c21, c22, c23, c24, f20, f21, f22, f23, f24, lt2⟩ := B2.c5
    obtain ⟨c30, c31, c32, c33, c34, f30, f31, f32, f33, f34, lt3⟩ := B3.c5
    go_upto_region 9 with fail
    obtain ⟨P, hP, B0', hkP, hsP, hbP⟩ := st_9_4_4 (.slice A dk.secs.length ac) (.slice C' cl cc') (.int .i64 (next + 1)) (.slice F2 1 fc2) B0
    try rw [hP]
    replace B1 := B1.keep (hkP _ (by omega)); replace B2 := B2.keep (hkP _ (by omega)); replace B3 := B3.keep (hkP _ (by omega))
    have HmdP := Lib.hid (HmdZ.out.off B0 (by decide) (by decide) (by decide) hkP)
    have HbP := Lib.hid (hbP _ _ HbZ.out (Nat.le_refl _))
    clear hP hkP hsP hbP B0 HmdZ HbZ c00 c01 c02 c03 c04 c05 c06 c07 c08 f00 f01 f02 f03 f04 f05 f06 f07 f08 lt0 c10 c11 c12 c13 c14 c15 c16 c17 c18 f10 f11 f12 f13 f14 f15 f16 f17 f18 lt1 c20 c21 c22 c23 c24 f20 f21 f22 f23 f24 lt2 c30 c31 c32 c33 c34 f30 f31 f32 f33 f34 lt3
    have B0 := B0'
    clear B0'
    obtain ⟨c00, c01, c02, c03, c04, c05, c06, c07, c08, f00, f01, f02, f03, f04, f05, f06, f07, f08, lt0⟩ := B0.c9
    obtain ⟨c10, c11, c12, c13, c14, c15, c16, c17, c18, f10, f11, f12, f13, f14, f15, f16, f17, f18, lt1⟩ := B1.c9
    obtain ⟨c20, c21, c22, c23, c24, f20, f21, f22, f23, f24, lt2⟩ := B2.c5
    obtain ⟨c30, c31, c32, c33, c34, f30, f31, f32, f33, f34, lt3⟩ := B3.c5
    go_upto_region 10 with fail
    obtain ⟨Q, hQ, B3', hkQ, hsQ, hbQ⟩ := st_5_4_1 (.int .i64 (tries + 1)) B3
    try rw [hQ]
    replace B0 := B0.keep (hkQ _ (by omega)); replace B1 := B1.keep (hkQ _ (by omega)); replace B2 := B2.keep (hkQ _ (by omega))
    have HmdQ := Lib.hid (HmdP.out.off B3 (by decide) (by decide) (by decide) hkQ)
    have HbQ := Lib.hid (hbQ _ _ HbP.out (by omega))
    clear hQ hkQ hsQ hbQ B3 HmdP HbP c00 c01 c02 c03 c04 c05 c06 c07 c08 f00 f01 f02 f03 f04 f05 f06 f07 f08 lt0 c10 c11 c12 c13 c14 c15 c16 c17 c18 f10 f11 f12 f13 f14 f15 f16 f17 f18 lt1 c20 c21 c22 c23 c24 f20 f21 f22 f23 f24 lt2 c30 c31 c32 c33 c34 f30 f31 f32 f33 f34 lt3
    have B3 := B3'
    clear B3'
    obtain ⟨i0, hi, hz0, hz1, hz2⟩ := info_parts Tryz.infJb
    have Hi := Lib.hid hi; have Hz0 := Lib.hid hz0; have Hz1 := Lib.hid hz1; have Hz2 := Lib.hid hz2
    clear hi hz0 hz1 hz2
    have HoQ : Hid (Q.ownsRow (w.heap.size + 1 + 1 + 1) 46 5 (.slice none 0 0) 0 []) := Lib.hid ⟨rfl, .inl ⟨rfl, rfl⟩⟩
    obtain ⟨c00, c01, c02, c03, c04, c05, c06, c07, c08, f00, f01, f02, f03, f04, f05, f06, f07, f08, lt0⟩ := B0.c9
    obtain ⟨c10, c11, c12, c13, c14, c15, c16, c17, c18, f10, f11, f12, f13, f14, f15, f16, f17, f18, lt1⟩ := B1.c9
    obtain ⟨c20, c21, c22, c23, c24, f20, f21, f22, f23, f24, lt2⟩ := B2.c5
    obtain ⟨c30, c31, c32, c33, c34, f30, f31, f32, f33, f34, lt3⟩ := B3.c5
    go_wp2_with (at_builtin; refine list_app rfl (.tmp 90) (.tmp 92) 38 rfl (w.heap.size + 1 + 1 + 1) 46 i0 (.agg #[.int .i64 0, .int .i64 0, .int .i64 0, .string ⟨#[]⟩, .int .i64 0]) 5 48 Tryz.underlying38 Hi.out Hz0.out Hz1.out Hz2.out rfl (by decide) rfl (own_up HoQ.out ((Below.refl _ _).alloc (Nat.le_refl _) _)) (A := some ⟨Q.heap.size, 0, none⟩) (m := 1) (news := Jb.cells ⟨who, kind, page, data, tries + 1⟩) rfl rfl (by simp) ?_ (jb_one ⟨who, kind, page, data, tries + 1⟩) ?_ ?_ ?_ ?_)
    · intro j u hu
      try rw [Addr.add_lit, Nat.zero_add]
      have h := (Bx.new Q 46 #[.int .i64 who, .int .i64 kind, .int .i64 page, .string data, .int .i64 (tries + 1)]).cell (j := j) (v := u) (by rw [← hu]; simp [Jb.cells])
      first | exact h | simpa using h
    · unfold maxLen; omega
    · omega
    intro v' U2 ho2 hg2 _
    obtain ⟨O3, oc3, rfl, ho3a, ho3b⟩ := own_slice ho2
    have hbU : Below (w.heap.size + 1 + 1 + 1) Q U2 := ((Below.refl (w.heap.size + 1 + 1 + 1) Q).alloc (by have := lt2; omega) _).grown hg2 (by have := lt2; simp; omega) (fun q hq => (HoQ.out.lt q hq).1)
    have hbU' : Below Q.heap.size Q U2 := ((Below.refl Q.heap.size Q).alloc (Nat.le_refl _) _).grown hg2 (by simp) (fun q hq => by cases hq)
    have HmdU := Lib.hid (HmdQ.out.up hbU')
    have HbU := Lib.hid (HbQ.out.trans (hbU.mono (by omega)))
    have HoU := Lib.hid ho2
    replace B0 := B0.up hbU'; replace B1 := B1.up hbU'; replace B2 := B2.up hbU'; replace B3 := B3.up hbU'
    clear ho2 hg2 hbU hbU' HoQ HmdQ HbQ c00 c01 c02 c03 c04 c05 c06 c07 c08 f00 f01 f02 f03 f04 f05 f06 f07 f08 lt0 c10 c11 c12 c13 c14 c15 c16 c17 c18 f10 f11 f12 f13 f14 f15 f16 f17 f18 lt1 c20 c21 c22 c23 c24 f20 f21 f22 f23 f24 lt2 c30 c31 c32 c33 c34 f30 f31 f32 f33 f34 lt3
    obtain ⟨c00, c01, c02, c03, c04, c05, c06, c07, c08, f00, f01, f02, f03, f04, f05, f06, f07, f08, lt0⟩ := B0.c9
    obtain ⟨c10, c11, c12, c13, c14, c15, c16, c17, c18, f10, f11, f12, f13, f14, f15, f16, f17, f18, lt1⟩ := B1.c9
    obtain ⟨c20, c21, c22, c23, c24, f20, f21, f22, f23, f24, lt2⟩ := B2.c5
    obtain ⟨c30, c31, c32, c33, c34, f30, f31, f32, f33, f34, lt3⟩ := B3.c5
    go_upto_region 11 with fail
    obtain ⟨R, hR, B0', hkR, hsR, hbR⟩ := st_9_8_1 (.slice O3 1 oc3) B0
    try rw [hR]
    replace B1 := B1.keep (hkR _ (by omega)); replace B2 := B2.keep (hkR _ (by omega)); replace B3 := B3.keep (hkR _ (by omega))
    have HmdR := Lib.hid (HmdU.out.off B0 (by decide) (by decide) (by decide) hkR)
    have HoR := Lib.hid (own_off HoU.out (by omega) hkR)
    have HbR := Lib.hid (hbR _ _ HbU.out (Nat.le_refl _))
    clear hR hkR hsR hbR B0 HmdU HoU HbU c00 c01 c02 c03 c04 c05 c06 c07 c08 f00 f01 f02 f03 f04 f05 f06 f07 f08 lt0 c10 c11 c12 c13 c14 c15 c16 c17 c18 f10 f11 f12 f13 f14 f15 f16 f17 f18 lt1 c20 c21 c22 c23 c24 f20 f21 f22 f23 f24 lt2 c30 c31 c32 c33 c34 f30 f31 f32 f33 f34 lt3
    have B0 := B0'
    clear B0'
    obtain ⟨c00, c01, c02, c03, c04, c05, c06, c07, c08, f00, f01, f02, f03, f04, f05, f06, f07, f08, lt0⟩ := B0.c9
    obtain ⟨c10, c11, c12, c13, c14, c15, c16, c17, c18, f10, f11, f12, f13, f14, f15, f16, f17, f18, lt1⟩ := B1.c9
    obtain ⟨c20, c21, c22, c23, c24, f20, f21, f22, f23, f24, lt2⟩ := B2.c5
    obtain ⟨c30, c31, c32, c33, c34, f30, f31, f32, f33, f34, lt3⟩ := B3.c5
    go_wp2_with fail
    obtain ⟨U1, hU1, B1', hk1, _, hb1⟩ := st_9_0_9 (.slice L vs.length lc) (.int .i64 at_) (.bool given) (.slice J js.length jc) (.slice A dk.secs.length ac) (.slice C' cl cc') (.int .i64 (next + 1)) (.slice F2 1 fc2) (.slice O3 1 oc3) B1
    have B2' := B2.keep (hk1 _ (by omega))
    obtain ⟨U3, hU3, B2'', hk3, _, hb3⟩ := st_5_0_5 (.int .i64 0) (.int .i64 0) (.int .i64 0) (.string ⟨#[]⟩) (.int .i64 0) B2'
    have B1'' := B1'.keep (hk3 _ (by omega))
    try rw [hU1]
    try rw [hU3]
    have Hbz := Lib.hid (hb3 _ _ (hb1 _ _ HbR.out (by omega)) (show w.heap.size ≤ w.heap.size + 1 + 1 by omega))
    have hmR := (HmdR.out.off B1 (by decide) (by decide) (by decide) hk1).off B2' (by decide) (by decide) (by decide) hk3
    have hoR := own_off (own_off HoR.out (by omega) hk1) (by omega) hk3
    have HmR := Lib.hid hmR; have HoR2 := Lib.hid hoR
    clear c00 c01 c02 c03 c04 c05 c06 c07 c08 f00 f01 f02 f03 f04 f05 f06 f07 f08 lt0 c10 c11 c12 c13 c14 c15 c16 c17 c18 f10 f11 f12 f13 f14 f15 f16 f17 f18 lt1 c20 c21 c22 c23 c24 f20 f21 f22 f23 f24 lt2 c30 c31 c32 c33 c34 f30 f31 f32 f33 f34 lt3 hU1 hU3 hk1 hk3 hb1 hb3 B1 B2 B1' B2' hmR hoR HmdR HoR HbR
    obtain ⟨c10, c11, c12, c13, c14, c15, c16, c17, c18, f10, f11, f12, f13, f14, f15, f16, f17, f18, lt1⟩ := B1''.c9
    obtain ⟨c20, c21, c22, c23, c24, f20, f21, f22, f23, f24, lt2⟩ := B2''.c5
    refine bodyPost_ret (v := .tuple #[.agg #[.slice L vs.length lc, .int .i64 at_, .bool given, .slice J js.length jc, .slice A dk.secs.length ac, .slice C' cl cc', .int .i64 (next + 1), .slice F2 1 fc2, .slice O3 1 oc3], .agg #[.int .i64 0, .int .i64 0, .int .i64 0, .string ⟨#[]⟩, .int .i64 0], .int .i64 0, .bool false]) (by simp [results, Tryz.results9, go_sem, c10, c11, c12, c13, c14, c15, c16, c17, c18, c20, c21, c22, c23, c24]) rfl ?_
    have hm2 := Hm.out.up Hbz.out
    subst hcl
    exact ⟨_, _, _, rfl, ⟨hm2.lan, hm2.jobs, hm2.row, HmR.out, Sl.of_own (f := Jb.cells) (l := [⟨who, kind, page, data, tries + 1⟩]) (by simpa using HoR2.out) rfl jb_len (by decide)⟩, Hbz.out⟩
end Go.Proofs.YthiblfkmcdnalaaGreat
