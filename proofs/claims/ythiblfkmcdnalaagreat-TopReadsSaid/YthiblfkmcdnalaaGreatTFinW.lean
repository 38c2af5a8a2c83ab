/- The contract of device.Finish at a write. Printed by gen_finish.py. -/
import Derived.Test.YthiblfkmcdnalaaGreatTFinish
namespace Go.Proofs.YthiblfkmcdnalaaGreat
set_option maxRecDepth 1000000
open Go.RowKit
set_option maxRecDepth 1000000

set_option maxHeartbeats 8000000 in
theorem finish_write (w : World) (s c f : Value) (d : Dk) (next : Int) (tk page : Int) (data : ByteArray) (hg : GDv ⟨d, next, [⟨tk, 2, page, data⟩]⟩) (hp1 : 1 ≤ page) (hp2 : page ≤ 16) (h32 : data.size = 32) (h190 : d.cache.length ≤ 190) (hm : MDv w s c f ⟨d, next, [⟨tk, 2, page, data⟩]⟩) :
    Calls Tryz.prog 24 #[.agg #[s, c, .int .i64 next, f], .int .i64 0, .bool false] w fun e w' => ∃ c', e = .returned (.tuple #[.agg #[s, c', .int .i64 next, .slice none 0 0], .agg #[.int .i64 tk, .int .i64 2, .int .i64 page, .string data], .int .i64 0]) ∧ MDv w' s c' (.slice none 0 0) ⟨{ d with cache := d.cache ++ halves page data }, next, []⟩ ∧ Below w.heap.size w w' := by
  obtain ⟨⟨A, ac, rfl⟩, ⟨B, bc, rfl⟩, ⟨F, fc, rfl, hfa, hfb⟩⟩ := hm.len
  simp only [List.length_cons, List.length_nil, Nat.zero_add] at hfa
  obtain ⟨W, hW, hbW, hsW, B0, B1, B2⟩ := box3 w #[.slice A d.secs.length ac, .slice B d.cache.length bc, .int .i64 next, .slice F 1 fc] 37 #[.slice none 0 0, .slice none 0 0, .int .i64 0, .slice none 0 0] 37 #[.int .i64 0, .int .i64 0, .int .i64 0, .string ⟨#[]⟩] 81
  have Hm := Lib.hid hm; have Hg := Lib.hid hg
  have HbW := Lib.hid hbW
  have hsW' := bsz hsW
  obtain ⟨x, b, off, hx, rfl, hbb, hcell⟩ := rq_at hm.2.rt (k := 0) (by simp)
  obtain rfl : ⟨tk, 2, page, data⟩ = x := by simpa using hx
  have Hcell := Lib.hid hcell
  clear hm hg hbW hsW hx hcell
  have H32 := Lib.hid h32
  clear h32
  rcases Classical.em (fc = 1) with rfl | hfc
  · obtain ⟨c00, c01, c02, c03, f00, f01, f02, f03, lt0⟩ := B0.c4
    obtain ⟨c10, c11, c12, c13, f10, f11, f12, f13, lt1⟩ := B1.c4
    obtain ⟨c20, c21, c22, c23, f20, f21, f22, f23, lt2⟩ := B2.c4
    go_enter Tryz.func24, Tryz.ntmps24
    go_wp2_with fail
    refine (devRight_any W _ _ _ ⟨d, next, [⟨tk, 2, page, data⟩]⟩ Hg.out (Hm.out.up HbW.out)).mono ?_
    rintro e V1 ⟨rfl, hb_V1⟩
    clear c00 c01 c02 c03 f00 f01 f02 f03 lt0 c10 c11 c12 c13 f10 f11 f12 f13 lt1 c20 c21 c22 c23 f20 f21 f22 f23 lt2 hW
    replace B0 := B0.up hb_V1
    replace B1 := B1.up hb_V1
    replace B2 := B2.up hb_V1
    have Hb1 := Lib.hid (HbW.out.trans (hb_V1.mono hsW'))
    have hs_V1 := hb_V1.size
    clear hb_V1
    obtain ⟨c00, c01, c02, c03, f00, f01, f02, f03, lt0⟩ := B0.c4
    obtain ⟨c10, c11, c12, c13, f10, f11, f12, f13, lt1⟩ := B1.c4
    obtain ⟨c20, c21, c22, c23, f20, f21, f22, f23, lt2⟩ := B2.c4
    obtain ⟨g0, g1, g2, g3⟩ := Hcell.out V1 Hb1.out
    simp only [Nat.zero_mul, Nat.add_zero] at g0 g1 g2 g3
    have hbV1 : b < V1.heap.size := by have := Hb1.out.size; omega
    go_upto_region 4 with fail
    obtain ⟨V2, hV2⟩ : ∃ V2, V1.alloc (.cells #[.int .i64 tk, .int .i64 2, .int .i64 page, .string data] 81) = V2 := ⟨_, rfl⟩
    rw [hV2]
    have hb2 : Below V1.heap.size V1 V2 := by rw [← hV2]; exact (Below.refl _ _).alloc (Nat.le_refl _) _
    have B3 : Bx V1.heap.size 81 #[.int .i64 tk, .int .i64 2, .int .i64 page, .string data] V2 := by rw [← hV2]; exact Bx.new _ _ _
    have hMs := lt2
    obtain ⟨M, hM⟩ : ∃ M, V1.heap.size = M := ⟨_, rfl⟩
    rw [hM] at B3 hMs ⊢
    clear hV2 g0 g1 g2 g3 c00 c01 c02 c03 f00 f01 f02 f03 lt0 c10 c11 c12 c13 f10 f11 f12 f13 lt1 c20 c21 c22 c23 f20 f21 f22 f23 lt2
    replace B0 := B0.up hb2; replace B1 := B1.up hb2; replace B2 := B2.up hb2
    have Hb2 := Lib.hid (Hb1.out.trans (hb2.mono Hb1.out.size))
    clear hb2 hM
    obtain ⟨c00, c01, c02, c03, f00, f01, f02, f03, lt0⟩ := B0.c4
    obtain ⟨c10, c11, c12, c13, f10, f11, f12, f13, lt1⟩ := B1.c4
    obtain ⟨c20, c21, c22, c23, f20, f21, f22, f23, lt2⟩ := B2.c4
    obtain ⟨c30, c31, c32, c33, f30, f31, f32, f33, lt3⟩ := B3.c4
    refine wp_region_S 11 (fun U => ∃ y : BW V2, U = y.w) (by kernel_rfl) rfl rfl ?_
    have n03 := bw_cell c03 lt0
    have HC : Hid (∃ y : BW V2, V2.drew = y.w) := Lib.hid ⟨⟨_, (Below.refl _ _).drew⟩, rfl⟩
    clear c00 c01 c02 c03 f00 f01 f02 f03 c10 c11 c12 c13 f10 f11 f12 f13 c20 c21 c22 c23 f20 f21 f22 f23 c30 c31 c32 c33 f30 f31 f32 f33
    refine pureS 0 rfl (by kernel_rfl) rfl (fun _ _ _ _ _ h => h) HC.out ?_
    go_big_quiet_step (fail)
    refine wpQuiet_nil ?_
    refine pureS 1 rfl (by kernel_rfl) rfl (fun _ _ _ _ _ h => h) HC.out ?_
    go_big_quiet_step (fail)
    refine wpQuiet_nil ?_
    refine pureS 2 rfl (by kernel_rfl) rfl (fun _ _ _ _ _ h => h) HC.out ?_
    go_big_quiet_step (fail)
    refine wpQuiet_nil ?_
    refine pureS 3 rfl (by kernel_rfl) rfl (fun _ _ _ _ _ h => h) HC.out ?_
    go_big_quiet_step (fail)
    refine wpQuiet_nil ?_
    refine pureS 4 rfl (by kernel_rfl) rfl (fun _ _ _ _ _ h => h) HC.out ?_
    go_big_quiet_step (fail)
    refine wpQuiet_nil ?_
    refine pureS 5 rfl (by kernel_rfl) rfl (fun _ _ _ _ _ h => h) HC.out ?_
    go_big_quiet_step (fail)
    refine wpQuiet_nil ?_
    refine pureS 6 rfl (by kernel_rfl) rfl (fun _ _ _ _ _ h => h) HC.out ?_
    go_big_quiet_step (fail)
    refine wpQuiet_nil ?_
    refine pureS 7 rfl (by kernel_rfl) rfl (fun _ _ _ _ _ h => h) HC.out ?_
    go_big_quiet_step (fail)
    refine wpQuiet_nil ?_
    refine pureS 8 rfl (by kernel_rfl) rfl (fun _ _ _ _ _ h => h) HC.out ?_
    go_big_quiet_step (fail)
    refine wpQuiet_nil ?_
    refine oneS 9 (by kernel_rfl) rfl rfl rfl (fun K hK => ?_)
    have HK := Lib.hid hK; clear hK
    go_simp
    refine HK.out _ _ (fun _ => ⟨⟨_, ((Below.refl _ V2).alloc (Nat.le_refl _) _).drew⟩, rfl⟩) ?_
    clear HK K
    obtain ⟨V3, hV3⟩ : ∃ V3, (V2.alloc (.cells #[.slice (some ⟨b, off, none⟩) 0 1, .slice (some ⟨b, off, none⟩) 0 0] 35)).drew = V3 := ⟨_, rfl⟩
    rw [hV3]
    have hb3 : Below V2.heap.size V2 V3 := by rw [← hV3]; exact ((Below.refl _ V2).alloc (Nat.le_refl _) _).drew
    have BC : Bx V2.heap.size 35 #[.slice (some ⟨b, off, none⟩) 0 1, .slice (some ⟨b, off, none⟩) 0 0] V3 := by rw [← hV3]; exact Bx.new V2 _ _
    refine oneS 10 (by kernel_rfl) rfl rfl rfl (fun K hK => ?_)
    have HK := Lib.hid hK; clear hK
    go_simp
    refine (concat_nil_Rq _ _ _ _ _ _ BC).mono ?_
    rintro e U ⟨rfl, rfl⟩
    refine HK.out _ _ (fun _ => ⟨⟨_, hb3⟩, rfl⟩) ?_
    clear HK K hV3 BC
    replace B0 := B0.upB hb3 lt0; replace B1 := B1.upB hb3 lt1; replace B2 := B2.upB hb3 lt2; replace B3 := B3.upB hb3 lt3
    have Hb3 := Lib.hid (Hb2.out.trans (hb3.mono Hb2.out.size))
    clear hb3 lt0 lt1 lt2 lt3
    obtain ⟨c00, c01, c02, c03, f00, f01, f02, f03, lt0⟩ := B0.c4
    obtain ⟨c10, c11, c12, c13, f10, f11, f12, f13, lt1⟩ := B1.c4
    obtain ⟨c20, c21, c22, c23, f20, f21, f22, f23, lt2⟩ := B2.c4
    obtain ⟨c30, c31, c32, c33, f30, f31, f32, f33, lt3⟩ := B3.c4
    refine oneS 11 (by kernel_rfl) rfl rfl rfl (fun K hK => ?_)
    have HK := Lib.hid hK; clear hK
    go_simp
    refine HK.out _ _ (fun h => absurd h (by decide)) ?_
    clear HK K
    refine oneS 12 (by kernel_rfl) rfl rfl rfl (fun K hK => ?_)
    have HK := Lib.hid hK; clear hK
    go_simp
    refine HK.out _ _ (fun h => absurd h (by decide)) ?_
    clear HK K
    refine doneS (by kernel_rfl) ?_
    obtain ⟨V4, hV4, B0', hk4, hs4, hb4⟩ := st_4_3_1 (.slice none 0 0) B0
    rw [hV4]
    replace B1 := B1.keep (hk4 _ (by omega)); replace B2 := B2.keep (hk4 _ (by omega)); replace B3 := B3.keep (hk4 _ (by omega))
    have Hb4 := Lib.hid (hb4 _ _ Hb3.out (Nat.le_refl _))
    clear hV4 hk4 hs4 hb4 B0 Hb3 c00 c01 c02 c03 f00 f01 f02 f03 lt0 c10 c11 c12 c13 f10 f11 f12 f13 lt1 c20 c21 c22 c23 f20 f21 f22 f23 lt2 c30 c31 c32 c33 f30 f31 f32 f33 lt3
    have B0 := B0'
    clear B0'
    obtain ⟨c00, c01, c02, c03, f00, f01, f02, f03, lt0⟩ := B0.c4
    obtain ⟨c10, c11, c12, c13, f10, f11, f12, f13, lt1⟩ := B1.c4
    obtain ⟨c20, c21, c22, c23, f20, f21, f22, f23, lt2⟩ := B2.c4
    obtain ⟨c30, c31, c32, c33, f30, f31, f32, f33, lt3⟩ := B3.c4
    go_wp2_with fail
    refine (dput_any V4 _ _ d tk 2 page data Hg.out.disk h190 hp1 hp2 H32.out (Hm.out.1.up Hb4.out)).mono ?_
    rintro e V5 ⟨c', rfl, hm5, hb5⟩
    clear c00 c01 c02 c03 f00 f01 f02 f03 lt0 c10 c11 c12 c13 f10 f11 f12 f13 lt1 c20 c21 c22 c23 f20 f21 f22 f23 lt2 c30 c31 c32 c33 f30 f31 f32 f33 lt3
    replace B0 := B0.up hb5; replace B1 := B1.up hb5; replace B2 := B2.up hb5; replace B3 := B3.up hb5
    have Hb5 := Lib.hid (Hb4.out.trans (hb5.mono Hb4.out.size))
    have Hm5 := Lib.hid hm5
    obtain ⟨_, C, cc, hc⟩ := hm5.len
    rw [show ({ d with cache := d.cache ++ halves page data } : Dk).cache.length = d.cache.length + 2 from by simp [halves]] at hc
    subst hc
    clear hm5 hb5
    obtain ⟨c00, c01, c02, c03, f00, f01, f02, f03, lt0⟩ := B0.c4
    obtain ⟨c10, c11, c12, c13, f10, f11, f12, f13, lt1⟩ := B1.c4
    obtain ⟨c20, c21, c22, c23, f20, f21, f22, f23, lt2⟩ := B2.c4
    obtain ⟨c30, c31, c32, c33, f30, f31, f32, f33, lt3⟩ := B3.c4
    go_upto_region 17 with fail
    obtain ⟨V6, hV6, B0', hk6, hs6, hb6⟩ := st_4_0_2 (.slice A d.secs.length ac) (.slice C (d.cache.length + 2) cc) B0
    try rw [hV6]
    have Hm6 := Lib.hid (show MDk V6 (.slice A d.secs.length ac) (.slice C (d.cache.length + 2) cc) { d with cache := d.cache ++ halves page data } from ⟨Hm5.out.1.off B0 (by decide) hk6, Hm5.out.2.off B0 (by decide) hk6⟩)
    replace B1 := B1.keep (hk6 _ (by omega)); replace B2 := B2.keep (hk6 _ (by omega)); replace B3 := B3.keep (hk6 _ (by omega))
    have Hb6 := Lib.hid (hb6 _ _ Hb5.out (Nat.le_refl _))
    clear hV6 hk6 hs6 hb6 B0 Hm5 c00 c01 c02 c03 f00 f01 f02 f03 lt0 c10 c11 c12 c13 f10 f11 f12 f13 lt1 c20 c21 c22 c23 f20 f21 f22 f23 lt2 c30 c31 c32 c33 f30 f31 f32 f33 lt3
    have B0 := B0'
    clear B0'
    have B1k := B1; have B2k := B2
    obtain ⟨c00, c01, c02, c03, f00, f01, f02, f03, lt0⟩ := B0.c4
    obtain ⟨c10, c11, c12, c13, f10, f11, f12, f13, lt1⟩ := B1.c4
    obtain ⟨c20, c21, c22, c23, f20, f21, f22, f23, lt2⟩ := B2.c4
    obtain ⟨c30, c31, c32, c33, f30, f31, f32, f33, lt3⟩ := B3.c4
    refine wp_region_S 6 (fun U => ∃ y : KW V6 (fun N => N ≠ w.heap.size + 1 ∧ N ≠ w.heap.size + 1 + 1), U = y.w) (by kernel_rfl) rfl rfl ?_
    have n_c00 := kw_cell c00 (ok := fun N => N ≠ w.heap.size + 1 ∧ N ≠ w.heap.size + 1 + 1) (by first | omega | exact ⟨by omega, by omega⟩)
    have n_c01 := kw_cell c01 (ok := fun N => N ≠ w.heap.size + 1 ∧ N ≠ w.heap.size + 1 + 1) (by first | omega | exact ⟨by omega, by omega⟩)
    have n_c02 := kw_cell c02 (ok := fun N => N ≠ w.heap.size + 1 ∧ N ≠ w.heap.size + 1 + 1) (by first | omega | exact ⟨by omega, by omega⟩)
    have n_c03 := kw_cell c03 (ok := fun N => N ≠ w.heap.size + 1 ∧ N ≠ w.heap.size + 1 + 1) (by first | omega | exact ⟨by omega, by omega⟩)
    have n_c30 := kw_cell c30 (ok := fun N => N ≠ w.heap.size + 1 ∧ N ≠ w.heap.size + 1 + 1) (by first | omega | exact ⟨by omega, by omega⟩)
    have n_c31 := kw_cell c31 (ok := fun N => N ≠ w.heap.size + 1 ∧ N ≠ w.heap.size + 1 + 1) (by first | omega | exact ⟨by omega, by omega⟩)
    have n_c32 := kw_cell c32 (ok := fun N => N ≠ w.heap.size + 1 ∧ N ≠ w.heap.size + 1 + 1) (by first | omega | exact ⟨by omega, by omega⟩)
    have n_c33 := kw_cell c33 (ok := fun N => N ≠ w.heap.size + 1 ∧ N ≠ w.heap.size + 1 + 1) (by first | omega | exact ⟨by omega, by omega⟩)
    have HC : Hid (∃ y : KW V6 (fun N => N ≠ w.heap.size + 1 ∧ N ≠ w.heap.size + 1 + 1), V6.drew = y.w) := Lib.hid ⟨⟨V6.drew, fun _ _ => rfl⟩, rfl⟩
    refine pureS 0 rfl (by kernel_rfl) rfl (fun _ _ _ _ _ h => h) HC.out ?_
    go_big_quiet_step (fail)
    refine wpQuiet_nil ?_
    refine pureS 1 rfl (by kernel_rfl) rfl (fun _ _ _ _ _ h => h) HC.out ?_
    go_big_quiet_step (fail)
    refine wpQuiet_nil ?_
    refine pureS 2 rfl (by kernel_rfl) rfl (fun _ _ _ _ _ h => h) HC.out ?_
    go_big_quiet_step (fail)
    refine wpQuiet_nil ?_
    obtain ⟨R0, hU_R0, B_R0, hk_R0, hs_R0, hb_R0⟩ := st_4_0_4 (.slice A d.secs.length ac) (.slice C (d.cache.length + 2) cc) (.int .i64 next) (.slice none 0 0) B1
    refine oneS 3 (by kernel_rfl) rfl rfl rfl (fun K hK => ?_)
    have HK := Lib.hid hK; clear hK
    go_simp
    try rw [hU_R0]
    refine HK.out _ _ (fun _ => ⟨⟨R0.drew, fun N hN => hk_R0 N hN.1⟩, rfl⟩) ?_
    clear HK K
    replace B2 := B2.keep (hk_R0 _ (by omega))
    have Hb_R0 := Lib.hid (hb_R0 _ _ Hb6.out (by first | omega | exact Nat.le_refl _))
    have hkk_R0 : ∀ N, N ≠ w.heap.size + 1 → N ≠ w.heap.size + 1 + 1 →  R0.heap[N]? = V6.heap[N]? := fun N q0 q1 => hk_R0 N q0
    clear hU_R0 hs_R0 hb_R0
    clear c10 c11 c12 c13 f10 f11 f12 f13 lt1 c20 c21 c22 c23 f20 f21 f22 f23 lt2
    obtain ⟨c20, c21, c22, c23, f20, f21, f22, f23, lt2⟩ := B2.c4
    obtain ⟨R1, hU_R1, B_R1, hk_R1, hs_R1, hb_R1⟩ := st_4_0_4 (.int .i64 tk) (.int .i64 2) (.int .i64 page) (.string data) B2
    refine oneS 4 (by kernel_rfl) rfl rfl rfl (fun K hK => ?_)
    have HK := Lib.hid hK; clear hK
    go_simp
    try rw [hU_R1]
    refine HK.out _ _ (fun _ => ⟨⟨R1.drew, fun N hN => (hk_R1 N hN.2).trans (hk_R0 N hN.1)⟩, rfl⟩) ?_
    clear HK K
    replace B_R0 := B_R0.keep (hk_R1 _ (by omega))
    have Hb_R1 := Lib.hid (hb_R1 _ _ Hb_R0.out (by first | omega | exact Nat.le_refl _))
    have hkk_R1 : ∀ N, N ≠ w.heap.size + 1 → N ≠ w.heap.size + 1 + 1 →  R1.heap[N]? = V6.heap[N]? := fun N q0 q1 => (hk_R1 N q1).trans (hkk_R0 N q0 q1)
    clear hU_R1 hs_R1 hb_R1
    refine oneS 5 (by kernel_rfl) rfl rfl rfl (fun K hK => ?_)
    have HK := Lib.hid hK; clear hK
    go_simp
    refine HK.out _ _ (fun _ => ⟨⟨R1.drew, fun N hN => (hk_R1 N hN.2).trans (hk_R0 N hN.1)⟩, rfl⟩) ?_
    clear HK K
    refine doneS (by kernel_rfl) ?_
    obtain ⟨c10, c11, c12, c13, f10, f11, f12, f13, lt1⟩ := B_R0.c4
    obtain ⟨c20, c21, c22, c23, f20, f21, f22, f23, lt2⟩ := B_R1.c4
    go_wp2_with fail
    refine bodyPost_ret (v := .tuple #[.agg #[.slice A d.secs.length ac, .slice C (d.cache.length + 2) cc, .int .i64 next, .slice none 0 0], .agg #[.int .i64 tk, .int .i64 2, .int .i64 page, .string data], .int .i64 0]) (by simp [results, Tryz.results24, go_sem, c10, c11, c12, c13, c20, c21, c22, c23]) rfl ?_
    refine ⟨_, rfl, ⟨⟨Hm.out.1.1.up Hb_R1.out.drew, ?_⟩, Sl.nil⟩, Hb_R1.out.drew⟩
    refine Hm6.out.2.keep fun g cs fr hg => ?_
    exact hkk_R1 g (B1k.ne_type hg (by decide)) (B2k.ne_type hg (by decide))
  · obtain ⟨c00, c01, c02, c03, f00, f01, f02, f03, lt0⟩ := B0.c4
    obtain ⟨c10, c11, c12, c13, f10, f11, f12, f13, lt1⟩ := B1.c4
    obtain ⟨c20, c21, c22, c23, f20, f21, f22, f23, lt2⟩ := B2.c4
    go_enter Tryz.func24, Tryz.ntmps24
    go_wp2_with fail
    refine (devRight_any W _ _ _ ⟨d, next, [⟨tk, 2, page, data⟩]⟩ Hg.out (Hm.out.up HbW.out)).mono ?_
    rintro e V1 ⟨rfl, hb_V1⟩
    clear c00 c01 c02 c03 f00 f01 f02 f03 lt0 c10 c11 c12 c13 f10 f11 f12 f13 lt1 c20 c21 c22 c23 f20 f21 f22 f23 lt2 hW
    replace B0 := B0.up hb_V1
    replace B1 := B1.up hb_V1
    replace B2 := B2.up hb_V1
    have Hb1 := Lib.hid (HbW.out.trans (hb_V1.mono hsW'))
    have hs_V1 := hb_V1.size
    clear hb_V1
    obtain ⟨c00, c01, c02, c03, f00, f01, f02, f03, lt0⟩ := B0.c4
    obtain ⟨c10, c11, c12, c13, f10, f11, f12, f13, lt1⟩ := B1.c4
    obtain ⟨c20, c21, c22, c23, f20, f21, f22, f23, lt2⟩ := B2.c4
    obtain ⟨g0, g1, g2, g3⟩ := Hcell.out V1 Hb1.out
    simp only [Nat.zero_mul, Nat.add_zero] at g0 g1 g2 g3
    have hbV1 : b < V1.heap.size := by have := Hb1.out.size; omega
    go_upto_region 4 with fail
    obtain ⟨V2, hV2⟩ : ∃ V2, V1.alloc (.cells #[.int .i64 tk, .int .i64 2, .int .i64 page, .string data] 81) = V2 := ⟨_, rfl⟩
    rw [hV2]
    have hb2 : Below V1.heap.size V1 V2 := by rw [← hV2]; exact (Below.refl _ _).alloc (Nat.le_refl _) _
    have B3 : Bx V1.heap.size 81 #[.int .i64 tk, .int .i64 2, .int .i64 page, .string data] V2 := by rw [← hV2]; exact Bx.new _ _ _
    have hMs := lt2
    obtain ⟨M, hM⟩ : ∃ M, V1.heap.size = M := ⟨_, rfl⟩
    rw [hM] at B3 hMs ⊢
    clear hV2 g0 g1 g2 g3 c00 c01 c02 c03 f00 f01 f02 f03 lt0 c10 c11 c12 c13 f10 f11 f12 f13 lt1 c20 c21 c22 c23 f20 f21 f22 f23 lt2
    replace B0 := B0.up hb2; replace B1 := B1.up hb2; replace B2 := B2.up hb2
    have Hb2 := Lib.hid (Hb1.out.trans (hb2.mono Hb1.out.size))
    clear hb2 hM
    obtain ⟨c00, c01, c02, c03, f00, f01, f02, f03, lt0⟩ := B0.c4
    obtain ⟨c10, c11, c12, c13, f10, f11, f12, f13, lt1⟩ := B1.c4
    obtain ⟨c20, c21, c22, c23, f20, f21, f22, f23, lt2⟩ := B2.c4
    obtain ⟨c30, c31, c32, c33, f30, f31, f32, f33, lt3⟩ := B3.c4
    refine wp_region_S 11 (fun U => ∃ y : BW V2, U = y.w) (by kernel_rfl) rfl rfl ?_
    have n03 := bw_cell c03 lt0
    have HC : Hid (∃ y : BW V2, V2.drew = y.w) := Lib.hid ⟨⟨_, (Below.refl _ _).drew⟩, rfl⟩
    clear c00 c01 c02 c03 f00 f01 f02 f03 c10 c11 c12 c13 f10 f11 f12 f13 c20 c21 c22 c23 f20 f21 f22 f23 c30 c31 c32 c33 f30 f31 f32 f33
    refine pureS 0 rfl (by kernel_rfl) rfl (fun _ _ _ _ _ h => h) HC.out ?_
    go_big_quiet_step (fail)
    refine wpQuiet_nil ?_
    refine pureS 1 rfl (by kernel_rfl) rfl (fun _ _ _ _ _ h => h) HC.out ?_
    go_big_quiet_step (fail)
    refine wpQuiet_nil ?_
    refine pureS 2 rfl (by kernel_rfl) rfl (fun _ _ _ _ _ h => h) HC.out ?_
    go_big_quiet_step (fail)
    refine wpQuiet_nil ?_
    refine pureS 3 rfl (by kernel_rfl) rfl (fun _ _ _ _ _ h => h) HC.out ?_
    go_big_quiet_step (fail)
    refine wpQuiet_nil ?_
    refine pureS 4 rfl (by kernel_rfl) rfl (fun _ _ _ _ _ h => h) HC.out ?_
    go_big_quiet_step (fail)
    refine wpQuiet_nil ?_
    refine pureS 5 rfl (by kernel_rfl) rfl (fun _ _ _ _ _ h => h) HC.out ?_
    go_big_quiet_step (fail)
    refine wpQuiet_nil ?_
    refine pureS 6 rfl (by kernel_rfl) rfl (fun _ _ _ _ _ h => h) HC.out ?_
    go_big_quiet_step (fail)
    refine wpQuiet_nil ?_
    refine pureS 7 rfl (by kernel_rfl) rfl (fun _ _ _ _ _ h => h) HC.out ?_
    go_big_quiet_step (fail)
    refine wpQuiet_nil ?_
    refine pureS 8 rfl (by kernel_rfl) rfl (fun _ _ _ _ _ h => h) HC.out ?_
    go_big_quiet_step (fail)
    refine wpQuiet_nil ?_
    refine oneS 9 (by kernel_rfl) rfl rfl rfl (fun K hK => ?_)
    have HK := Lib.hid hK; clear hK
    go_simp
    refine HK.out _ _ (fun _ => ⟨⟨_, ((Below.refl _ V2).alloc (Nat.le_refl _) _).drew⟩, rfl⟩) ?_
    clear HK K
    obtain ⟨V3, hV3⟩ : ∃ V3, (V2.alloc (.cells #[.slice (some ⟨b, off, none⟩) 0 fc, .slice (some ⟨b, off + 4, none⟩) 0 (fc - 1)] 35)).drew = V3 := ⟨_, rfl⟩
    rw [hV3]
    have hb3 : Below V2.heap.size V2 V3 := by rw [← hV3]; exact ((Below.refl _ V2).alloc (Nat.le_refl _) _).drew
    have BC : Bx V2.heap.size 35 #[.slice (some ⟨b, off, none⟩) 0 fc, .slice (some ⟨b, off + 4, none⟩) 0 (fc - 1)] V3 := by rw [← hV3]; exact Bx.new V2 _ _
    refine oneS 10 (by kernel_rfl) rfl rfl rfl (fun K hK => ?_)
    have HK := Lib.hid hK; clear hK
    go_simp
    refine (concat_nil_Rq _ _ _ _ _ _ BC).mono ?_
    rintro e U ⟨rfl, rfl⟩
    refine HK.out _ _ (fun _ => ⟨⟨_, hb3⟩, rfl⟩) ?_
    clear HK K hV3 BC
    replace B0 := B0.upB hb3 lt0; replace B1 := B1.upB hb3 lt1; replace B2 := B2.upB hb3 lt2; replace B3 := B3.upB hb3 lt3
    have Hb3 := Lib.hid (Hb2.out.trans (hb3.mono Hb2.out.size))
    clear hb3 lt0 lt1 lt2 lt3
    obtain ⟨c00, c01, c02, c03, f00, f01, f02, f03, lt0⟩ := B0.c4
    obtain ⟨c10, c11, c12, c13, f10, f11, f12, f13, lt1⟩ := B1.c4
    obtain ⟨c20, c21, c22, c23, f20, f21, f22, f23, lt2⟩ := B2.c4
    obtain ⟨c30, c31, c32, c33, f30, f31, f32, f33, lt3⟩ := B3.c4
    refine oneS 11 (by kernel_rfl) rfl rfl rfl (fun K hK => ?_)
    have HK := Lib.hid hK; clear hK
    go_simp
    refine HK.out _ _ (fun h => absurd h (by decide)) ?_
    clear HK K
    refine oneS 12 (by kernel_rfl) rfl rfl rfl (fun K hK => ?_)
    have HK := Lib.hid hK; clear hK
    go_simp
    refine HK.out _ _ (fun h => absurd h (by decide)) ?_
    clear HK K
    refine doneS (by kernel_rfl) ?_
    obtain ⟨V4, hV4, B0', hk4, hs4, hb4⟩ := st_4_3_1 (.slice none 0 0) B0
    rw [hV4]
    replace B1 := B1.keep (hk4 _ (by omega)); replace B2 := B2.keep (hk4 _ (by omega)); replace B3 := B3.keep (hk4 _ (by omega))
    have Hb4 := Lib.hid (hb4 _ _ Hb3.out (Nat.le_refl _))
    clear hV4 hk4 hs4 hb4 B0 Hb3 c00 c01 c02 c03 f00 f01 f02 f03 lt0 c10 c11 c12 c13 f10 f11 f12 f13 lt1 c20 c21 c22 c23 f20 f21 f22 f23 lt2 c30 c31 c32 c33 f30 f31 f32 f33 lt3
    have B0 := B0'
    clear B0'
    obtain ⟨c00, c01, c02, c03, f00, f01, f02, f03, lt0⟩ := B0.c4
    obtain ⟨c10, c11, c12, c13, f10, f11, f12, f13, lt1⟩ := B1.c4
    obtain ⟨c20, c21, c22, c23, f20, f21, f22, f23, lt2⟩ := B2.c4
    obtain ⟨c30, c31, c32, c33, f30, f31, f32, f33, lt3⟩ := B3.c4
    go_wp2_with fail
    refine (dput_any V4 _ _ d tk 2 page data Hg.out.disk h190 hp1 hp2 H32.out (Hm.out.1.up Hb4.out)).mono ?_
    rintro e V5 ⟨c', rfl, hm5, hb5⟩
    clear c00 c01 c02 c03 f00 f01 f02 f03 lt0 c10 c11 c12 c13 f10 f11 f12 f13 lt1 c20 c21 c22 c23 f20 f21 f22 f23 lt2 c30 c31 c32 c33 f30 f31 f32 f33 lt3
    replace B0 := B0.up hb5; replace B1 := B1.up hb5; replace B2 := B2.up hb5; replace B3 := B3.up hb5
    have Hb5 := Lib.hid (Hb4.out.trans (hb5.mono Hb4.out.size))
    have Hm5 := Lib.hid hm5
    obtain ⟨_, C, cc, hc⟩ := hm5.len
    rw [show ({ d with cache := d.cache ++ halves page data } : Dk).cache.length = d.cache.length + 2 from by simp [halves]] at hc
    subst hc
    clear hm5 hb5
    obtain ⟨c00, c01, c02, c03, f00, f01, f02, f03, lt0⟩ := B0.c4
    obtain ⟨c10, c11, c12, c13, f10, f11, f12, f13, lt1⟩ := B1.c4
    obtain ⟨c20, c21, c22, c23, f20, f21, f22, f23, lt2⟩ := B2.c4
    obtain ⟨c30, c31, c32, c33, f30, f31, f32, f33, lt3⟩ := B3.c4
    go_upto_region 17 with fail
    obtain ⟨V6, hV6, B0', hk6, hs6, hb6⟩ := st_4_0_2 (.slice A d.secs.length ac) (.slice C (d.cache.length + 2) cc) B0
    try rw [hV6]
    have Hm6 := Lib.hid (show MDk V6 (.slice A d.secs.length ac) (.slice C (d.cache.length + 2) cc) { d with cache := d.cache ++ halves page data } from ⟨Hm5.out.1.off B0 (by decide) hk6, Hm5.out.2.off B0 (by decide) hk6⟩)
    replace B1 := B1.keep (hk6 _ (by omega)); replace B2 := B2.keep (hk6 _ (by omega)); replace B3 := B3.keep (hk6 _ (by omega))
    have Hb6 := Lib.hid (hb6 _ _ Hb5.out (Nat.le_refl _))
    clear hV6 hk6 hs6 hb6 B0 Hm5 c00 c01 c02 c03 f00 f01 f02 f03 lt0 c10 c11 c12 c13 f10 f11 f12 f13 lt1 c20 c21 c22 c23 f20 f21 f22 f23 lt2 c30 c31 c32 c33 f30 f31 f32 f33 lt3
    have B0 := B0'
    clear B0'
    have B1k := B1; have B2k := B2
    obtain ⟨c00, c01, c02, c03, f00, f01, f02, f03, lt0⟩ := B0.c4
    obtain ⟨c10, c11, c12, c13, f10, f11, f12, f13, lt1⟩ := B1.c4
    obtain ⟨c20, c21, c22, c23, f20, f21, f22, f23, lt2⟩ := B2.c4
    obtain ⟨c30, c31, c32, c33, f30, f31, f32, f33, lt3⟩ := B3.c4
    refine wp_region_S 6 (fun U => ∃ y : KW V6 (fun N => N ≠ w.heap.size + 1 ∧ N ≠ w.heap.size + 1 + 1), U = y.w) (by kernel_rfl) rfl rfl ?_
    have n_c00 := kw_cell c00 (ok := fun N => N ≠ w.heap.size + 1 ∧ N ≠ w.heap.size + 1 + 1) (by first | omega | exact ⟨by omega, by omega⟩)
    have n_c01 := kw_cell c01 (ok := fun N => N ≠ w.heap.size + 1 ∧ N ≠ w.heap.size + 1 + 1) (by first | omega | exact ⟨by omega, by omega⟩)
    have n_c02 := kw_cell c02 (ok := fun N => N ≠ w.heap.size + 1 ∧ N ≠ w.heap.size + 1 + 1) (by first | omega | exact ⟨by omega, by omega⟩)
    have n_c03 := kw_cell c03 (ok := fun N => N ≠ w.heap.size + 1 ∧ N ≠ w.heap.size + 1 + 1) (by first | omega | exact ⟨by omega, by omega⟩)
    have n_c30 := kw_cell c30 (ok := fun N => N ≠ w.heap.size + 1 ∧ N ≠ w.heap.size + 1 + 1) (by first | omega | exact ⟨by omega, by omega⟩)
    have n_c31 := kw_cell c31 (ok := fun N => N ≠ w.heap.size + 1 ∧ N ≠ w.heap.size + 1 + 1) (by first | omega | exact ⟨by omega, by omega⟩)
    have n_c32 := kw_cell c32 (ok := fun N => N ≠ w.heap.size + 1 ∧ N ≠ w.heap.size + 1 + 1) (by first | omega | exact ⟨by omega, by omega⟩)
    have n_c33 := kw_cell c33 (ok := fun N => N ≠ w.heap.size + 1 ∧ N ≠ w.heap.size + 1 + 1) (by first | omega | exact ⟨by omega, by omega⟩)
    have HC : Hid (∃ y : KW V6 (fun N => N ≠ w.heap.size + 1 ∧ N ≠ w.heap.size + 1 + 1), V6.drew = y.w) := Lib.hid ⟨⟨V6.drew, fun _ _ => rfl⟩, rfl⟩
    refine pureS 0 rfl (by kernel_rfl) rfl (fun _ _ _ _ _ h => h) HC.out ?_
    go_big_quiet_step (fail)
    refine wpQuiet_nil ?_
    refine pureS 1 rfl (by kernel_rfl) rfl (fun _ _ _ _ _ h => h) HC.out ?_
    go_big_quiet_step (fail)
    refine wpQuiet_nil ?_
    refine pureS 2 rfl (by kernel_rfl) rfl (fun _ _ _ _ _ h => h) HC.out ?_
    go_big_quiet_step (fail)
    refine wpQuiet_nil ?_
    obtain ⟨R0, hU_R0, B_R0, hk_R0, hs_R0, hb_R0⟩ := st_4_0_4 (.slice A d.secs.length ac) (.slice C (d.cache.length + 2) cc) (.int .i64 next) (.slice none 0 0) B1
    refine oneS 3 (by kernel_rfl) rfl rfl rfl (fun K hK => ?_)
    have HK := Lib.hid hK; clear hK
    go_simp
    try rw [hU_R0]
    refine HK.out _ _ (fun _ => ⟨⟨R0.drew, fun N hN => hk_R0 N hN.1⟩, rfl⟩) ?_
    clear HK K
    replace B2 := B2.keep (hk_R0 _ (by omega))
    have Hb_R0 := Lib.hid (hb_R0 _ _ Hb6.out (by first | omega | exact Nat.le_refl _))
    have hkk_R0 : ∀ N, N ≠ w.heap.size + 1 → N ≠ w.heap.size + 1 + 1 →  R0.heap[N]? = V6.heap[N]? := fun N q0 q1 => hk_R0 N q0
    clear hU_R0 hs_R0 hb_R0
    clear c10 c11 c12 c13 f10 f11 f12 f13 lt1 c20 c21 c22 c23 f20 f21 f22 f23 lt2
    obtain ⟨c20, c21, c22, c23, f20, f21, f22, f23, lt2⟩ := B2.c4
    obtain ⟨R1, hU_R1, B_R1, hk_R1, hs_R1, hb_R1⟩ := st_4_0_4 (.int .i64 tk) (.int .i64 2) (.int .i64 page) (.string data) B2
    refine oneS 4 (by kernel_rfl) rfl rfl rfl (fun K hK => ?_)
    have HK := Lib.hid hK; clear hK
    go_simp
    try rw [hU_R1]
    refine HK.out _ _ (fun _ => ⟨⟨R1.drew, fun N hN => (hk_R1 N hN.2).trans (hk_R0 N hN.1)⟩, rfl⟩) ?_
    clear HK K
    replace B_R0 := B_R0.keep (hk_R1 _ (by omega))
    have Hb_R1 := Lib.hid (hb_R1 _ _ Hb_R0.out (by first | omega | exact Nat.le_refl _))
    have hkk_R1 : ∀ N, N ≠ w.heap.size + 1 → N ≠ w.heap.size + 1 + 1 →  R1.heap[N]? = V6.heap[N]? := fun N q0 q1 => (hk_R1 N q1).trans (hkk_R0 N q0 q1)
    clear hU_R1 hs_R1 hb_R1
    refine oneS 5 (by kernel_rfl) rfl rfl rfl (fun K hK => ?_)
    have HK := Lib.hid hK; clear hK
    go_simp
    refine HK.out _ _ (fun _ => ⟨⟨R1.drew, fun N hN => (hk_R1 N hN.2).trans (hk_R0 N hN.1)⟩, rfl⟩) ?_
    clear HK K
    refine doneS (by kernel_rfl) ?_
    obtain ⟨c10, c11, c12, c13, f10, f11, f12, f13, lt1⟩ := B_R0.c4
    obtain ⟨c20, c21, c22, c23, f20, f21, f22, f23, lt2⟩ := B_R1.c4
    go_wp2_with fail
    refine bodyPost_ret (v := .tuple #[.agg #[.slice A d.secs.length ac, .slice C (d.cache.length + 2) cc, .int .i64 next, .slice none 0 0], .agg #[.int .i64 tk, .int .i64 2, .int .i64 page, .string data], .int .i64 0]) (by simp [results, Tryz.results24, go_sem, c10, c11, c12, c13, c20, c21, c22, c23]) rfl ?_
    refine ⟨_, rfl, ⟨⟨Hm.out.1.1.up Hb_R1.out.drew, ?_⟩, Sl.nil⟩, Hb_R1.out.drew⟩
    refine Hm6.out.2.keep fun g cs fr hg => ?_
    exact hkk_R1 g (B1k.ne_type hg (by decide)) (B2k.ne_type hg (by decide))
end Go.Proofs.YthiblfkmcdnalaaGreat
