/- The contract of device.Finish at good devices with one request in flight. Printed by gen_finish.py. -/
import Derived.Test.YthiblfkmcdnalaaGreatTDput
import Derived.Test.YthiblfkmcdnalaaGreatTConcat
namespace Go.Proofs.YthiblfkmcdnalaaGreat
set_option maxRecDepth 1000000
open Go.RowKit
set_option maxRecDepth 1000000

theorem read_size {d : Dk} (hg : GDk d) {k : Nat} (hk : k < 35) : (d.read k).size = 16 := by
  unfold Dk.read
  cases h : d.cache.reverse.find? (fun x => x.pos == (k : Int)) with
  | some x => exact (hg.cok x (by have := List.mem_of_find?_eq_some h; simpa using this)).2.2
  | none =>
    have hk' : k < d.secs.length := by rw [hg.n35]; exact hk
    have : d.secs.getD k ⟨#[]⟩ = d.secs[k] := by simp [List.getD, hk']
    show (d.secs.getD k ⟨#[]⟩).size = 16
    rw [this]
    exact hg.s16 _ (List.getElem_mem hk')

set_option maxHeartbeats 8000000 in
theorem finish_fault (w : World) (s c f : Value) (d : Dk) (next : Int) (r : Rq) (hg : GDv ⟨d, next, [r]⟩)  (hm : MDv w s c f ⟨d, next, [r]⟩) :
    Calls Tryz.prog 24 #[.agg #[s, c, .int .i64 next, f], .int .i64 0, .bool true] w fun e w' => e = .returned (.tuple #[.agg #[s, c, .int .i64 next, .slice none 0 0], .agg #[.int .i64 r.ticket, .int .i64 r.kind, .int .i64 r.page, .string r.data], .int .i64 8]) ∧ MDv w' s c (.slice none 0 0) ⟨d, next, []⟩ ∧ Below w.heap.size w w' := by
  obtain ⟨⟨A, ac, rfl⟩, ⟨B, bc, rfl⟩, ⟨F, fc, rfl, hfa, hfb⟩⟩ := hm.len
  simp only [List.length_cons, List.length_nil, Nat.zero_add] at hfa
  obtain ⟨W, hW, hbW, hsW, B0, B1, B2⟩ := box3 w #[.slice A d.secs.length ac, .slice B d.cache.length bc, .int .i64 next, .slice F 1 fc] 37 #[.slice none 0 0, .slice none 0 0, .int .i64 0, .slice none 0 0] 37 #[.int .i64 0, .int .i64 0, .int .i64 0, .string ⟨#[]⟩] 81
  have Hm := Lib.hid hm; have Hg := Lib.hid hg
  have HbW := Lib.hid hbW
  have hsW' := bsz hsW
  obtain ⟨x, b, off, hx, rfl, hbb, hcell⟩ := rq_at hm.2.rt (k := 0) (by simp)
  obtain rfl : r = x := by simpa using hx
  have Hcell := Lib.hid hcell
  clear hm hg hbW hsW hx hcell
  rcases Classical.em (fc = 1) with rfl | hfc
  · obtain ⟨c00, c01, c02, c03, f00, f01, f02, f03, lt0⟩ := B0.c4
    obtain ⟨c10, c11, c12, c13, f10, f11, f12, f13, lt1⟩ := B1.c4
    obtain ⟨c20, c21, c22, c23, f20, f21, f22, f23, lt2⟩ := B2.c4
    go_enter Tryz.func24, Tryz.ntmps24
    go_wp2_with fail
    refine (devRight_any W _ _ _ ⟨d, next, [r]⟩ Hg.out (Hm.out.up HbW.out)).mono ?_
    rintro e V1 ⟨rfl, hb_V1⟩
    clear c00 c01 c02 c03 f00 f01 f02 f03 lt0 c10 c11 c12 c13 f10 f11 f12 f13 lt1 c20 c21 c22 c23 f20 f21 f22 f23 lt2 hW
    replace B0 := B0.up hb_V1
    replace B1 := B1.up hb_V1
    replace B2 := B2.up hb_V1
    have Hb1 := Lib.hid (HbW.out.trans (hb_V1.mono hsW'))
    have hs_V1 := hb_V1.size
    clear hb_V1
    obtain ⟨c00, c01, c02, c03, f00, f01, f02, f03, lt0⟩ := B0.c4
    obtain ⟨c10, c11, c12, c13, f10, f11, f12, f13, lt1⟩ := B1.c4
    obtain ⟨c20, c21, c22, c23, f20, f21, f22, f23, lt2⟩ := B2.c4
    obtain ⟨g0, g1, g2, g3⟩ := Hcell.out V1 Hb1.out
    simp only [Nat.zero_mul, Nat.add_zero] at g0 g1 g2 g3
    have hbV1 : b < V1.heap.size := by have := Hb1.out.size; omega
    go_upto_region 4 with fail
    obtain ⟨V2, hV2⟩ : ∃ V2, V1.alloc (.cells #[.int .i64 r.ticket, .int .i64 r.kind, .int .i64 r.page, .string r.data] 81) = V2 := ⟨_, rfl⟩
    rw [hV2]
    have hb2 : Below V1.heap.size V1 V2 := by rw [← hV2]; exact (Below.refl _ _).alloc (Nat.le_refl _) _
    have B3 : Bx V1.heap.size 81 #[.int .i64 r.ticket, .int .i64 r.kind, .int .i64 r.page, .string r.data] V2 := by rw [← hV2]; exact Bx.new _ _ _
    have hMs := lt2
    obtain ⟨M, hM⟩ : ∃ M, V1.heap.size = M := ⟨_, rfl⟩
    rw [hM] at B3 hMs ⊢
    clear hV2 g0 g1 g2 g3 c00 c01 c02 c03 f00 f01 f02 f03 lt0 c10 c11 c12 c13 f10 f11 f12 f13 lt1 c20 c21 c22 c23 f20 f21 f22 f23 lt2
    replace B0 := B0.up hb2; replace B1 := B1.up hb2; replace B2 := B2.up hb2
    have Hb2 := Lib.hid (Hb1.out.trans (hb2.mono Hb1.out.size))
    clear hb2 hM
    obtain ⟨c00, c01, c02, c03, f00, f01, f02, f03, lt0⟩ := B0.c4
    obtain ⟨c10, c11, c12, c13, f10, f11, f12, f13, lt1⟩ := B1.c4
    obtain ⟨c20, c21, c22, c23, f20, f21, f22, f23, lt2⟩ := B2.c4
    obtain ⟨c30, c31, c32, c33, f30, f31, f32, f33, lt3⟩ := B3.c4
    refine wp_region_S 11 (fun U => ∃ y : BW V2, U = y.w) (by kernel_rfl) rfl rfl ?_
    have n03 := bw_cell c03 lt0
    have HC : Hid (∃ y : BW V2, V2.drew = y.w) := Lib.hid ⟨⟨_, (Below.refl _ _).drew⟩, rfl⟩
    clear c00 c01 c02 c03 f00 f01 f02 f03 c10 c11 c12 c13 f10 f11 f12 f13 c20 c21 c22 c23 f20 f21 f22 f23 c30 c31 c32 c33 f30 f31 f32 f33
    refine pureS 0 rfl (by kernel_rfl) rfl (fun _ _ _ _ _ h => h) HC.out ?_
    go_big_quiet_step (fail)
    refine wpQuiet_nil ?_
    refine pureS 1 rfl (by kernel_rfl) rfl (fun _ _ _ _ _ h => h) HC.out ?_
    go_big_quiet_step (fail)
    refine wpQuiet_nil ?_
    refine pureS 2 rfl (by kernel_rfl) rfl (fun _ _ _ _ _ h => h) HC.out ?_
    go_big_quiet_step (fail)
    refine wpQuiet_nil ?_
    refine pureS 3 rfl (by kernel_rfl) rfl (fun _ _ _ _ _ h => h) HC.out ?_
    go_big_quiet_step (fail)
    refine wpQuiet_nil ?_
    refine pureS 4 rfl (by kernel_rfl) rfl (fun _ _ _ _ _ h => h) HC.out ?_
    go_big_quiet_step (fail)
    refine wpQuiet_nil ?_
    refine pureS 5 rfl (by kernel_rfl) rfl (fun _ _ _ _ _ h => h) HC.out ?_
    go_big_quiet_step (fail)
    refine wpQuiet_nil ?_
    refine pureS 6 rfl (by kernel_rfl) rfl (fun _ _ _ _ _ h => h) HC.out ?_
    go_big_quiet_step (fail)
    refine wpQuiet_nil ?_
    refine pureS 7 rfl (by kernel_rfl) rfl (fun _ _ _ _ _ h => h) HC.out ?_
    go_big_quiet_step (fail)
    refine wpQuiet_nil ?_
    refine pureS 8 rfl (by kernel_rfl) rfl (fun _ _ _ _ _ h => h) HC.out ?_
    go_big_quiet_step (fail)
    refine wpQuiet_nil ?_
    refine oneS 9 (by kernel_rfl) rfl rfl rfl (fun K hK => ?_)
    have HK := Lib.hid hK; clear hK
    go_simp
    refine HK.out _ _ (fun _ => ⟨⟨_, ((Below.refl _ V2).alloc (Nat.le_refl _) _).drew⟩, rfl⟩) ?_
    clear HK K
    obtain ⟨V3, hV3⟩ : ∃ V3, (V2.alloc (.cells #[.slice (some ⟨b, off, none⟩) 0 1, .slice (some ⟨b, off, none⟩) 0 0] 35)).drew = V3 := ⟨_, rfl⟩
    rw [hV3]
    have hb3 : Below V2.heap.size V2 V3 := by rw [← hV3]; exact ((Below.refl _ V2).alloc (Nat.le_refl _) _).drew
    have BC : Bx V2.heap.size 35 #[.slice (some ⟨b, off, none⟩) 0 1, .slice (some ⟨b, off, none⟩) 0 0] V3 := by rw [← hV3]; exact Bx.new V2 _ _
    refine oneS 10 (by kernel_rfl) rfl rfl rfl (fun K hK => ?_)
    have HK := Lib.hid hK; clear hK
    go_simp
    refine (concat_nil_Rq _ _ _ _ _ _ BC).mono ?_
    rintro e U ⟨rfl, rfl⟩
    refine HK.out _ _ (fun _ => ⟨⟨_, hb3⟩, rfl⟩) ?_
    clear HK K hV3 BC
    replace B0 := B0.upB hb3 lt0; replace B1 := B1.upB hb3 lt1; replace B2 := B2.upB hb3 lt2; replace B3 := B3.upB hb3 lt3
    have Hb3 := Lib.hid (Hb2.out.trans (hb3.mono Hb2.out.size))
    clear hb3 lt0 lt1 lt2 lt3
    obtain ⟨c00, c01, c02, c03, f00, f01, f02, f03, lt0⟩ := B0.c4
    obtain ⟨c10, c11, c12, c13, f10, f11, f12, f13, lt1⟩ := B1.c4
    obtain ⟨c20, c21, c22, c23, f20, f21, f22, f23, lt2⟩ := B2.c4
    obtain ⟨c30, c31, c32, c33, f30, f31, f32, f33, lt3⟩ := B3.c4
    refine oneS 11 (by kernel_rfl) rfl rfl rfl (fun K hK => ?_)
    have HK := Lib.hid hK; clear hK
    go_simp
    refine HK.out _ _ (fun h => absurd h (by decide)) ?_
    clear HK K
    refine oneS 12 (by kernel_rfl) rfl rfl rfl (fun K hK => ?_)
    have HK := Lib.hid hK; clear hK
    go_simp
    refine HK.out _ _ (fun h => absurd h (by decide)) ?_
    clear HK K
    refine doneS (by kernel_rfl) ?_
    obtain ⟨V4, hV4, B0', hk4, hs4, hb4⟩ := st_4_3_1 (.slice none 0 0) B0
    rw [hV4]
    replace B1 := B1.keep (hk4 _ (by omega)); replace B2 := B2.keep (hk4 _ (by omega)); replace B3 := B3.keep (hk4 _ (by omega))
    have Hb4 := Lib.hid (hb4 _ _ Hb3.out (Nat.le_refl _))
    clear hV4 hk4 hs4 hb4 B0 Hb3 c00 c01 c02 c03 f00 f01 f02 f03 lt0 c10 c11 c12 c13 f10 f11 f12 f13 lt1 c20 c21 c22 c23 f20 f21 f22 f23 lt2 c30 c31 c32 c33 f30 f31 f32 f33 lt3
    have B0 := B0'
    clear B0'
    obtain ⟨c00, c01, c02, c03, f00, f01, f02, f03, lt0⟩ := B0.c4
    obtain ⟨c10, c11, c12, c13, f10, f11, f12, f13, lt1⟩ := B1.c4
    obtain ⟨c20, c21, c22, c23, f20, f21, f22, f23, lt2⟩ := B2.c4
    obtain ⟨c30, c31, c32, c33, f30, f31, f32, f33, lt3⟩ := B3.c4
    go_upto_region 6 with fail
    refine wp_region_S 5 (fun U => ∃ y : KW V4 (fun N => N ≠ w.heap.size + 1 ∧ N ≠ w.heap.size + 1 + 1), U = y.w) (by kernel_rfl) rfl rfl ?_
    have n_c00 := kw_cell c00 (ok := fun N => N ≠ w.heap.size + 1 ∧ N ≠ w.heap.size + 1 + 1) (by first | omega | exact ⟨by omega, by omega⟩)
    have n_c01 := kw_cell c01 (ok := fun N => N ≠ w.heap.size + 1 ∧ N ≠ w.heap.size + 1 + 1) (by first | omega | exact ⟨by omega, by omega⟩)
    have n_c02 := kw_cell c02 (ok := fun N => N ≠ w.heap.size + 1 ∧ N ≠ w.heap.size + 1 + 1) (by first | omega | exact ⟨by omega, by omega⟩)
    have n_c03 := kw_cell c03 (ok := fun N => N ≠ w.heap.size + 1 ∧ N ≠ w.heap.size + 1 + 1) (by first | omega | exact ⟨by omega, by omega⟩)
    have n_c30 := kw_cell c30 (ok := fun N => N ≠ w.heap.size + 1 ∧ N ≠ w.heap.size + 1 + 1) (by first | omega | exact ⟨by omega, by omega⟩)
    have n_c31 := kw_cell c31 (ok := fun N => N ≠ w.heap.size + 1 ∧ N ≠ w.heap.size + 1 + 1) (by first | omega | exact ⟨by omega, by omega⟩)
    have n_c32 := kw_cell c32 (ok := fun N => N ≠ w.heap.size + 1 ∧ N ≠ w.heap.size + 1 + 1) (by first | omega | exact ⟨by omega, by omega⟩)
    have n_c33 := kw_cell c33 (ok := fun N => N ≠ w.heap.size + 1 ∧ N ≠ w.heap.size + 1 + 1) (by first | omega | exact ⟨by omega, by omega⟩)
    have HC : Hid (∃ y : KW V4 (fun N => N ≠ w.heap.size + 1 ∧ N ≠ w.heap.size + 1 + 1), V4.drew = y.w) := Lib.hid ⟨⟨V4.drew, fun _ _ => rfl⟩, rfl⟩
    refine pureS 0 rfl (by kernel_rfl) rfl (fun _ _ _ _ _ h => h) HC.out ?_
    go_big_quiet_step (fail)
    refine wpQuiet_nil ?_
    refine pureS 1 rfl (by kernel_rfl) rfl (fun _ _ _ _ _ h => h) HC.out ?_
    go_big_quiet_step (fail)
    refine wpQuiet_nil ?_
    obtain ⟨R0, hU_R0, B_R0, hk_R0, hs_R0, hb_R0⟩ := st_4_0_4 (.slice A d.secs.length ac) (.slice B d.cache.length bc) (.int .i64 next) (.slice none 0 0) B1
    refine oneS 2 (by kernel_rfl) rfl rfl rfl (fun K hK => ?_)
    have HK := Lib.hid hK; clear hK
    go_simp
    try rw [hU_R0]
    refine HK.out _ _ (fun _ => ⟨⟨R0.drew, fun N hN => hk_R0 N hN.1⟩, rfl⟩) ?_
    clear HK K
    replace B2 := B2.keep (hk_R0 _ (by omega))
    have Hb_R0 := Lib.hid (hb_R0 _ _ Hb4.out (by first | omega | exact Nat.le_refl _))
    have hkk_R0 : ∀ N, N ≠ w.heap.size + 1 → N ≠ w.heap.size + 1 + 1 →  R0.heap[N]? = V4.heap[N]? := fun N q0 q1 => hk_R0 N q0
    clear hU_R0 hs_R0 hb_R0
    clear c10 c11 c12 c13 f10 f11 f12 f13 lt1 c20 c21 c22 c23 f20 f21 f22 f23 lt2
    obtain ⟨c20, c21, c22, c23, f20, f21, f22, f23, lt2⟩ := B2.c4
    obtain ⟨R1, hU_R1, B_R1, hk_R1, hs_R1, hb_R1⟩ := st_4_0_4 (.int .i64 r.ticket) (.int .i64 r.kind) (.int .i64 r.page) (.string r.data) B2
    refine oneS 3 (by kernel_rfl) rfl rfl rfl (fun K hK => ?_)
    have HK := Lib.hid hK; clear hK
    go_simp
    try rw [hU_R1]
    refine HK.out _ _ (fun _ => ⟨⟨R1.drew, fun N hN => (hk_R1 N hN.2).trans (hk_R0 N hN.1)⟩, rfl⟩) ?_
    clear HK K
    replace B_R0 := B_R0.keep (hk_R1 _ (by omega))
    have Hb_R1 := Lib.hid (hb_R1 _ _ Hb_R0.out (by first | omega | exact Nat.le_refl _))
    have hkk_R1 : ∀ N, N ≠ w.heap.size + 1 → N ≠ w.heap.size + 1 + 1 →  R1.heap[N]? = V4.heap[N]? := fun N q0 q1 => (hk_R1 N q1).trans (hkk_R0 N q0 q1)
    clear hU_R1 hs_R1 hb_R1
    refine oneS 4 (by kernel_rfl) rfl rfl rfl (fun K hK => ?_)
    have HK := Lib.hid hK; clear hK
    go_simp
    refine HK.out _ _ (fun _ => ⟨⟨R1.drew, fun N hN => (hk_R1 N hN.2).trans (hk_R0 N hN.1)⟩, rfl⟩) ?_
    clear HK K
    refine doneS (by kernel_rfl) ?_
    obtain ⟨c10, c11, c12, c13, f10, f11, f12, f13, lt1⟩ := B_R0.c4
    obtain ⟨c20, c21, c22, c23, f20, f21, f22, f23, lt2⟩ := B_R1.c4
    go_wp2_with fail
    refine bodyPost_ret (v := .tuple #[.agg #[.slice A d.secs.length ac, .slice B d.cache.length bc, .int .i64 next, .slice none 0 0], .agg #[.int .i64 r.ticket, .int .i64 r.kind, .int .i64 r.page, .string r.data], .int .i64 8]) (by simp [results, Tryz.results24, go_sem, c10, c11, c12, c13, c20, c21, c22, c23]) rfl ?_
    have hmf := Hm.out.1.up Hb_R1.out
    exact ⟨rfl, ⟨hmf, Sl.nil⟩, Hb_R1.out.drew⟩
  · obtain ⟨c00, c01, c02, c03, f00, f01, f02, f03, lt0⟩ := B0.c4
    obtain ⟨c10, c11, c12, c13, f10, f11, f12, f13, lt1⟩ := B1.c4
    obtain ⟨c20, c21, c22, c23, f20, f21, f22, f23, lt2⟩ := B2.c4
    go_enter Tryz.func24, Tryz.ntmps24
    go_wp2_with fail
    refine (devRight_any W _ _ _ ⟨d, next, [r]⟩ Hg.out (Hm.out.up HbW.out)).mono ?_
    rintro e V1 ⟨rfl, hb_V1⟩
    clear c00 c01 c02 c03 f00 f01 f02 f03 lt0 c10 c11 c12 c13 f10 f11 f12 f13 lt1 c20 c21 c22 c23 f20 f21 f22 f23 lt2 hW
    replace B0 := B0.up hb_V1
    replace B1 := B1.up hb_V1
    replace B2 := B2.up hb_V1
    have Hb1 := Lib.hid (HbW.out.trans (hb_V1.mono hsW'))
    have hs_V1 := hb_V1.size
    clear hb_V1
    obtain ⟨c00, c01, c02, c03, f00, f01, f02, f03, lt0⟩ := B0.c4
    obtain ⟨c10, c11, c12, c13, f10, f11, f12, f13, lt1⟩ := B1.c4
    obtain ⟨c20, c21, c22, c23, f20, f21, f22, f23, lt2⟩ := B2.c4
    obtain ⟨g0, g1, g2, g3⟩ := Hcell.out V1 Hb1.out
    simp only [Nat.zero_mul, Nat.add_zero] at g0 g1 g2 g3
    have hbV1 : b < V1.heap.size := by have := Hb1.out.size; omega
    go_upto_region 4 with fail
    obtain ⟨V2, hV2⟩ : ∃ V2, V1.alloc (.cells #[.int .i64 r.ticket, .int .i64 r.kind, .int .i64 r.page, .string r.data] 81) = V2 := ⟨_, rfl⟩
    rw [hV2]
    have hb2 : Below V1.heap.size V1 V2 := by rw [← hV2]; exact (Below.refl _ _).alloc (Nat.le_refl _) _
    have B3 : Bx V1.heap.size 81 #[.int .i64 r.ticket, .int .i64 r.kind, .int .i64 r.page, .string r.data] V2 := by rw [← hV2]; exact Bx.new _ _ _
    have hMs := lt2
    obtain ⟨M, hM⟩ : ∃ M, V1.heap.size = M := ⟨_, rfl⟩
    rw [hM] at B3 hMs ⊢
    clear hV2 g0 g1 g2 g3 c00 c01 c02 c03 f00 f01 f02 f03 lt0 c10 c11 c12 c13 f10 f11 f12 f13 lt1 c20 c21 c22 c23 f20 f21 f22 f23 lt2
    replace B0 := B0.up hb2; replace B1 := B1.up hb2; replace B2 := B2.up hb2
    have Hb2 := Lib.hid (Hb1.out.trans (hb2.mono Hb1.out.size))
    clear hb2 hM
    obtain ⟨c00, c01, c02, c03, f00, f01, f02, f03, lt0⟩ := B0.c4
    obtain ⟨c10, c11, c12, c13, f10, f11, f12, f13, lt1⟩ := B1.c4
    obtain ⟨c20, c21, c22, c23, f20, f21, f22, f23, lt2⟩ := B2.c4
    obtain ⟨c30, c31, c32, c33, f30, f31, f32, f33, lt3⟩ := B3.c4
    refine wp_region_S 11 (fun U => ∃ y : BW V2, U = y.w) (by kernel_rfl) rfl rfl ?_
    have n03 := bw_cell c03 lt0
    have HC : Hid (∃ y : BW V2, V2.drew = y.w) := Lib.hid ⟨⟨_, (Below.refl _ _).drew⟩, rfl⟩
    clear c00 c01 c02 c03 f00 f01 f02 f03 c10 c11 c12 c13 f10 f11 f12 f13 c20 c21 c22 c23 f20 f21 f22 f23 c30 c31 c32 c33 f30 f31 f32 f33
    refine pureS 0 rfl (by kernel_rfl) rfl (fun _ _ _ _ _ h => h) HC.out ?_
    go_big_quiet_step (fail)
    refine wpQuiet_nil ?_
    refine pureS 1 rfl (by kernel_rfl) rfl (fun _ _ _ _ _ h => h) HC.out ?_
    go_big_quiet_step (fail)
    refine wpQuiet_nil ?_
    refine pureS 2 rfl (by kernel_rfl) rfl (fun _ _ _ _ _ h => h) HC.out ?_
    go_big_quiet_step (fail)
    refine wpQuiet_nil ?_
    refine pureS 3 rfl (by kernel_rfl) rfl (fun _ _ _ _ _ h => h) HC.out ?_
    go_big_quiet_step (fail)
    refine wpQuiet_nil ?_
    refine pureS 4 rfl (by kernel_rfl) rfl (fun _ _ _ _ _ h => h) HC.out ?_
    go_big_quiet_step (fail)
    refine wpQuiet_nil ?_
    refine pureS 5 rfl (by kernel_rfl) rfl (fun _ _ _ _ _ h => h) HC.out ?_
    go_big_quiet_step (fail)
    refine wpQuiet_nil ?_
    refine pureS 6 rfl (by kernel_rfl) rfl (fun _ _ _ _ _ h => h) HC.out ?_
    go_big_quiet_step (fail)
    refine wpQuiet_nil ?_
    refine pureS 7 rfl (by kernel_rfl) rfl (fun _ _ _ _ _ h => h) HC.out ?_
    go_big_quiet_step (fail)
    refine wpQuiet_nil ?_
    refine pureS 8 rfl (by kernel_rfl) rfl (fun _ _ _ _ _ h => h) HC.out ?_
    go_big_quiet_step (fail)
    refine wpQuiet_nil ?_
    refine oneS 9 (by kernel_rfl) rfl rfl rfl (fun K hK => ?_)
    have HK := Lib.hid hK; clear hK
    go_simp
    refine HK.out _ _ (fun _ => ⟨⟨_, ((Below.refl _ V2).alloc (Nat.le_refl _) _).drew⟩, rfl⟩) ?_
    clear HK K
    obtain ⟨V3, hV3⟩ : ∃ V3, (V2.alloc (.cells #[.slice (some ⟨b, off, none⟩) 0 fc, .slice (some ⟨b, off + 4, none⟩) 0 (fc - 1)] 35)).drew = V3 := ⟨_, rfl⟩
    rw [hV3]
    have hb3 : Below V2.heap.size V2 V3 := by rw [← hV3]; exact ((Below.refl _ V2).alloc (Nat.le_refl _) _).drew
    have BC : Bx V2.heap.size 35 #[.slice (some ⟨b, off, none⟩) 0 fc, .slice (some ⟨b, off + 4, none⟩) 0 (fc - 1)] V3 := by rw [← hV3]; exact Bx.new V2 _ _
    refine oneS 10 (by kernel_rfl) rfl rfl rfl (fun K hK => ?_)
    have HK := Lib.hid hK; clear hK
    go_simp
    refine (concat_nil_Rq _ _ _ _ _ _ BC).mono ?_
    rintro e U ⟨rfl, rfl⟩
    refine HK.out _ _ (fun _ => ⟨⟨_, hb3⟩, rfl⟩) ?_
    clear HK K hV3 BC
    replace B0 := B0.upB hb3 lt0; replace B1 := B1.upB hb3 lt1; replace B2 := B2.upB hb3 lt2; replace B3 := B3.upB hb3 lt3
    have Hb3 := Lib.hid (Hb2.out.trans (hb3.mono Hb2.out.size))
    clear hb3 lt0 lt1 lt2 lt3
    obtain ⟨c00, c01, c02, c03, f00, f01, f02, f03, lt0⟩ := B0.c4
    obtain ⟨c10, c11, c12, c13, f10, f11, f12, f13, lt1⟩ := B1.c4
    obtain ⟨c20, c21, c22, c23, f20, f21, f22, f23, lt2⟩ := B2.c4
    obtain ⟨c30, c31, c32, c33, f30, f31, f32, f33, lt3⟩ := B3.c4
    refine oneS 11 (by kernel_rfl) rfl rfl rfl (fun K hK => ?_)
    have HK := Lib.hid hK; clear hK
    go_simp
    refine HK.out _ _ (fun h => absurd h (by decide)) ?_
    clear HK K
    refine oneS 12 (by kernel_rfl) rfl rfl rfl (fun K hK => ?_)
    have HK := Lib.hid hK; clear hK
    go_simp
    refine HK.out _ _ (fun h => absurd h (by decide)) ?_
    clear HK K
    refine doneS (by kernel_rfl) ?_
    obtain ⟨V4, hV4, B0', hk4, hs4, hb4⟩ := st_4_3_1 (.slice none 0 0) B0
    rw [hV4]
    replace B1 := B1.keep (hk4 _ (by omega)); replace B2 := B2.keep (hk4 _ (by omega)); replace B3 := B3.keep (hk4 _ (by omega))
    have Hb4 := Lib.hid (hb4 _ _ Hb3.out (Nat.le_refl _))
    clear hV4 hk4 hs4 hb4 B0 Hb3 c00 c01 c02 c03 f00 f01 f02 f03 lt0 c10 c11 c12 c13 f10 f11 f12 f13 lt1 c20 c21 c22 c23 f20 f21 f22 f23 lt2 c30 c31 c32 c33 f30 f31 f32 f33 lt3
    have B0 := B0'
    clear B0'
    obtain ⟨c00, c01, c02, c03, f00, f01, f02, f03, lt0⟩ := B0.c4
    obtain ⟨c10, c11, c12, c13, f10, f11, f12, f13, lt1⟩ := B1.c4
    obtain ⟨c20, c21, c22, c23, f20, f21, f22, f23, lt2⟩ := B2.c4
    obtain ⟨c30, c31, c32, c33, f30, f31, f32, f33, lt3⟩ := B3.c4
    go_upto_region 6 with fail
    refine wp_region_S 5 (fun U => ∃ y : KW V4 (fun N => N ≠ w.heap.size + 1 ∧ N ≠ w.heap.size + 1 + 1), U = y.w) (by kernel_rfl) rfl rfl ?_
    have n_c00 := kw_cell c00 (ok := fun N => N ≠ w.heap.size + 1 ∧ N ≠ w.heap.size + 1 + 1) (by first | omega | exact ⟨by omega, by omega⟩)
    have n_c01 := kw_cell c01 (ok := fun N => N ≠ w.heap.size + 1 ∧ N ≠ w.heap.size + 1 + 1) (by first | omega | exact ⟨by omega, by omega⟩)
    have n_c02 := kw_cell c02 (ok := fun N => N ≠ w.heap.size + 1 ∧ N ≠ w.heap.size + 1 + 1) (by first | omega | exact ⟨by omega, by omega⟩)
    have n_c03 := kw_cell c03 (ok := fun N => N ≠ w.heap.size + 1 ∧ N ≠ w.heap.size + 1 + 1) (by first | omega | exact ⟨by omega, by omega⟩)
    have n_c30 := kw_cell c30 (ok := fun N => N ≠ w.heap.size + 1 ∧ N ≠ w.heap.size + 1 + 1) (by first | omega | exact ⟨by omega, by omega⟩)
    have n_c31 := kw_cell c31 (ok := fun N => N ≠ w.heap.size + 1 ∧ N ≠ w.heap.size + 1 + 1) (by first | omega | exact ⟨by omega, by omega⟩)
    have n_c32 := kw_cell c32 (ok := fun N => N ≠ w.heap.size + 1 ∧ N ≠ w.heap.size + 1 + 1) (by first | omega | exact ⟨by omega, by omega⟩)
    have n_c33 := kw_cell c33 (ok := fun N => N ≠ w.heap.size + 1 ∧ N ≠ w.heap.size + 1 + 1) (by first | omega | exact ⟨by omega, by omega⟩)
    have HC : Hid (∃ y : KW V4 (fun N => N ≠ w.heap.size + 1 ∧ N ≠ w.heap.size + 1 + 1), V4.drew = y.w) := Lib.hid ⟨⟨V4.drew, fun _ _ => rfl⟩, rfl⟩
    refine pureS 0 rfl (by kernel_rfl) rfl (fun _ _ _ _ _ h => h) HC.out ?_
    go_big_quiet_step (fail)
    refine wpQuiet_nil ?_
    refine pureS 1 rfl (by kernel_rfl) rfl (fun _ _ _ _ _ h => h) HC.out ?_
    go_big_quiet_step (fail)
    refine wpQuiet_nil ?_
    obtain ⟨R0, hU_R0, B_R0, hk_R0, hs_R0, hb_R0⟩ := st_4_0_4 (.slice A d.secs.length ac) (.slice B d.cache.length bc) (.int .i64 next) (.slice none 0 0) B1
    refine oneS 2 (by kernel_rfl) rfl rfl rfl (fun K hK => ?_)
    have HK := Lib.hid hK; clear hK
    go_simp
    try rw [hU_R0]
    refine HK.out _ _ (fun _ => ⟨⟨R0.drew, fun N hN => hk_R0 N hN.1⟩, rfl⟩) ?_
    clear HK K
    replace B2 := B2.keep (hk_R0 _ (by omega))
    have Hb_R0 := Lib.hid (hb_R0 _ _ Hb4.out (by first | omega | exact Nat.le_refl _))
    have hkk_R0 : ∀ N, N ≠ w.heap.size + 1 → N ≠ w.heap.size + 1 + 1 →  R0.heap[N]? = V4.heap[N]? := fun N q0 q1 => hk_R0 N q0
    clear hU_R0 hs_R0 hb_R0
    clear c10 c11 c12 c13 f10 f11 f12 f13 lt1 c20 c21 c22 c23 f20 f21 f22 f23 lt2
    obtain ⟨c20, c21, c22, c23, f20, f21, f22, f23, lt2⟩ := B2.c4
    obtain ⟨R1, hU_R1, B_R1, hk_R1, hs_R1, hb_R1⟩ := st_4_0_4 (.int .i64 r.ticket) (.int .i64 r.kind) (.int .i64 r.page) (.string r.data) B2
    refine oneS 3 (by kernel_rfl) rfl rfl rfl (fun K hK => ?_)
    have HK := Lib.hid hK; clear hK
    go_simp
    try rw [hU_R1]
    refine HK.out _ _ (fun _ => ⟨⟨R1.drew, fun N hN => (hk_R1 N hN.2).trans (hk_R0 N hN.1)⟩, rfl⟩) ?_
    clear HK K
    replace B_R0 := B_R0.keep (hk_R1 _ (by omega))
    have Hb_R1 := Lib.hid (hb_R1 _ _ Hb_R0.out (by first | omega | exact Nat.le_refl _))
    have hkk_R1 : ∀ N, N ≠ w.heap.size + 1 → N ≠ w.heap.size + 1 + 1 →  R1.heap[N]? = V4.heap[N]? := fun N q0 q1 => (hk_R1 N q1).trans (hkk_R0 N q0 q1)
    clear hU_R1 hs_R1 hb_R1
    refine oneS 4 (by kernel_rfl) rfl rfl rfl (fun K hK => ?_)
    have HK := Lib.hid hK; clear hK
    go_simp
    refine HK.out _ _ (fun _ => ⟨⟨R1.drew, fun N hN => (hk_R1 N hN.2).trans (hk_R0 N hN.1)⟩, rfl⟩) ?_
    clear HK K
    refine doneS (by kernel_rfl) ?_
    obtain ⟨c10, c11, c12, c13, f10, f11, f12, f13, lt1⟩ := B_R0.c4
    obtain ⟨c20, c21, c22, c23, f20, f21, f22, f23, lt2⟩ := B_R1.c4
    go_wp2_with fail
    refine bodyPost_ret (v := .tuple #[.agg #[.slice A d.secs.length ac, .slice B d.cache.length bc, .int .i64 next, .slice none 0 0], .agg #[.int .i64 r.ticket, .int .i64 r.kind, .int .i64 r.page, .string r.data], .int .i64 8]) (by simp [results, Tryz.results24, go_sem, c10, c11, c12, c13, c20, c21, c22, c23]) rfl ?_
    have hmf := Hm.out.1.up Hb_R1.out
    exact ⟨rfl, ⟨hmf, Sl.nil⟩, Hb_R1.out.drew⟩

set_option maxHeartbeats 8000000 in
theorem finish_read (w : World) (s c f : Value) (d : Dk) (next : Int) (tk page : Int) (hg : GDv ⟨d, next, [⟨tk, 1, page, ⟨#[]⟩⟩]⟩) (hp1 : 1 ≤ page) (hp2 : page ≤ 16) (hm : MDv w s c f ⟨d, next, [⟨tk, 1, page, ⟨#[]⟩⟩]⟩) :
    Calls Tryz.prog 24 #[.agg #[s, c, .int .i64 next, f], .int .i64 0, .bool false] w fun e w' => e = .returned (.tuple #[.agg #[s, c, .int .i64 next, .slice none 0 0], .agg #[.int .i64 tk, .int .i64 1, .int .i64 page, .string (d.read (2 * page + 1).toNat ++ d.read (2 * page + 1 + 1).toNat)], .int .i64 0]) ∧ MDv w' s c (.slice none 0 0) ⟨d, next, []⟩ ∧ Below w.heap.size w w' := by
  obtain ⟨⟨A, ac, rfl⟩, ⟨B, bc, rfl⟩, ⟨F, fc, rfl, hfa, hfb⟩⟩ := hm.len
  simp only [List.length_cons, List.length_nil, Nat.zero_add] at hfa
  obtain ⟨W, hW, hbW, hsW, B0, B1, B2⟩ := box3 w #[.slice A d.secs.length ac, .slice B d.cache.length bc, .int .i64 next, .slice F 1 fc] 37 #[.slice none 0 0, .slice none 0 0, .int .i64 0, .slice none 0 0] 37 #[.int .i64 0, .int .i64 0, .int .i64 0, .string ⟨#[]⟩] 81
  have Hm := Lib.hid hm; have Hg := Lib.hid hg
  have HbW := Lib.hid hbW
  have hsW' := bsz hsW
  obtain ⟨x, b, off, hx, rfl, hbb, hcell⟩ := rq_at hm.2.rt (k := 0) (by simp)
  obtain rfl : ⟨tk, 1, page, ⟨#[]⟩⟩ = x := by simpa using hx
  have Hcell := Lib.hid hcell
  clear hm hg hbW hsW hx hcell
  rcases Classical.em (fc = 1) with rfl | hfc
  · obtain ⟨c00, c01, c02, c03, f00, f01, f02, f03, lt0⟩ := B0.c4
    obtain ⟨c10, c11, c12, c13, f10, f11, f12, f13, lt1⟩ := B1.c4
    obtain ⟨c20, c21, c22, c23, f20, f21, f22, f23, lt2⟩ := B2.c4
    go_enter Tryz.func24, Tryz.ntmps24
    go_wp2_with fail
    refine (devRight_any W _ _ _ ⟨d, next, [⟨tk, 1, page, ⟨#[]⟩⟩]⟩ Hg.out (Hm.out.up HbW.out)).mono ?_
    rintro e V1 ⟨rfl, hb_V1⟩
    clear c00 c01 c02 c03 f00 f01 f02 f03 lt0 c10 c11 c12 c13 f10 f11 f12 f13 lt1 c20 c21 c22 c23 f20 f21 f22 f23 lt2 hW
    replace B0 := B0.up hb_V1
    replace B1 := B1.up hb_V1
    replace B2 := B2.up hb_V1
    have Hb1 := Lib.hid (HbW.out.trans (hb_V1.mono hsW'))
    have hs_V1 := hb_V1.size
    clear hb_V1
    obtain ⟨c00, c01, c02, c03, f00, f01, f02, f03, lt0⟩ := B0.c4
    obtain ⟨c10, c11, c12, c13, f10, f11, f12, f13, lt1⟩ := B1.c4
    obtain ⟨c20, c21, c22, c23, f20, f21, f22, f23, lt2⟩ := B2.c4
    obtain ⟨g0, g1, g2, g3⟩ := Hcell.out V1 Hb1.out
    simp only [Nat.zero_mul, Nat.add_zero] at g0 g1 g2 g3
    have hbV1 : b < V1.heap.size := by have := Hb1.out.size; omega
    go_upto_region 4 with fail
    obtain ⟨V2, hV2⟩ : ∃ V2, V1.alloc (.cells #[.int .i64 tk, .int .i64 1, .int .i64 page, .string ⟨#[]⟩] 81) = V2 := ⟨_, rfl⟩
    rw [hV2]
    have hb2 : Below V1.heap.size V1 V2 := by rw [← hV2]; exact (Below.refl _ _).alloc (Nat.le_refl _) _
    have B3 : Bx V1.heap.size 81 #[.int .i64 tk, .int .i64 1, .int .i64 page, .string ⟨#[]⟩] V2 := by rw [← hV2]; exact Bx.new _ _ _
    have hMs := lt2
    obtain ⟨M, hM⟩ : ∃ M, V1.heap.size = M := ⟨_, rfl⟩
    rw [hM] at B3 hMs ⊢
    clear hV2 g0 g1 g2 g3 c00 c01 c02 c03 f00 f01 f02 f03 lt0 c10 c11 c12 c13 f10 f11 f12 f13 lt1 c20 c21 c22 c23 f20 f21 f22 f23 lt2
    replace B0 := B0.up hb2; replace B1 := B1.up hb2; replace B2 := B2.up hb2
    have Hb2 := Lib.hid (Hb1.out.trans (hb2.mono Hb1.out.size))
    clear hb2 hM
    obtain ⟨c00, c01, c02, c03, f00, f01, f02, f03, lt0⟩ := B0.c4
    obtain ⟨c10, c11, c12, c13, f10, f11, f12, f13, lt1⟩ := B1.c4
    obtain ⟨c20, c21, c22, c23, f20, f21, f22, f23, lt2⟩ := B2.c4
    obtain ⟨c30, c31, c32, c33, f30, f31, f32, f33, lt3⟩ := B3.c4
    refine wp_region_S 11 (fun U => ∃ y : BW V2, U = y.w) (by kernel_rfl) rfl rfl ?_
    have n03 := bw_cell c03 lt0
    have HC : Hid (∃ y : BW V2, V2.drew = y.w) := Lib.hid ⟨⟨_, (Below.refl _ _).drew⟩, rfl⟩
    clear c00 c01 c02 c03 f00 f01 f02 f03 c10 c11 c12 c13 f10 f11 f12 f13 c20 c21 c22 c23 f20 f21 f22 f23 c30 c31 c32 c33 f30 f31 f32 f33
    refine pureS 0 rfl (by kernel_rfl) rfl (fun _ _ _ _ _ h => h) HC.out ?_
    go_big_quiet_step (fail)
    refine wpQuiet_nil ?_
    refine pureS 1 rfl (by kernel_rfl) rfl (fun _ _ _ _ _ h => h) HC.out ?_
    go_big_quiet_step (fail)
    refine wpQuiet_nil ?_
    refine pureS 2 rfl (by kernel_rfl) rfl (fun _ _ _ _ _ h => h) HC.out ?_
    go_big_quiet_step (fail)
    refine wpQuiet_nil ?_
    refine pureS 3 rfl (by kernel_rfl) rfl (fun _ _ _ _ _ h => h) HC.out ?_
    go_big_quiet_step (fail)
    refine wpQuiet_nil ?_
    refine pureS 4 rfl (by kernel_rfl) rfl (fun _ _ _ _ _ h => h) HC.out ?_
    go_big_quiet_step (fail)
    refine wpQuiet_nil ?_
    refine pureS 5 rfl (by kernel_rfl) rfl (fun _ _ _ _ _ h => h) HC.out ?_
    go_big_quiet_step (fail)
    refine wpQuiet_nil ?_
    refine pureS 6 rfl (by kernel_rfl) rfl (fun _ _ _ _ _ h => h) HC.out ?_
    go_big_quiet_step (fail)
    refine wpQuiet_nil ?_
    refine pureS 7 rfl (by kernel_rfl) rfl (fun _ _ _ _ _ h => h) HC.out ?_
    go_big_quiet_step (fail)
    refine wpQuiet_nil ?_
    refine pureS 8 rfl (by kernel_rfl) rfl (fun _ _ _ _ _ h => h) HC.out ?_
    go_big_quiet_step (fail)
    refine wpQuiet_nil ?_
    refine oneS 9 (by kernel_rfl) rfl rfl rfl (fun K hK => ?_)
    have HK := Lib.hid hK; clear hK
    go_simp
    refine HK.out _ _ (fun _ => ⟨⟨_, ((Below.refl _ V2).alloc (Nat.le_refl _) _).drew⟩, rfl⟩) ?_
    clear HK K
    obtain ⟨V3, hV3⟩ : ∃ V3, (V2.alloc (.cells #[.slice (some ⟨b, off, none⟩) 0 1, .slice (some ⟨b, off, none⟩) 0 0] 35)).drew = V3 := ⟨_, rfl⟩
    rw [hV3]
    have hb3 : Below V2.heap.size V2 V3 := by rw [← hV3]; exact ((Below.refl _ V2).alloc (Nat.le_refl _) _).drew
    have BC : Bx V2.heap.size 35 #[.slice (some ⟨b, off, none⟩) 0 1, .slice (some ⟨b, off, none⟩) 0 0] V3 := by rw [← hV3]; exact Bx.new V2 _ _
    refine oneS 10 (by kernel_rfl) rfl rfl rfl (fun K hK => ?_)
    have HK := Lib.hid hK; clear hK
    go_simp
    refine (concat_nil_Rq _ _ _ _ _ _ BC).mono ?_
    rintro e U ⟨rfl, rfl⟩
    refine HK.out _ _ (fun _ => ⟨⟨_, hb3⟩, rfl⟩) ?_
    clear HK K hV3 BC
    replace B0 := B0.upB hb3 lt0; replace B1 := B1.upB hb3 lt1; replace B2 := B2.upB hb3 lt2; replace B3 := B3.upB hb3 lt3
    have Hb3 := Lib.hid (Hb2.out.trans (hb3.mono Hb2.out.size))
    clear hb3 lt0 lt1 lt2 lt3
    obtain ⟨c00, c01, c02, c03, f00, f01, f02, f03, lt0⟩ := B0.c4
    obtain ⟨c10, c11, c12, c13, f10, f11, f12, f13, lt1⟩ := B1.c4
    obtain ⟨c20, c21, c22, c23, f20, f21, f22, f23, lt2⟩ := B2.c4
    obtain ⟨c30, c31, c32, c33, f30, f31, f32, f33, lt3⟩ := B3.c4
    refine oneS 11 (by kernel_rfl) rfl rfl rfl (fun K hK => ?_)
    have HK := Lib.hid hK; clear hK
    go_simp
    refine HK.out _ _ (fun h => absurd h (by decide)) ?_
    clear HK K
    refine oneS 12 (by kernel_rfl) rfl rfl rfl (fun K hK => ?_)
    have HK := Lib.hid hK; clear hK
    go_simp
    refine HK.out _ _ (fun h => absurd h (by decide)) ?_
    clear HK K
    refine doneS (by kernel_rfl) ?_
    obtain ⟨V4, hV4, B0', hk4, hs4, hb4⟩ := st_4_3_1 (.slice none 0 0) B0
    rw [hV4]
    replace B1 := B1.keep (hk4 _ (by omega)); replace B2 := B2.keep (hk4 _ (by omega)); replace B3 := B3.keep (hk4 _ (by omega))
    have Hb4 := Lib.hid (hb4 _ _ Hb3.out (Nat.le_refl _))
    clear hV4 hk4 hs4 hb4 B0 Hb3 c00 c01 c02 c03 f00 f01 f02 f03 lt0 c10 c11 c12 c13 f10 f11 f12 f13 lt1 c20 c21 c22 c23 f20 f21 f22 f23 lt2 c30 c31 c32 c33 f30 f31 f32 f33 lt3
    have B0 := B0'
    clear B0'
    obtain ⟨c00, c01, c02, c03, f00, f01, f02, f03, lt0⟩ := B0.c4
    obtain ⟨c10, c11, c12, c13, f10, f11, f12, f13, lt1⟩ := B1.c4
    obtain ⟨c20, c21, c22, c23, f20, f21, f22, f23, lt2⟩ := B2.c4
    obtain ⟨c30, c31, c32, c33, f30, f31, f32, f33, lt3⟩ := B3.c4
    have hz1 : (d.read (2 * page + 1).toNat).size ≤ 16 := by rw [read_size Hg.out.disk (by omega)]; exact Nat.le_refl _
    have hz2 : (d.read (2 * page + 1 + 1).toNat).size ≤ 16 := by rw [read_size Hg.out.disk (by omega)]; exact Nat.le_refl _
    go_upto_region 10 with fail
    refine wp_region_S 11 (fun U => ∃ y : BW V4, U = y.w) (by kernel_rfl) rfl rfl ?_
    have n_c00 := bw_cell c00 lt0
    have n_c01 := bw_cell c01 lt0
    have n_c32 := bw_cell c32 lt3
    have HC : Hid (∃ y : BW V4, V4.drew = y.w) := Lib.hid ⟨⟨_, (Below.refl _ _).drew⟩, rfl⟩
    clear c00 c01 c02 c03 f00 f01 f02 f03 c10 c11 c12 c13 f10 f11 f12 f13 c20 c21 c22 c23 f20 f21 f22 f23 c30 c31 c32 c33 f30 f31 f32 f33
    refine pureS 0 rfl (by kernel_rfl) rfl (fun _ _ _ _ _ h => h) HC.out ?_
    go_big_quiet_step (fail)
    refine wpQuiet_nil ?_
    refine pureS 1 rfl (by kernel_rfl) rfl (fun _ _ _ _ _ h => h) HC.out ?_
    go_big_quiet_step (fail)
    refine wpQuiet_nil ?_
    refine pureS 2 rfl (by kernel_rfl) rfl (fun _ _ _ _ _ h => h) HC.out ?_
    go_big_quiet_step (fail)
    refine wpQuiet_nil ?_
    refine pureS 3 rfl (by kernel_rfl) rfl (fun _ _ _ _ _ h => h) HC.out ?_
    go_big_quiet_step (fail)
    refine wpQuiet_nil ?_
    refine oneS 4 (by kernel_rfl) rfl rfl rfl (fun K hK => ?_)
    have HK := Lib.hid hK; clear hK
    go_simp
    refine (home_any _ page (by omega) (by omega)).mono ?_
    rintro e U ⟨rfl, rfl⟩
    refine HK.out _ _ (fun _ => HC.out) ?_
    clear HK K
    refine oneS 5 (by kernel_rfl) rfl rfl rfl (fun K hK => ?_)
    have HK := Lib.hid hK; clear hK
    go_simp
    have hrd := read_any V4.drew (.slice A d.secs.length ac) (.slice B d.cache.length bc) d (2 * page + 1).toNat Hg.out.disk (by omega) (Hm.out.1.up (Hb4.out.drew))
    rw [show (((2 * page + 1).toNat : Nat) : Int) = 2 * page + 1 from by omega] at hrd
    try rw [IntWalk.i64_in _ (by omega)]
    refine hrd.mono ?_
    clear hrd
    rintro e V5 ⟨rfl, hbU⟩
    have hbU' : Below V4.heap.size V4 V5 := (Below.refl _ V4).drew.trans hbU
    have HC2 : Hid (∃ y : BW V4, V5 = y.w) := Lib.hid ⟨⟨_, hbU'⟩, rfl⟩
    have Hb5 := Lib.hid (Hb4.out.trans (hbU'.mono Hb4.out.size))
    replace B0 := B0.up hbU'; replace B1 := B1.up hbU'; replace B2 := B2.up hbU'; replace B3 := B3.up hbU'
    refine HK.out _ _ (fun _ => HC2.out) ?_
    clear HK K hbU hbU' n_c00 n_c01 n_c32 lt0 lt1 lt2 lt3 HC
    refine pureS 6 rfl (by kernel_rfl) rfl (fun _ _ _ _ _ h => h) HC2.out ?_
    go_big_quiet_step (fail)
    refine wpQuiet_nil ?_
    refine pureS 7 rfl (by kernel_rfl) rfl (fun _ _ _ _ _ h => h) HC2.out ?_
    go_big_quiet_step (fail)
    refine wpQuiet_nil ?_
    refine pureS 8 rfl (by kernel_rfl) rfl (fun _ _ _ _ _ h => h) HC2.out ?_
    go_big_quiet_step (fail)
    refine wpQuiet_nil ?_
    refine pureS 9 rfl (by kernel_rfl) rfl (fun _ _ _ _ _ h => h) HC2.out ?_
    go_big_quiet_step (fail)
    refine wpQuiet_nil ?_
    refine pureS 10 rfl (by kernel_rfl) rfl (fun _ _ _ _ _ h => h) HC2.out ?_
    go_big_quiet_step (fail)
    refine wpQuiet_nil ?_
    refine doneS (by kernel_rfl) ?_
    clear HC2
    obtain ⟨c00, c01, c02, c03, f00, f01, f02, f03, lt0⟩ := B0.c4
    obtain ⟨c10, c11, c12, c13, f10, f11, f12, f13, lt1⟩ := B1.c4
    obtain ⟨c20, c21, c22, c23, f20, f21, f22, f23, lt2⟩ := B2.c4
    obtain ⟨c30, c31, c32, c33, f30, f31, f32, f33, lt3⟩ := B3.c4
    go_upto_region 11 with fail
    refine wp_region_S 12 (fun U => ∃ y : BW V5, U = y.w) (by kernel_rfl) rfl rfl ?_
    have n_c00 := bw_cell c00 lt0
    have n_c01 := bw_cell c01 lt0
    have n_c32 := bw_cell c32 lt3
    have HC : Hid (∃ y : BW V5, V5.drew = y.w) := Lib.hid ⟨⟨_, (Below.refl _ _).drew⟩, rfl⟩
    clear c00 c01 c02 c03 f00 f01 f02 f03 c10 c11 c12 c13 f10 f11 f12 f13 c20 c21 c22 c23 f20 f21 f22 f23 c30 c31 c32 c33 f30 f31 f32 f33
    refine pureS 0 rfl (by kernel_rfl) rfl (fun _ _ _ _ _ h => h) HC.out ?_
    go_big_quiet_step (fail)
    refine wpQuiet_nil ?_
    refine pureS 1 rfl (by kernel_rfl) rfl (fun _ _ _ _ _ h => h) HC.out ?_
    go_big_quiet_step (fail)
    refine wpQuiet_nil ?_
    refine pureS 2 rfl (by kernel_rfl) rfl (fun _ _ _ _ _ h => h) HC.out ?_
    go_big_quiet_step (fail)
    refine wpQuiet_nil ?_
    refine pureS 3 rfl (by kernel_rfl) rfl (fun _ _ _ _ _ h => h) HC.out ?_
    go_big_quiet_step (fail)
    refine wpQuiet_nil ?_
    refine oneS 4 (by kernel_rfl) rfl rfl rfl (fun K hK => ?_)
    have HK := Lib.hid hK; clear hK
    go_simp
    refine (home_any _ page (by omega) (by omega)).mono ?_
    rintro e U ⟨rfl, rfl⟩
    refine HK.out _ _ (fun _ => HC.out) ?_
    clear HK K
    refine pureS 5 rfl (by kernel_rfl) rfl (fun _ _ _ _ _ h => h) HC.out ?_
    go_big_quiet_step (fail)
    refine wpQuiet_nil ?_
    refine oneS 6 (by kernel_rfl) rfl rfl rfl (fun K hK => ?_)
    have HK := Lib.hid hK; clear hK
    go_simp
    have hrd := read_any V5.drew (.slice A d.secs.length ac) (.slice B d.cache.length bc) d (2 * page + 1 + 1).toNat Hg.out.disk (by omega) (Hm.out.1.up (Hb5.out.drew))
    rw [show (((2 * page + 1 + 1).toNat : Nat) : Int) = 2 * page + 1 + 1 from by omega] at hrd
    try rw [IntWalk.i64_in _ (by omega)]
    refine hrd.mono ?_
    clear hrd
    rintro e V6 ⟨rfl, hbU⟩
    have hbU' : Below V5.heap.size V5 V6 := (Below.refl _ V5).drew.trans hbU
    have HC2 : Hid (∃ y : BW V5, V6 = y.w) := Lib.hid ⟨⟨_, hbU'⟩, rfl⟩
    have Hb6 := Lib.hid (Hb5.out.trans (hbU'.mono Hb5.out.size))
    replace B0 := B0.up hbU'; replace B1 := B1.up hbU'; replace B2 := B2.up hbU'; replace B3 := B3.up hbU'
    refine HK.out _ _ (fun _ => HC2.out) ?_
    clear HK K hbU hbU' n_c00 n_c01 n_c32 lt0 lt1 lt2 lt3 HC
    refine pureS 7 rfl (by kernel_rfl) rfl (fun _ _ _ _ _ h => h) HC2.out ?_
    go_big_quiet_step (fail)
    refine wpQuiet_nil ?_
    refine pureS 8 rfl (by kernel_rfl) rfl (fun _ _ _ _ _ h => h) HC2.out ?_
    go_big_quiet_step (fail)
    refine wpQuiet_nil ?_
    refine pureS 9 rfl (by kernel_rfl) rfl (fun _ _ _ _ _ h => h) HC2.out ?_
    go_big_quiet_step (fail)
    refine wpQuiet_nil ?_
    refine pureS 10 rfl (by kernel_rfl) rfl (fun _ _ _ _ _ h => h) HC2.out ?_
    go_big_quiet_step (fail)
    refine wpQuiet_nil ?_
    refine pureS 11 rfl (by kernel_rfl) rfl (fun _ _ _ _ _ h => h) HC2.out ?_
    go_big_quiet_step (fail)
    refine wpQuiet_nil ?_
    refine doneS (by kernel_rfl) ?_
    clear HC2
    obtain ⟨c00, c01, c02, c03, f00, f01, f02, f03, lt0⟩ := B0.c4
    obtain ⟨c10, c11, c12, c13, f10, f11, f12, f13, lt1⟩ := B1.c4
    obtain ⟨c20, c21, c22, c23, f20, f21, f22, f23, lt2⟩ := B2.c4
    obtain ⟨c30, c31, c32, c33, f30, f31, f32, f33, lt3⟩ := B3.c4
    go_upto_region 17 with fail
    obtain ⟨V7, hV7, B3', hk7, hs7, hb7⟩ := st_4_3_1 (.string (d.read (2 * page + 1).toNat ++ d.read (2 * page + 1 + 1).toNat)) B3
    try rw [hV7]
    replace B0 := B0.keep (hk7 _ (by omega)); replace B1 := B1.keep (hk7 _ (by omega)); replace B2 := B2.keep (hk7 _ (by omega))
    have Hb7 := Lib.hid (hb7 _ _ Hb6.out (by omega))
    clear hV7 hk7 hs7 hb7 B3 c00 c01 c02 c03 f00 f01 f02 f03 lt0 c10 c11 c12 c13 f10 f11 f12 f13 lt1 c20 c21 c22 c23 f20 f21 f22 f23 lt2 c30 c31 c32 c33 f30 f31 f32 f33 lt3
    have B3 := B3'
    clear B3'
    obtain ⟨c00, c01, c02, c03, f00, f01, f02, f03, lt0⟩ := B0.c4
    obtain ⟨c10, c11, c12, c13, f10, f11, f12, f13, lt1⟩ := B1.c4
    obtain ⟨c20, c21, c22, c23, f20, f21, f22, f23, lt2⟩ := B2.c4
    obtain ⟨c30, c31, c32, c33, f30, f31, f32, f33, lt3⟩ := B3.c4
    refine wp_region_S 6 (fun U => ∃ y : KW V7 (fun N => N ≠ w.heap.size + 1 ∧ N ≠ w.heap.size + 1 + 1), U = y.w) (by kernel_rfl) rfl rfl ?_
    have n_c00 := kw_cell c00 (ok := fun N => N ≠ w.heap.size + 1 ∧ N ≠ w.heap.size + 1 + 1) (by first | omega | exact ⟨by omega, by omega⟩)
    have n_c01 := kw_cell c01 (ok := fun N => N ≠ w.heap.size + 1 ∧ N ≠ w.heap.size + 1 + 1) (by first | omega | exact ⟨by omega, by omega⟩)
    have n_c02 := kw_cell c02 (ok := fun N => N ≠ w.heap.size + 1 ∧ N ≠ w.heap.size + 1 + 1) (by first | omega | exact ⟨by omega, by omega⟩)
    have n_c03 := kw_cell c03 (ok := fun N => N ≠ w.heap.size + 1 ∧ N ≠ w.heap.size + 1 + 1) (by first | omega | exact ⟨by omega, by omega⟩)
    have n_c30 := kw_cell c30 (ok := fun N => N ≠ w.heap.size + 1 ∧ N ≠ w.heap.size + 1 + 1) (by first | omega | exact ⟨by omega, by omega⟩)
    have n_c31 := kw_cell c31 (ok := fun N => N ≠ w.heap.size + 1 ∧ N ≠ w.heap.size + 1 + 1) (by first | omega | exact ⟨by omega, by omega⟩)
    have n_c32 := kw_cell c32 (ok := fun N => N ≠ w.heap.size + 1 ∧ N ≠ w.heap.size + 1 + 1) (by first | omega | exact ⟨by omega, by omega⟩)
    have n_c33 := kw_cell c33 (ok := fun N => N ≠ w.heap.size + 1 ∧ N ≠ w.heap.size + 1 + 1) (by first | omega | exact ⟨by omega, by omega⟩)
    have HC : Hid (∃ y : KW V7 (fun N => N ≠ w.heap.size + 1 ∧ N ≠ w.heap.size + 1 + 1), V7.drew = y.w) := Lib.hid ⟨⟨V7.drew, fun _ _ => rfl⟩, rfl⟩
    refine pureS 0 rfl (by kernel_rfl) rfl (fun _ _ _ _ _ h => h) HC.out ?_
    go_big_quiet_step (fail)
    refine wpQuiet_nil ?_
    refine pureS 1 rfl (by kernel_rfl) rfl (fun _ _ _ _ _ h => h) HC.out ?_
    go_big_quiet_step (fail)
    refine wpQuiet_nil ?_
    refine pureS 2 rfl (by kernel_rfl) rfl (fun _ _ _ _ _ h => h) HC.out ?_
    go_big_quiet_step (fail)
    refine wpQuiet_nil ?_
    obtain ⟨R0, hU_R0, B_R0, hk_R0, hs_R0, hb_R0⟩ := st_4_0_4 (.slice A d.secs.length ac) (.slice B d.cache.length bc) (.int .i64 next) (.slice none 0 0) B1
    refine oneS 3 (by kernel_rfl) rfl rfl rfl (fun K hK => ?_)
    have HK := Lib.hid hK; clear hK
    go_simp
    try rw [hU_R0]
    refine HK.out _ _ (fun _ => ⟨⟨R0.drew, fun N hN => hk_R0 N hN.1⟩, rfl⟩) ?_
    clear HK K
    replace B2 := B2.keep (hk_R0 _ (by omega))
    have Hb_R0 := Lib.hid (hb_R0 _ _ Hb7.out (by first | omega | exact Nat.le_refl _))
    have hkk_R0 : ∀ N, N ≠ w.heap.size + 1 → N ≠ w.heap.size + 1 + 1 →  R0.heap[N]? = V7.heap[N]? := fun N q0 q1 => hk_R0 N q0
    clear hU_R0 hs_R0 hb_R0
    clear c10 c11 c12 c13 f10 f11 f12 f13 lt1 c20 c21 c22 c23 f20 f21 f22 f23 lt2
    obtain ⟨c20, c21, c22, c23, f20, f21, f22, f23, lt2⟩ := B2.c4
    obtain ⟨R1, hU_R1, B_R1, hk_R1, hs_R1, hb_R1⟩ := st_4_0_4 (.int .i64 tk) (.int .i64 1) (.int .i64 page) (.string (d.read (2 * page + 1).toNat ++ d.read (2 * page + 1 + 1).toNat)) B2
    refine oneS 4 (by kernel_rfl) rfl rfl rfl (fun K hK => ?_)
    have HK := Lib.hid hK; clear hK
    go_simp
    try rw [hU_R1]
    refine HK.out _ _ (fun _ => ⟨⟨R1.drew, fun N hN => (hk_R1 N hN.2).trans (hk_R0 N hN.1)⟩, rfl⟩) ?_
    clear HK K
    replace B_R0 := B_R0.keep (hk_R1 _ (by omega))
    have Hb_R1 := Lib.hid (hb_R1 _ _ Hb_R0.out (by first | omega | exact Nat.le_refl _))
    have hkk_R1 : ∀ N, N ≠ w.heap.size + 1 → N ≠ w.heap.size + 1 + 1 →  R1.heap[N]? = V7.heap[N]? := fun N q0 q1 => (hk_R1 N q1).trans (hkk_R0 N q0 q1)
    clear hU_R1 hs_R1 hb_R1
    refine oneS 5 (by kernel_rfl) rfl rfl rfl (fun K hK => ?_)
    have HK := Lib.hid hK; clear hK
    go_simp
    refine HK.out _ _ (fun _ => ⟨⟨R1.drew, fun N hN => (hk_R1 N hN.2).trans (hk_R0 N hN.1)⟩, rfl⟩) ?_
    clear HK K
    refine doneS (by kernel_rfl) ?_
    obtain ⟨c10, c11, c12, c13, f10, f11, f12, f13, lt1⟩ := B_R0.c4
    obtain ⟨c20, c21, c22, c23, f20, f21, f22, f23, lt2⟩ := B_R1.c4
    go_wp2_with fail
    refine bodyPost_ret (v := .tuple #[.agg #[.slice A d.secs.length ac, .slice B d.cache.length bc, .int .i64 next, .slice none 0 0], .agg #[.int .i64 tk, .int .i64 1, .int .i64 page, .string (d.read (2 * page + 1).toNat ++ d.read (2 * page + 1 + 1).toNat)], .int .i64 0]) (by simp [results, Tryz.results24, go_sem, c10, c11, c12, c13, c20, c21, c22, c23]) rfl ?_
    have hmf := Hm.out.1.up Hb_R1.out
    exact ⟨rfl, ⟨hmf, Sl.nil⟩, Hb_R1.out.drew⟩
  · obtain ⟨c00, c01, c02, c03, f00, f01, f02, f03, lt0⟩ := B0.c4
    obtain ⟨c10, c11, c12, c13, f10, f11, f12, f13, lt1⟩ := B1.c4
    obtain ⟨c20, c21, c22, c23, f20, f21, f22, f23, lt2⟩ := B2.c4
    go_enter Tryz.func24, Tryz.ntmps24
    go_wp2_with fail
    refine (devRight_any W _ _ _ ⟨d, next, [⟨tk, 1, page, ⟨#[]⟩⟩]⟩ Hg.out (Hm.out.up HbW.out)).mono ?_
    rintro e V1 ⟨rfl, hb_V1⟩
    clear c00 c01 c02 c03 f00 f01 f02 f03 lt0 c10 c11 c12 c13 f10 f11 f12 f13 lt1 c20 c21 c22 c23 f20 f21 f22 f23 lt2 hW
    replace B0 := B0.up hb_V1
    replace B1 := B1.up hb_V1
    replace B2 := B2.up hb_V1
    have Hb1 := Lib.hid (HbW.out.trans (hb_V1.mono hsW'))
    have hs_V1 := hb_V1.size
    clear hb_V1
    obtain ⟨c00, c01, c02, c03, f00, f01, f02, f03, lt0⟩ := B0.c4
    obtain ⟨c10, c11, c12, c13, f10, f11, f12, f13, lt1⟩ := B1.c4
    obtain ⟨c20, c21, c22, c23, f20, f21, f22, f23, lt2⟩ := B2.c4
    obtain ⟨g0, g1, g2, g3⟩ := Hcell.out V1 Hb1.out
    simp only [Nat.zero_mul, Nat.add_zero] at g0 g1 g2 g3
    have hbV1 : b < V1.heap.size := by have := Hb1.out.size; omega
    go_upto_region 4 with fail
    obtain ⟨V2, hV2⟩ : ∃ V2, V1.alloc (.cells #[.int .i64 tk, .int .i64 1, .int .i64 page, .string ⟨#[]⟩] 81) = V2 := ⟨_, rfl⟩
    rw [hV2]
    have hb2 : Below V1.heap.size V1 V2 := by rw [← hV2]; exact (Below.refl _ _).alloc (Nat.le_refl _) _
    have B3 : Bx V1.heap.size 81 #[.int .i64 tk, .int .i64 1, .int .i64 page, .string ⟨#[]⟩] V2 := by rw [← hV2]; exact Bx.new _ _ _
    have hMs := lt2
    obtain ⟨M, hM⟩ : ∃ M, V1.heap.size = M := ⟨_, rfl⟩
    rw [hM] at B3 hMs ⊢
    clear hV2 g0 g1 g2 g3 c00 c01 c02 c03 f00 f01 f02 f03 lt0 c10 c11 c12 c13 f10 f11 f12 f13 lt1 c20 c21 c22 c23 f20 f21 f22 f23 lt2
    replace B0 := B0.up hb2; replace B1 := B1.up hb2; replace B2 := B2.up hb2
    have Hb2 := Lib.hid (Hb1.out.trans (hb2.mono Hb1.out.size))
    clear hb2 hM
    obtain ⟨c00, c01, c02, c03, f00, f01, f02, f03, lt0⟩ := B0.c4
    obtain ⟨c10, c11, c12, c13, f10, f11, f12, f13, lt1⟩ := B1.c4
    obtain ⟨c20, c21, c22, c23, f20, f21, f22, f23, lt2⟩ := B2.c4
    obtain ⟨c30, c31, c32, c33, f30, f31, f32, f33, lt3⟩ := B3.c4
    refine wp_region_S 11 (fun U => ∃ y : BW V2, U = y.w) (by kernel_rfl) rfl rfl ?_
    have n03 := bw_cell c03 lt0
    have HC : Hid (∃ y : BW V2, V2.drew = y.w) := Lib.hid ⟨⟨_, (Below.refl _ _).drew⟩, rfl⟩
    clear c00 c01 c02 c03 f00 f01 f02 f03 c10 c11 c12 c13 f10 f11 f12 f13 c20 c21 c22 c23 f20 f21 f22 f23 c30 c31 c32 c33 f30 f31 f32 f33
    refine pureS 0 rfl (by kernel_rfl) rfl (fun _ _ _ _ _ h => h) HC.out ?_
    go_big_quiet_step (fail)
    refine wpQuiet_nil ?_
    refine pureS 1 rfl (by kernel_rfl) rfl (fun _ _ _ _ _ h => h) HC.out ?_
    go_big_quiet_step (fail)
    refine wpQuiet_nil ?_
    refine pureS 2 rfl (by kernel_rfl) rfl (fun _ _ _ _ _ h => h) HC.out ?_
    go_big_quiet_step (fail)
    refine wpQuiet_nil ?_
    refine pureS 3 rfl (by kernel_rfl) rfl (fun _ _ _ _ _ h => h) HC.out ?_
    go_big_quiet_step (fail)
    refine wpQuiet_nil ?_
    refine pureS 4 rfl (by kernel_rfl) rfl (fun _ _ _ _ _ h => h) HC.out ?_
    go_big_quiet_step (fail)
    refine wpQuiet_nil ?_
    refine pureS 5 rfl (by kernel_rfl) rfl (fun _ _ _ _ _ h => h) HC.out ?_
    go_big_quiet_step (fail)
    refine wpQuiet_nil ?_
    refine pureS 6 rfl (by kernel_rfl) rfl (fun _ _ _ _ _ h => h) HC.out ?_
    go_big_quiet_step (fail)
    refine wpQuiet_nil ?_
    refine pureS 7 rfl (by kernel_rfl) rfl (fun _ _ _ _ _ h => h) HC.out ?_
    go_big_quiet_step (fail)
    refine wpQuiet_nil ?_
    refine pureS 8 rfl (by kernel_rfl) rfl (fun _ _ _ _ _ h => h) HC.out ?_
    go_big_quiet_step (fail)
    refine wpQuiet_nil ?_
    refine oneS 9 (by kernel_rfl) rfl rfl rfl (fun K hK => ?_)
    have HK := Lib.hid hK; clear hK
    go_simp
    refine HK.out _ _ (fun _ => ⟨⟨_, ((Below.refl _ V2).alloc (Nat.le_refl _) _).drew⟩, rfl⟩) ?_
    clear HK K
    obtain ⟨V3, hV3⟩ : ∃ V3, (V2.alloc (.cells #[.slice (some ⟨b, off, none⟩) 0 fc, .slice (some ⟨b, off + 4, none⟩) 0 (fc - 1)] 35)).drew = V3 := ⟨_, rfl⟩
    rw [hV3]
    have hb3 : Below V2.heap.size V2 V3 := by rw [← hV3]; exact ((Below.refl _ V2).alloc (Nat.le_refl _) _).drew
    have BC : Bx V2.heap.size 35 #[.slice (some ⟨b, off, none⟩) 0 fc, .slice (some ⟨b, off + 4, none⟩) 0 (fc - 1)] V3 := by rw [← hV3]; exact Bx.new V2 _ _
    refine oneS 10 (by kernel_rfl) rfl rfl rfl (fun K hK => ?_)
    have HK := Lib.hid hK; clear hK
    go_simp
    refine (concat_nil_Rq _ _ _ _ _ _ BC).mono ?_
    rintro e U ⟨rfl, rfl⟩
    refine HK.out _ _ (fun _ => ⟨⟨_, hb3⟩, rfl⟩) ?_
    clear HK K hV3 BC
    replace B0 := B0.upB hb3 lt0; replace B1 := B1.upB hb3 lt1; replace B2 := B2.upB hb3 lt2; replace B3 := B3.upB hb3 lt3
    have Hb3 := Lib.hid (Hb2.out.trans (hb3.mono Hb2.out.size))
    clear hb3 lt0 lt1 lt2 lt3
    obtain ⟨c00, c01, c02, c03, f00, f01, f02, f03, lt0⟩ := B0.c4
    obtain ⟨c10, c11, c12, c13, f10, f11, f12, f13, lt1⟩ := B1.c4
    obtain ⟨c20, c21, c22, c23, f20, f21, f22, f23, lt2⟩ := B2.c4
    obtain ⟨c30, c31, c32, c33, f30, f31, f32, f33, lt3⟩ := B3.c4
    refine oneS 11 (by kernel_rfl) rfl rfl rfl (fun K hK => ?_)
    have HK := Lib.hid hK; clear hK
    go_simp
    refine HK.out _ _ (fun h => absurd h (by decide)) ?_
    clear HK K
    refine oneS 12 (by kernel_rfl) rfl rfl rfl (fun K hK => ?_)
    have HK := Lib.hid hK; clear hK
    go_simp
    refine HK.out _ _ (fun h => absurd h (by decide)) ?_
    clear HK K
    refine doneS (by kernel_rfl) ?_
    obtain ⟨V4, hV4, B0', hk4, hs4, hb4⟩ := st_4_3_1 (.slice none 0 0) B0
    rw [hV4]
    replace B1 := B1.keep (hk4 _ (by omega)); replace B2 := B2.keep (hk4 _ (by omega)); replace B3 := B3.keep (hk4 _ (by omega))
    have Hb4 := Lib.hid (hb4 _ _ Hb3.out (Nat.le_refl _))
    clear hV4 hk4 hs4 hb4 B0 Hb3 c00 c01 c02 c03 f00 f01 f02 f03 lt0 c10 c11 c12 c13 f10 f11 f12 f13 lt1 c20 c21 c22 c23 f20 f21 f22 f23 lt2 c30 c31 c32 c33 f30 f31 f32 f33 lt3
    have B0 := B0'
    clear B0'
    obtain ⟨c00, c01, c02, c03, f00, f01, f02, f03, lt0⟩ := B0.c4
    obtain ⟨c10, c11, c12, c13, f10, f11, f12, f13, lt1⟩ := B1.c4
    obtain ⟨c20, c21, c22, c23, f20, f21, f22, f23, lt2⟩ := B2.c4
    obtain ⟨c30, c31, c32, c33, f30, f31, f32, f33, lt3⟩ := B3.c4
    have hz1 : (d.read (2 * page + 1).toNat).size ≤ 16 := by rw [read_size Hg.out.disk (by omega)]; exact Nat.le_refl _
    have hz2 : (d.read (2 * page + 1 + 1).toNat).size ≤ 16 := by rw [read_size Hg.out.disk (by omega)]; exact Nat.le_refl _
    go_upto_region 10 with fail
    refine wp_region_S 11 (fun U => ∃ y : BW V4, U = y.w) (by kernel_rfl) rfl rfl ?_
    have n_c00 := bw_cell c00 lt0
    have n_c01 := bw_cell c01 lt0
    have n_c32 := bw_cell c32 lt3
    have HC : Hid (∃ y : BW V4, V4.drew = y.w) := Lib.hid ⟨⟨_, (Below.refl _ _).drew⟩, rfl⟩
    clear c00 c01 c02 c03 f00 f01 f02 f03 c10 c11 c12 c13 f10 f11 f12 f13 c20 c21 c22 c23 f20 f21 f22 f23 c30 c31 c32 c33 f30 f31 f32 f33
    refine pureS 0 rfl (by kernel_rfl) rfl (fun _ _ _ _ _ h => h) HC.out ?_
    go_big_quiet_step (fail)
    refine wpQuiet_nil ?_
    refine pureS 1 rfl (by kernel_rfl) rfl (fun _ _ _ _ _ h => h) HC.out ?_
    go_big_quiet_step (fail)
    refine wpQuiet_nil ?_
    refine pureS 2 rfl (by kernel_rfl) rfl (fun _ _ _ _ _ h => h) HC.out ?_
    go_big_quiet_step (fail)
    refine wpQuiet_nil ?_
    refine pureS 3 rfl (by kernel_rfl) rfl (fun _ _ _ _ _ h => h) HC.out ?_
    go_big_quiet_step (fail)
    refine wpQuiet_nil ?_
    refine oneS 4 (by kernel_rfl) rfl rfl rfl (fun K hK => ?_)
    have HK := Lib.hid hK; clear hK
    go_simp
    refine (home_any _ page (by omega) (by omega)).mono ?_
    rintro e U ⟨rfl, rfl⟩
    refine HK.out _ _ (fun _ => HC.out) ?_
    clear HK K
    refine oneS 5 (by kernel_rfl) rfl rfl rfl (fun K hK => ?_)
    have HK := Lib.hid hK; clear hK
    go_simp
    have hrd := read_any V4.drew (.slice A d.secs.length ac) (.slice B d.cache.length bc) d (2 * page + 1).toNat Hg.out.disk (by omega) (Hm.out.1.up (Hb4.out.drew))
    rw [show (((2 * page + 1).toNat : Nat) : Int) = 2 * page + 1 from by omega] at hrd
    try rw [IntWalk.i64_in _ (by omega)]
    refine hrd.mono ?_
    clear hrd
    rintro e V5 ⟨rfl, hbU⟩
    have hbU' : Below V4.heap.size V4 V5 := (Below.refl _ V4).drew.trans hbU
    have HC2 : Hid (∃ y : BW V4, V5 = y.w) := Lib.hid ⟨⟨_, hbU'⟩, rfl⟩
    have Hb5 := Lib.hid (Hb4.out.trans (hbU'.mono Hb4.out.size))
    replace B0 := B0.up hbU'; replace B1 := B1.up hbU'; replace B2 := B2.up hbU'; replace B3 := B3.up hbU'
    refine HK.out _ _ (fun _ => HC2.out) ?_
    clear HK K hbU hbU' n_c00 n_c01 n_c32 lt0 lt1 lt2 lt3 HC
    refine pureS 6 rfl (by kernel_rfl) rfl (fun _ _ _ _ _ h => h) HC2.out ?_
    go_big_quiet_step (fail)
    refine wpQuiet_nil ?_
    refine pureS 7 rfl (by kernel_rfl) rfl (fun _ _ _ _ _ h => h) HC2.out ?_
    go_big_quiet_step (fail)
    refine wpQuiet_nil ?_
    refine pureS 8 rfl (by kernel_rfl) rfl (fun _ _ _ _ _ h => h) HC2.out ?_
    go_big_quiet_step (fail)
    refine wpQuiet_nil ?_
    refine pureS 9 rfl (by kernel_rfl) rfl (fun _ _ _ _ _ h => h) HC2.out ?_
    go_big_quiet_step (fail)
    refine wpQuiet_nil ?_
    refine pureS 10 rfl (by kernel_rfl) rfl (fun _ _ _ _ _ h => h) HC2.out ?_
    go_big_quiet_step (fail)
    refine wpQuiet_nil ?_
    refine doneS (by kernel_rfl) ?_
    clear HC2
    obtain ⟨c00, c01, c02, c03, f00, f01, f02, f03, lt0⟩ := B0.c4
    obtain ⟨c10, c11, c12, c13, f10, f11, f12, f13, lt1⟩ := B1.c4
    obtain ⟨c20, c21, c22, c23, f20, f21, f22, f23, lt2⟩ := B2.c4
    obtain ⟨c30, c31, c32, c33, f30, f31, f32, f33, lt3⟩ := B3.c4
    go_upto_region 11 with fail
    refine wp_region_S 12 (fun U => ∃ y : BW V5, U = y.w) (by kernel_rfl) rfl rfl ?_
    have n_c00 := bw_cell c00 lt0
    have n_c01 := bw_cell c01 lt0
    have n_c32 := bw_cell c32 lt3
    have HC : Hid (∃ y : BW V5, V5.drew = y.w) := Lib.hid ⟨⟨_, (Below.refl _ _).drew⟩, rfl⟩
    clear c00 c01 c02 c03 f00 f01 f02 f03 c10 c11 c12 c13 f10 f11 f12 f13 c20 c21 c22 c23 f20 f21 f22 f23 c30 c31 c32 c33 f30 f31 f32 f33
    refine pureS 0 rfl (by kernel_rfl) rfl (fun _ _ _ _ _ h => h) HC.out ?_
    go_big_quiet_step (fail)
    refine wpQuiet_nil ?_
    refine pureS 1 rfl (by kernel_rfl) rfl (fun _ _ _ _ _ h => h) HC.out ?_
    go_big_quiet_step (fail)
    refine wpQuiet_nil ?_
    refine pureS 2 rfl (by kernel_rfl) rfl (fun _ _ _ _ _ h => h) HC.out ?_
    go_big_quiet_step (fail)
    refine wpQuiet_nil ?_
    refine pureS 3 rfl (by kernel_rfl) rfl (fun _ _ _ _ _ h => h) HC.out ?_
    go_big_quiet_step (fail)
    refine wpQuiet_nil ?_
    refine oneS 4 (by kernel_rfl) rfl rfl rfl (fun K hK => ?_)
    have HK := Lib.hid hK; clear hK
    go_simp
    refine (home_any _ page (by omega) (by omega)).mono ?_
    rintro e U ⟨rfl, rfl⟩
    refine HK.out _ _ (fun _ => HC.out) ?_
    clear HK K
    refine pureS 5 rfl (by kernel_rfl) rfl (fun _ _ _ _ _ h => h) HC.out ?_
    go_big_quiet_step (fail)
    refine wpQuiet_nil ?_
    refine oneS 6 (by kernel_rfl) rfl rfl rfl (fun K hK => ?_)
    have HK := Lib.hid hK; clear hK
    go_simp
    have hrd := read_any V5.drew (.slice A d.secs.length ac) (.slice B d.cache.length bc) d (2 * page + 1 + 1).toNat Hg.out.disk (by omega) (Hm.out.1.up (Hb5.out.drew))
    rw [show (((2 * page + 1 + 1).toNat : Nat) : Int) = 2 * page + 1 + 1 from by omega] at hrd
    try rw [IntWalk.i64_in _ (by omega)]
    refine hrd.mono ?_
    clear hrd
    rintro e V6 ⟨rfl, hbU⟩
    have hbU' : Below V5.heap.size V5 V6 := (Below.refl _ V5).drew.trans hbU
    have HC2 : Hid (∃ y : BW V5, V6 = y.w) := Lib.hid ⟨⟨_, hbU'⟩, rfl⟩
    have Hb6 := Lib.hid (Hb5.out.trans (hbU'.mono Hb5.out.size))
    replace B0 := B0.up hbU'; replace B1 := B1.up hbU'; replace B2 := B2.up hbU'; replace B3 := B3.up hbU'
    refine HK.out _ _ (fun _ => HC2.out) ?_
    clear HK K hbU hbU' n_c00 n_c01 n_c32 lt0 lt1 lt2 lt3 HC
    refine pureS 7 rfl (by kernel_rfl) rfl (fun _ _ _ _ _ h => h) HC2.out ?_
    go_big_quiet_step (fail)
    refine wpQuiet_nil ?_
    refine pureS 8 rfl (by kernel_rfl) rfl (fun _ _ _ _ _ h => h) HC2.out ?_
    go_big_quiet_step (fail)
    refine wpQuiet_nil ?_
    refine pureS 9 rfl (by kernel_rfl) rfl (fun _ _ _ _ _ h => h) HC2.out ?_
    go_big_quiet_step (fail)
    refine wpQuiet_nil ?_
    refine pureS 10 rfl (by kernel_rfl) rfl (fun _ _ _ _ _ h => h) HC2.out ?_
    go_big_quiet_step (fail)
    refine wpQuiet_nil ?_
    refine pureS 11 rfl (by kernel_rfl) rfl (fun _ _ _ _ _ h => h) HC2.out ?_
    go_big_quiet_step (fail)
    refine wpQuiet_nil ?_
    refine doneS (by kernel_rfl) ?_
    clear HC2
    obtain ⟨c00, c01, c02, c03, f00, f01, f02, f03, lt0⟩ := B0.c4
    obtain ⟨c10, c11, c12, c13, f10, f11, f12, f13, lt1⟩ := B1.c4
    obtain ⟨c20, c21, c22, c23, f20, f21, f22, f23, lt2⟩ := B2.c4
    obtain ⟨c30, c31, c32, c33, f30, f31, f32, f33, lt3⟩ := B3.c4
    go_upto_region 17 with fail
    obtain ⟨V7, hV7, B3', hk7, hs7, hb7⟩ := st_4_3_1 (.string (d.read (2 * page + 1).toNat ++ d.read (2 * page + 1 + 1).toNat)) B3
    try rw [hV7]
    replace B0 := B0.keep (hk7 _ (by omega)); replace B1 := B1.keep (hk7 _ (by omega)); replace B2 := B2.keep (hk7 _ (by omega))
    have Hb7 := Lib.hid (hb7 _ _ Hb6.out (by omega))
    clear hV7 hk7 hs7 hb7 B3 c00 c01 c02 c03 f00 f01 f02 f03 lt0 c10 c11 c12 c13 f10 f11 f12 f13 lt1 c20 c21 c22 c23 f20 f21 f22 f23 lt2 c30 c31 c32 c33 f30 f31 f32 f33 lt3
    have B3 := B3'
    clear B3'
    obtain ⟨c00, c01, c02, c03, f00, f01, f02, f03, lt0⟩ := B0.c4
    obtain ⟨c10, c11, c12, c13, f10, f11, f12, f13, lt1⟩ := B1.c4
    obtain ⟨c20, c21, c22, c23, f20, f21, f22, f23, lt2⟩ := B2.c4
    obtain ⟨c30, c31, c32, c33, f30, f31, f32, f33, lt3⟩ := B3.c4
    refine wp_region_S 6 (fun U => ∃ y : KW V7 (fun N => N ≠ w.heap.size + 1 ∧ N ≠ w.heap.size + 1 + 1), U = y.w) (by kernel_rfl) rfl rfl ?_
    have n_c00 := kw_cell c00 (ok := fun N => N ≠ w.heap.size + 1 ∧ N ≠ w.heap.size + 1 + 1) (by first | omega | exact ⟨by omega, by omega⟩)
    have n_c01 := kw_cell c01 (ok := fun N => N ≠ w.heap.size + 1 ∧ N ≠ w.heap.size + 1 + 1) (by first | omega | exact ⟨by omega, by omega⟩)
    have n_c02 := kw_cell c02 (ok := fun N => N ≠ w.heap.size + 1 ∧ N ≠ w.heap.size + 1 + 1) (by first | omega | exact ⟨by omega, by omega⟩)
    have n_c03 := kw_cell c03 (ok := fun N => N ≠ w.heap.size + 1 ∧ N ≠ w.heap.size + 1 + 1) (by first | omega | exact ⟨by omega, by omega⟩)
    have n_c30 := kw_cell c30 (ok := fun N => N ≠ w.heap.size + 1 ∧ N ≠ w.heap.size + 1 + 1) (by first | omega | exact ⟨by omega, by omega⟩)
    have n_c31 := kw_cell c31 (ok := fun N => N ≠ w.heap.size + 1 ∧ N ≠ w.heap.size + 1 + 1) (by first | omega | exact ⟨by omega, by omega⟩)
    have n_c32 := kw_cell c32 (ok := fun N => N ≠ w.heap.size + 1 ∧ N ≠ w.heap.size + 1 + 1) (by first | omega | exact ⟨by omega, by omega⟩)
    have n_c33 := kw_cell c33 (ok := fun N => N ≠ w.heap.size + 1 ∧ N ≠ w.heap.size + 1 + 1) (by first | omega | exact ⟨by omega, by omega⟩)
    have HC : Hid (∃ y : KW V7 (fun N => N ≠ w.heap.size + 1 ∧ N ≠ w.heap.size + 1 + 1), V7.drew = y.w) := Lib.hid ⟨⟨V7.drew, fun _ _ => rfl⟩, rfl⟩
    refine pureS 0 rfl (by kernel_rfl) rfl (fun _ _ _ _ _ h => h) HC.out ?_
    go_big_quiet_step (fail)
    refine wpQuiet_nil ?_
    refine pureS 1 rfl (by kernel_rfl) rfl (fun _ _ _ _ _ h => h) HC.out ?_
    go_big_quiet_step (fail)
    refine wpQuiet_nil ?_
    refine pureS 2 rfl (by kernel_rfl) rfl (fun _ _ _ _ _ h => h) HC.out ?_
    go_big_quiet_step (fail)
    refine wpQuiet_nil ?_
    obtain ⟨R0, hU_R0, B_R0, hk_R0, hs_R0, hb_R0⟩ := st_4_0_4 (.slice A d.secs.length ac) (.slice B d.cache.length bc) (.int .i64 next) (.slice none 0 0) B1
    refine oneS 3 (by kernel_rfl) rfl rfl rfl (fun K hK => ?_)
    have HK := Lib.hid hK; clear hK
    go_simp
    try rw [hU_R0]
    refine HK.out _ _ (fun _ => ⟨⟨R0.drew, fun N hN => hk_R0 N hN.1⟩, rfl⟩) ?_
    clear HK K
    replace B2 := B2.keep (hk_R0 _ (by omega))
    have Hb_R0 := Lib.hid (hb_R0 _ _ Hb7.out (by first | omega | exact Nat.le_refl _))
    have hkk_R0 : ∀ N, N ≠ w.heap.size + 1 → N ≠ w.heap.size + 1 + 1 →  R0.heap[N]? = V7.heap[N]? := fun N q0 q1 => hk_R0 N q0
    clear hU_R0 hs_R0 hb_R0
    clear c10 c11 c12 c13 f10 f11 f12 f13 lt1 c20 c21 c22 c23 f20 f21 f22 f23 lt2
    obtain ⟨c20, c21, c22, c23, f20, f21, f22, f23, lt2⟩ := B2.c4
    obtain ⟨R1, hU_R1, B_R1, hk_R1, hs_R1, hb_R1⟩ := st_4_0_4 (.int .i64 tk) (.int .i64 1) (.int .i64 page) (.string (d.read (2 * page + 1).toNat ++ d.read (2 * page + 1 + 1).toNat)) B2
    refine oneS 4 (by kernel_rfl) rfl rfl rfl (fun K hK => ?_)
    have HK := Lib.hid hK; clear hK
    go_simp
    try rw [hU_R1]
    refine HK.out _ _ (fun _ => ⟨⟨R1.drew, fun N hN => (hk_R1 N hN.2).trans (hk_R0 N hN.1)⟩, rfl⟩) ?_
    clear HK K
    replace B_R0 := B_R0.keep (hk_R1 _ (by omega))
    have Hb_R1 := Lib.hid (hb_R1 _ _ Hb_R0.out (by first | omega | exact Nat.le_refl _))
    have hkk_R1 : ∀ N, N ≠ w.heap.size + 1 → N ≠ w.heap.size + 1 + 1 →  R1.heap[N]? = V7.heap[N]? := fun N q0 q1 => (hk_R1 N q1).trans (hkk_R0 N q0 q1)
    clear hU_R1 hs_R1 hb_R1
    refine oneS 5 (by kernel_rfl) rfl rfl rfl (fun K hK => ?_)
    have HK := Lib.hid hK; clear hK
    go_simp
    refine HK.out _ _ (fun _ => ⟨⟨R1.drew, fun N hN => (hk_R1 N hN.2).trans (hk_R0 N hN.1)⟩, rfl⟩) ?_
    clear HK K
    refine doneS (by kernel_rfl) ?_
    obtain ⟨c10, c11, c12, c13, f10, f11, f12, f13, lt1⟩ := B_R0.c4
    obtain ⟨c20, c21, c22, c23, f20, f21, f22, f23, lt2⟩ := B_R1.c4
    go_wp2_with fail
    refine bodyPost_ret (v := .tuple #[.agg #[.slice A d.secs.length ac, .slice B d.cache.length bc, .int .i64 next, .slice none 0 0], .agg #[.int .i64 tk, .int .i64 1, .int .i64 page, .string (d.read (2 * page + 1).toNat ++ d.read (2 * page + 1 + 1).toNat)], .int .i64 0]) (by simp [results, Tryz.results24, go_sem, c10, c11, c12, c13, c20, c21, c22, c23]) rfl ?_
    have hmf := Hm.out.1.up Hb_R1.out
    exact ⟨rfl, ⟨hmf, Sl.nil⟩, Hb_R1.out.drew⟩
end Go.Proofs.YthiblfkmcdnalaaGreat
