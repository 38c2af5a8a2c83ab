/- The contract of device.Submit at good devices. Printed by gen_submit.py. -/
import Derived.Test.YthiblfkmcdnalaaGreatTDev0
namespace Go.Proofs.YthiblfkmcdnalaaGreat
set_option maxRecDepth 1000000
open Go.RowKit
set_option maxRecDepth 1000000

set_option maxHeartbeats 4000000 in
theorem submit_any (w : World) (s c f : Value) (d : Dv) (kind page : Int) (data : ByteArray) (hg : GDv d) (hn : d.next ≤ 999) (hr : GRq kind page data) (hm : MDv w s c f d) :
    Calls Tryz.prog 23 #[.agg #[s, c, .int .i64 d.next, f], .int .i64 kind, .int .i64 page, .string data] w fun e w' => ∃ f', e = .returned (.tuple #[.agg #[s, c, .int .i64 (d.next + 1), f'], .int .i64 d.next, .int .i64 0]) ∧
      MDv w' s c f' { d with next := d.next + 1, flight := d.flight ++ [⟨d.next, kind, page, data⟩] } ∧ Below w.heap.size w w' := by
  obtain ⟨⟨A, ac, rfl⟩, ⟨B, bc, rfl⟩, ⟨F, fc, rfl, _, _⟩⟩ := hm.len
  obtain ⟨W, hW, hbW, hsW, B0, B1⟩ := box2 w #[.slice A d.disk.secs.length ac, .slice B d.disk.cache.length bc, .int .i64 d.next, .slice F d.flight.length fc] 37 #[.slice none 0 0, .slice none 0 0, .int .i64 0, .slice none 0 0] 37
  have Hm := Lib.hid hm; have Hg := Lib.hid hg; have Hr := Lib.hid hr
  have HbW := Lib.hid hbW
  have hsW' := bsz hsW
  obtain ⟨hn0, hn1⟩ := hg.next
  have hf1 := hg.f1
  clear hm hg hr hbW hsW
  obtain ⟨c00, c01, c02, c03, f00, f01, f02, f03, lt0⟩ := B0.c4
  obtain ⟨c10, c11, c12, c13, f10, f11, f12, f13, lt1⟩ := B1.c4
  go_enter Tryz.func23, Tryz.ntmps23
  go_wp2_with fail
  refine (devRight_any W _ _ _ d Hg.out (Hm.out.up HbW.out)).mono ?_
  rintro e V1 ⟨rfl, hb_V1⟩
  clear c00 c01 c02 c03 f00 f01 f02 f03 lt0 c10 c11 c12 c13 f10 f11 f12 f13 lt1 hW
  replace B0 := B0.up hb_V1
  replace B1 := B1.up hb_V1
  have Hb1 := Lib.hid (HbW.out.trans (hb_V1.mono hsW'))
  have hs_V1 := hb_V1.size
  clear hb_V1
  obtain ⟨c00, c01, c02, c03, f00, f01, f02, f03, lt0⟩ := B0.c4
  obtain ⟨c10, c11, c12, c13, f10, f11, f12, f13, lt1⟩ := B1.c4
  go_wp2_with fail
  refine (request_any _ _ _ _ Hr.out).mono ?_
  rintro e V ⟨rfl, rfl⟩
  go_upto_region 7 with fail
  obtain ⟨V2, hV2⟩ : ∃ V2, V1.alloc (.cells #[.int .i64 d.next, .int .i64 kind, .int .i64 page, .string data] 81) = V2 := ⟨_, rfl⟩
  rw [hV2]
  have hb2 : Below V1.heap.size V1 V2 := by rw [← hV2]; exact (Below.refl _ _).alloc (Nat.le_refl _) _
  have B2 : Bx V1.heap.size 81 #[.int .i64 d.next, .int .i64 kind, .int .i64 page, .string data] V2 := by rw [← hV2]; exact Bx.new _ _ _
  have hMs := lt1
  obtain ⟨M, hM⟩ : ∃ M, V1.heap.size = M := ⟨_, rfl⟩
  rw [hM] at B2 hMs ⊢
  clear hV2 c00 c01 c02 c03 f00 f01 f02 f03 lt0 c10 c11 c12 c13 f10 f11 f12 f13 lt1
  replace B0 := B0.up hb2; replace B1 := B1.up hb2
  have Hb2 := Lib.hid (Hb1.out.trans (hb2.mono Hb1.out.size))
  clear hb2 hM
  obtain ⟨c00, c01, c02, c03, f00, f01, f02, f03, lt0⟩ := B0.c4
  obtain ⟨c10, c11, c12, c13, f10, f11, f12, f13, lt1⟩ := B1.c4
  obtain ⟨c20, c21, c22, c23, f20, f21, f22, f23, lt2⟩ := B2.c4
  refine wp_region_S 6 (fun U => ∃ y : BW V2, U = y.w) (by kernel_rfl) rfl rfl ?_
  have n_c03 := bw_cell c03 lt0
  have n_c20 := bw_cell c20 lt2
  have n_c21 := bw_cell c21 lt2
  have n_c22 := bw_cell c22 lt2
  have n_c23 := bw_cell c23 lt2
  have HC : Hid (∃ y : BW V2, V2.drew = y.w) := Lib.hid ⟨⟨_, (Below.refl _ _).drew⟩, rfl⟩
  clear c00 c01 c02 c03 f00 f01 f02 f03 c10 c11 c12 c13 f10 f11 f12 f13 c20 c21 c22 c23 f20 f21 f22 f23
  refine pureS 0 rfl (by kernel_rfl) rfl (fun _ _ _ _ _ h => h) HC.out ?_
  go_big_quiet_step (fail)
  refine wpQuiet_nil ?_
  refine pureS 1 rfl (by kernel_rfl) rfl (fun _ _ _ _ _ h => h) HC.out ?_
  go_big_quiet_step (fail)
  refine wpQuiet_nil ?_
  refine pureS 3 rfl (by kernel_rfl) rfl (fun _ _ _ _ _ h => h) HC.out ?_
  go_big_quiet_step (fail)
  refine wpQuiet_nil ?_
  refine thS2 (n := 2) [2] [4] (fun p U => ∃ A' c', p = [(some 43, .slice A' d.flight.length c')] ∧ U.ownsRow V2.heap.size 81 4 (.slice A' d.flight.length c') d.flight.length ((d.flight).flatMap Rq.cells))
    (fun p U => ∃ g, p = [(some 45, .slice (some ⟨g, 0, none⟩) 1 1)] ∧ Bx g 81 #[.int .i64 d.next, .int .i64 kind, .int .i64 page, .string data] U) rfl rfl (by kernel_rfl) rfl rfl (by kernel_rfl) (by rintro _ w' ⟨y, rfl⟩ hb; exact ⟨⟨w', y.below.trans (hb.mono y.below.size)⟩, rfl⟩) HC.out (Rob_one ?_ ?_) (Rob_one ?_ ?_) ?_
  · rintro p U U' ⟨A', c', rfl, ho⟩ hb
    exact ⟨A', c', rfl, own_up ho hb⟩
  · rintro U ⟨y, rfl⟩ hbU
    unfold Gives
    go_simp
    refine (clone_Rq Rq.cells rq_len rq_one y.w F fc d.flight (by omega) (Hm.out.2.rt.up (Hb2.out.trans (y.below.mono Hb2.out.size)))).mono ?_
    rintro e U' ⟨A', c', rfl, ho, hb⟩
    exact ⟨_, rfl, hb, A', c', rfl, own_base ho y.below.size⟩
  · rintro p U U' ⟨g, rfl, hB⟩ hb
    exact ⟨g, rfl, hB.up hb⟩
  · rintro U ⟨y, rfl⟩ hbU
    unfold Gives
    go_simp
    exact ⟨(Below.refl _ _).alloc (Nat.le_refl _) _, Bx.new _ _ _⟩
  intro K hK
  rintro p1 p2 U ⟨A', c', rfl, ho⟩ ⟨g, rfl, hBg⟩ ⟨y, rfl⟩ hbU
  have HK := Lib.hid hK; clear hK
  simp only [putsL]
  go_simp
  refine HK.out _ _ ⟨y, rfl⟩ ?_
  clear HK K
  have Ho := Lib.hid ho; clear ho
  have HBg := Lib.hid hBg; clear hBg
  have Hby := Lib.hid y.below
  obtain ⟨U0, hU0⟩ : ∃ U0, y.w = U0 := ⟨_, rfl⟩
  rw [hU0] at Ho HBg Hby ⊢
  clear hU0 hbU
  refine oneS 5 (by kernel_rfl) rfl rfl rfl (fun K hK => ?_)
  have HK := Lib.hid hK; clear hK
  obtain ⟨i0, hi0, hz0, hz1, hz2⟩ := info_parts Tryz.infRq
  have Hi0 := Lib.hid hi0; have Hz0 := Lib.hid hz0; have Hz1 := Lib.hid hz1; have Hz2 := Lib.hid hz2
  clear hi0 hz0 hz1 hz2
  refine wp_app (.tmp 43) (.tmp 45) 35 rfl V2.heap.size 81 i0 (.agg #[.int .i64 0, .int .i64 0, .int .i64 0, .string ⟨#[]⟩]) 4 40 Tryz.underlying35 Hi0.out Hz0.out Hz1.out Hz2.out rfl (by decide) rfl Ho.out (A := some ⟨g, 0, none⟩) (m := 1) (news := Rq.cells ⟨d.next, kind, page, data⟩) rfl rfl (by simp) ?_ (rq_one ⟨d.next, kind, page, data⟩) (by unfold maxLen; omega) (by omega) Hby.out.size ?_
  · rintro ad e j u hu
    injection e with e
    subst e
    rw [Addr.add_lit, Nat.zero_add]
    exact HBg.out.cell (by rw [← hu]; simp [Rq.cells])
  intro v' U6 ho6 hg6 _
  obtain ⟨A6, c6, rfl, hc6a, hc6b⟩ := own_slice ho6
  have hb6 : Below V2.heap.size V2 U6 := Hby.out.grown hg6 Hby.out.size (fun q hq => (Ho.out.lt q hq).1)
  have Ho6 := Lib.hid ho6; have Hb6 := Lib.hid hb6
  clear ho6 hg6 hb6
  go_simp
  refine HK.out _ _ (fun _ => ⟨⟨U6, Hb6.out⟩, rfl⟩) ?_
  clear HK K
  replace B0 := B0.upB Hb6.out lt0
  replace B1 := B1.upB Hb6.out lt1
  replace B2 := B2.upB Hb6.out lt2
  clear lt0 lt1 lt2
  obtain ⟨c00, c01, c02, c03, f00, f01, f02, f03, lt0⟩ := B0.c4
  obtain ⟨c10, c11, c12, c13, f10, f11, f12, f13, lt1⟩ := B1.c4
  obtain ⟨c20, c21, c22, c23, f20, f21, f22, f23, lt2⟩ := B2.c4
  refine oneS 6 (by kernel_rfl) rfl rfl rfl (fun K hK => ?_)
  have HK := Lib.hid hK; clear hK
  go_simp
  refine HK.out _ _ (fun h => absurd h (by decide)) ?_
  clear HK K
  refine oneS 7 (by kernel_rfl) rfl rfl rfl (fun K hK => ?_)
  have HK := Lib.hid hK; clear hK
  go_simp
  refine HK.out _ _ (fun h => absurd h (by decide)) ?_
  clear HK K
  refine doneS (by kernel_rfl) ?_
  have hm6 := (Sl.of_own (f := Rq.cells) (l := d.flight ++ [⟨d.next, kind, page, data⟩]) (by rw [List.flatMap_append]; simpa using Ho6.out) (by simp) rq_len (by decide))
  obtain ⟨U7, hU7, B0', hk7, hs7, hb7⟩ := st_4_3_1 (.slice A6 (d.flight.length + 1) c6) B0
  rw [hU7]
  have hm7 := hm6.off B0 (by decide) hk7
  have B1' := B1.keep (hk7 _ (by omega))
  have Hb7 := Lib.hid (hb7 _ _ (Hb2.out.trans (Hb6.out.mono Hb2.out.size)) (Nat.le_refl _))
  have Hm7 := Lib.hid hm7
  clear hm6 hm7 hU7 hk7 hs7 hb7 B0 B1 B2 Hb6 Ho6 Ho HBg Hby c00 c01 c02 c03 f00 f01 f02 f03 lt0 c10 c11 c12 c13 f10 f11 f12 f13 lt1 c20 c21 c22 c23 f20 f21 f22 f23 lt2
  obtain ⟨c00, c01, c02, c03, f00, f01, f02, f03, lt0⟩ := B0'.c4
  obtain ⟨c10, c11, c12, c13, f10, f11, f12, f13, lt1⟩ := B1'.c4
  go_upto_region 9 with fail
  obtain ⟨U8, hU8, B0, hk8, hs8, hb8⟩ := st_4_2_1 (.int .i64 (d.next + 1)) B0'
  rw [hU8]
  have hm8 := Hm7.out.off B0' (by decide) hk8
  have B1 := B1'.keep (hk8 _ (by omega))
  have Hb8 := Lib.hid (hb8 _ _ Hb7.out (Nat.le_refl _))
  have Hm8 := Lib.hid hm8
  clear hm8 hU8 hk8 hs8 hb8 B0' B1' Hb7 Hm7 c00 c01 c02 c03 f00 f01 f02 f03 lt0 c10 c11 c12 c13 f10 f11 f12 f13 lt1
  obtain ⟨c00, c01, c02, c03, f00, f01, f02, f03, lt0⟩ := B0.c4
  obtain ⟨c10, c11, c12, c13, f10, f11, f12, f13, lt1⟩ := B1.c4
  go_wp2_with fail
  refine bodyPost_ret (v := .tuple #[.agg #[.slice A d.disk.secs.length ac, .slice B d.disk.cache.length bc, .int .i64 (d.next + 1), .slice A6 (d.flight.length + 1) c6], .int .i64 d.next, .int .i64 0]) (by simp [results, Tryz.results23, go_sem, c10, c11, c12, c13]) rfl ?_
  obtain ⟨U9, hU9, _, hk9, _, hb9⟩ := st_4_0_4 (.slice A d.disk.secs.length ac) (.slice B d.disk.cache.length bc) (.int .i64 (d.next + 1)) (.slice A6 (d.flight.length + 1) c6) B1
  rw [hU9]
  have hb := hb9 _ _ Hb8.out (by omega)
  exact ⟨_, rfl, ⟨Hm.out.1.up hb, Hm8.out.off B1 (by decide) hk9⟩, hb⟩
end Go.Proofs.YthiblfkmcdnalaaGreat
