/- The contract of disk.Put at good disks. -/
import Derived.Test.YthiblfkmcdnalaaGreatTDisk0
import Derived.Test.YthiblfkmcdnalaaGreatTBox
namespace Go.Proofs.YthiblfkmcdnalaaGreat
set_option maxRecDepth 1000000
open Go.RowKit
set_option maxRecDepth 1000000

section
variable {α : Type} {f : α → List Value} {sz : Nat} {t : TypeId} {w : World} {A : Option Addr} {n cap : Nat} {l : List α}
theorem Sl.rt (h : Sl f sz t w (.slice A n cap) l) : Rt f sz t w A l := by
  obtain ⟨A', cap', e, _, _, hr⟩ := h
  injection e with e1 e2 e3
  rw [e1]
  exact hr
end
theorem MDk.len {w : World} {s c : Value} {d : Dk} (h : MDk w s c d) : (∃ A ac, s = .slice A d.secs.length ac) ∧ ∃ B bc, c = .slice B d.cache.length bc := by
  obtain ⟨⟨A, ac, rfl, _⟩, ⟨B, bc, rfl, _⟩⟩ := h
  exact ⟨⟨A, ac, rfl⟩, ⟨B, bc, rfl⟩⟩

set_option maxHeartbeats 4000000 in
theorem put_any (w : World) (s c : Value) (d : Dk) (x : Wr) (hg : GDk d) (hx : GWr x) (h200 : d.cache.length < 200) (hm : MDk w s c d) :
    Calls Tryz.prog 74 #[.agg #[s, c], .agg #[.int .i64 x.pos, .string x.data]] w fun e w' => ∃ c', e = .returned (.tuple #[.agg #[s, c'], .int .i64 0]) ∧ MDk w' s c' { d with cache := d.cache ++ [x] } ∧ Below w.heap.size w w' := by
  obtain ⟨⟨A, ac, rfl⟩, ⟨B, bc, rfl⟩⟩ := hm.len
  obtain ⟨W, hW, hbW, hsW, B0, B1, B2⟩ := box3 w #[.slice A d.secs.length ac, .slice B d.cache.length bc] 27 #[.int .i64 x.pos, .string x.data] 169 #[.slice none 0 0, .slice none 0 0] 27
  have Hm := Lib.hid hm; have Hg := Lib.hid hg; have Hx := Lib.hid hx
  have HbW := Lib.hid hbW
  have hsW' := bsz hsW
  clear hsW
  obtain ⟨i0, hi0, hz0, hz1, hz2⟩ := info_parts Tryz.infWr
  have Hi0 := Lib.hid hi0; have Hz0 := Lib.hid hz0; have Hz1 := Lib.hid hz1; have Hz2 := Lib.hid hz2
  clear hm hg hx hbW hi0 hz0 hz1 hz2
  obtain ⟨c00, c01, f00, f01, lt0⟩ := B0.c2
  obtain ⟨c10, c11, f10, f11, lt1⟩ := B1.c2
  obtain ⟨c20, c21, f20, f21, lt2⟩ := B2.c2
  go_enter Tryz.func74, Tryz.ntmps74
  go_wp2_with fail
  refine (diskRight_any W _ _ d Hg.out (Hm.out.up HbW.out)).mono ?_
  rintro e V1 ⟨rfl, hb1⟩
  clear hW c00 c01 f00 f01 lt0 c10 c11 f10 f11 lt1 c20 c21 f20 f21 lt2
  replace B0 := B0.up hb1; replace B1 := B1.up hb1; replace B2 := B2.up hb1
  have Hb1 := Lib.hid (HbW.out.trans (hb1.mono hsW'))
  have hs1 := hb1.size
  clear hb1
  obtain ⟨c00, c01, f00, f01, lt0⟩ := B0.c2
  obtain ⟨c10, c11, f10, f11, lt1⟩ := B1.c2
  obtain ⟨c20, c21, f20, f21, lt2⟩ := B2.c2
  go_wp2_with fail
  refine (fits_any V1 _ _ d x Hg.out Hx.out (Hm.out.up Hb1.out)).mono ?_
  rintro e V2 ⟨rfl, hb2⟩
  clear c00 c01 f00 f01 lt0 c10 c11 f10 f11 lt1 c20 c21 f20 f21 lt2
  replace B0 := B0.up hb2; replace B1 := B1.up hb2; replace B2 := B2.up hb2
  have Hb2 := Lib.hid (Hb1.out.trans (hb2.mono Hb1.out.size))
  have hs2 := hb2.size
  clear hb2
  obtain ⟨c00, c01, f00, f01, lt0⟩ := B0.c2
  obtain ⟨c10, c11, f10, f11, lt1⟩ := B1.c2
  obtain ⟨c20, c21, f20, f21, lt2⟩ := B2.c2
  go_upto_region 5 with fail
  refine wp_region_S 6 (fun U => ∃ y : BW V2, U = y.w) (by kernel_rfl) rfl rfl ?_
  have n01 : ∀ y : BW V2, y.w.cell? ⟨w.heap.size, 1, none⟩ = some (.slice B d.cache.length bc) := bw_cell c01 lt0
  have n10 : ∀ y : BW V2, y.w.cell? ⟨w.heap.size + 1, 0, none⟩ = some (.int .i64 x.pos) := bw_cell c10 lt1
  have n11 : ∀ y : BW V2, y.w.cell? ⟨w.heap.size + 1, 1, none⟩ = some (.string x.data) := bw_cell c11 lt1
  have HC : Hid (∃ y : BW V2, V2.drew = y.w) := Lib.hid ⟨⟨_, (Below.refl _ _).drew⟩, rfl⟩
  clear c00 c01 f00 f01 c10 c11 f10 f11 c20 c21 f20 f21
  refine pureS 0 rfl (by kernel_rfl) rfl (fun _ _ _ _ _ h => h) HC.out ?_
  go_big_quiet_step (fail)
  refine wpQuiet_nil ?_
  refine pureS 1 rfl (by kernel_rfl) rfl (fun _ _ _ _ _ h => h) HC.out ?_
  go_big_quiet_step (fail)
  refine wpQuiet_nil ?_
  refine pureS 3 rfl (by kernel_rfl) rfl (fun _ _ _ _ _ h => h) HC.out ?_
  go_big_quiet_step (fail)
  refine wpQuiet_nil ?_
  refine thS2 (n := 2) [2] [4] (fun p U => ∃ A' c', p = [(some 23, .slice A' d.cache.length c')] ∧ U.ownsRow V2.heap.size 169 2 (.slice A' d.cache.length c') d.cache.length (d.cache.flatMap Wr.cells))
    (fun p U => ∃ g, p = [(some 25, .slice (some ⟨g, 0, none⟩) 1 1)] ∧ Bx g 169 #[.int .i64 x.pos, .string x.data] U) rfl rfl (by kernel_rfl) rfl rfl (by kernel_rfl) (by rintro _ w' ⟨y, rfl⟩ hb; exact ⟨⟨w', y.below.trans (hb.mono y.below.size)⟩, rfl⟩) HC.out (Rob_one ?_ ?_) (Rob_one ?_ ?_) ?_
  · rintro p U U' ⟨A', c', rfl, ho⟩ hb
    exact ⟨A', c', rfl, own_up ho hb⟩
  · rintro U ⟨y, rfl⟩ hbU
    unfold Gives
    go_simp
    refine (clone_Wr Wr.cells wr_len wr_one y.w B bc d.cache (by omega) (Hm.out.2.rt.up (Hb2.out.trans (y.below.mono Hb2.out.size)))).mono ?_
    rintro e U' ⟨A', c', rfl, ho, hb⟩
    exact ⟨_, rfl, hb, A', c', rfl, own_base ho y.below.size⟩
  · rintro p U U' ⟨g, rfl, hB⟩ hb
    exact ⟨g, rfl, hB.up hb⟩
  · rintro U ⟨y, rfl⟩ hbU
    unfold Gives
    go_simp
    exact ⟨(Below.refl _ _).alloc (Nat.le_refl _) _, Bx.new _ _ _⟩
  intro K hK
  rintro p1 p2 U ⟨A', c', rfl, ho⟩ ⟨g, rfl, hBg⟩ ⟨y, rfl⟩ hbU
  have HK := Lib.hid hK; clear hK
  simp only [putsL]
  go_simp
  refine HK.out _ _ ⟨y, rfl⟩ ?_
  clear HK K
  have Ho := Lib.hid ho; clear ho
  have HBg := Lib.hid hBg; clear hBg
  have Hby := Lib.hid y.below
  obtain ⟨U0, hU0⟩ : ∃ U0, y.w = U0 := ⟨_, rfl⟩
  rw [hU0] at Ho HBg Hby ⊢
  clear hU0 hbU
  refine oneS 5 (by kernel_rfl) rfl rfl rfl (fun K hK => ?_)
  have HK := Lib.hid hK; clear hK
  refine wp_app (.tmp 23) (.tmp 25) 25 rfl V2.heap.size 169 i0 (.agg #[.int .i64 0, .string ⟨#[]⟩]) 2 24 Tryz.underlying25 Hi0.out Hz0.out Hz1.out Hz2.out rfl (by decide) rfl Ho.out (A := some ⟨g, 0, none⟩) (m := 1) (news := Wr.cells x) rfl rfl (by simp) ?_ (wr_one x) (by unfold maxLen; omega) (by omega) Hby.out.size ?_
  · rintro ad e j u hu
    injection e with e
    subst e
    rw [Addr.add_lit, Nat.zero_add]
    exact HBg.out.cell (by rw [← hu]; simp [Wr.cells])
  intro v' U6 ho6 hg6 _
  obtain ⟨A6, c6, rfl, _, _⟩ := own_slice ho6
  have hb6 : Below V2.heap.size V2 U6 := Hby.out.grown hg6 Hby.out.size (fun q hq => (Ho.out.lt q hq).1)
  have Ho6 := Lib.hid ho6; have Hb6 := Lib.hid hb6
  clear ho6 hg6 hb6
  go_simp
  refine HK.out _ _ (fun _ => ⟨⟨U6, Hb6.out⟩, rfl⟩) ?_
  clear HK K
  replace B0 := B0.upB Hb6.out lt0; replace B1 := B1.upB Hb6.out lt1; replace B2 := B2.upB Hb6.out lt2
  obtain ⟨c00, c01, f00, f01, lt0⟩ := B0.c2
  refine oneS 6 (by kernel_rfl) rfl rfl rfl (fun K hK => ?_)
  have HK := Lib.hid hK; clear hK
  go_simp
  refine HK.out _ _ (fun h => absurd h (by decide)) ?_
  clear HK K
  refine oneS 7 (by kernel_rfl) rfl rfl rfl (fun K hK => ?_)
  have HK := Lib.hid hK; clear hK
  go_simp
  refine HK.out _ _ (fun h => absurd h (by decide)) ?_
  clear HK K
  refine doneS (by kernel_rfl) ?_
  have hm6 := (Sl.of_own (f := Wr.cells) (l := d.cache ++ [x]) (by rw [List.flatMap_append]; simpa using Ho6.out) (by simp) wr_len (by decide))
  obtain ⟨U7, hU7, B0', hk7, hs7, hb7⟩ := st_2_1_1 (.slice A6 (d.cache.length + 1) c6) B0
  rw [hU7]
  have hm7 := hm6.off B0 (by decide) hk7
  have B2' := B2.keep (hk7 _ (by omega))
  have Hb7 := Lib.hid (hb7 _ _ (Hb2.out.trans (Hb6.out.mono Hb2.out.size)) (Nat.le_refl _))
  have Hm7 := Lib.hid hm7
  clear hm6 hm7 hU7 hk7 hs7 hb7 B0 B1 B2 Hb6 Ho6 Ho HBg Hby c00 c01 f00 f01 lt0
  obtain ⟨c00, c01, f00, f01, lt0⟩ := B0'.c2
  obtain ⟨c20, c21, f20, f21, lt2⟩ := B2'.c2
  go_wp2_with fail
  refine bodyPost_ret (v := .tuple #[.agg #[.slice A d.secs.length ac, .slice A6 (d.cache.length + 1) c6], .int .i64 0]) (by simp [results, Tryz.results74, go_sem, c20, c21]) rfl ?_
  obtain ⟨U8, hU8, _, hk8, _, hb8⟩ := st_2_0_2 (.slice A d.secs.length ac) (.slice A6 (d.cache.length + 1) c6) B2'
  rw [hU8]
  have hb := hb8 _ _ Hb7.out (by omega)
  exact ⟨_, rfl, ⟨Hm.out.1.up hb, Hm7.out.off B2' (by decide) hk8⟩, hb⟩
end Go.Proofs.YthiblfkmcdnalaaGreat
