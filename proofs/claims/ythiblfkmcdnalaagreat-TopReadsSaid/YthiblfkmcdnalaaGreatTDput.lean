/- The contract of device.put at good disks. Printed by gen_dput.py. -/
import Derived.Test.YthiblfkmcdnalaaGreatTSubmit
namespace Go.Proofs.YthiblfkmcdnalaaGreat
set_option maxRecDepth 1000000
open Go.RowKit
set_option maxRecDepth 1000000

/-- the two halves of what is written -/
def halves (page : Int) (data : ByteArray) : List Wr := [⟨2 * page + 1, data.extract 0 16⟩, ⟨2 * page + 1 + 1, data.extract 16 32⟩]
theorem halves_ok {page : Int} {data : ByteArray} (h1 : 1 ≤ page) (h2 : page ≤ 16) (h : data.size = 32) : ∀ x ∈ halves page data, GWr x := by
  intro x hx
  simp only [halves, List.mem_cons, List.mem_nil_iff, or_false] at hx
  rcases hx with rfl | rfl
  · exact ⟨by show (0 : Int) ≤ 2 * page + 1; omega, by show 2 * page + 1 < (35 : Int); omega, by simp [ByteArray.size_extract, h]⟩
  · exact ⟨by show (0 : Int) ≤ 2 * page + 1 + 1; omega, by show 2 * page + 1 + 1 < (35 : Int); omega, by simp [ByteArray.size_extract, h]⟩
theorem GDk.more {d : Dk} (h : GDk d) {l : List Wr} (hl : d.cache.length + l.length ≤ 200) (hok : ∀ x ∈ l, GWr x) : GDk { d with cache := d.cache ++ l } :=
  ⟨h.n35, h.s16, by simpa using hl, fun x hx => (List.mem_append.1 hx).elim (h.cok x) (hok x)⟩

set_option maxHeartbeats 8000000 in
theorem dput_any (w : World) (s c : Value) (d : Dk) (tk kd page : Int) (data : ByteArray) (hg : GDk d) (hn : d.cache.length ≤ 190) (h1 : 1 ≤ page) (h2 : page ≤ 16) (h32 : data.size = 32) (hm : MDk w s c d) :
    Calls Tryz.prog 49 #[.agg #[s, c], .agg #[.int .i64 tk, .int .i64 kd, .int .i64 page, .string data]] w fun e w' => ∃ c', e = .returned (.tuple #[.agg #[s, c'], .int .i64 0]) ∧
      MDk w' s c' { d with cache := d.cache ++ halves page data } ∧ Below w.heap.size w w' := by
  obtain ⟨⟨A, ac, rfl⟩, ⟨B, bc, rfl⟩⟩ := hm.len
  obtain ⟨W, hW, hbW, hsW, B0, B1, B2⟩ := box3 w #[.slice A d.secs.length ac, .slice B d.cache.length bc] 27 #[.int .i64 tk, .int .i64 kd, .int .i64 page, .string data] 81 #[.slice none 0 0, .slice none 0 0] 27
  have Hm := Lib.hid hm; have Hg := Lib.hid hg; have H32 := Lib.hid h32
  have HbW := Lib.hid hbW
  have hsW' := bsz hsW
  have HOK := Lib.hid (halves_ok h1 h2 h32)
  have hdz : (32 : Int) ≤ (data.size : Int) := by omega
  have hdz2 : 32 ≤ data.size := by omega
  clear hm hg hbW hsW h32
  go_enter Tryz.func49, Tryz.ntmps49
  go_wp2_with fail
  clear hW
  go_loopg [10] 2 (fun g i wr => ∃ (k : Nat) (cv : Value), k ≤ 2 ∧ g = 2 - k ∧ i = .int .i64 k ∧ Bx w.heap.size 27 #[.slice A d.secs.length ac, cv] wr ∧ MDk wr (.slice A d.secs.length ac) cv { d with cache := d.cache ++ (halves page data).take k } ∧ Bx (w.heap.size + 1) 81 #[.int .i64 tk, .int .i64 kd, .int .i64 page, .string data] wr ∧ Bx (w.heap.size + 1 + 1) 27 #[.slice none 0 0, .slice none 0 0] wr ∧ Below w.heap.size w wr)
  case atStart => exact ⟨0, _, Nat.zero_le _, rfl, rfl, B0, by simpa using Hm.out.up HbW.out, B1, B2, HbW.out⟩
  case round =>
    clear B0 B1 B2
    obtain ⟨k, cv, hk, hgk, rfl, B0, hmk, B1, B2, hb⟩ := hrel
    have Hgk := Lib.hid hgk; clear hgk
    have Hmk := Lib.hid hmk; have Hb := Lib.hid hb
    obtain ⟨_, C, cc, hcv⟩ := hmk.len
    have hsr := hb.size
    clear hmk hb
    rcases k with _ | _ | k
    · obtain rfl := hcv
      have Hmk' : Hid (MDk wr (.slice A d.secs.length ac) (.slice C (d.cache.length + 0) cc) { d with cache := d.cache ++ (halves page data).take 0 }) := Lib.hid (by have := Hmk.out; simpa [halves] using this)
      clear Hmk
      have HGk := Lib.hid (Hg.out.more (l := (halves page data).take 0) (by simp [halves]; omega) (fun x hx => HOK.out x (List.take_subset _ _ hx)))
      have HX := Lib.hid (HOK.out ⟨2 * page + 1, data.extract 0 16⟩ (by simp [halves]))
      replace B0 : Bx w.heap.size 27 #[.slice A d.secs.length ac, .slice C (d.cache.length + 0) cc] wr := by simpa [halves] using B0
      obtain ⟨c00, c01, f00, f01, lt0⟩ := B0.c2
      obtain ⟨c10, c11, c12, c13, f10, f11, f12, f13, lt1⟩ := B1.c4
      obtain ⟨c20, c21, f20, f21, lt2⟩ := B2.c2
      go_upto_region 4 with fail
      refine wp_region_S 15 (fun U => ∃ y : BW wr, U = y.w) (by kernel_rfl) rfl rfl ?_
      have n_c12 := bw_cell c12 lt1
      have n_c13 := bw_cell c13 lt1
      have HC : Hid (∃ y : BW wr, wr.drew = y.w) := Lib.hid ⟨⟨_, (Below.refl _ _).drew⟩, rfl⟩
      clear c00 c01 f00 f01 c10 c11 c12 c13 f10 f11 f12 f13 c20 c21 f20 f21
      refine pureS 0 rfl (by kernel_rfl) rfl (fun _ _ _ _ _ h => h) HC.out ?_
      go_big_quiet_step (fail)
      refine wpQuiet_nil ?_
      refine pureS 1 rfl (by kernel_rfl) rfl (fun _ _ _ _ _ h => h) HC.out ?_
      go_big_quiet_step (fail)
      refine wpQuiet_nil ?_
      refine pureS 3 rfl (by kernel_rfl) rfl (fun _ _ _ _ _ h => h) HC.out ?_
      go_big_quiet_step (fail)
      refine wpQuiet_nil ?_
      refine pureS 5 rfl (by kernel_rfl) rfl (fun _ _ _ _ _ h => h) HC.out ?_
      go_big_quiet_step (fail)
      refine wpQuiet_nil ?_
      refine pureS 6 rfl (by kernel_rfl) rfl (fun _ _ _ _ _ h => h) HC.out ?_
      go_big_quiet_step (fail)
      refine wpQuiet_nil ?_
      refine pureS 7 rfl (by kernel_rfl) rfl (fun _ _ _ _ _ h => h) HC.out ?_
      go_big_quiet_step (fail)
      refine wpQuiet_nil ?_
      refine pureS 8 rfl (by kernel_rfl) rfl (fun _ _ _ _ _ h => h) HC.out ?_
      go_big_quiet_step (fail)
      refine wpQuiet_nil ?_
      refine pureS 9 rfl (by kernel_rfl) rfl (fun _ _ _ _ _ h => h) HC.out ?_
      go_big_quiet_step (fail)
      refine wpQuiet_nil ?_
      refine pureS 10 rfl (by kernel_rfl) rfl (fun _ _ _ _ _ h => h) HC.out ?_
      go_big_quiet_step (fail)
      refine wpQuiet_nil ?_
      refine pureS 11 rfl (by kernel_rfl) rfl (fun _ _ _ _ _ h => h) HC.out ?_
      go_big_quiet_step (fail)
      refine wpQuiet_nil ?_
      refine pureS 12 rfl (by kernel_rfl) rfl (fun _ _ _ _ _ h => h) HC.out ?_
      go_big_quiet_step (fail)
      refine wpQuiet_nil ?_
      refine thS2 (n := 4) [2, 4, 13] [14] (fun p U => p = [(some 15, .int .i64 (2 * page + 1)), (some 17, .int .i64 (2 * page + 1)), (some 26, .agg #[.int .i64 (2 * page + 1), .string (data.extract 0 16)])])
        (fun p U => ∃ g, p = [(some 7, .pointer (some ⟨g, 0, none⟩))] ∧ wr.heap.size ≤ g ∧ Bx g 169 #[.int .i64 0, .string ⟨#[]⟩] U) rfl rfl (by kernel_rfl) rfl rfl (by kernel_rfl) (by rintro _ w' ⟨y, rfl⟩ hb; exact ⟨⟨w', y.below.trans (hb.mono y.below.size)⟩, rfl⟩) HC.out ?_ (Rob_one ?_ ?_) ?_
      · rintro U ⟨y, rfl⟩ hbU
        unfold Gives
        go_simp
        refine (home_any y.w page (by omega) (by omega)).mono ?_
        rintro e U' ⟨rfl, rfl⟩
        refine ⟨_, rfl, Below.refl _ _, ?_⟩
        rintro U2 _ hb2
        unfold Gives
        go_simp
        refine ⟨Below.refl _ _, ?_⟩
        rintro U3 _ hb3
        unfold Gives
        go_simp
        refine ⟨Below.refl _ _, ?_⟩
        rintro U4 _ hb4
        rw [IntWalk.i64_in _ (by omega)]
      · rintro p U U' ⟨g, rfl, hg, hB⟩ hb
        exact ⟨g, rfl, hg, hB.up hb⟩
      · rintro U ⟨y, rfl⟩ hbU
        unfold Gives
        go_simp
        exact ⟨(Below.refl _ _).alloc (Nat.le_refl _) _, y.below.size, Bx.new _ _ _⟩
      intro K hK
      rintro p1 p2 U rfl ⟨g, rfl, hgg, hBg⟩ ⟨y, rfl⟩ hbU
      have HK := Lib.hid hK; clear hK
      simp only [putsL]
      go_simp
      refine HK.out _ _ ⟨y, rfl⟩ ?_
      clear HK K
      obtain ⟨U0, hU0⟩ : ∃ U0, y.w = U0 := ⟨_, rfl⟩
      have hby := y.below
      rw [hU0] at hBg hby ⊢
      clear hU0 hbU
      obtain ⟨cg0, cg1, fg0, fg1, ltg⟩ := hBg.c2
      refine oneS 15 (by kernel_rfl) rfl rfl rfl (fun K hK => ?_)
      have HK := Lib.hid hK; clear hK
      go_simp
      obtain ⟨U1, hU1, BG, hk1, hs1, hb1⟩ := st_2_0_2 (.int .i64 (2 * page + 1)) (.string (data.extract 0 16)) hBg
      rw [hU1]
      refine HK.out _ _ (fun h => absurd h (by decide)) ?_
      clear HK K
      refine doneS (by kernel_rfl) ?_
      replace B0 := (B0.upB hby lt0).keep (hk1 _ (by omega)); replace B1 := (B1.upB hby lt1).keep (hk1 _ (by omega)); replace B2 := (B2.upB hby lt2).keep (hk1 _ (by omega))
      have Hb1 := Lib.hid (hb1 _ _ hby hgg)
      clear hU1 hk1 hs1 hb1 hby hBg cg0 cg1 fg0 fg1 ltg lt0 lt1 lt2
      obtain ⟨c00, c01, f00, f01, lt0⟩ := B0.c2
      obtain ⟨c10, c11, c12, c13, f10, f11, f12, f13, lt1⟩ := B1.c4
      obtain ⟨c20, c21, f20, f21, lt2⟩ := B2.c2
      obtain ⟨cg0, cg1, fg0, fg1, ltg⟩ := BG.c2
      go_wp2_with fail
      refine (put_any U1 _ _ _ ⟨2 * page + 1, data.extract 0 16⟩ HGk.out HX.out (by simp [halves]; omega) (Hmk'.out.up Hb1.out)).mono ?_
      rintro e V ⟨c', rfl, hmV, hbV⟩
      clear c00 c01 f00 f01 lt0 c10 c11 c12 c13 f10 f11 f12 f13 lt1 c20 c21 f20 f21 lt2 cg0 cg1 fg0 fg1 ltg
      replace B0 := B0.up hbV; replace B1 := B1.up hbV; replace B2 := B2.up hbV
      have hmV' : MDk V (.slice A d.secs.length ac) c' { d with cache := d.cache ++ (halves page data).take 1 } := by simpa [halves] using hmV
      have HmV := Lib.hid hmV'
      have HbV := Lib.hid (Hb1.out.trans (hbV.mono Hb1.out.size))
      obtain ⟨_, C', cc', hc'⟩ := hmV'.len
      simp only [halves, List.take_zero, List.take_succ_cons, List.length_append, List.length_cons, List.length_nil, Nat.zero_add] at hc'
      have hsV := HbV.out.size
      clear hmV hmV' hbV BG
      subst hc'
      obtain ⟨c00, c01, f00, f01, lt0⟩ := B0.c2
      obtain ⟨c10, c11, c12, c13, f10, f11, f12, f13, lt1⟩ := B1.c4
      obtain ⟨c20, c21, f20, f21, lt2⟩ := B2.c2
      go_upto_region 8 with fail
      obtain ⟨V2, hV2⟩ : ∃ V2, V.alloc (.cells #[.slice A d.secs.length ac, .slice C' (d.cache.length + 1) cc'] 27) = V2 := ⟨_, rfl⟩
      rw [hV2]
      have hb2 : Below V.heap.size V V2 := by rw [← hV2]; exact (Below.refl _ _).alloc (Nat.le_refl _) _
      have BN : Bx V.heap.size 27 #[.slice A d.secs.length ac, .slice C' (d.cache.length + 1) cc'] V2 := by rw [← hV2]; exact Bx.new _ _ _
      clear hV2 c00 c01 f00 f01 lt0 c10 c11 c12 c13 f10 f11 f12 f13 lt1 c20 c21 f20 f21 lt2
      replace B0 := B0.up hb2; replace B1 := B1.up hb2; replace B2 := B2.up hb2
      obtain ⟨c00, c01, f00, f01, lt0⟩ := B0.c2
      obtain ⟨c10, c11, c12, c13, f10, f11, f12, f13, lt1⟩ := B1.c4
      obtain ⟨c20, c21, f20, f21, lt2⟩ := B2.c2
      obtain ⟨cn0, cn1, fn0, fn1, ltn⟩ := BN.c2
      go_wp2_with fail
      obtain ⟨V3, hV3, B0', hk3, hs3, hb3⟩ := st_2_0_2 (.slice A d.secs.length ac) (.slice C' (d.cache.length + 1) cc') B0
      rw [hV3]
      have Hfin := Lib.hid (show Bx w.heap.size 27 #[.slice A d.secs.length ac, .slice C' (d.cache.length + 1) cc'] V3 ∧ MDk V3 (.slice A d.secs.length ac) (.slice C' (d.cache.length + 1) cc') { d with cache := d.cache ++ (halves page data).take 1 } ∧ Bx (w.heap.size + 1) 81 #[.int .i64 tk, .int .i64 kd, .int .i64 page, .string data] V3 ∧ Bx (w.heap.size + 1 + 1) 27 #[.slice none 0 0, .slice none 0 0] V3 ∧ Below w.heap.size w V3 from
        ⟨B0', ⟨(HmV.out.1.up hb2).off B0 (by decide) hk3, (HmV.out.2.up hb2).off B0 (by decide) hk3⟩, B1.keep (hk3 _ (by omega)), B2.keep (hk3 _ (by omega)), hb3 _ _ (Hb.out.trans ((HbV.out.trans (hb2.mono hsV)).mono hsr)) (Nat.le_refl _)⟩)
      clear hV3 hk3 hs3 hb3 B0' hb2 c00 c01 f00 f01 lt0 c10 c11 c12 c13 f10 f11 f12 f13 lt1 c20 c21 f20 f21 lt2 cn0 cn1 fn0 fn1 ltn
      go_roundg (2 - 1)
      case measure => have := Hgk.out; omega
      case rel => exact ⟨1, _, by omega, rfl, by go_num, Hfin.out⟩
    · obtain rfl := hcv
      have Hmk' : Hid (MDk wr (.slice A d.secs.length ac) (.slice C (d.cache.length + 1) cc) { d with cache := d.cache ++ (halves page data).take 1 }) := Lib.hid (by have := Hmk.out; simpa [halves] using this)
      clear Hmk
      have HGk := Lib.hid (Hg.out.more (l := (halves page data).take 1) (by simp [halves]; omega) (fun x hx => HOK.out x (List.take_subset _ _ hx)))
      have HX := Lib.hid (HOK.out ⟨2 * page + 1 + 1, data.extract 16 32⟩ (by simp [halves]))
      replace B0 : Bx w.heap.size 27 #[.slice A d.secs.length ac, .slice C (d.cache.length + 1) cc] wr := by simpa [halves] using B0
      obtain ⟨c00, c01, f00, f01, lt0⟩ := B0.c2
      obtain ⟨c10, c11, c12, c13, f10, f11, f12, f13, lt1⟩ := B1.c4
      obtain ⟨c20, c21, f20, f21, lt2⟩ := B2.c2
      go_upto_region 4 with fail
      refine wp_region_S 15 (fun U => ∃ y : BW wr, U = y.w) (by kernel_rfl) rfl rfl ?_
      have n_c12 := bw_cell c12 lt1
      have n_c13 := bw_cell c13 lt1
      have HC : Hid (∃ y : BW wr, wr.drew = y.w) := Lib.hid ⟨⟨_, (Below.refl _ _).drew⟩, rfl⟩
      clear c00 c01 f00 f01 c10 c11 c12 c13 f10 f11 f12 f13 c20 c21 f20 f21
      refine pureS 0 rfl (by kernel_rfl) rfl (fun _ _ _ _ _ h => h) HC.out ?_
      go_big_quiet_step (fail)
      refine wpQuiet_nil ?_
      refine pureS 1 rfl (by kernel_rfl) rfl (fun _ _ _ _ _ h => h) HC.out ?_
      go_big_quiet_step (fail)
      refine wpQuiet_nil ?_
      refine pureS 3 rfl (by kernel_rfl) rfl (fun _ _ _ _ _ h => h) HC.out ?_
      go_big_quiet_step (fail)
      refine wpQuiet_nil ?_
      refine pureS 5 rfl (by kernel_rfl) rfl (fun _ _ _ _ _ h => h) HC.out ?_
      go_big_quiet_step (fail)
      refine wpQuiet_nil ?_
      refine pureS 6 rfl (by kernel_rfl) rfl (fun _ _ _ _ _ h => h) HC.out ?_
      go_big_quiet_step (fail)
      refine wpQuiet_nil ?_
      refine pureS 7 rfl (by kernel_rfl) rfl (fun _ _ _ _ _ h => h) HC.out ?_
      go_big_quiet_step (fail)
      refine wpQuiet_nil ?_
      refine pureS 8 rfl (by kernel_rfl) rfl (fun _ _ _ _ _ h => h) HC.out ?_
      go_big_quiet_step (fail)
      refine wpQuiet_nil ?_
      refine pureS 9 rfl (by kernel_rfl) rfl (fun _ _ _ _ _ h => h) HC.out ?_
      go_big_quiet_step (fail)
      refine wpQuiet_nil ?_
      refine pureS 10 rfl (by kernel_rfl) rfl (fun _ _ _ _ _ h => h) HC.out ?_
      go_big_quiet_step (fail)
      refine wpQuiet_nil ?_
      refine pureS 11 rfl (by kernel_rfl) rfl (fun _ _ _ _ _ h => h) HC.out ?_
      go_big_quiet_step (fail)
      refine wpQuiet_nil ?_
      refine pureS 12 rfl (by kernel_rfl) rfl (fun _ _ _ _ _ h => h) HC.out ?_
      go_big_quiet_step (fail)
      refine wpQuiet_nil ?_
      refine thS2 (n := 4) [2, 4, 13] [14] (fun p U => p = [(some 15, .int .i64 (2 * page + 1)), (some 17, .int .i64 (2 * page + 1 + 1)), (some 26, .agg #[.int .i64 (2 * page + 1 + 1), .string (data.extract 16 32)])])
        (fun p U => ∃ g, p = [(some 7, .pointer (some ⟨g, 0, none⟩))] ∧ wr.heap.size ≤ g ∧ Bx g 169 #[.int .i64 0, .string ⟨#[]⟩] U) rfl rfl (by kernel_rfl) rfl rfl (by kernel_rfl) (by rintro _ w' ⟨y, rfl⟩ hb; exact ⟨⟨w', y.below.trans (hb.mono y.below.size)⟩, rfl⟩) HC.out ?_ (Rob_one ?_ ?_) ?_
      · rintro U ⟨y, rfl⟩ hbU
        unfold Gives
        go_simp
        refine (home_any y.w page (by omega) (by omega)).mono ?_
        rintro e U' ⟨rfl, rfl⟩
        refine ⟨_, rfl, Below.refl _ _, ?_⟩
        rintro U2 _ hb2
        unfold Gives
        go_simp
        refine ⟨Below.refl _ _, ?_⟩
        rintro U3 _ hb3
        unfold Gives
        go_simp
        refine ⟨Below.refl _ _, ?_⟩
        rintro U4 _ hb4
        rw [IntWalk.i64_in _ (by omega)]
      · rintro p U U' ⟨g, rfl, hg, hB⟩ hb
        exact ⟨g, rfl, hg, hB.up hb⟩
      · rintro U ⟨y, rfl⟩ hbU
        unfold Gives
        go_simp
        exact ⟨(Below.refl _ _).alloc (Nat.le_refl _) _, y.below.size, Bx.new _ _ _⟩
      intro K hK
      rintro p1 p2 U rfl ⟨g, rfl, hgg, hBg⟩ ⟨y, rfl⟩ hbU
      have HK := Lib.hid hK; clear hK
      simp only [putsL]
      go_simp
      refine HK.out _ _ ⟨y, rfl⟩ ?_
      clear HK K
      obtain ⟨U0, hU0⟩ : ∃ U0, y.w = U0 := ⟨_, rfl⟩
      have hby := y.below
      rw [hU0] at hBg hby ⊢
      clear hU0 hbU
      obtain ⟨cg0, cg1, fg0, fg1, ltg⟩ := hBg.c2
      refine oneS 15 (by kernel_rfl) rfl rfl rfl (fun K hK => ?_)
      have HK := Lib.hid hK; clear hK
      go_simp
      obtain ⟨U1, hU1, BG, hk1, hs1, hb1⟩ := st_2_0_2 (.int .i64 (2 * page + 1 + 1)) (.string (data.extract 16 32)) hBg
      rw [hU1]
      refine HK.out _ _ (fun h => absurd h (by decide)) ?_
      clear HK K
      refine doneS (by kernel_rfl) ?_
      replace B0 := (B0.upB hby lt0).keep (hk1 _ (by omega)); replace B1 := (B1.upB hby lt1).keep (hk1 _ (by omega)); replace B2 := (B2.upB hby lt2).keep (hk1 _ (by omega))
      have Hb1 := Lib.hid (hb1 _ _ hby hgg)
      clear hU1 hk1 hs1 hb1 hby hBg cg0 cg1 fg0 fg1 ltg lt0 lt1 lt2
      obtain ⟨c00, c01, f00, f01, lt0⟩ := B0.c2
      obtain ⟨c10, c11, c12, c13, f10, f11, f12, f13, lt1⟩ := B1.c4
      obtain ⟨c20, c21, f20, f21, lt2⟩ := B2.c2
      obtain ⟨cg0, cg1, fg0, fg1, ltg⟩ := BG.c2
      go_wp2_with fail
      refine (put_any U1 _ _ _ ⟨2 * page + 1 + 1, data.extract 16 32⟩ HGk.out HX.out (by simp [halves]; omega) (Hmk'.out.up Hb1.out)).mono ?_
      rintro e V ⟨c', rfl, hmV, hbV⟩
      clear c00 c01 f00 f01 lt0 c10 c11 c12 c13 f10 f11 f12 f13 lt1 c20 c21 f20 f21 lt2 cg0 cg1 fg0 fg1 ltg
      replace B0 := B0.up hbV; replace B1 := B1.up hbV; replace B2 := B2.up hbV
      have hmV' : MDk V (.slice A d.secs.length ac) c' { d with cache := d.cache ++ (halves page data).take 2 } := by simpa [halves] using hmV
      have HmV := Lib.hid hmV'
      have HbV := Lib.hid (Hb1.out.trans (hbV.mono Hb1.out.size))
      obtain ⟨_, C', cc', hc'⟩ := hmV'.len
      simp only [halves, List.take_zero, List.take_succ_cons, List.length_append, List.length_cons, List.length_nil, Nat.zero_add] at hc'
      have hsV := HbV.out.size
      clear hmV hmV' hbV BG
      subst hc'
      obtain ⟨c00, c01, f00, f01, lt0⟩ := B0.c2
      obtain ⟨c10, c11, c12, c13, f10, f11, f12, f13, lt1⟩ := B1.c4
      obtain ⟨c20, c21, f20, f21, lt2⟩ := B2.c2
      go_upto_region 8 with fail
      obtain ⟨V2, hV2⟩ : ∃ V2, V.alloc (.cells #[.slice A d.secs.length ac, .slice C' (d.cache.length + 2) cc'] 27) = V2 := ⟨_, rfl⟩
      rw [hV2]
      have hb2 : Below V.heap.size V V2 := by rw [← hV2]; exact (Below.refl _ _).alloc (Nat.le_refl _) _
      have BN : Bx V.heap.size 27 #[.slice A d.secs.length ac, .slice C' (d.cache.length + 2) cc'] V2 := by rw [← hV2]; exact Bx.new _ _ _
      clear hV2 c00 c01 f00 f01 lt0 c10 c11 c12 c13 f10 f11 f12 f13 lt1 c20 c21 f20 f21 lt2
      replace B0 := B0.up hb2; replace B1 := B1.up hb2; replace B2 := B2.up hb2
      obtain ⟨c00, c01, f00, f01, lt0⟩ := B0.c2
      obtain ⟨c10, c11, c12, c13, f10, f11, f12, f13, lt1⟩ := B1.c4
      obtain ⟨c20, c21, f20, f21, lt2⟩ := B2.c2
      obtain ⟨cn0, cn1, fn0, fn1, ltn⟩ := BN.c2
      go_wp2_with fail
      obtain ⟨V3, hV3, B0', hk3, hs3, hb3⟩ := st_2_0_2 (.slice A d.secs.length ac) (.slice C' (d.cache.length + 2) cc') B0
      rw [hV3]
      have Hfin := Lib.hid (show Bx w.heap.size 27 #[.slice A d.secs.length ac, .slice C' (d.cache.length + 2) cc'] V3 ∧ MDk V3 (.slice A d.secs.length ac) (.slice C' (d.cache.length + 2) cc') { d with cache := d.cache ++ (halves page data).take 2 } ∧ Bx (w.heap.size + 1) 81 #[.int .i64 tk, .int .i64 kd, .int .i64 page, .string data] V3 ∧ Bx (w.heap.size + 1 + 1) 27 #[.slice none 0 0, .slice none 0 0] V3 ∧ Below w.heap.size w V3 from
        ⟨B0', ⟨(HmV.out.1.up hb2).off B0 (by decide) hk3, (HmV.out.2.up hb2).off B0 (by decide) hk3⟩, B1.keep (hk3 _ (by omega)), B2.keep (hk3 _ (by omega)), hb3 _ _ (Hb.out.trans ((HbV.out.trans (hb2.mono hsV)).mono hsr)) (Nat.le_refl _)⟩)
      clear hV3 hk3 hs3 hb3 B0' hb2 c00 c01 f00 f01 lt0 c10 c11 c12 c13 f10 f11 f12 f13 lt1 c20 c21 f20 f21 lt2 cn0 cn1 fn0 fn1 ltn
      go_roundg (2 - 2)
      case measure => have := Hgk.out; omega
      case rel => exact ⟨2, _, by omega, rfl, by go_num, Hfin.out⟩
    · obtain rfl : k = 0 := by omega
      have hl2 : ({ d with cache := d.cache ++ (halves page data).take (0 + 1 + 1) } : Dk).cache.length = d.cache.length + 2 := by simp [halves]
      rw [hl2] at hcv
      clear hl2
      subst hcv
      obtain ⟨c00, c01, f00, f01, lt0⟩ := B0.c2
      obtain ⟨c10, c11, c12, c13, f10, f11, f12, f13, lt1⟩ := B1.c4
      obtain ⟨c20, c21, f20, f21, lt2⟩ := B2.c2
      go_wp2_with fail
      refine bodyPost_ret (v := .tuple #[.agg #[.slice A d.secs.length ac, .slice C (d.cache.length + 2) cc], .int .i64 0]) (by simp [results, Tryz.results49, go_sem, c20, c21]) rfl ?_
      obtain ⟨U9, hU9, _, hk9, _, hb9⟩ := st_2_0_2 (.slice A d.secs.length ac) (.slice C (d.cache.length + 2) cc) B2
      rw [hU9]
      have hb := hb9 _ _ Hb.out (by omega)
      refine ⟨_, rfl, ?_, hb⟩
      have hm2 : MDk wr (.slice A d.secs.length ac) (.slice C (d.cache.length + 2) cc) { d with cache := d.cache ++ halves page data } := Hmk.out
      exact ⟨hm2.1.off B2 (by decide) hk9, hm2.2.off B2 (by decide) hk9⟩
end Go.Proofs.YthiblfkmcdnalaaGreat
