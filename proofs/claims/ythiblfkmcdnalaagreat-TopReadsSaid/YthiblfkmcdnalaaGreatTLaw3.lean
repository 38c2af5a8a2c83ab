/- TopReads, walked. Printed by gen_law.py. -/
import Derived.Test.YthiblfkmcdnalaaGreatTLaw2
namespace Go.Proofs.YthiblfkmcdnalaaGreat
set_option maxRecDepth 1000000
open Go.RowKit
set_option maxRecDepth 1000000

set_option maxHeartbeats 16000000 in
theorem lawReads (w : World) (A F : Option Addr) (ac fc : Nat) (ds : List ByteArray) (bs : List Bool) (_hac : ds.length ≤ ac) (_hac2 : ac ≤ 9223372036854775807) (_hfc : bs.length ≤ fc) (_hfc2 : fc ≤ 9223372036854775807) (hA : Rd scells 1 w w.heap.size A ds) (hF : Rd fcells 1 w w.heap.size F bs) :
    Calls Tryz.prog 3 #[.slice A ds.length ac, .slice F bs.length fc] w fun e w' => e = .returned (.bool true) ∧ Below w.heap.size w w' := by
  rcases Nat.lt_or_ge 16 ds.length with hl | hl
  · go_enter Tryz.func3, Tryz.ntmps3
    go_wp2_with fail
    refine (Ae.lives_any _).mono ?_
    rintro e w1 ⟨rfl, hb⟩
    go_wp2_with fail
    go_ret
    exact ⟨rfl, hb⟩
  rcases Nat.lt_or_ge 100 bs.length with hf | hf
  · go_enter Tryz.func3, Tryz.ntmps3
    go_wp2_with fail
    refine (Ae.lives_any _).mono ?_
    rintro e w1 ⟨rfl, hb⟩
    go_wp2_with fail
    go_ret
    exact ⟨rfl, hb⟩
  have HA := Lib.hid hA; have HF := Lib.hid hF
  clear hA hF
  go_enter Tryz.func3, Tryz.ntmps3
  go_wp2_with fail
  refine (diskNew_any w 35 (by decide) (by decide)).mono ?_
  rintro e w1 ⟨s, rfl, hm1, hb1⟩
  obtain ⟨⟨S0, sc0, rfl⟩, _⟩ := hm1.len
  rw [show (newDk 35).secs.length = 35 from by simp [newDk]] at hm1 ⊢
  have Hm1 := Lib.hid hm1; have Hb1 := Lib.hid hb1
  clear hm1 hb1
  go_wp2_with fail
  obtain ⟨W2, hW2, hb2, hs2, BD, BI⟩ := box2 w1 #[.slice S0 35 sc0, .slice none 0 0] 27 #[.int .i64 1, .int .i64 2] 3
  rw [hW2]
  have hRt : Rt icells 1 3 W2 (some ⟨w1.heap.size + 1, 0, none⟩) [1, 2] := fun _ => ⟨w1.heap.size + 1, 0, _, _, rfl, BI, fun k x hx j v hv => by
    rcases k with _ | _ | k
    · obtain rfl := Option.some.inj hx
      rcases j with _ | j
      · obtain rfl := Option.some.inj hv; rfl
      · simp [icells] at hv
    · obtain rfl := Option.some.inj hx
      rcases j with _ | j
      · obtain rfl := Option.some.inj hv; rfl
      · simp [icells] at hv
    · simp at hx⟩
  have hmW := Hm1.out.up hb2
  have HbW := Lib.hid (Hb1.out.trans (hb2.mono Hb1.out.size))
  refine (schNew_any W2 (.slice S0 35 sc0) (.slice none 0 0) (.slice none 0 0) (newDk 35) 0 (some ⟨w1.heap.size + 1, 0, none⟩) 2 [1, 2] ⟨gdk_new, by decide, by simp, by simp⟩ ⟨hmW, Sl.nil⟩ (by decide) (by decide) (by simp) hRt).mono ?_
  rintro e W3 ⟨lv, jv, rfl, hM, hb3⟩
  obtain ⟨⟨L, lc, rfl⟩, ⟨J, jc, rfl⟩, _⟩ := hM.len
  simp only [List.map_cons, List.map_nil, List.length_cons, List.length_nil, List.length_replicate, Nat.zero_add, Nat.reduceAdd] at hM ⊢
  have HM := Lib.hid hM
  have Hb3 := Lib.hid (HbW.out.trans (hb3.mono HbW.out.size))
  clear hW2 hb2 hs2 BD BI hRt hmW hM hb3 HbW Hm1 Hb1
  go_upto_region 8 with fail
  obtain ⟨V0, hV0, hbV, hsV, B7, B9⟩ := box2 W3 #[.slice L 2 lc, .int .i64 0, .bool false, .slice J 2 jc, .slice S0 35 sc0, .slice none 0 0, .int .i64 0, .slice none 0 0, .slice none 0 0] 40 #[.string ⟨#[]⟩, .string ⟨#[]⟩, .string ⟨#[]⟩, .string ⟨#[]⟩, .string ⟨#[]⟩, .string ⟨#[]⟩, .string ⟨#[]⟩, .string ⟨#[]⟩, .string ⟨#[]⟩, .string ⟨#[]⟩, .string ⟨#[]⟩, .string ⟨#[]⟩, .string ⟨#[]⟩, .string ⟨#[]⟩, .string ⟨#[]⟩, .string ⟨#[]⟩, .string ⟨#[]⟩] 44
  rw [hV0]
  obtain ⟨N7, hN7⟩ : ∃ N, W3.heap.size = N := ⟨_, rfl⟩
  obtain ⟨N9, hN9⟩ : ∃ N, N7 + 1 = N := ⟨_, rfl⟩
  have hM0 := HM.out.up hbV
  have Hbv := Hb3.out.trans (hbV.mono Hb3.out.size)
  have h79 : N7 < N9 := by omega
  have h7w : w.heap.size ≤ N7 := by have := Hb3.out.size; omega
  rw [hN7] at B7 B9 ⊢
  rw [hN9] at B9 ⊢
  have Hst : Hid (LawI w N7 N9 0 ⟨L, 2, lc, 0, false, J, 2, jc, S0, 35, sc0, none, 0, 0, 0, none, 0, 0, none, 0, 0⟩ (newDk 35) (List.replicate 17 ⟨#[]⟩) V0) := Lib.hid ⟨B7, B9, ⟨show (0 : Int) ≤ 6 * ((0 : Nat) : Int) from by decide, 4, none, 0, none, 0, none, 0, none, 0, _, hM0,
    gsc2 (by decide) ⟨show (0 : Int) ≤ 0 from by decide, show (0 : Int) < 2 from by decide⟩ ⟨rfl, by decide, by decide, fun e => absurd e (by decide)⟩ ⟨rfl, by decide, by decide, fun e => absurd e (by decide)⟩ ⟨gdk_new, ⟨show (0 : Int) ≤ 0 from by decide, show (0 : Int) ≤ 1000 from by decide⟩, by simp, by simp⟩ (by simp)⟩,
    .inl ⟨rfl, rfl⟩, by simp, fun j _ => getD_rep 17 j, by simp [newDk], Hbv⟩
  clear hV0 hbV hsV B7 B9 hN7 hN9 hM0 Hbv HM Hb3
  go_wp2_with fail
  go_loopg [10, 45] ds.length (fun g av iv wo => ∃ (k a : Nat) (v : Scd) (dk : Dk) (wa : List ByteArray), k ≤ ds.length ∧ g = ds.length - k ∧ iv = .int .i64 k ∧ av = .int .i64 a ∧ a ≤ 8 * k ∧ Hid (LawI w N7 N9 k v dk wa wo))
  case atStart => exact ⟨0, 0, _, _, _, by omega, by omega, rfl, rfl, by omega, Hst⟩
  case round =>
    clear Hst
    rename World => wo
    obtain ⟨k, a, v, dk, wa, hk, hg, rfl, rfl, hak, HI⟩ := hrel
    rcases Nat.lt_or_ge k ds.length with hkl | hkl
    · obtain ⟨x, xb, xo, hx, rfl, hxb, hxc⟩ := rd_d HA.out hkl
      have x0 := hxc wo HI.out.bel
      have hxw : xb < wo.heap.size := by have := HI.out.bel.size; omega
      have Hxc := Lib.hid hxc; have Hx := Lib.hid hx
      clear hx hxc
      rcases Classical.em (x.size = 32) with h32 | h32
      · have h32b : ((x.size : Int) == 32) = true := by rw [h32]; rfl
        have h32n : ((x.size : Int) != 32) = false := by rw [h32]; rfl
        have H32 := Lib.hid h32
        clear h32
        go_wp2_with fail
        have HJ := Lib.hid (HI.out.jobs (U' := wo.alloc (.cells #[.int .i64 0, .int .i64 2, .int .i64 ((k : Int) + 1), .string x, .int .i64 0, .int .i64 1, .int .i64 1, .int .i64 ((k : Int) + 1), .string ⟨#[]⟩, .int .i64 0] 46)) ((Below.refl _ _).alloc (Nat.le_refl _) _) (jl_rt wo k x))
        obtain ⟨V1, hV1⟩ : ∃ V1, wo.alloc (.cells #[.int .i64 0, .int .i64 2, .int .i64 ((k : Int) + 1), .string x, .int .i64 0, .int .i64 1, .int .i64 1, .int .i64 ((k : Int) + 1), .string ⟨#[]⟩, .int .i64 0] 46) = V1 := ⟨_, rfl⟩
        obtain ⟨AP, hAP⟩ : ∃ AP, some (⟨wo.heap.size, 0, none⟩ : Addr) = AP := ⟨_, rfl⟩
        rw [hV1, hAP] at HJ ⊢
        clear hV1 hAP x0 hxw
        go_loopg [10, 63] 2 (fun g av mv wj => ∃ (m a : Nat) (v : Scd) (dk : Dk) (wa : List ByteArray), m ≤ 2 ∧ g = 2 - m ∧ mv = .int .i64 m ∧ av = .int .i64 a ∧ a ≤ 8 * k + 4 * m ∧ Hid (LawJ w N7 N9 AP k m x v dk wa wj))
        case atStart => exact ⟨0, a, _, _, _, by omega, rfl, rfl, rfl, by omega, HJ⟩
        case round =>
          have HgO := Lib.hid hg
          clear HJ HI hk hg hak
          clear v dk wa
          rename World => wj
          obtain ⟨m, a2, v, dk, wa, hm, hg, rfl, rfl, hak, HJ⟩ := hrel
          rcases Nat.lt_or_ge m 2 with hm2 | hm2
          · have hm2i : (m : Int) < 2 := by omega
            obtain ⟨kd, xd, hj, hkd⟩ := jl_at (k := k) (x := x) hm2
            obtain ⟨j, jb, jo, hj2, rfl, hjb, hjc⟩ := jb_at HJ.out.jr (k := m) hm2
            obtain rfl := Option.some.inj (hj.symm.trans hj2)
            obtain ⟨j0, j1, j2, j3, j4⟩ := hjc wj (Below.refl _ _)
            simp only at j0 j1 j2 j3 j4
            have Hkd := Lib.hid hkd
            clear hj hj2 hjc hkd
            obtain ⟨L0, ln0, lc0, at0, gv0, J0, jn0, jc0, A0, an0, ac0, B0, bn0, bc0, nx0, F0, fn0, fc0, O0, on0, oc0⟩ := v
            have B7 := HJ.out.bs
            simp only [Scd.vals] at B7
            obtain ⟨c0, c1, c2, c3, c4, c5, c6, c7, c8, f0, f1, f2, f3, f4, f5, f6, f7, f8, lt7⟩ := B7.c9
            go_wp2_with fail
            obtain ⟨V2, hV2, hb2, hs2, BJ⟩ := box1 wj #[.int .i64 (2 - kd), .int .i64 kd, .int .i64 ((k : Int) + 1), .string xd, .int .i64 0] 46
            rw [hV2]
            have hwat : (kd = 2 ∧ ((at0 = 0 ∧ gv0 = false) ∨ at0 = 1)) ∨ (kd = 1 ∧ at0 = 0) := by
              rcases Hkd.out with ⟨rfl, rfl, _⟩ | ⟨rfl, rfl, _⟩
              · rcases HJ.out.at_ with ⟨_, h⟩ | ⟨h, _⟩ | ⟨h, _⟩
                · exact .inl ⟨rfl, h⟩
                · exact absurd h (by decide)
                · exact absurd h (by decide)
              · rcases HJ.out.at_ with ⟨h, _⟩ | ⟨_, h⟩ | ⟨h, _⟩
                · exact absurd h (by decide)
                · exact .inr ⟨rfl, h⟩
                · exact absurd h (by decide)
            refine (lawAsk V2 ⟨L0, ln0, lc0, at0, gv0, J0, jn0, jc0, A0, an0, ac0, B0, bn0, bc0, nx0, F0, fn0, fc0, O0, on0, oc0⟩ dk (6 * k + 3 * m) kd ((k : Int) + 1) xd (grq_j H32.out (by omega) Hkd.out) hwat (HJ.out.id.imp fun S hS => hS.up hb2)).mono ?_
            rintro e V3 ⟨v', rfl, hW, hb3⟩
            obtain ⟨L1, ln1, lc1, at1, gv1, J1, jn1, jc1, A1, an1, ac1, B1, bn1, bc1, nx1, F1, fn1, fc1, O1, on1, oc1⟩ := v'
            simp only [Scd.vals]
            have hbj := hb2.trans (hb3.mono hb2.size)
            have B7' := HJ.out.bs.up hbj
            simp only [Scd.vals] at B7'
            have HW := Lib.hid hW
            have HB := Lib.hid (LawB.up ⟨HJ.out.bw, HJ.out.jr, HJ.out.wl, HJ.out.bel⟩ hbj)
            clear hV2 hb2 hs2 BJ hb3 hbj hwat B7 c0 c1 c2 c3 c4 c5 c6 c7 c8 f0 f1 f2 f3 f4 f5 f6 f7 f8 lt7 j0 j1 j2 j3 j4 hW
            go_upto_region 20 with fail
            obtain ⟨V4, hV4, hb4, hs4, BA⟩ := box1 V3 #[.slice L1 ln1 lc1, .int .i64 at1, .bool gv1, .slice J1 jn1 jc1, .slice A1 an1 ac1, .slice B1 bn1 bc1, .int .i64 nx1, .slice F1 fn1 fc1, .slice O1 on1 oc1] 40
            rw [hV4]
            have h7V := B7'.lt
            obtain ⟨N15, hN15⟩ : ∃ N, V3.heap.size = N := ⟨_, rfl⟩
            rw [hN15] at BA h7V ⊢
            have B7 := B7'.up hb4
            replace HB := Lib.hid (HB.out.up hb4)
            replace HW := Lib.hid (HW.out.imp fun S hS => hS.up hb4)
            clear hV4 hN15 hs4 hb4 B7'
            obtain ⟨c0, c1, c2, c3, c4, c5, c6, c7, c8, f0, f1, f2, f3, f4, f5, f6, f7, f8, lt7⟩ := B7.c9
            obtain ⟨d0, d1, d2, d3, d4, d5, d6, d7, d8, e0, e1, e2, e3, e4, e5, e6, e7, e8, lt15⟩ := BA.c9
            go_upto_region 21 with fail
            obtain ⟨V5, hV5, B7', hk5, _, hb5⟩ := st_9_0_9 (.slice L1 ln1 lc1) (.int .i64 at1) (.bool gv1) (.slice J1 jn1 jc1) (.slice A1 an1 ac1) (.slice B1 bn1 bc1) (.int .i64 nx1) (.slice F1 fn1 fc1) (.slice O1 on1 oc1) B7
            try rw [hV5]
            have HR : Hid (LawR w N7 N9 (some ⟨jb, jo, none⟩) k 0 x ⟨L1, ln1, lc1, at1, gv1, J1, jn1, jc1, A1, an1, ac1, B1, bn1, bc1, nx1, F1, fn1, fc1, O1, on1, oc1⟩ dk dk wa wa (6 * k + 3 * m) kd ((k : Int) + 1) xd V5) := Lib.hid ⟨B7', HB.out.off B7 h7w h79 hk5 hb5, .inl ⟨rfl, rfl, rfl, HW.out.imp fun S hS => hS.off B7 (.inl rfl) hk5⟩⟩
            clear hV5 hk5 hb5 B7 B7' HB HW BA c0 c1 c2 c3 c4 c5 c6 c7 c8 f0 f1 f2 f3 f4 f5 f6 f7 f8 lt7 d0 d1 d2 d3 d4 d5 d6 d7 d8 e0 e1 e2 e3 e4 e5 e6 e7 e8 lt15
            have HgJ := Lib.hid hg; have HakJ := Lib.hid hak
            clear hg hak hm
            go_wp2_with fail
            go_loopg [10, 76] 4 (fun g av rv wi => ∃ (r a : Nat) (v : Scd) (dk' : Dk) (wa' : List ByteArray), r ≤ 4 ∧ g = 4 - r ∧ rv = .int .i64 r ∧ av = .int .i64 a ∧ a ≤ 8 * k + 4 * m + r ∧ Hid (LawR w N7 N9 (some ⟨jb, jo, none⟩) k r x v dk dk' wa wa' (6 * k + 3 * m) kd ((k : Int) + 1) xd wi))
            case atStart => exact ⟨0, a2, _, _, _, by omega, rfl, rfl, rfl, by have := HakJ.out; omega, HR⟩
            case round =>
              clear HR h7V
              rename World => wi
              obtain ⟨r, a3, v, dk', wa', hr, hg, rfl, rfl, hak, HR⟩ := hrel
              rcases Nat.lt_or_ge r 4 with hr4 | hr4
              · obtain ⟨L2, ln2, lc2, at2, gv2, J2, jn2, jc2, A2, an2, ac2, B2, bn2, bc2, nx2, F2, fn2, fc2, O2, on2, oc2⟩ := v
                have B7 := HR.out.bs
                simp only [Scd.vals] at B7
                obtain ⟨c0, c1, c2, c3, c4, c5, c6, c7, c8, f0, f1, f2, f3, f4, f5, f6, f7, f8, lt7⟩ := B7.c9
                go_wp2_with fail
                refine (lawPump wi ⟨L2, ln2, lc2, at2, gv2, J2, jn2, jc2, A2, an2, ac2, B2, bn2, bc2, nx2, F2, fn2, fc2, O2, on2, oc2⟩ dk dk' wa wa' (6 * k + 3 * m) kd ((k : Int) + 1) xd r (by omega) (by omega) HR.out.st).mono ?_
                rintro e V6 ⟨v', rfl, hM, hb6⟩
                obtain ⟨L3, ln3, lc3, at3, gv3, J3, jn3, jc3, A3, an3, ac3, B3, bn3, bc3, nx3, F3, fn3, fc3, O3, on3, oc3⟩ := v'
                simp only [Scd.vals]
                replace B7 := B7.up hb6
                have HB := Lib.hid (HR.out.b.up hb6)
                have HM := Lib.hid hM
                clear hb6 hM c0 c1 c2 c3 c4 c5 c6 c7 c8 f0 f1 f2 f3 f4 f5 f6 f7 f8 lt7
                obtain ⟨c0, c1, c2, c3, c4, c5, c6, c7, c8, f0, f1, f2, f3, f4, f5, f6, f7, f8, lt7⟩ := B7.c9
                go_upto_region 24 with fail
                obtain ⟨V7, hV7, B7', hk7, hs7, hb7⟩ := st_9_0_9 (.slice L3 ln3 lc3) (.int .i64 at3) (.bool gv3) (.slice J3 jn3 jc3) (.slice A3 an3 ac3) (.slice B3 bn3 bc3) (.int .i64 nx3) (.slice F3 fn3 fc3) (.slice O3 on3 oc3) B7
                try rw [hV7]
                replace HB := Lib.hid (HB.out.off B7 h7w h79 hk7 hb7)
                replace HM := Lib.hid (HM.out.imp fun S hS => hS.off B7 (.inl rfl) hk7)
                clear hV7 hk7 hs7 hb7 B7 HR c0 c1 c2 c3 c4 c5 c6 c7 c8 f0 f1 f2 f3 f4 f5 f6 f7 f8 lt7
                have B7 := B7'
                clear B7'
                obtain ⟨c0, c1, c2, c3, c4, c5, c6, c7, c8, f0, f1, f2, f3, f4, f5, f6, f7, f8, lt7⟩ := B7.c9
                have hdc : dk.cache.length ≤ 190 := by have := HJ.out.cl; omega
                have Hdc := Lib.hid hdc
                clear hdc
                rcases Nat.eq_zero_or_pos bs.length with hz | hz
                · have hz1 : ¬ (0 : Int) < (bs.length : Int) := by omega
                  have hz2 : ¬ 0 < bs.length := by omega
                  clear hz
                  refine wp_region_S 25 (fun U => ∃ y : BW V7, U = y.w) (by kernel_rfl) rfl rfl ?_
                  have n_c0 := bw_cell c0 lt7
                  have n_c1 := bw_cell c1 lt7
                  have n_c2 := bw_cell c2 lt7
                  have n_c3 := bw_cell c3 lt7
                  have n_c4 := bw_cell c4 lt7
                  have n_c5 := bw_cell c5 lt7
                  have n_c6 := bw_cell c6 lt7
                  have n_c7 := bw_cell c7 lt7
                  have n_c8 := bw_cell c8 lt7
                  have HC : Hid (∃ y : BW V7, V7.drew = y.w) := Lib.hid ⟨⟨_, (Below.refl _ _).drew⟩, rfl⟩
                  clear c0 c1 c2 c3 c4 c5 c6 c7 c8 f0 f1 f2 f3 f4 f5 f6 f7 f8
                  refine pureS 0 rfl (by kernel_rfl) rfl (fun _ _ _ _ _ h => h) HC.out ?_
                  go_big_quiet_step (fail)
                  refine wpQuiet_nil ?_
                  refine pureS 1 rfl (by kernel_rfl) rfl (fun _ _ _ _ _ h => h) HC.out ?_
                  go_big_quiet_step (fail)
                  refine wpQuiet_nil ?_
                  refine pureS 2 rfl (by kernel_rfl) rfl (fun _ _ _ _ _ h => h) HC.out ?_
                  go_big_quiet_step (fail)
                  refine wpQuiet_nil ?_
                  refine pureS 3 rfl (by kernel_rfl) rfl (fun _ _ _ _ _ h => h) HC.out ?_
                  go_big_quiet_step (fail)
                  refine wpQuiet_nil ?_
                  refine pureS 4 rfl (by kernel_rfl) rfl (fun _ _ _ _ _ h => h) HC.out ?_
                  go_big_quiet_step (fail)
                  refine wpQuiet_nil ?_
                  refine pureS 5 rfl (by kernel_rfl) rfl (fun _ _ _ _ _ h => h) HC.out ?_
                  go_big_quiet_step (fail)
                  refine wpQuiet_nil ?_
                  refine pureS 6 rfl (by kernel_rfl) rfl (fun _ _ _ _ _ h => h) HC.out ?_
                  go_big_quiet_step (fail)
                  refine wpQuiet_nil ?_
                  refine pureS 7 rfl (by kernel_rfl) rfl (fun _ _ _ _ _ h => h) HC.out ?_
                  go_big_quiet_step (fail)
                  refine wpQuiet_nil ?_
                  refine pureS 8 rfl (by kernel_rfl) rfl (fun _ _ _ _ _ h => h) HC.out ?_
                  go_big_quiet_step (fail)
                  refine wpQuiet_nil ?_
                  refine pureS 9 rfl (by kernel_rfl) rfl (fun _ _ _ _ _ h => h) HC.out ?_
                  go_big_quiet_step (fail)
                  refine wpQuiet_nil ?_
                  refine pureS 10 rfl (by kernel_rfl) rfl (fun _ _ _ _ _ h => h) HC.out ?_
                  go_big_quiet_step (fail)
                  refine wpQuiet_nil ?_
                  refine pureS 11 rfl (by kernel_rfl) rfl (fun _ _ _ _ _ h => h) HC.out ?_
                  go_big_quiet_step (fail)
                  refine wpQuiet_nil ?_
                  refine pureS 12 rfl (by kernel_rfl) rfl (fun _ _ _ _ _ h => h) HC.out ?_
                  go_big_quiet_step (fail)
                  refine wpQuiet_nil ?_
                  refine pureS 13 rfl (by kernel_rfl) rfl (fun _ _ _ _ _ h => h) HC.out ?_
                  go_big_quiet_step (fail)
                  refine wpQuiet_nil ?_
                  refine thU3 (n := 8) [(14, false), (15, true), (16, true), (17, true), (18, true), (19, true)] [(20, false)] [(21, false)]
                    (fun p U => DoneO r dk dk' wa wa' (6 * k + 3 * m) kd ((k : Int) + 1) xd p U)
                    (fun p U => ∃ g, p = [(some 17, .pointer (some ⟨g, 0, none⟩))] ∧ V7.heap.size ≤ g ∧ Bx g 40 #[.slice none 0 0, .int .i64 0, .bool false, .slice none 0 0, .slice none 0 0, .slice none 0 0, .int .i64 0, .slice none 0 0, .slice none 0 0] U)
                    (fun p U => ∃ g, p = [(some 18, .pointer (some ⟨g, 0, none⟩))] ∧ V7.heap.size ≤ g ∧ Bx g 46 #[.int .i64 0, .int .i64 0, .int .i64 0, .string ⟨#[]⟩, .int .i64 0] U)
                    rfl rfl rfl (by kernel_rfl) rfl rfl (by kernel_rfl) (by rintro _ w' ⟨y, rfl⟩ hb; exact ⟨⟨w', y.below.trans (hb.mono y.below.size)⟩, rfl⟩) HC.out (fun _ _ _ _ _ h => h) ?_ ?_ ?_ ?_
                  · rintro U ⟨y, rfl⟩ hbU
                    unfold Gives
                    go_simp
                    refine (lawDone y.w ⟨L3, ln3, lc3, at3, gv3, J3, jn3, jc3, A3, an3, ac3, B3, bn3, bc3, nx3, F3, fn3, fc3, O3, on3, oc3⟩ dk dk' wa wa' (6 * k + 3 * m) kd ((k : Int) + 1) xd r _ (by omega) (by omega) (grq_j H32.out (by omega) Hkd.out) Hdc.out (HM.out.imp fun S hS => hS.up y.below)).mono ?_
                    rintro e U' ⟨⟨v', j, E, told, rfl, hD⟩, hb⟩
                    refine ⟨_, rfl, hb, ?_⟩
                    refine ⟨.tuple #[.agg v'.vals, .agg j.vals, .int .i64 E, .bool told], fun U _ => by go_simp, ?_⟩
                    refine ⟨.agg v'.vals, fun U _ => by go_simp, ?_⟩
                    refine ⟨.agg j.vals, fun U _ => by go_simp, ?_⟩
                    refine ⟨.int .i64 E, fun U _ => by go_simp, ?_⟩
                    refine ⟨.bool told, fun U _ => by go_simp, ?_⟩
                    rintro U7 _ hb7
                    exact DoneO.mk rfl (hD.imp fun S hS => hS.up hb7)
                  · rintro U ⟨y, rfl⟩ hbU
                    unfold Gives
                    go_simp
                    refine ⟨(Below.refl _ _).alloc (Nat.le_refl _) _, ?_⟩
                    rintro U' _ hb
                    exact ⟨_, rfl, y.below.size, (Bx.new _ _ _).up hb⟩
                  · rintro U ⟨y, rfl⟩ hbU
                    unfold Gives
                    go_simp
                    refine ⟨(Below.refl _ _).alloc (Nat.le_refl _) _, ?_⟩
                    rintro U' _ hb
                    exact ⟨_, rfl, y.below.size, (Bx.new _ _ _).up hb⟩
                  intro K hK
                  rintro p1 p2 p3 U ⟨v', j, E, told, rfl, hD⟩ ⟨g, rfl, hgg, hBg⟩ ⟨g2, rfl, hgg2, hBg2⟩ ⟨y, rfl⟩ hbU
                  have HK := Lib.hid hK; clear hK
                  simp only [putsL, List.cons_append, List.nil_append]
                  obtain ⟨L4, ln4, lc4, at4, gv4, J4, jn4, jc4, A4, an4, ac4, B4, bn4, bc4, nx4, F4, fn4, fc4, O4, on4, oc4⟩ := v'
                  obtain ⟨who4, kind4, page4, data4, tries4⟩ := j
                  simp only [Scd.vals, Jb.vals]
                  go_simp
                  refine HK.out _ _ ⟨y, rfl⟩ ?_
                  clear HK K
                  have hNg : g ≠ g2 := fun e => by
                    subst e
                    have h2 := hBg.symm.trans hBg2
                    injection h2 with h2
                    injection h2 with _ h2 _
                    exact absurd h2 (by decide)
                  have Hby := Lib.hid y.below
                  obtain ⟨U0, hU0⟩ : ∃ U0, y.w = U0 := ⟨_, rfl⟩
                  rw [hU0] at hD hBg hBg2 Hby ⊢
                  clear hU0 hbU
                  replace B7 := B7.up Hby.out
                  have HB0 := Lib.hid (HB.out.up Hby.out)
                  have h7g : N7 < g := by omega
                  have hwg : w.heap.size ≤ g := by omega
                  have hwg2 : w.heap.size ≤ g2 := by omega
                  have h7g2 : N7 < g2 := by omega
                  obtain ⟨a0, a1, a20, a30, a4, a5, a6, a7, a8, b0, b1, b2, b3, b4, b5, b6, b7, b8, ltg⟩ := hBg.c9
                  obtain ⟨R0, hU_R0, B_R0, hk_R0, hs_R0, hb_R0⟩ := st_9_0_9 (.slice L4 ln4 lc4) (.int .i64 at4) (.bool gv4) (.slice J4 jn4 jc4) (.slice A4 an4 ac4) (.slice B4 bn4 bc4) (.int .i64 nx4) (.slice F4 fn4 fc4) (.slice O4 on4 oc4) hBg
                  have HbR0 := Lib.hid (hb_R0 _ _ Hby.out hgg)
                  refine oneS 22 (by kernel_rfl) rfl rfl rfl (fun K hK => ?_)
                  have HK := Lib.hid hK; clear hK
                  go_simp
                  try rw [hU_R0]
                  refine HK.out _ _ (fun _ => ⟨⟨R0, HbR0.out⟩, rfl⟩) ?_
                  clear HK K a0 a1 a20 a30 a4 a5 a6 a7 a8 b0 b1 b2 b3 b4 b5 b6 b7 b8 ltg
                  replace B7 := B7.keep (hk_R0 _ (by omega))
                  have BG2 := hBg2.keep (hk_R0 _ (by omega))
                  have HD0 := Lib.hid (hD.imp fun S hS => hS.off hBg (.inl rfl) hk_R0)
                  have HB1 := Lib.hid (show LawB w N9 (some ⟨jb, jo, none⟩) k x wa' R0 from ⟨HB0.out.bw.keep (hk_R0 _ (fun e => by
                    subst e
                    have h2 := HB0.out.bw.symm.trans hBg
                    injection h2 with h2
                    injection h2 with _ h2 _
                    exact absurd h2 (by decide))), HB0.out.jr.keep fun b cs fr hb => hk_R0 b (hBg.ne_type hb (by decide)), HB0.out.wl, hb_R0 _ _ HB0.out.bel hwg⟩)
                  clear hU_R0 hs_R0 hb_R0 hBg hBg2 hD HB0
                  obtain ⟨a0, a1, a20, a30, a4, b0, b1, b2, b3, b4, ltg2⟩ := BG2.c5
                  obtain ⟨R1, hU_R1, B_R1, hk_R1, hs_R1, hb_R1⟩ := st_5_0_5 (.int .i64 who4) (.int .i64 kind4) (.int .i64 page4) (.string data4) (.int .i64 tries4) BG2
                  have HbR1 := Lib.hid (hb_R1 _ _ HbR0.out hgg2)
                  refine oneS 23 (by kernel_rfl) rfl rfl rfl (fun K hK => ?_)
                  have HK := Lib.hid hK; clear hK
                  go_simp
                  try rw [hU_R1]
                  refine HK.out _ _ (fun _ => ⟨⟨R1, HbR1.out⟩, rfl⟩) ?_
                  clear HK K a0 a1 a20 a30 a4 b0 b1 b2 b3 b4 ltg2
                  replace B7 := B7.keep (hk_R1 _ (by omega))
                  have BG := B_R0.keep (hk_R1 _ hNg)
                  have HD1 := Lib.hid (HD0.out.imp fun S hS => hS.offJ BG2 hk_R1)
                  have HB2 := Lib.hid (HB1.out.offJ BG2 hwg2 hk_R1 hb_R1)
                  clear hU_R1 hs_R1 hb_R1 hk_R0 hk_R1 BG2 B_R0 HB1 HD0
                  refine oneS 24 (by kernel_rfl) rfl rfl rfl (fun K hK => ?_)
                  have HK := Lib.hid hK; clear hK
                  go_simp
                  refine HK.out _ _ (fun _ => ⟨⟨R1, HbR1.out⟩, rfl⟩) ?_
                  clear HK K
                  refine oneS 25 (by kernel_rfl) rfl rfl rfl (fun K hK => ?_)
                  have HK := Lib.hid hK; clear hK
                  go_simp
                  refine HK.out _ _ (fun h => absurd h (by decide)) ?_
                  clear HK K
                  refine doneS (by kernel_rfl) ?_
                  obtain ⟨c0, c1, c2, c3, c4, c5, c6, c7, c8, f0, f1, f2, f3, f4, f5, f6, f7, f8, lt7⟩ := B7.c9
                  obtain ⟨a0, a1, a20, a30, a4, a5, a6, a7, a8, b0, b1, b2, b3, b4, b5, b6, b7, b8, ltg⟩ := BG.c9
                  go_upto_region 27 with fail
                  obtain ⟨R2, hR2, B7', hk2, hs2, hb2⟩ := st_9_0_9 (.slice L4 ln4 lc4) (.int .i64 at4) (.bool gv4) (.slice J4 jn4 jc4) (.slice A4 an4 ac4) (.slice B4 bn4 bc4) (.int .i64 nx4) (.slice F4 fn4 fc4) (.slice O4 on4 oc4) B7
                  try rw [hR2]
                  have BJ := B_R1.keep (hk2 _ (by omega))
                  have HB3 := Lib.hid (HB2.out.off B7 h7w h79 hk2 hb2)
                  have HD2 := Lib.hid (HD1.out.imp fun S hS => hS.off B7 (.inl rfl) hk2)
                  clear hR2 hk2 hs2 hb2 B7 B_R1 BG HB2 HD1 c0 c1 c2 c3 c4 c5 c6 c7 c8 f0 f1 f2 f3 f4 f5 f6 f7 f8 lt7 a0 a1 a20 a30 a4 a5 a6 a7 a8 b0 b1 b2 b3 b4 b5 b6 b7 b8 ltg
                  have Hg4 := Lib.hid hg; have Hak4 := Lib.hid hak; have HB7 := Lib.hid B7'
                  clear hg hak B7'
                  obtain ⟨d0, d1, d2, d3, d4, e0, e1, e2, e3, e4, ltj⟩ := BJ.c5
                  rcases HD2.out with ⟨ht, hIn⟩ | ⟨hat, ht, hE, hd, hw, hI⟩ | ⟨hat, ht, hE, hk2, hjk, hjd, hd, hw, hI⟩ | ⟨hat, ht, hE, hk1, hjk, hjd, hd, hw, hI⟩
                  · subst ht
                    have HIn := Lib.hid hIn
                    clear hIn HD2
                    go_wp2_with fail
                    go_roundg (4 - (r + 1))
                    case measure => have := Hg4.out; omega
                    case rel => exact ⟨r + 1, a3 + 1, ⟨L4, ln4, lc4, at4, gv4, J4, jn4, jc4, A4, an4, ac4, B4, bn4, bc4, nx4, F4, fn4, fc4, O4, on4, oc4⟩, _, _, by omega, rfl, by go_num, by go_num, by have := Hak4.out; omega, Lib.hid ⟨HB7.out, HB3.out, HIn.out⟩⟩
                  · subst ht
                    subst hE
                    have HI2 := Lib.hid (show In (r + 1) R2 ⟨L4, ln4, lc4, at4, gv4, J4, jn4, jc4, A4, an4, ac4, B4, bn4, bc4, nx4, F4, fn4, fc4, O4, on4, oc4⟩ dk dk' wa wa' (6 * k + 3 * m) kd ((k : Int) + 1) xd from .inr (.inr ⟨by omega, hat, .inl ⟨hd, hw⟩, by rw [hd]; exact hI⟩))
                    clear hI HD2 hd hw hat
                    go_wp2_with fail
                    go_quiet (fail)
                    go_wp2_with fail
                    go_roundg (4 - (r + 1))
                    case measure => have := Hg4.out; omega
                    case rel => exact ⟨r + 1, a3 + 1, ⟨L4, ln4, lc4, at4, gv4, J4, jn4, jc4, A4, an4, ac4, B4, bn4, bc4, nx4, F4, fn4, fc4, O4, on4, oc4⟩, _, _, by omega, rfl, by go_num, by go_num, by have := Hak4.out; omega, Lib.hid (LawR.drw ⟨HB7.out, HB3.out, HI2.out⟩ _)⟩
                  · subst ht
                    subst hE
                    subst hjk
                    have hwl := HB3.out.wl
                    have w9 := HB3.out.bw.cell (waC_get (wa := wa') (j := k + 1) (by omega))
                    have w9f := HB3.out.bw.frz (k + 1)
                    have lt9 := HB3.out.bw.lt
                    have h29 := bx_ne BJ HB3.out.bw (by decide)
                    have h79b := bx_ne HB7.out HB3.out.bw (by decide)
                    obtain ⟨wk, hwk⟩ : ∃ y, wa'.getD (k + 1) ⟨#[]⟩ = y := ⟨_, rfl⟩
                    rw [hwk] at w9
                    clear hwl hwk
                    have hd' : data4 = xd := hjd
                    have HI2 := Lib.hid (show In (r + 1) (R2.setCell ⟨N9, k + 1, none⟩ (.string data4)) ⟨L4, ln4, lc4, at4, gv4, J4, jn4, jc4, A4, an4, ac4, B4, bn4, bc4, nx4, F4, fn4, fc4, O4, on4, oc4⟩ dk (wrD dk ((k : Int) + 1) xd) wa (wa'.set (k + 1) data4) (6 * k + 3 * m) kd ((k : Int) + 1) xd from .inr (.inr ⟨by omega, hat, .inr ⟨hk2, rfl, by rw [hw, hd', show ((k : Int) + 1).toNat = k + 1 from by omega]⟩, hI.imp fun S hS => hS.off HB3.out.bw (.inr rfl) (fun g hg => Below.heap_setCell R2 ⟨N9, k + 1, none⟩ _ g hg)⟩))
                    have HB9 := Lib.hid (HB3.out.put (by omega) data4)
                    have HB8 := Lib.hid (HB7.out.other (M := N9) h79b (k + 1) (.string data4))
                    have BJ9 := BJ.other (M := N9) h29 (k + 1) (.string data4)
                    clear hI HD2 hd hw hat hjd hk2 hd' HB3 HB7 BJ h79b
                    go_upto_region 30 with fail
                    obtain ⟨R3, hR3⟩ : ∃ R3, R2.setCell ⟨N9, k + 1, none⟩ (.string data4) = R3 := ⟨_, rfl⟩
                    try rw [hR3] at HI2 HB9 HB8 BJ9 ⊢
                    clear hR3 w9 w9f lt9 h29 d0 d1 d2 d3 d4 e0 e1 e2 e3 e4 ltj
                    obtain ⟨d0, d1, d2, d3, d4, e0, e1, e2, e3, e4, ltj⟩ := BJ9.c5
                    go_quiet (fail)
                    go_wp2_with fail
                    go_roundg (4 - (r + 1))
                    case measure => have := Hg4.out; omega
                    case rel => exact ⟨r + 1, a3 + 1, ⟨L4, ln4, lc4, at4, gv4, J4, jn4, jc4, A4, an4, ac4, B4, bn4, bc4, nx4, F4, fn4, fc4, O4, on4, oc4⟩, _, _, by omega, rfl, by go_num, by go_num, by have := Hak4.out; omega, Lib.hid (LawR.drw ⟨HB8.out, HB9.out, HI2.out⟩ _)⟩
                  · subst ht
                    subst hE
                    subst hjk
                    have hwl := HB3.out.wl
                    have w9 := HB3.out.bw.cell (waC_get (wa := wa') (j := k + 1) (by omega))
                    have w9f := HB3.out.bw.frz (k + 1)
                    have lt9 := HB3.out.bw.lt
                    obtain ⟨wk, hwk⟩ : ∃ y, wa'.getD (k + 1) ⟨#[]⟩ = y := ⟨_, rfl⟩
                    rw [hwk] at w9
                    have hwr := HJ.out.wr
                    rw [← hw, hwk] at hwr
                    have HI2 := Lib.hid (show In (r + 1) R2 ⟨L4, ln4, lc4, at4, gv4, J4, jn4, jc4, A4, an4, ac4, B4, bn4, bc4, nx4, F4, fn4, fc4, O4, on4, oc4⟩ dk dk' wa wa' (6 * k + 3 * m) kd ((k : Int) + 1) xd from .inr (.inr ⟨by omega, hat, .inl ⟨hd, hw⟩, by rw [hd]; exact hI⟩))
                    have hjd' : data4 = rd2 dk ((k : Int) + 1) := hjd
                    rw [← hjd'] at hwr
                    clear hI HD2 hd hw hat hwl hwk hjd hjd' hk1
                    go_upto_region 30 with fail
                    rcases Classical.em (wk = ⟨#[]⟩) with he | he
                    · subst he
                      clear hwr
                      go_quiet (fail)
                      go_wp2_with fail
                      go_roundg (4 - (r + 1))
                      case measure => have := Hg4.out; omega
                      case rel => exact ⟨r + 1, a3 + 1, ⟨L4, ln4, lc4, at4, gv4, J4, jn4, jc4, A4, an4, ac4, B4, bn4, bc4, nx4, F4, fn4, fc4, O4, on4, oc4⟩, _, _, by omega, rfl, by go_num, by go_num, by have := Hak4.out; omega, Lib.hid (LawR.drw ⟨HB7.out, HB3.out, HI2.out⟩ _)⟩
                    · obtain rfl : data4 = wk := by
                        rcases hwr with h | h
                        · exact absurd h he
                        · exact h
                      have hne0 := tl_no he
                      have hne1 : (data4.toList == []) = false := by rw [tl_nil] at hne0; exact hne0
                      have hne2 : ¬ data4.toList = [] := fun h => by rw [h] at hne1; exact absurd hne1 (by decide)
                      clear hwr
                      go_quiet (fail)
                      go_wp2_with fail
                      go_roundg (4 - (r + 1))
                      case measure => have := Hg4.out; omega
                      case rel => exact ⟨r + 1, a3 + 1, ⟨L4, ln4, lc4, at4, gv4, J4, jn4, jc4, A4, an4, ac4, B4, bn4, bc4, nx4, F4, fn4, fc4, O4, on4, oc4⟩, _, _, by omega, rfl, by go_num, by go_num, by have := Hak4.out; omega, Lib.hid (LawR.drw ⟨HB7.out, HB3.out, HI2.out⟩ _)⟩
                · have hz1 : (0 : Int) < (bs.length : Int) := by omega
                  have hz2 : 0 < bs.length := by omega
                  have htl : a3 % bs.length < bs.length := Nat.mod_lt _ hz
                  obtain ⟨flt, fb, fo, hfx, hFA, hfb, hfcell⟩ := rd_f HF.out htl
                  have q0 := hfcell V7 HB.out.bel
                  have ltf : fb < V7.heap.size := by have := HB.out.bel.size; omega
                  have htm : (a3 : Int) % max (bs.length : Int) 1 = ((a3 % bs.length : Nat) : Int) := by
                    rw [show max (bs.length : Int) 1 = (bs.length : Int) from by omega]
                    rfl
                  obtain ⟨mm, hmm⟩ : ∃ mm, a3 % bs.length = mm := ⟨_, rfl⟩
                  rw [hmm] at htm htl q0
                  have htl2 : (mm : Int) < (bs.length : Int) := by omega
                  have htl3 : (0 : Int) ≤ (mm : Int) := by omega
                  clear hz hfx hfcell hmm
                  subst hFA
                  refine wp_region_S 25 (fun U => ∃ y : BW V7, U = y.w) (by kernel_rfl) rfl rfl ?_
                  have n_c0 := bw_cell c0 lt7
                  have n_c1 := bw_cell c1 lt7
                  have n_c2 := bw_cell c2 lt7
                  have n_c3 := bw_cell c3 lt7
                  have n_c4 := bw_cell c4 lt7
                  have n_c5 := bw_cell c5 lt7
                  have n_c6 := bw_cell c6 lt7
                  have n_c7 := bw_cell c7 lt7
                  have n_c8 := bw_cell c8 lt7
                  have n_q := bw_cell q0 ltf
                  have HC : Hid (∃ y : BW V7, V7.drew = y.w) := Lib.hid ⟨⟨_, (Below.refl _ _).drew⟩, rfl⟩
                  clear c0 c1 c2 c3 c4 c5 c6 c7 c8 f0 f1 f2 f3 f4 f5 f6 f7 f8 q0
                  refine pureS 0 rfl (by kernel_rfl) rfl (fun _ _ _ _ _ h => h) HC.out ?_
                  go_big_quiet_step (fail)
                  refine wpQuiet_nil ?_
                  refine pureS 1 rfl (by kernel_rfl) rfl (fun _ _ _ _ _ h => h) HC.out ?_
                  go_big_quiet_step (fail)
                  refine wpQuiet_nil ?_
                  refine pureS 2 rfl (by kernel_rfl) rfl (fun _ _ _ _ _ h => h) HC.out ?_
                  go_big_quiet_step (fail)
                  refine wpQuiet_nil ?_
                  refine pureS 3 rfl (by kernel_rfl) rfl (fun _ _ _ _ _ h => h) HC.out ?_
                  go_big_quiet_step (fail)
                  refine wpQuiet_nil ?_
                  refine pureS 4 rfl (by kernel_rfl) rfl (fun _ _ _ _ _ h => h) HC.out ?_
                  go_big_quiet_step (fail)
                  refine wpQuiet_nil ?_
                  refine pureS 5 rfl (by kernel_rfl) rfl (fun _ _ _ _ _ h => h) HC.out ?_
                  go_big_quiet_step (fail)
                  refine wpQuiet_nil ?_
                  refine pureS 6 rfl (by kernel_rfl) rfl (fun _ _ _ _ _ h => h) HC.out ?_
                  go_big_quiet_step (fail)
                  refine wpQuiet_nil ?_
                  refine pureS 7 rfl (by kernel_rfl) rfl (fun _ _ _ _ _ h => h) HC.out ?_
                  go_big_quiet_step (fail)
                  refine wpQuiet_nil ?_
                  refine pureS 8 rfl (by kernel_rfl) rfl (fun _ _ _ _ _ h => h) HC.out ?_
                  go_big_quiet_step (fail)
                  refine wpQuiet_nil ?_
                  refine pureS 9 rfl (by kernel_rfl) rfl (fun _ _ _ _ _ h => h) HC.out ?_
                  go_big_quiet_step (fail)
                  refine wpQuiet_nil ?_
                  refine pureS 10 rfl (by kernel_rfl) rfl (fun _ _ _ _ _ h => h) HC.out ?_
                  go_big_quiet_step (fail)
                  refine wpQuiet_nil ?_
                  refine pureS 11 rfl (by kernel_rfl) rfl (fun _ _ _ _ _ h => h) HC.out ?_
                  go_big_quiet_step (fail)
                  refine wpQuiet_nil ?_
                  refine pureS 12 rfl (by kernel_rfl) rfl (fun _ _ _ _ _ h => h) HC.out ?_
                  go_big_quiet_step (fail)
                  refine wpQuiet_nil ?_
                  refine pureS 13 rfl (by kernel_rfl) rfl (fun _ _ _ _ _ h => h) HC.out ?_
                  go_big_quiet_step (fail)
                  refine wpQuiet_nil ?_
                  refine thU3 (n := 8) [(14, false), (15, true), (16, true), (17, true), (18, true), (19, true)] [(20, false)] [(21, false)]
                    (fun p U => DoneO r dk dk' wa wa' (6 * k + 3 * m) kd ((k : Int) + 1) xd p U)
                    (fun p U => ∃ g, p = [(some 17, .pointer (some ⟨g, 0, none⟩))] ∧ V7.heap.size ≤ g ∧ Bx g 40 #[.slice none 0 0, .int .i64 0, .bool false, .slice none 0 0, .slice none 0 0, .slice none 0 0, .int .i64 0, .slice none 0 0, .slice none 0 0] U)
                    (fun p U => ∃ g, p = [(some 18, .pointer (some ⟨g, 0, none⟩))] ∧ V7.heap.size ≤ g ∧ Bx g 46 #[.int .i64 0, .int .i64 0, .int .i64 0, .string ⟨#[]⟩, .int .i64 0] U)
                    rfl rfl rfl (by kernel_rfl) rfl rfl (by kernel_rfl) (by rintro _ w' ⟨y, rfl⟩ hb; exact ⟨⟨w', y.below.trans (hb.mono y.below.size)⟩, rfl⟩) HC.out (fun _ _ _ _ _ h => h) ?_ ?_ ?_ ?_
                  · rintro U ⟨y, rfl⟩ hbU
                    unfold Gives
                    go_simp
                    refine (lawDone y.w ⟨L3, ln3, lc3, at3, gv3, J3, jn3, jc3, A3, an3, ac3, B3, bn3, bc3, nx3, F3, fn3, fc3, O3, on3, oc3⟩ dk dk' wa wa' (6 * k + 3 * m) kd ((k : Int) + 1) xd r _ (by omega) (by omega) (grq_j H32.out (by omega) Hkd.out) Hdc.out (HM.out.imp fun S hS => hS.up y.below)).mono ?_
                    rintro e U' ⟨⟨v', j, E, told, rfl, hD⟩, hb⟩
                    refine ⟨_, rfl, hb, ?_⟩
                    refine ⟨.tuple #[.agg v'.vals, .agg j.vals, .int .i64 E, .bool told], fun U _ => by go_simp, ?_⟩
                    refine ⟨.agg v'.vals, fun U _ => by go_simp, ?_⟩
                    refine ⟨.agg j.vals, fun U _ => by go_simp, ?_⟩
                    refine ⟨.int .i64 E, fun U _ => by go_simp, ?_⟩
                    refine ⟨.bool told, fun U _ => by go_simp, ?_⟩
                    rintro U7 _ hb7
                    exact DoneO.mk rfl (hD.imp fun S hS => hS.up hb7)
                  · rintro U ⟨y, rfl⟩ hbU
                    unfold Gives
                    go_simp
                    refine ⟨(Below.refl _ _).alloc (Nat.le_refl _) _, ?_⟩
                    rintro U' _ hb
                    exact ⟨_, rfl, y.below.size, (Bx.new _ _ _).up hb⟩
                  · rintro U ⟨y, rfl⟩ hbU
                    unfold Gives
                    go_simp
                    refine ⟨(Below.refl _ _).alloc (Nat.le_refl _) _, ?_⟩
                    rintro U' _ hb
                    exact ⟨_, rfl, y.below.size, (Bx.new _ _ _).up hb⟩
                  intro K hK
                  rintro p1 p2 p3 U ⟨v', j, E, told, rfl, hD⟩ ⟨g, rfl, hgg, hBg⟩ ⟨g2, rfl, hgg2, hBg2⟩ ⟨y, rfl⟩ hbU
                  have HK := Lib.hid hK; clear hK
                  simp only [putsL, List.cons_append, List.nil_append]
                  obtain ⟨L4, ln4, lc4, at4, gv4, J4, jn4, jc4, A4, an4, ac4, B4, bn4, bc4, nx4, F4, fn4, fc4, O4, on4, oc4⟩ := v'
                  obtain ⟨who4, kind4, page4, data4, tries4⟩ := j
                  simp only [Scd.vals, Jb.vals]
                  go_simp
                  refine HK.out _ _ ⟨y, rfl⟩ ?_
                  clear HK K
                  have hNg : g ≠ g2 := fun e => by
                    subst e
                    have h2 := hBg.symm.trans hBg2
                    injection h2 with h2
                    injection h2 with _ h2 _
                    exact absurd h2 (by decide)
                  have Hby := Lib.hid y.below
                  obtain ⟨U0, hU0⟩ : ∃ U0, y.w = U0 := ⟨_, rfl⟩
                  rw [hU0] at hD hBg hBg2 Hby ⊢
                  clear hU0 hbU
                  replace B7 := B7.up Hby.out
                  have HB0 := Lib.hid (HB.out.up Hby.out)
                  have h7g : N7 < g := by omega
                  have hwg : w.heap.size ≤ g := by omega
                  have hwg2 : w.heap.size ≤ g2 := by omega
                  have h7g2 : N7 < g2 := by omega
                  obtain ⟨a0, a1, a20, a30, a4, a5, a6, a7, a8, b0, b1, b2, b3, b4, b5, b6, b7, b8, ltg⟩ := hBg.c9
                  obtain ⟨R0, hU_R0, B_R0, hk_R0, hs_R0, hb_R0⟩ := st_9_0_9 (.slice L4 ln4 lc4) (.int .i64 at4) (.bool gv4) (.slice J4 jn4 jc4) (.slice A4 an4 ac4) (.slice B4 bn4 bc4) (.int .i64 nx4) (.slice F4 fn4 fc4) (.slice O4 on4 oc4) hBg
                  have HbR0 := Lib.hid (hb_R0 _ _ Hby.out hgg)
                  refine oneS 22 (by kernel_rfl) rfl rfl rfl (fun K hK => ?_)
                  have HK := Lib.hid hK; clear hK
                  go_simp
                  try rw [hU_R0]
                  refine HK.out _ _ (fun _ => ⟨⟨R0, HbR0.out⟩, rfl⟩) ?_
                  clear HK K a0 a1 a20 a30 a4 a5 a6 a7 a8 b0 b1 b2 b3 b4 b5 b6 b7 b8 ltg
                  replace B7 := B7.keep (hk_R0 _ (by omega))
                  have BG2 := hBg2.keep (hk_R0 _ (by omega))
                  have HD0 := Lib.hid (hD.imp fun S hS => hS.off hBg (.inl rfl) hk_R0)
                  have HB1 := Lib.hid (show LawB w N9 (some ⟨jb, jo, none⟩) k x wa' R0 from ⟨HB0.out.bw.keep (hk_R0 _ (fun e => by
                    subst e
                    have h2 := HB0.out.bw.symm.trans hBg
                    injection h2 with h2
                    injection h2 with _ h2 _
                    exact absurd h2 (by decide))), HB0.out.jr.keep fun b cs fr hb => hk_R0 b (hBg.ne_type hb (by decide)), HB0.out.wl, hb_R0 _ _ HB0.out.bel hwg⟩)
                  clear hU_R0 hs_R0 hb_R0 hBg hBg2 hD HB0
                  obtain ⟨a0, a1, a20, a30, a4, b0, b1, b2, b3, b4, ltg2⟩ := BG2.c5
                  obtain ⟨R1, hU_R1, B_R1, hk_R1, hs_R1, hb_R1⟩ := st_5_0_5 (.int .i64 who4) (.int .i64 kind4) (.int .i64 page4) (.string data4) (.int .i64 tries4) BG2
                  have HbR1 := Lib.hid (hb_R1 _ _ HbR0.out hgg2)
                  refine oneS 23 (by kernel_rfl) rfl rfl rfl (fun K hK => ?_)
                  have HK := Lib.hid hK; clear hK
                  go_simp
                  try rw [hU_R1]
                  refine HK.out _ _ (fun _ => ⟨⟨R1, HbR1.out⟩, rfl⟩) ?_
                  clear HK K a0 a1 a20 a30 a4 b0 b1 b2 b3 b4 ltg2
                  replace B7 := B7.keep (hk_R1 _ (by omega))
                  have BG := B_R0.keep (hk_R1 _ hNg)
                  have HD1 := Lib.hid (HD0.out.imp fun S hS => hS.offJ BG2 hk_R1)
                  have HB2 := Lib.hid (HB1.out.offJ BG2 hwg2 hk_R1 hb_R1)
                  clear hU_R1 hs_R1 hb_R1 hk_R0 hk_R1 BG2 B_R0 HB1 HD0
                  refine oneS 24 (by kernel_rfl) rfl rfl rfl (fun K hK => ?_)
                  have HK := Lib.hid hK; clear hK
                  go_simp
                  refine HK.out _ _ (fun _ => ⟨⟨R1, HbR1.out⟩, rfl⟩) ?_
                  clear HK K
                  refine oneS 25 (by kernel_rfl) rfl rfl rfl (fun K hK => ?_)
                  have HK := Lib.hid hK; clear hK
                  go_simp
                  refine HK.out _ _ (fun h => absurd h (by decide)) ?_
                  clear HK K
                  refine doneS (by kernel_rfl) ?_
                  obtain ⟨c0, c1, c2, c3, c4, c5, c6, c7, c8, f0, f1, f2, f3, f4, f5, f6, f7, f8, lt7⟩ := B7.c9
                  obtain ⟨a0, a1, a20, a30, a4, a5, a6, a7, a8, b0, b1, b2, b3, b4, b5, b6, b7, b8, ltg⟩ := BG.c9
                  go_upto_region 27 with fail
                  obtain ⟨R2, hR2, B7', hk2, hs2, hb2⟩ := st_9_0_9 (.slice L4 ln4 lc4) (.int .i64 at4) (.bool gv4) (.slice J4 jn4 jc4) (.slice A4 an4 ac4) (.slice B4 bn4 bc4) (.int .i64 nx4) (.slice F4 fn4 fc4) (.slice O4 on4 oc4) B7
                  try rw [hR2]
                  have BJ := B_R1.keep (hk2 _ (by omega))
                  have HB3 := Lib.hid (HB2.out.off B7 h7w h79 hk2 hb2)
                  have HD2 := Lib.hid (HD1.out.imp fun S hS => hS.off B7 (.inl rfl) hk2)
                  clear hR2 hk2 hs2 hb2 B7 B_R1 BG HB2 HD1 c0 c1 c2 c3 c4 c5 c6 c7 c8 f0 f1 f2 f3 f4 f5 f6 f7 f8 lt7 a0 a1 a20 a30 a4 a5 a6 a7 a8 b0 b1 b2 b3 b4 b5 b6 b7 b8 ltg
                  have Hg4 := Lib.hid hg; have Hak4 := Lib.hid hak; have HB7 := Lib.hid B7'
                  clear hg hak B7'
                  obtain ⟨d0, d1, d2, d3, d4, e0, e1, e2, e3, e4, ltj⟩ := BJ.c5
                  rcases HD2.out with ⟨ht, hIn⟩ | ⟨hat, ht, hE, hd, hw, hI⟩ | ⟨hat, ht, hE, hk2, hjk, hjd, hd, hw, hI⟩ | ⟨hat, ht, hE, hk1, hjk, hjd, hd, hw, hI⟩
                  · subst ht
                    have HIn := Lib.hid hIn
                    clear hIn HD2
                    go_wp2_with fail
                    go_roundg (4 - (r + 1))
                    case measure => have := Hg4.out; omega
                    case rel => exact ⟨r + 1, a3 + 1, ⟨L4, ln4, lc4, at4, gv4, J4, jn4, jc4, A4, an4, ac4, B4, bn4, bc4, nx4, F4, fn4, fc4, O4, on4, oc4⟩, _, _, by omega, rfl, by go_num, by go_num, by have := Hak4.out; omega, Lib.hid ⟨HB7.out, HB3.out, HIn.out⟩⟩
                  · subst ht
                    subst hE
                    have HI2 := Lib.hid (show In (r + 1) R2 ⟨L4, ln4, lc4, at4, gv4, J4, jn4, jc4, A4, an4, ac4, B4, bn4, bc4, nx4, F4, fn4, fc4, O4, on4, oc4⟩ dk dk' wa wa' (6 * k + 3 * m) kd ((k : Int) + 1) xd from .inr (.inr ⟨by omega, hat, .inl ⟨hd, hw⟩, by rw [hd]; exact hI⟩))
                    clear hI HD2 hd hw hat
                    go_wp2_with fail
                    go_quiet (fail)
                    go_wp2_with fail
                    go_roundg (4 - (r + 1))
                    case measure => have := Hg4.out; omega
                    case rel => exact ⟨r + 1, a3 + 1, ⟨L4, ln4, lc4, at4, gv4, J4, jn4, jc4, A4, an4, ac4, B4, bn4, bc4, nx4, F4, fn4, fc4, O4, on4, oc4⟩, _, _, by omega, rfl, by go_num, by go_num, by have := Hak4.out; omega, Lib.hid (LawR.drw ⟨HB7.out, HB3.out, HI2.out⟩ _)⟩
                  · subst ht
                    subst hE
                    subst hjk
                    have hwl := HB3.out.wl
                    have w9 := HB3.out.bw.cell (waC_get (wa := wa') (j := k + 1) (by omega))
                    have w9f := HB3.out.bw.frz (k + 1)
                    have lt9 := HB3.out.bw.lt
                    have h29 := bx_ne BJ HB3.out.bw (by decide)
                    have h79b := bx_ne HB7.out HB3.out.bw (by decide)
                    obtain ⟨wk, hwk⟩ : ∃ y, wa'.getD (k + 1) ⟨#[]⟩ = y := ⟨_, rfl⟩
                    rw [hwk] at w9
                    clear hwl hwk
                    have hd' : data4 = xd := hjd
                    have HI2 := Lib.hid (show In (r + 1) (R2.setCell ⟨N9, k + 1, none⟩ (.string data4)) ⟨L4, ln4, lc4, at4, gv4, J4, jn4, jc4, A4, an4, ac4, B4, bn4, bc4, nx4, F4, fn4, fc4, O4, on4, oc4⟩ dk (wrD dk ((k : Int) + 1) xd) wa (wa'.set (k + 1) data4) (6 * k + 3 * m) kd ((k : Int) + 1) xd from .inr (.inr ⟨by omega, hat, .inr ⟨hk2, rfl, by rw [hw, hd', show ((k : Int) + 1).toNat = k + 1 from by omega]⟩, hI.imp fun S hS => hS.off HB3.out.bw (.inr rfl) (fun g hg => Below.heap_setCell R2 ⟨N9, k + 1, none⟩ _ g hg)⟩))
                    have HB9 := Lib.hid (HB3.out.put (by omega) data4)
                    have HB8 := Lib.hid (HB7.out.other (M := N9) h79b (k + 1) (.string data4))
                    have BJ9 := BJ.other (M := N9) h29 (k + 1) (.string data4)
                    clear hI HD2 hd hw hat hjd hk2 hd' HB3 HB7 BJ h79b
                    go_upto_region 30 with fail
                    obtain ⟨R3, hR3⟩ : ∃ R3, R2.setCell ⟨N9, k + 1, none⟩ (.string data4) = R3 := ⟨_, rfl⟩
                    try rw [hR3] at HI2 HB9 HB8 BJ9 ⊢
                    clear hR3 w9 w9f lt9 h29 d0 d1 d2 d3 d4 e0 e1 e2 e3 e4 ltj
                    obtain ⟨d0, d1, d2, d3, d4, e0, e1, e2, e3, e4, ltj⟩ := BJ9.c5
                    go_quiet (fail)
                    go_wp2_with fail
                    go_roundg (4 - (r + 1))
                    case measure => have := Hg4.out; omega
                    case rel => exact ⟨r + 1, a3 + 1, ⟨L4, ln4, lc4, at4, gv4, J4, jn4, jc4, A4, an4, ac4, B4, bn4, bc4, nx4, F4, fn4, fc4, O4, on4, oc4⟩, _, _, by omega, rfl, by go_num, by go_num, by have := Hak4.out; omega, Lib.hid (LawR.drw ⟨HB8.out, HB9.out, HI2.out⟩ _)⟩
                  · subst ht
                    subst hE
                    subst hjk
                    have hwl := HB3.out.wl
                    have w9 := HB3.out.bw.cell (waC_get (wa := wa') (j := k + 1) (by omega))
                    have w9f := HB3.out.bw.frz (k + 1)
                    have lt9 := HB3.out.bw.lt
                    obtain ⟨wk, hwk⟩ : ∃ y, wa'.getD (k + 1) ⟨#[]⟩ = y := ⟨_, rfl⟩
                    rw [hwk] at w9
                    have hwr := HJ.out.wr
                    rw [← hw, hwk] at hwr
                    have HI2 := Lib.hid (show In (r + 1) R2 ⟨L4, ln4, lc4, at4, gv4, J4, jn4, jc4, A4, an4, ac4, B4, bn4, bc4, nx4, F4, fn4, fc4, O4, on4, oc4⟩ dk dk' wa wa' (6 * k + 3 * m) kd ((k : Int) + 1) xd from .inr (.inr ⟨by omega, hat, .inl ⟨hd, hw⟩, by rw [hd]; exact hI⟩))
                    have hjd' : data4 = rd2 dk ((k : Int) + 1) := hjd
                    rw [← hjd'] at hwr
                    clear hI HD2 hd hw hat hwl hwk hjd hjd' hk1
                    go_upto_region 30 with fail
                    rcases Classical.em (wk = ⟨#[]⟩) with he | he
                    · subst he
                      clear hwr
                      go_quiet (fail)
                      go_wp2_with fail
                      go_roundg (4 - (r + 1))
                      case measure => have := Hg4.out; omega
                      case rel => exact ⟨r + 1, a3 + 1, ⟨L4, ln4, lc4, at4, gv4, J4, jn4, jc4, A4, an4, ac4, B4, bn4, bc4, nx4, F4, fn4, fc4, O4, on4, oc4⟩, _, _, by omega, rfl, by go_num, by go_num, by have := Hak4.out; omega, Lib.hid (LawR.drw ⟨HB7.out, HB3.out, HI2.out⟩ _)⟩
                    · obtain rfl : data4 = wk := by
                        rcases hwr with h | h
                        · exact absurd h he
                        · exact h
                      have hne0 := tl_no he
                      have hne1 : (data4.toList == []) = false := by rw [tl_nil] at hne0; exact hne0
                      have hne2 : ¬ data4.toList = [] := fun h => by rw [h] at hne1; exact absurd hne1 (by decide)
                      clear hwr
                      go_quiet (fail)
                      go_wp2_with fail
                      go_roundg (4 - (r + 1))
                      case measure => have := Hg4.out; omega
                      case rel => exact ⟨r + 1, a3 + 1, ⟨L4, ln4, lc4, at4, gv4, J4, jn4, jc4, A4, an4, ac4, B4, bn4, bc4, nx4, F4, fn4, fc4, O4, on4, oc4⟩, _, _, by omega, rfl, by go_num, by go_num, by have := Hak4.out; omega, Lib.hid (LawR.drw ⟨HB7.out, HB3.out, HI2.out⟩ _)⟩
              · obtain rfl : r = 4 := by omega
                have HJ2 := Lib.hid (HR.out.done (by omega) HJ.out H32.out (by omega) Hkd.out)
                obtain ⟨L2, ln2, lc2, at2, gv2, J2, jn2, jc2, A2, an2, ac2, B2, bn2, bc2, nx2, F2, fn2, fc2, O2, on2, oc2⟩ := v
                have B7 := HR.out.bs
                simp only [Scd.vals] at B7
                obtain ⟨c0, c1, c2, c3, c4, c5, c6, c7, c8, f0, f1, f2, f3, f4, f5, f6, f7, f8, lt7⟩ := B7.c9
                have hon : on2 = 0 := by
                  rcases HR.out.st with ⟨h, _⟩ | ⟨_, h, _⟩ | ⟨_, _, _, _, _, _, _, _, _, _, _, _, _, _, hm, _⟩
                  · exact absurd h (by decide)
                  · exact absurd h (by decide)
                  · obtain ⟨_, _, _, _, _, ⟨_, _, h, _⟩⟩ := hm.len
                    injection h
                subst hon
                go_wp2_with fail
                go_roundg (2 - (m + 1))
                case measure => have := HgJ.out; omega
                case rel => exact ⟨m + 1, a3, _, _, _, by omega, rfl, by go_num, rfl, by omega, HJ2⟩
          · obtain rfl : m = 2 := by omega
            go_wp2_with fail
            go_roundg (ds.length - (k + 1))
            case measure => have := HgO.out; omega
            case rel => exact ⟨k + 1, a2, _, _, _, by omega, rfl, by go_num, rfl, by omega, Lib.hid HJ.out.next⟩
      · have h32b : ((x.size : Int) == 32) = false := by simp; omega
        go_wp2_with fail
        refine (Ae.lives_any _).mono ?_
        rintro e w2 ⟨rfl, hb⟩
        have hbz := HI.out.bel.trans (hb.mono HI.out.bel.size)
        go_wp2_with fail
        go_ret
        exact ⟨rfl, hbz⟩
    · obtain rfl : k = ds.length := by omega
      go_wp2_with fail
      refine (Ae.lives_any _).mono ?_
      rintro e w2 ⟨rfl, hb⟩
      have hbz := HI.out.bel.trans (hb.mono HI.out.bel.size)
      go_wp2_with fail
      go_ret
      exact ⟨rfl, hbz⟩
end Go.Proofs.YthiblfkmcdnalaaGreat
