/- The contract of sched.Right at good schedulers. Printed by gen_schr.py. -/
import Derived.Test.YthiblfkmcdnalaaGreatTSch0
namespace Go.Proofs.YthiblfkmcdnalaaGreat
set_option maxRecDepth 1000000
open Go.RowKit
set_option maxRecDepth 1000000

theorem MSc.len {w : World} {lv jv s c f ov : Value} {S : Sc} (h : MSc w lv jv s c f ov S) : (∃ A cap, lv = .slice A S.vs.length cap) ∧ (∃ A cap, jv = .slice A S.js.length cap) ∧ (∃ A cap, s = .slice A S.dk.secs.length cap) ∧ (∃ A cap, c = .slice A S.dk.cache.length cap) ∧ (∃ A cap, f = .slice A S.out.length cap ∧ S.out.length ≤ cap ∧ cap ≤ 9223372036854775807) ∧ ∃ A cap, ov = .slice A S.out.length cap ∧ S.out.length ≤ cap ∧ cap ≤ 9223372036854775807 := by
  obtain ⟨h1, ⟨J, jc, rfl, _, _, _⟩, _, h4, ⟨O, oc, rfl, o1, o2, _⟩⟩ := h
  obtain ⟨L, lc, rfl, _, _⟩ := h1.len
  obtain ⟨⟨A, ac, rfl⟩, ⟨B, bc, rfl⟩, ⟨F, fc, rfl, f1, f2⟩⟩ := h4.len
  simp only [Sc.flight_len, Sc.jobs_len] at *
  exact ⟨⟨_, _, rfl⟩, ⟨_, _, rfl⟩, ⟨_, _, rfl⟩, ⟨_, _, rfl⟩, ⟨_, _, rfl, f1, f2⟩, ⟨_, _, rfl, o1, o2⟩⟩

set_option maxHeartbeats 16000000 in
theorem schRight_any (w : World) (lv jv s c f ov : Value) (S : Sc) (hg : GSc S) (hm : MSc w lv jv s c f ov S) :
    Calls Tryz.prog 16 #[.agg #[lv, .int .i64 S.at_, .bool S.given, jv, s, c, .int .i64 S.next, f, ov]] w fun e w' => e = .returned (.bool true) ∧ Below w.heap.size w w' := by
  obtain ⟨⟨L, lc, rfl⟩, ⟨J, jc, rfl⟩, ⟨A, ac, rfl⟩, ⟨B, bc, rfl⟩, ⟨F, fc, rfl, _, _⟩, ⟨O, oc, rfl, _, _⟩⟩ := hm.len
  obtain ⟨at_, given, cst, vs, js, job, dk, next, out⟩ := S
  simp only at *
  obtain ⟨W, hW, hbW, hsW, B0⟩ := box1 w #[.slice L vs.length lc, .int .i64 at_, .bool given, .slice J js.length jc, .slice A dk.secs.length ac, .slice B dk.cache.length bc, .int .i64 next, .slice F out.length fc, .slice O out.length oc] 40
  have Hm := Lib.hid hm; have Hg := Lib.hid hg
  have HbW := Lib.hid hbW
  have hsW' := bsz hsW
  have hjl := Lib.hid hg.js
  have hl6 := hg.vs.2
  have hjl6 : js.length ≤ 6 := by rw [hjl.out]; exact hl6
  have hjv : ((js.length : Int) != (vs.length : Int)) = false := by rw [hjl.out]; simp
  have hjv2 : ((js.length : Int) == (vs.length : Int)) = true := by rw [hjl.out]; simp
  have hout1 : out.length ≤ 1 := by have := hg.dev.f1; rw [Sc.flight_len] at this; exact this
  clear hm hg hbW hsW
  obtain ⟨c00, c01, c02, c03, c04, c05, c06, c07, c08, f00, f01, f02, f03, f04, f05, f06, f07, f08, lt0⟩ := B0.c9
  go_enter Tryz.func16, Tryz.ntmps16
  go_wp2_with fail
  refine (lanRight_any W _ cst at_ given vs Hg.out.c Hg.out.vs.1 Hg.out.vs.2 Hg.out.at_ (Hm.out.lan.up HbW.out)).mono ?_
  rintro e V1 ⟨rfl, hb_V1⟩
  clear c00 c01 c02 c03 c04 c05 c06 c07 c08 f00 f01 f02 f03 f04 f05 f06 f07 f08 lt0 hW
  replace B0 := B0.up hb_V1
  have Hb1 := Lib.hid (HbW.out.trans (hb_V1.mono hsW'))
  have hs_V1 := hb_V1.size
  clear hb_V1
  obtain ⟨c00, c01, c02, c03, c04, c05, c06, c07, c08, f00, f01, f02, f03, f04, f05, f06, f07, f08, lt0⟩ := B0.c9
  go_wp2_with fail
  refine (devRight_any V1 _ _ _ _ Hg.out.dev (by have := Hm.out.dev.up Hb1.out; exact this)).mono ?_
  rintro e V2 ⟨rfl, hb_V2⟩
  clear c00 c01 c02 c03 c04 c05 c06 c07 c08 f00 f01 f02 f03 f04 f05 f06 f07 f08 lt0 
  replace B0 := B0.up hb_V2
  have Hb2 := Lib.hid (Hb1.out.trans (hb_V2.mono Hb1.out.size))
  have hs_V2 := hb_V2.size
  clear hb_V2
  obtain ⟨c00, c01, c02, c03, c04, c05, c06, c07, c08, f00, f01, f02, f03, f04, f05, f06, f07, f08, lt0⟩ := B0.c9
  go_wp2_with fail
  clear hjv hjv2 c00 c01 c02 c03 c04 c05 c06 c07 c08 f00 f01 f02 f03 f04 f05 f06 f07 f08 lt0
  go_loopg [42] js.length (fun g i wr => ∃ k : Nat, k ≤ js.length ∧ g = js.length - k ∧ i = .int .i64 k ∧ Below V2.heap.size V2 wr)
  case atStart => exact ⟨0, Nat.zero_le _, rfl, rfl, Below.refl _ _⟩
  case round =>
    obtain ⟨k, hk, hgk, rfl, hb⟩ := hrel
    obtain ⟨wo, rfl⟩ : ∃ wo : World, wo = wr := ⟨_, rfl⟩
    have Hgk := Lib.hid hgk; clear hgk
    have hsr := hb.size
    replace B0 := B0.up hb
    have Hb := Lib.hid hb
    have Hbw := Lib.hid (Hb2.out.trans (hb.mono Hb2.out.size))
    clear hb
    by_cases hlt : k < js.length
    · have hltv : k < vs.length := by rw [← hjl.out]; exact hlt
      obtain ⟨y, jb, jo, hy, rfl, hjb, hjcell⟩ := jr_at Hm.out.jobs.rt hlt
      obtain ⟨l, lb, lo, hl, rfl, hlb, hlcell⟩ := ln_at Hm.out.lan.1.rt hltv
      have j0 := hjcell wo Hbw.out
      obtain ⟨_, _, l2⟩ := hlcell wo Hbw.out
      obtain ⟨y1, y2, y3, y4⟩ := Hg.out.rows k y l hy hl
      have hrow := Hm.out.row y (List.mem_of_getElem? hy)
      have hgl := Hm.out.lan.2 l (List.mem_of_getElem? hl)
      obtain ⟨JA, jn, jcp⟩ := y
      obtain ⟨wt, df, LA, ln, lcp⟩ := l
      obtain ⟨z1, z2, z3, z4, z5, z6, z7⟩ := hgl
      simp only at y1 y2 y3 y4 j0 l2 z4
      subst y1
      have hki : (k : Int) < (js.length : Int) := by omega
      have hkv : (k : Int) < (vs.length : Int) := by omega
      have ltj : jb < wo.heap.size := by have := Hbw.out.size; omega
      have ltl : lb < wo.heap.size := by have := Hbw.out.size; omega
      have Hy4 := Lib.hid y4; have Hrow := Lib.hid hrow; have Hz7 := Lib.hid z7
      clear hjcell hlcell hy hl y4 hrow z1 z2 z3 z5 z6 z7
      obtain ⟨c00, c01, c02, c03, c04, c05, c06, c07, c08, f00, f01, f02, f03, f04, f05, f06, f07, f08, lt0⟩ := B0.c9
      obtain rfl | rfl : jn = 0 ∨ jn = 1 := by omega
      · go_wp2_with fail
        clear j0 l2 c00 c01 c02 c03 c04 c05 c06 c07 c08 f00 f01 f02 f03 f04 f05 f06 f07 f08 lt0
        go_loopg [61] 0 (fun g i wx => g = 0 ∧ i = .int .i64 0 ∧ wo = wx)
        case atStart => exact ⟨rfl, rfl, rfl⟩
        case round =>
          obtain ⟨_, rfl, rfl⟩ := hrel
          go_wp2_with fail
          go_roundg (js.length - (k + 1))
          case measure => have := Hgk.out; omega
          case rel => exact ⟨k + 1, by omega, rfl, by go_num, Hb.out⟩
      · obtain ⟨e1, e2, e3, e4⟩ := Hy4.out rfl
        obtain ⟨x, qb, qo, hx, hJA, hqb, hqcell⟩ := jb_at (Hrow.out rfl) (k := 0) (by simp)
        simp only at hJA
        subst hJA
        obtain rfl : job = x := by simpa using hx
        obtain ⟨c', cb, co, hc', hLA, hcb, hccell⟩ := int_at (Hz7.out rfl) (k := 0) (by simp)
        simp only at hLA
        subst hLA
        obtain rfl : cst = c' := by simpa using hc'
        obtain ⟨who, kind, page, data, tries⟩ := job
        simp only at e1 e2 e3 e4
        subst e1
        subst e2
        have He3 := Lib.hid e3; have He4 := Lib.hid e4
        have Hqcell := Lib.hid hqcell; have Hccell := Lib.hid hccell
        clear hx hc' hqcell hccell e3 e4
        go_wp2_with fail
        clear j0 l2 c00 c01 c02 c03 c04 c05 c06 c07 c08 f00 f01 f02 f03 f04 f05 f06 f07 f08 lt0
        go_loopg [61] 1 (fun g i wx => ∃ j : Nat, j ≤ 1 ∧ g = 1 - j ∧ i = .int .i64 j ∧ Below wo.heap.size wo wx)
        case atStart => exact ⟨0, by omega, rfl, rfl, Below.refl _ _⟩
        case round =>
          obtain ⟨j, hj, hgj, rfl, hbi⟩ := hrel
          have Hgj := Lib.hid hgj; clear hgj
          have Hbi := Lib.hid hbi
          have hsi := hbi.size
          have HbI := Lib.hid (Hbw.out.trans (hbi.mono Hbw.out.size))
          clear hbi
          obtain rfl | rfl : j = 0 ∨ j = 1 := by omega
          · obtain ⟨q0, q1, q2, q3, q4⟩ := Hqcell.out wr HbI.out
            simp only [Nat.zero_mul, Nat.add_zero] at q0 q1 q2 q3 q4
            have ltq : qb < wr.heap.size := by have := HbI.out.size; omega
            go_upto_region 14 with fail
            obtain ⟨U, hU⟩ : ∃ U, wr.alloc (.cells #[.int .i64 (k : Int), .int .i64 kind, .int .i64 page, .string data, .int .i64 0] 46) = U := ⟨_, rfl⟩
            rw [hU]
            have BJ : Bx wr.heap.size 46 #[.int .i64 (k : Int), .int .i64 kind, .int .i64 page, .string data, .int .i64 0] U := by rw [← hU]; exact Bx.new _ _ _
            have HbU := Lib.hid (show Below wr.heap.size wr U by rw [← hU]; exact (Below.refl _ _).alloc (Nat.le_refl _) _)
            have c0 := Hccell.out U (HbI.out.trans (HbU.out.mono HbI.out.size))
            have hMU : wr.heap.size < U.heap.size := BJ.lt
            have ltc : cb < U.heap.size := by have := HbI.out.size; omega
            obtain ⟨M, hM⟩ : ∃ M, wr.heap.size = M := ⟨_, rfl⟩
            rw [hM] at BJ hMU ⊢
            simp only [Nat.add_zero] at c0
            obtain ⟨cj0, cj1, cj2, cj3, cj4, fj0, fj1, fj2, fj3, fj4, ltj'⟩ := BJ.c5
            clear hU hM q0 q1 q2 q3 q4 ltq
            have n0 := bw_cell cj0 hMU
            have n1 := bw_cell cj1 hMU
            have n2 := bw_cell cj2 hMU
            have n3 := bw_cell cj3 hMU
            have n4 := bw_cell cj4 hMU
            have nc := bw_cell c0 ltc
            have hk12 : kind = 1 ∨ kind = 2 := by obtain ⟨_, _, ⟨h, _⟩ | ⟨h, _⟩⟩ := He3.out; exact .inl h; exact .inr h
            have Hq1 := Lib.hid (fun y : BW U => srequest_any y.w ⟨(k : Int), kind, page, data, 0⟩ He3.out)
            have hcst : ∀ y : BW U, Calls Tryz.prog 19 #[.int .i64 kind] y.w fun e w' => e = .returned (.int .i64 cst) ∧ Below y.w.heap.size y.w w' := fun y => by
              have := cost_any y.w kind hk12
              rw [show costK kind = cst from He4.out] at this
              exact this.mono fun e w' ⟨h1, h2⟩ => ⟨h1, by rw [← h2]; exact Below.refl _ _⟩
            have Hq2 := Lib.hid hcst
            clear hcst cj0 cj1 cj2 cj3 cj4 fj0 fj1 fj2 fj3 fj4 ltj' c0 hk12
            refine wp_region_bw (by kernel_rfl) (by kernel_rfl) ?_
            repeat (go_big_quiet_step (first | (go_at_call 17; exact call_bw (Hq1.out _)) | (go_at_call 19; exact call_bw (Hq2.out _))))
            refine wpQuiet_nil (bw_nil fun V hV => ?_)
            have HV := Lib.hid (Hbi.out.trans ((HbU.out.trans (hV.mono HbU.out.size)).mono hsi))
            clear hV n0 n1 n2 n3 n4 nc
            go_wp2_with fail
            go_roundg 0
            case measure => have := Hgj.out; omega
            case rel => exact ⟨1, by omega, rfl, by go_num, HV.out⟩
          · go_wp2_with fail
            go_roundg (js.length - (k + 1))
            case measure => have := Hgk.out; omega
            case rel => exact ⟨k + 1, by omega, rfl, by go_num, Hb.out.trans (Hbi.out.mono hsr)⟩
    · obtain rfl : k = js.length := by omega
      obtain ⟨c00, c01, c02, c03, c04, c05, c06, c07, c08, f00, f01, f02, f03, f04, f05, f06, f07, f08, lt0⟩ := B0.c9
      have hoc : out = [] ∨ ∃ x, out = [x] := by
        rcases out with _ | ⟨x, _ | ⟨x', r⟩⟩
        · exact .inl rfl
        · exact .inr ⟨x, rfl⟩
        · simp at hout1
      rcases hoc with rfl | ⟨x, rfl⟩
      · simp only [List.length_nil] at c00 c01 c02 c03 c04 c05 c06 c07 c08
        go_wp2_with fail
        clear c00 c01 c02 c03 c04 c05 c06 c07 c08 f00 f01 f02 f03 f04 f05 f06 f07 f08 lt0
        go_loopg [95] 0 (fun g i wx => g = 0 ∧ i = .int .i64 0 ∧ wo = wx)
        case atStart => exact ⟨rfl, rfl, rfl⟩
        case round =>
          obtain ⟨_, rfl, rfl⟩ := hrel
          go_wp2_with fail
          go_ret
          exact ⟨rfl, Hbw.out⟩
      · obtain ⟨tk, jj⟩ := x
        obtain ⟨o1, o2, o3, o4⟩ := Hg.out.out (tk, jj) (by simp)
        obtain ⟨x, ob, oo, hx, hO, hob, hocell⟩ := jb_at Hm.out.out.rt (k := 0) (by simp [Sc.jobs])
        obtain rfl : jj = x := by simpa [Sc.jobs] using hx
        obtain ⟨r, rb, ro, hr, hF, hrb, hrcell⟩ := rq_at Hm.out.dev.2.rt (k := 0) (by simp [Sc.flight])
        obtain rfl : (⟨tk, jj.kind, jj.page, jj.data⟩ : Rq) = r := by simpa [Sc.flight] using hr
        subst hO
        subst hF
        simp only [List.length_cons, List.length_nil, Nat.zero_add] at c00 c01 c02 c03 c04 c05 c06 c07 c08
        obtain ⟨who, kind, page, data, tries⟩ := jj
        simp only at o1 o2 o3 o4 hocell hrcell
        have Hocell := Lib.hid hocell; have Hrcell := Lib.hid hrcell
        have o2' : who < (js.length : Int) := by rw [hjl.out]; exact o2
        clear hx hr hocell hrcell
        go_wp2_with fail
        clear c00 c01 c02 c03 c04 c05 c06 c07 c08 f00 f01 f02 f03 f04 f05 f06 f07 f08 lt0
        go_loopg [95] 1 (fun g i wx => ∃ j : Nat, j ≤ 1 ∧ g = 1 - j ∧ i = .int .i64 j ∧ Below wo.heap.size wo wx)
        case atStart => exact ⟨0, by omega, rfl, rfl, Below.refl _ _⟩
        case round =>
          obtain ⟨j, hj, hgj, rfl, hbi⟩ := hrel
          have Hgj := Lib.hid hgj; clear hgj
          have hsi := hbi.size
          have Hbi := Lib.hid hbi
          have HbI := Lib.hid (Hbw.out.trans (hbi.mono Hbw.out.size))
          obtain rfl | rfl : j = 0 ∨ j = 1 := by omega
          · replace B0 := B0.up hbi
            obtain ⟨q0, q1, q2, q3, q4⟩ := Hocell.out wr HbI.out
            obtain ⟨p0, p1, p2, p3⟩ := Hrcell.out wr HbI.out
            simp only [Nat.zero_mul, Nat.add_zero] at q0 q1 q2 q3 q4 p0 p1 p2 p3
            have ltq : ob < wr.heap.size := by have := HbI.out.size; omega
            have ltp : rb < wr.heap.size := by have := HbI.out.size; omega
            clear hbi
            obtain ⟨c00, c01, c02, c03, c04, c05, c06, c07, c08, f00, f01, f02, f03, f04, f05, f06, f07, f08, lt0⟩ := B0.c9
            simp only [List.length_cons, List.length_nil, Nat.zero_add] at c00 c01 c02 c03 c04 c05 c06 c07 c08
            go_wp2_with fail
            go_roundg 0
            case measure => have := Hgj.out; omega
            case rel => exact ⟨1, by omega, rfl, by go_num, (Hbi.out.alloc hsi _).alloc (by simp; omega) _⟩
          · clear hbi
            go_wp2_with fail
            go_ret
            exact ⟨rfl, HbI.out⟩
end Go.Proofs.YthiblfkmcdnalaaGreat
