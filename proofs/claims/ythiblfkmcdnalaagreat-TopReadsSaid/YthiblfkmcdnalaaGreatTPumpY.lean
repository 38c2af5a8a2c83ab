/- The contract of sched.Pump where one job waits, in one of two lanes. Printed by gen_pumpy.py. -/
import Derived.Test.YthiblfkmcdnalaaGreatTPump
namespace Go.Proofs.YthiblfkmcdnalaaGreat
set_option maxRecDepth 1000000
open Go.RowKit
set_option maxRecDepth 1000000

theorem own_off {U W : World} {base N : Nat} {e : TypeId} {sz n : Nat} {v : Value} {xs : List Value} (h : U.ownsRow base e sz v n xs) (hN : N < base) (hk : ∀ g, g ≠ N → W.heap[g]? = U.heap[g]?) : W.ownsRow base e sz v n xs := by
  refine ⟨h.1, ?_⟩
  rcases h.2 with hn | ⟨g, cap, cur, hv, hg, hh, r⟩
  · exact .inl hn
  · exact .inr ⟨g, cap, cur, hv, hg, (hk g (by omega)).trans hh, r⟩
def PDone0 (w : World) (s c : Value) (cst wk wo : Int) (OA JO : Option Addr) (ocp jocp : Nat) (job : Jb) (dk : Dk) (next : Int) (wr : World) : Prop :=
  ∃ lv jv f ov LA lcp A2 c2, c2 ≤ 9223372036854775807 ∧ Bx w.heap.size 40 #[lv, .int .i64 0, .bool true, jv, s, c, .int .i64 (next + 1), f, ov] wr ∧ Bx (w.heap.size + 1) 40 #[.slice none 0 0, .int .i64 0, .bool false, .slice none 0 0, .slice none 0 0, .slice none 0 0, .int .i64 0, .slice none 0 0, .slice none 0 0] wr ∧ MSc wr lv jv s c f ov ⟨0, true, cst, [⟨wk, 0, LA, 0, lcp⟩, ⟨wo, 0, OA, 0, ocp⟩], [⟨A2, 0, c2⟩, ⟨JO, 0, jocp⟩], job, dk, next + 1, [(next, { job with tries := 1 })]⟩ ∧ Below w.heap.size w wr
set_option maxHeartbeats 16000000 in
theorem pump_yes0 (w : World) (lv jv s c f ov : Value) (at_ cst wk wo : Int) (given : Bool) (KA OA JA JO : Option Addr) (kcp ocp jcp jocp : Nat) (job : Jb) (dk : Dk) (next : Int) (hg : GSc ⟨at_, given, cst, [⟨wk, 0, KA, 1, kcp⟩, ⟨wo, 0, OA, 0, ocp⟩], [⟨JA, 1, jcp⟩, ⟨JO, 0, jocp⟩], job, dk, next, []⟩) (hcw : cst ≤ wk * 4) (hn9 : next ≤ 999) (ha : (at_ = 0 ∧ given = false) ∨ at_ = 1) (hm : MSc w lv jv s c f ov ⟨at_, given, cst, [⟨wk, 0, KA, 1, kcp⟩, ⟨wo, 0, OA, 0, ocp⟩], [⟨JA, 1, jcp⟩, ⟨JO, 0, jocp⟩], job, dk, next, []⟩) :
    Calls Tryz.prog 8 #[.agg #[lv, .int .i64 at_, .bool given, jv, s, c, .int .i64 next, f, ov]] w fun e w' => ∃ lv' jv' f' ov', e = .returned (.agg #[lv', .int .i64 0, .bool true, jv', s, c, .int .i64 (next + 1), f', ov']) ∧
      (∃ LA lcp A2 c2, c2 ≤ 9223372036854775807 ∧ MSc w' lv' jv' s c f' ov' ⟨0, true, cst, [⟨wk, 0, LA, 0, lcp⟩, ⟨wo, 0, OA, 0, ocp⟩], [⟨A2, 0, c2⟩, ⟨JO, 0, jocp⟩], job, dk, next + 1, [(next, { job with tries := 1 })]⟩) ∧ Below w.heap.size w w' := by
  obtain ⟨⟨L, lc, rfl⟩, ⟨J, jc, rfl⟩, ⟨A, ac, rfl⟩, ⟨B, bc, rfl⟩, ⟨F, fc, rfl, _, _⟩, ⟨O, oc, rfl, _, _⟩⟩ := hm.len
  simp only [List.length_cons, List.length_nil, Nat.zero_add, Nat.reduceAdd] at *
  obtain ⟨hjn, hjc1, hjc2, hjob⟩ := hg.rows 0 ⟨JA, 1, jcp⟩ ⟨wk, 0, KA, 1, kcp⟩ rfl rfl
  obtain ⟨hwho, htr, hrq, hck⟩ := hjob rfl
  obtain ⟨hjn', hjc1', hjc2', _⟩ := hg.rows 1 ⟨JO, 0, jocp⟩ ⟨wo, 0, OA, 0, ocp⟩ rfl rfl
  obtain ⟨who, kind, page, data, tries⟩ := job
  simp only at hwho htr hrq hck hjc1 hjc2 hjc1' hjc2'
  subst hwho
  subst htr
  obtain ⟨x, jb, jo, hx, rfl, hjbl, hjcell⟩ := jb_at (hm.row ⟨JA, 1, jcp⟩ (by simp) rfl) (k := 0) (by simp)
  obtain rfl : _ = x := by simpa using hx
  obtain ⟨W, hW, hbW, hsW, B0, B1⟩ := box2 w #[.slice L 2 lc, .int .i64 at_, .bool given, .slice J 2 jc, .slice A dk.secs.length ac, .slice B dk.cache.length bc, .int .i64 next, .slice F 0 fc, .slice O 0 oc] 40 #[.slice none 0 0, .int .i64 0, .bool false, .slice none 0 0, .slice none 0 0, .slice none 0 0, .int .i64 0, .slice none 0 0, .slice none 0 0] 40
  have Hjcell := Lib.hid hjcell
  have Hm := Lib.hid hm; have Hg := Lib.hid hg; have Ha := Lib.hid ha; have Hrq := Lib.hid hrq; have Hck := Lib.hid hck
  have HbW := Lib.hid hbW
  have hsW' := bsz hsW
  obtain ⟨hn0, _⟩ := hg.dev.next
  have Hc := Lib.hid hg.c
  simp only at hn0
  clear hm hg hbW hsW hx hjcell ha hrq hjob hjn hjn' hck
  obtain ⟨c00, c01, c02, c03, c04, c05, c06, c07, c08, f00, f01, f02, f03, f04, f05, f06, f07, f08, lt0⟩ := B0.c9
  obtain ⟨c10, c11, c12, c13, c14, c15, c16, c17, c18, f10, f11, f12, f13, f14, f15, f16, f17, f18, lt1⟩ := B1.c9
  go_enter Tryz.func8, Tryz.ntmps8
  go_wp2_with fail
  refine (schRight_any W _ _ _ _ _ _ _ Hg.out (Hm.out.up HbW.out)).mono ?_
  rintro e V1 ⟨rfl, hb_V1⟩
  clear c00 c01 c02 c03 c04 c05 c06 c07 c08 f00 f01 f02 f03 f04 f05 f06 f07 f08 lt0 c10 c11 c12 c13 c14 c15 c16 c17 c18 f10 f11 f12 f13 f14 f15 f16 f17 f18 lt1 hW
  replace B0 := B0.up hb_V1
  replace B1 := B1.up hb_V1
  have Hb1 := Lib.hid (HbW.out.trans (hb_V1.mono hsW'))
  have hs_V1 := hb_V1.size
  clear hb_V1
  obtain ⟨c00, c01, c02, c03, c04, c05, c06, c07, c08, f00, f01, f02, f03, f04, f05, f06, f07, f08, lt0⟩ := B0.c9
  obtain ⟨c10, c11, c12, c13, c14, c15, c16, c17, c18, f10, f11, f12, f13, f14, f15, f16, f17, f18, lt1⟩ := B1.c9
  go_wp2_with fail
  refine (clone_Jr Jr.cells jr_len jr_one V1 J jc [⟨some ⟨jb, jo, none⟩, 1, jcp⟩, ⟨JO, 0, jocp⟩] (by simp) (Hm.out.jobs.rt.up Hb1.out)).mono ?_
  rintro e V2 ⟨J2, jc2, rfl, hoJ, hb2⟩
  clear c00 c01 c02 c03 c04 c05 c06 c07 c08 f00 f01 f02 f03 f04 f05 f06 f07 f08 lt0 c10 c11 c12 c13 c14 c15 c16 c17 c18 f10 f11 f12 f13 f14 f15 f16 f17 f18 lt1
  have ltM := B1.lt
  replace B0 := B0.up hb2; replace B1 := B1.up hb2
  have Hb2 := Lib.hid (Hb1.out.trans (hb2.mono Hb1.out.size))
  obtain ⟨G, jc2', hG, hGb, _, _⟩ := own_addr hoJ (by simp)
  injection hG with hG1 _ hG2
  subst hG1
  subst hG2
  have hGM : w.heap.size + 1 + 1 ≤ G := by omega
  have HoJ : Hid (V2.ownsRow (w.heap.size + 1 + 1) 38 1 (.slice (some ⟨G, 0, none⟩) 2 jc2) 2 [.slice (some ⟨jb, jo, none⟩) 1 jcp, .slice JO 0 jocp]) := Lib.hid (own_base hoJ (show w.heap.size + 1 + 1 ≤ V1.heap.size from ltM))
  clear hoJ hb2
  obtain ⟨c00, c01, c02, c03, c04, c05, c06, c07, c08, f00, f01, f02, f03, f04, f05, f06, f07, f08, lt0⟩ := B0.c9
  obtain ⟨c10, c11, c12, c13, c14, c15, c16, c17, c18, f10, f11, f12, f13, f14, f15, f16, f17, f18, lt1⟩ := B1.c9
  simp only [List.length_cons, List.length_nil, Nat.zero_add, Nat.reduceAdd]
  go_upto_region 4 with fail
  obtain ⟨V3, hV3, B0', hk3, hs3, hb3⟩ := st_9_3_1 (.slice (some ⟨G, 0, none⟩) 2 jc2) B0
  try rw [hV3]
  replace B1 := B1.keep (hk3 _ (by omega))
  have HoJ3 : Hid (V3.ownsRow (w.heap.size + 1 + 1) 38 1 (.slice (some ⟨G, 0, none⟩) 2 jc2) 2 [.slice (some ⟨jb, jo, none⟩) 1 jcp, .slice JO 0 jocp]) := Lib.hid (by
    rw [← hV3]
    exact own_setCell (j := 3) HoJ.out (by simp [Value.ownBlock]; omega) _)
  have Hb3 := Lib.hid (hb3 _ _ Hb2.out (Nat.le_refl _))
  clear hV3 hk3 hs3 hb3 B0 HoJ c00 c01 c02 c03 c04 c05 c06 c07 c08 f00 f01 f02 f03 f04 f05 f06 f07 f08 lt0 c10 c11 c12 c13 c14 c15 c16 c17 c18 f10 f11 f12 f13 f14 f15 f16 f17 f18 lt1
  have B0 := B0'
  clear B0'
  obtain ⟨c00, c01, c02, c03, c04, c05, c06, c07, c08, f00, f01, f02, f03, f04, f05, f06, f07, f08, lt0⟩ := B0.c9
  obtain ⟨c10, c11, c12, c13, c14, c15, c16, c17, c18, f10, f11, f12, f13, f14, f15, f16, f17, f18, lt1⟩ := B1.c9
  go_wp2_with fail
  refine (clone_Jb Jb.cells jb_len jb_one V3 O oc [] (by simp) Rt.nil).mono ?_
  rintro e V4 ⟨O2, oc2, rfl, hoO, hb4⟩
  clear c00 c01 c02 c03 c04 c05 c06 c07 c08 f00 f01 f02 f03 f04 f05 f06 f07 f08 lt0 c10 c11 c12 c13 c14 c15 c16 c17 c18 f10 f11 f12 f13 f14 f15 f16 f17 f18 lt1
  have ltM := B1.lt
  replace B0 := B0.up hb4; replace B1 := B1.up hb4
  have Hb4 := Lib.hid (Hb3.out.trans (hb4.mono Hb3.out.size))
  have HoO : Hid (V4.ownsRow (w.heap.size + 1 + 1) 46 5 (.slice O2 0 oc2) 0 []) := Lib.hid (own_base hoO (show w.heap.size + 1 + 1 ≤ V3.heap.size from ltM))
  have HoJ4 := Lib.hid (own_up HoJ3.out hb4)
  clear hoO hb4 HoJ3 Hb3
  obtain ⟨c00, c01, c02, c03, c04, c05, c06, c07, c08, f00, f01, f02, f03, f04, f05, f06, f07, f08, lt0⟩ := B0.c9
  obtain ⟨c10, c11, c12, c13, c14, c15, c16, c17, c18, f10, f11, f12, f13, f14, f15, f16, f17, f18, lt1⟩ := B1.c9
  go_wp2_with fail
  obtain ⟨V5, hV5, B0', hk5, hs5, hb5⟩ := st_9_8_1 (.slice O2 0 oc2) B0
  try rw [hV5]
  replace B1 := B1.keep (hk5 _ (by omega))
  have HoJ5 : Hid (V5.ownsRow (w.heap.size + 1 + 1) 38 1 (.slice (some ⟨G, 0, none⟩) 2 jc2) 2 [.slice (some ⟨jb, jo, none⟩) 1 jcp, .slice JO 0 jocp]) := Lib.hid (by
    rw [← hV5]
    exact own_setCell (j := 8) HoJ4.out (by simp [Value.ownBlock]; omega) _)
  have HoO5 : Hid (V5.ownsRow (w.heap.size + 1 + 1) 46 5 (.slice O2 0 oc2) 0 []) := Lib.hid (by
    rw [← hV5]
    refine own_setCell (j := 8) HoO.out (fun e => ?_) _
    obtain ⟨q, hq⟩ : ∃ q, q = w.heap.size := ⟨_, rfl⟩
    have := (HoO.out.lt _ e).1
    omega)
  have Hb5 := Lib.hid (hb5 _ _ Hb4.out (Nat.le_refl _))
  clear hV5 hk5 hs5 hb5 B0 HoJ4 HoO c00 c01 c02 c03 c04 c05 c06 c07 c08 f00 f01 f02 f03 f04 f05 f06 f07 f08 lt0 c10 c11 c12 c13 c14 c15 c16 c17 c18 f10 f11 f12 f13 f14 f15 f16 f17 f18 lt1
  have B0 := B0'
  clear B0'
  go_loopg [] 1 (fun g wr => (g = 1 ∧ V5 = wr) ∨ (g = 0 ∧ PDone0 w (.slice A dk.secs.length ac) (.slice B dk.cache.length bc) cst wk wo OA JO ocp jocp ⟨0, kind, page, data, 0⟩ dk next wr))
  case atStart => exact .inl ⟨rfl, rfl⟩
  case round =>
    rcases hrel with ⟨rfl, rfl⟩ | ⟨rfl, hd⟩
    · skip
      obtain ⟨c00, c01, c02, c03, c04, c05, c06, c07, c08, f00, f01, f02, f03, f04, f05, f06, f07, f08, lt0⟩ := B0.c9
      obtain ⟨c10, c11, c12, c13, c14, c15, c16, c17, c18, f10, f11, f12, f13, f14, f15, f16, f17, f18, lt1⟩ := B1.c9
      go_wp2_with fail
      refine (next_yes0 V5 _ cst at_ wk wo given KA OA kcp ocp Hc.out hcw Ha.out (Hm.out.lan.up Hb5.out)).mono ?_
      rintro e V6 ⟨v', rfl, ⟨LA, lcp, hml⟩, hb6⟩
      obtain ⟨L1, lc1, rfl, _, _⟩ := hml.len
      simp only [List.length_cons, List.length_nil, Nat.zero_add, Nat.reduceAdd] at hml ⊢
      clear c00 c01 c02 c03 c04 c05 c06 c07 c08 f00 f01 f02 f03 f04 f05 f06 f07 f08 lt0 c10 c11 c12 c13 c14 c15 c16 c17 c18 f10 f11 f12 f13 f14 f15 f16 f17 f18 lt1
      replace B0 := B0.up hb6; replace B1 := B1.up hb6
      have Hb6 := Lib.hid (Hb5.out.trans (hb6.mono Hb5.out.size))
      have Hml6 := Lib.hid hml; have HoJ6 := Lib.hid (own_up HoJ5.out hb6); have HoO6 := Lib.hid (own_up HoO5.out hb6)
      clear hb6 hml HoJ5 HoO5
      obtain ⟨c00, c01, c02, c03, c04, c05, c06, c07, c08, f00, f01, f02, f03, f04, f05, f06, f07, f08, lt0⟩ := B0.c9
      obtain ⟨c10, c11, c12, c13, c14, c15, c16, c17, c18, f10, f11, f12, f13, f14, f15, f16, f17, f18, lt1⟩ := B1.c9
      go_upto_region 8 with fail
      obtain ⟨V7, hV7⟩ : ∃ V7, V6.alloc (.cells #[.slice L1 2 lc1, .int .i64 0, .bool true] 33) = V7 := ⟨_, rfl⟩
      rw [hV7]
      have hb7 : Below V6.heap.size V6 V7 := by rw [← hV7]; exact (Below.refl _ _).alloc (Nat.le_refl _) _
      have BM : Bx V6.heap.size 33 #[.slice L1 2 lc1, .int .i64 0, .bool true] V7 := by rw [← hV7]; exact Bx.new _ _ _
      have hMs := lt1
      obtain ⟨M, hM⟩ : ∃ M, V6.heap.size = M := ⟨_, rfl⟩
      rw [hM] at BM hMs ⊢
      clear hV7 hM c00 c01 c02 c03 c04 c05 c06 c07 c08 f00 f01 f02 f03 f04 f05 f06 f07 f08 lt0 c10 c11 c12 c13 c14 c15 c16 c17 c18 f10 f11 f12 f13 f14 f15 f16 f17 f18 lt1
      replace B0 := B0.up hb7; replace B1 := B1.up hb7
      have Hb7 := Lib.hid (Hb6.out.trans (hb7.mono Hb6.out.size))
      have Hml7 := Lib.hid (Hml6.out.up hb7); have HoJ7 := Lib.hid (own_up HoJ6.out hb7); have HoO7 := Lib.hid (own_up HoO6.out hb7)
      clear hb7 Hml6 HoJ6 HoO6 Hb6
      obtain ⟨c00, c01, c02, c03, c04, c05, c06, c07, c08, f00, f01, f02, f03, f04, f05, f06, f07, f08, lt0⟩ := B0.c9
      obtain ⟨c10, c11, c12, c13, c14, c15, c16, c17, c18, f10, f11, f12, f13, f14, f15, f16, f17, f18, lt1⟩ := B1.c9
      obtain ⟨cm0, cm1, cm2, fm0, fm1, fm2, ltm⟩ := BM.c3
      go_upto_region 9 with fail
      obtain ⟨V8, hV8, B0', hk8, hs8, hb8⟩ := st_9_0_3 (.slice L1 2 lc1) (.int .i64 0) (.bool true) B0
      try rw [hV8]
      replace B1 := B1.keep (hk8 _ (by omega)); replace BM := BM.keep (hk8 _ (by omega))
      have HoJ8 := Lib.hid (own_off HoJ7.out (by omega) hk8); have HoO8 := Lib.hid (own_off HoO7.out (by omega) hk8)
      have Hml8 := Lib.hid (Hml7.out.keep (fun b' t cs fr ht hb' => hk8 b' (B0.ne_type hb' (by rcases ht with rfl | rfl <;> decide))))
      have Hb8 := Lib.hid (hb8 _ _ Hb7.out (Nat.le_refl _))
      clear hV8 hk8 hs8 hb8 B0 HoJ7 HoO7 Hml7 Hb7 c00 c01 c02 c03 c04 c05 c06 c07 c08 f00 f01 f02 f03 f04 f05 f06 f07 f08 lt0 c10 c11 c12 c13 c14 c15 c16 c17 c18 f10 f11 f12 f13 f14 f15 f16 f17 f18 lt1 cm0 cm1 cm2 fm0 fm1 fm2 ltm
      have B0 := B0'
      clear B0'
      obtain ⟨c00, c01, c02, c03, c04, c05, c06, c07, c08, f00, f01, f02, f03, f04, f05, f06, f07, f08, lt0⟩ := B0.c9
      obtain ⟨c10, c11, c12, c13, c14, c15, c16, c17, c18, f10, f11, f12, f13, f14, f15, f16, f17, f18, lt1⟩ := B1.c9
      have gG : V8.cell? ⟨G, 0, none⟩ = some (.slice (some ⟨jb, jo, none⟩) 1 jcp) := HoJ8.out.cellAt 0 (by decide)
      have ltG : G < V8.heap.size := (HoJ8.out.lt G rfl).2
      obtain ⟨j0, j1, j2, j3, j4⟩ := Hjcell.out V8 Hb8.out
      simp only [Nat.zero_mul, Nat.add_zero] at j0 j1 j2 j3 j4
      have ltj : jb < V8.heap.size := by have := Hb8.out.size; omega
      go_upto_region 10 with fail
      obtain ⟨V9, hV9⟩ : ∃ V9, V8.alloc (.cells #[.int .i64 0, .int .i64 kind, .int .i64 page, .string data, .int .i64 0] 46) = V9 := ⟨_, rfl⟩
      rw [hV9]
      have hb9 : Below V8.heap.size V8 V9 := by rw [← hV9]; exact (Below.refl _ _).alloc (Nat.le_refl _) _
      have BJ : Bx V8.heap.size 46 #[.int .i64 0, .int .i64 kind, .int .i64 page, .string data, .int .i64 0] V9 := by rw [← hV9]; exact Bx.new _ _ _
      have hJs := lt1
      obtain ⟨M2, hM2⟩ : ∃ M2, V8.heap.size = M2 := ⟨_, rfl⟩
      rw [hM2] at BJ hJs ⊢
      have hGM2 : G < M2 := by rw [← hM2]; exact ltG
      have hOM : (Value.slice O2 0 oc2).ownBlock ≠ some M2 := fun e => by have := (HoO8.out.lt _ e).2; omega
      clear hV9 hM2 gG ltG j0 j1 j2 j3 j4 ltj c00 c01 c02 c03 c04 c05 c06 c07 c08 f00 f01 f02 f03 f04 f05 f06 f07 f08 lt0 c10 c11 c12 c13 c14 c15 c16 c17 c18 f10 f11 f12 f13 f14 f15 f16 f17 f18 lt1
      replace B0 := B0.up hb9; replace B1 := B1.up hb9
      have Hb9 := Lib.hid (Hb8.out.trans (hb9.mono Hb8.out.size))
      have Hml9 := Lib.hid (Hml8.out.up hb9); have HoJ9 := Lib.hid (own_up HoJ8.out hb9); have HoO9 := Lib.hid (own_up HoO8.out hb9)
      clear hb9 Hml8 HoJ8 HoO8 Hb8 BM
      obtain ⟨c00, c01, c02, c03, c04, c05, c06, c07, c08, f00, f01, f02, f03, f04, f05, f06, f07, f08, lt0⟩ := B0.c9
      obtain ⟨c10, c11, c12, c13, c14, c15, c16, c17, c18, f10, f11, f12, f13, f14, f15, f16, f17, f18, lt1⟩ := B1.c9
      obtain ⟨cj0, cj1, cj2, cj3, cj4, fj0, fj1, fj2, fj3, fj4, ltj⟩ := BJ.c5
      have gG : V9.cell? ⟨G, 0, none⟩ = some (.slice (some ⟨jb, jo, none⟩) 1 jcp) := HoJ9.out.cellAt 0 (by decide)
      have ltG : G < V9.heap.size := (HoJ9.out.lt G rfl).2
      rcases Classical.em (jcp = 1) with rfl | hkc
      · skip
        refine wp_region_S 10 (fun U => ∃ y : BW V9, U = y.w) (by kernel_rfl) rfl rfl ?_
        have n_a := bw_cell c03 lt0
        have n_b := bw_cell gG ltG
        have HC : Hid (∃ y : BW V9, V9.drew = y.w) := Lib.hid ⟨⟨_, (Below.refl _ _).drew⟩, rfl⟩
        clear gG c00 c01 c02 c03 c04 c05 c06 c07 c08 f00 f01 f02 f03 f04 f05 f06 f07 f08 c10 c11 c12 c13 c14 c15 c16 c17 c18 f10 f11 f12 f13 f14 f15 f16 f17 f18 cj0 cj1 cj2 cj3 cj4 fj0 fj1 fj2 fj3 fj4
        refine pureS 0 rfl (by kernel_rfl) rfl (fun _ _ _ _ _ h => h) HC.out ?_
        go_big_quiet_step (fail)
        refine wpQuiet_nil ?_
        refine pureS 1 rfl (by kernel_rfl) rfl (fun _ _ _ _ _ h => h) HC.out ?_
        go_big_quiet_step (fail)
        refine wpQuiet_nil ?_
        refine pureS 2 rfl (by kernel_rfl) rfl (fun _ _ _ _ _ h => h) HC.out ?_
        go_big_quiet_step (fail)
        refine wpQuiet_nil ?_
        refine pureS 3 rfl (by kernel_rfl) rfl (fun _ _ _ _ _ h => h) HC.out ?_
        go_big_quiet_step (fail)
        refine wpQuiet_nil ?_
        refine pureS 4 rfl (by kernel_rfl) rfl (fun _ _ _ _ _ h => h) HC.out ?_
        go_big_quiet_step (fail)
        refine wpQuiet_nil ?_
        refine pureS 5 rfl (by kernel_rfl) rfl (fun _ _ _ _ _ h => h) HC.out ?_
        go_big_quiet_step (fail)
        refine wpQuiet_nil ?_
        refine pureS 6 rfl (by kernel_rfl) rfl (fun _ _ _ _ _ h => h) HC.out ?_
        go_big_quiet_step (fail)
        refine wpQuiet_nil ?_
        refine pureS 7 rfl (by kernel_rfl) rfl (fun _ _ _ _ _ h => h) HC.out ?_
        go_big_quiet_step (fail)
        refine wpQuiet_nil ?_
        refine pureS 8 rfl (by kernel_rfl) rfl (fun _ _ _ _ _ h => h) HC.out ?_
        go_big_quiet_step (fail)
        refine wpQuiet_nil ?_
        refine oneS 9 (by kernel_rfl) rfl rfl rfl (fun K hK => ?_)
        have HK := Lib.hid hK; clear hK
        go_simp
        refine (clone_Jb Jb.cells jb_len jb_one V9.drew (some ⟨jb, jo, none⟩) 0 [] (by simp) Rt.nil).mono ?_
        rintro e U ⟨A2, c2, rfl, hoC, hbC⟩
        have hbU : Below V9.heap.size V9 U := (Below.refl _ V9).drew.trans hbC
        have HbU := Lib.hid hbU
        obtain ⟨A2', c2', heC, hcc1, hcc2⟩ := own_slice hoC
        injection heC with heA heB heC
        subst heA
        subst heC
        clear hoC heB hbC hbU
        refine HK.out _ _ (fun _ => ⟨⟨U, HbU.out⟩, rfl⟩) ?_
        clear HK K
        replace B0 := B0.upB HbU.out lt0; replace B1 := B1.upB HbU.out lt1; replace BJ := BJ.upB HbU.out ltj
        clear lt0 lt1 ltj
        have HoU := Lib.hid (own_up HoJ9.out HbU.out); have HoOU := Lib.hid (own_up HoO9.out HbU.out); have HmlU := Lib.hid (Hml9.out.up HbU.out)
        have HbU2 := Lib.hid (Hb9.out.trans (HbU.out.mono Hb9.out.size))
        clear HoJ9 HoO9 Hml9 Hb9 ltG
        obtain ⟨c00, c01, c02, c03, c04, c05, c06, c07, c08, f00, f01, f02, f03, f04, f05, f06, f07, f08, lt0⟩ := B0.c9
        obtain ⟨c10, c11, c12, c13, c14, c15, c16, c17, c18, f10, f11, f12, f13, f14, f15, f16, f17, f18, lt1⟩ := B1.c9
        obtain ⟨cj0, cj1, cj2, cj3, cj4, fj0, fj1, fj2, fj3, fj4, ltj⟩ := BJ.c5
        have k1 : U.cell? ⟨G, 0, none⟩ = some (.slice (some ⟨jb, jo, none⟩) 1 1) := HoU.out.cellAt 0 (by decide)
        have k2 := HoU.out.frozenAt 0
        have ltG : G < U.heap.size := (HoU.out.lt G rfl).2
        refine oneS 10 (by kernel_rfl) rfl rfl rfl (fun K hK => ?_)
        have HK := Lib.hid hK; clear hK
        go_simp
        refine HK.out _ _ (fun h => absurd h (by decide)) ?_
        clear HK K
        refine oneS 11 (by kernel_rfl) rfl rfl rfl (fun K hK => ?_)
        have HK := Lib.hid hK; clear hK
        go_simp
        refine HK.out _ _ (fun h => absurd h (by decide)) ?_
        clear HK K
        refine doneS (by kernel_rfl) ?_
        obtain ⟨X, hX⟩ : ∃ X, U.setCell ⟨G, 0, none⟩ (.slice A2 0 c2) = X := ⟨_, rfl⟩
        rw [hX]
        have hoX := (HoU.out.stored 0 (.slice A2 0 c2)).1
        rw [hX] at hoX
        have HoX : Hid (X.ownsRow (w.heap.size + 1 + 1) 38 1 (.slice (some ⟨G, 0, none⟩) 2 jc2) 2 [.slice A2 0 c2, .slice JO 0 jocp]) := Lib.hid hoX
        obtain ⟨cur, hcur, _⟩ := own_row HoU.out
        have hkeep : ∀ (b' : Nat) t cs fr, t ≠ 38 → U.heap[b']? = some (Obj.cells cs t fr) → X.heap[b']? = U.heap[b']? := fun b' t cs fr ht hb' => by
          rw [← hX]
          exact Below.heap_setCell U ⟨G, 0, none⟩ _ b' (fun e => by
            subst e
            rw [hcur] at hb'
            injection hb' with hb'
            injection hb' with _ hb' _
            exact ht hb'.symm)
        have HmlX := Lib.hid (HmlU.out.keep (w' := X) fun b' t cs fr ht hb' => hkeep b' t cs fr (by rcases ht with rfl | rfl <;> decide) hb')
        have HoOX : Hid (X.ownsRow (w.heap.size + 1 + 1) 46 5 (.slice O2 0 oc2) 0 []) := Lib.hid (by
          refine ⟨HoOU.out.1, ?_⟩
          rcases HoOU.out.2 with hn | ⟨g, cap, cur', hv, hg, hh, r⟩
          · exact .inl hn
          · exact .inr ⟨g, cap, cur', hv, hg, (hkeep g _ _ _ (by decide) hh).trans hh, r⟩)
        replace B0 := B0.keep (hkeep _ _ _ _ (by decide) B0); replace B1 := B1.keep (hkeep _ _ _ _ (by decide) B1); replace BJ := BJ.keep (hkeep _ _ _ _ (by decide) BJ)
        have HbX := Lib.hid (show Below w.heap.size w X from by
          rw [← hX]
          exact HbU2.out.setCell (p := ⟨G, 0, none⟩) (by show w.heap.size ≤ G; omega) _)
        clear hX hoX hcur hkeep HoU HoOU HmlU HbU HbU2 k1 k2 ltG c00 c01 c02 c03 c04 c05 c06 c07 c08 f00 f01 f02 f03 f04 f05 f06 f07 f08 lt0 c10 c11 c12 c13 c14 c15 c16 c17 c18 f10 f11 f12 f13 f14 f15 f16 f17 f18 lt1 cj0 cj1 cj2 cj3 cj4 fj0 fj1 fj2 fj3 fj4 ltj
        obtain ⟨c00, c01, c02, c03, c04, c05, c06, c07, c08, f00, f01, f02, f03, f04, f05, f06, f07, f08, lt0⟩ := B0.c9
        obtain ⟨c10, c11, c12, c13, c14, c15, c16, c17, c18, f10, f11, f12, f13, f14, f15, f16, f17, f18, lt1⟩ := B1.c9
        obtain ⟨cj0, cj1, cj2, cj3, cj4, fj0, fj1, fj2, fj3, fj4, ltj⟩ := BJ.c5
        go_upto_region 12 with fail
        obtain ⟨Y, hY, BJ', hkY, hsY, hbY⟩ := st_5_4_1 (.int .i64 1) BJ
        try rw [hY]
        replace B0 := B0.keep (hkY _ (by omega)); replace B1 := B1.keep (hkY _ (by omega))
        have HmlY := Lib.hid (HmlX.out.keep (fun b' t cs fr ht hb' => hkY b' (BJ.ne_type hb' (by rcases ht with rfl | rfl <;> decide))))
        have hGJ : G ≠ M2 := by omega
        have HoY : Hid (Y.ownsRow (w.heap.size + 1 + 1) 38 1 (.slice (some ⟨G, 0, none⟩) 2 jc2) 2 [.slice A2 0 c2, .slice JO 0 jocp]) := Lib.hid (by
          rw [← hY]
          exact own_setCell (j := 4) HoX.out (by simp [Value.ownBlock]; omega) _)
        have HoOY : Hid (Y.ownsRow (w.heap.size + 1 + 1) 46 5 (.slice O2 0 oc2) 0 []) := Lib.hid (by
          rw [← hY]
          refine own_setCell (j := 4) HoOX.out (fun e => ?_) _
          exact hOM e)
        have HbY := Lib.hid (hbY _ _ HbX.out (by omega))
        clear hY hkY hsY hbY BJ HoX HoOX HmlX HbX c00 c01 c02 c03 c04 c05 c06 c07 c08 f00 f01 f02 f03 f04 f05 f06 f07 f08 lt0 c10 c11 c12 c13 c14 c15 c16 c17 c18 f10 f11 f12 f13 f14 f15 f16 f17 f18 lt1 cj0 cj1 cj2 cj3 cj4 fj0 fj1 fj2 fj3 fj4 ltj
        have BJ := BJ'
        clear BJ'
        obtain ⟨c00, c01, c02, c03, c04, c05, c06, c07, c08, f00, f01, f02, f03, f04, f05, f06, f07, f08, lt0⟩ := B0.c9
        obtain ⟨c10, c11, c12, c13, c14, c15, c16, c17, c18, f10, f11, f12, f13, f14, f15, f16, f17, f18, lt1⟩ := B1.c9
        obtain ⟨cj0, cj1, cj2, cj3, cj4, fj0, fj1, fj2, fj3, fj4, ltj⟩ := BJ.c5
        go_wp2_with fail
        refine (submit_any Y _ _ _ ⟨dk, next, []⟩ kind page data Hg.out.dev hn9 Hrq.out (Hm.out.dev.up HbY.out)).mono ?_
        rintro e Z ⟨f', rfl, hmd, hbZ⟩
        obtain ⟨_, _, F2, fc2, rfl, _, _⟩ := hmd.len
        simp only [List.nil_append, List.length_cons, List.length_nil, Nat.zero_add] at hmd ⊢
        clear c00 c01 c02 c03 c04 c05 c06 c07 c08 f00 f01 f02 f03 f04 f05 f06 f07 f08 lt0 c10 c11 c12 c13 c14 c15 c16 c17 c18 f10 f11 f12 f13 f14 f15 f16 f17 f18 lt1 cj0 cj1 cj2 cj3 cj4 fj0 fj1 fj2 fj3 fj4 ltj
        replace B0 := B0.up hbZ; replace B1 := B1.up hbZ; replace BJ := BJ.up hbZ
        have HmdZ := Lib.hid hmd; have HoZ := Lib.hid (own_up HoY.out hbZ); have HoOZ := Lib.hid (own_up HoOY.out hbZ); have HmlZ := Lib.hid (HmlY.out.up hbZ)
        have HbZ := Lib.hid (HbY.out.trans (hbZ.mono HbY.out.size))
        clear hmd hbZ HoY HoOY HmlY HbY
        obtain ⟨c00, c01, c02, c03, c04, c05, c06, c07, c08, f00, f01, f02, f03, f04, f05, f06, f07, f08, lt0⟩ := B0.c9
        obtain ⟨c10, c11, c12, c13, c14, c15, c16, c17, c18, f10, f11, f12, f13, f14, f15, f16, f17, f18, lt1⟩ := B1.c9
        obtain ⟨cj0, cj1, cj2, cj3, cj4, fj0, fj1, fj2, fj3, fj4, ltj⟩ := BJ.c5
        go_upto_region 13 with fail
        obtain ⟨P, hP, B0', hkP, hsP, hbP⟩ := st_9_4_4 (.slice A dk.secs.length ac) (.slice B dk.cache.length bc) (.int .i64 (next + 1)) (.slice F2 1 fc2) B0
        try rw [hP]
        replace B1 := B1.keep (hkP _ (by omega)); replace BJ := BJ.keep (hkP _ (by omega))
        have HoP := Lib.hid (own_off HoZ.out (by omega) hkP); have HoOP := Lib.hid (own_off HoOZ.out (by omega) hkP)
        have HmlP := Lib.hid (HmlZ.out.keep (fun b' t cs fr ht hb' => hkP b' (B0.ne_type hb' (by rcases ht with rfl | rfl <;> decide))))
        have HmdP : Hid (MDv P (.slice A dk.secs.length ac) (.slice B dk.cache.length bc) (.slice F2 1 fc2) ⟨dk, next + 1, [⟨next, kind, page, data⟩]⟩) := Lib.hid ⟨⟨HmdZ.out.1.1.off B0 (by decide) hkP, HmdZ.out.1.2.off B0 (by decide) hkP⟩, HmdZ.out.2.off B0 (by decide) hkP⟩
        have HbP := Lib.hid (hbP _ _ HbZ.out (Nat.le_refl _))
        clear hP hkP hsP hbP B0 HoZ HoOZ HmlZ HmdZ HbZ c00 c01 c02 c03 c04 c05 c06 c07 c08 f00 f01 f02 f03 f04 f05 f06 f07 f08 lt0 c10 c11 c12 c13 c14 c15 c16 c17 c18 f10 f11 f12 f13 f14 f15 f16 f17 f18 lt1 cj0 cj1 cj2 cj3 cj4 fj0 fj1 fj2 fj3 fj4 ltj
        have B0 := B0'
        clear B0'
        obtain ⟨i0, hi, hz0, hz1, hz2⟩ := info_parts Tryz.infJb
        have Hi := Lib.hid hi; have Hz0 := Lib.hid hz0; have Hz1 := Lib.hid hz1; have Hz2 := Lib.hid hz2
        clear hi hz0 hz1 hz2
        obtain ⟨c00, c01, c02, c03, c04, c05, c06, c07, c08, f00, f01, f02, f03, f04, f05, f06, f07, f08, lt0⟩ := B0.c9
        obtain ⟨c10, c11, c12, c13, c14, c15, c16, c17, c18, f10, f11, f12, f13, f14, f15, f16, f17, f18, lt1⟩ := B1.c9
        obtain ⟨cj0, cj1, cj2, cj3, cj4, fj0, fj1, fj2, fj3, fj4, ltj⟩ := BJ.c5
        go_wp2_with (at_builtin; refine list_app rfl (.tmp 77) (.tmp 79) 38 rfl (w.heap.size + 1 + 1) 46 i0 (.agg #[.int .i64 0, .int .i64 0, .int .i64 0, .string ⟨#[]⟩, .int .i64 0]) 5 48 Tryz.underlying38 Hi.out Hz0.out Hz1.out Hz2.out rfl (by decide) rfl (own_up HoOP.out ((Below.refl _ _).alloc (Nat.le_refl _) _)) (A := some ⟨P.heap.size, 0, none⟩) (m := 1) (news := Jb.cells ⟨0, kind, page, data, 1⟩) rfl rfl (by simp) ?_ (jb_one ⟨0, kind, page, data, 1⟩) ?_ ?_ ?_ ?_)
        · intro j u hu
          try rw [Addr.add_lit, Nat.zero_add]
          have h := (Bx.new P 46 #[.int .i64 0, .int .i64 kind, .int .i64 page, .string data, .int .i64 1]).cell (j := j) (v := u) (by rw [← hu]; simp [Jb.cells])
          first | exact h | simpa using h
        · unfold maxLen; omega
        · omega
        intro v' U2 ho2 hg2 _
        obtain ⟨O3, oc3, rfl, ho3a, ho3b⟩ := own_slice ho2
        have hbU : Below (w.heap.size + 1 + 1) P U2 := ((Below.refl (w.heap.size + 1 + 1) P).alloc (by have := lt1; omega) _).grown hg2 (by have := lt1; simp; omega) (fun q hq => (HoOP.out.lt q hq).1)
        have hkeep : ∀ (b' : Nat) t cs fr, t ≠ 46 → P.heap[b']? = some (Obj.cells cs t fr) → U2.heap[b']? = P.heap[b']? := fun b' t cs fr ht hb' => by
          have hlt : b' < P.heap.size := (Array.getElem?_eq_some_iff.1 hb').1
          refine (hg2.block b' (by simp; omega) (fun e => ?_)).trans (heap_alloc_old P _ hlt)
          rcases HoOP.out.2 with ⟨hv, _⟩ | ⟨g, cap, cur, hv, _, hh, _⟩
          · rw [hv] at e
            cases e
          · rw [hv] at e
            injection e with e
            subst e
            rw [hh] at hb'
            injection hb' with hb'
            injection hb' with _ hb' _
            exact ht hb'.symm
        have HoP2 : Hid (U2.ownsRow (w.heap.size + 1 + 1) 38 1 (.slice (some ⟨G, 0, none⟩) 2 jc2) 2 [.slice A2 0 c2, .slice JO 0 jocp]) := Lib.hid (by
          refine ⟨HoP.out.1, ?_⟩
          rcases HoP.out.2 with hn | ⟨g, cap, cur', hv, hg, hh, r⟩
          · exact .inl hn
          · exact .inr ⟨g, cap, cur', hv, hg, (hkeep g _ _ _ (by decide) hh).trans hh, r⟩)
        have HmlP2 := Lib.hid (HmlP.out.keep (w' := U2) fun b' t cs fr ht hb' => hkeep b' t cs fr (by rcases ht with rfl | rfl <;> decide) hb')
        have HmdP2 : Hid (MDv U2 (.slice A dk.secs.length ac) (.slice B dk.cache.length bc) (.slice F2 1 fc2) ⟨dk, next + 1, [⟨next, kind, page, data⟩]⟩) := Lib.hid ⟨⟨HmdP.out.1.1.keep fun b' cs fr hb' => hkeep b' _ cs fr (by decide) hb', HmdP.out.1.2.keep fun b' cs fr hb' => hkeep b' _ cs fr (by decide) hb'⟩, HmdP.out.2.keep fun b' cs fr hb' => hkeep b' _ cs fr (by decide) hb'⟩
        have HO3 : Hid (Sl Jb.cells 5 46 U2 (.slice O3 1 oc3) [⟨0, kind, page, data, 1⟩]) := Lib.hid (Sl.of_own (f := Jb.cells) (l := [⟨0, kind, page, data, 1⟩]) (by simpa using ho2) rfl jb_len (by decide))
        have HbU2 := Lib.hid (HbP.out.trans (hbU.mono (by omega)))
        clear c00 c01 c02 c03 c04 c05 c06 c07 c08 f00 f01 f02 f03 f04 f05 f06 f07 f08 lt0 c10 c11 c12 c13 c14 c15 c16 c17 c18 f10 f11 f12 f13 f14 f15 f16 f17 f18 lt1 cj0 cj1 cj2 cj3 cj4 fj0 fj1 fj2 fj3 fj4 ltj
        replace B0 := B0.upB hbU (by omega); replace B1 := B1.upB hbU (by omega)
        clear BJ hbU hkeep ho2 hg2 HoP HoOP HmlP HmdP HbP
        obtain ⟨c00, c01, c02, c03, c04, c05, c06, c07, c08, f00, f01, f02, f03, f04, f05, f06, f07, f08, lt0⟩ := B0.c9
        obtain ⟨c10, c11, c12, c13, c14, c15, c16, c17, c18, f10, f11, f12, f13, f14, f15, f16, f17, f18, lt1⟩ := B1.c9
        obtain ⟨Q, hQ, B0', hkQ, hsQ, hbQ⟩ := st_9_8_1 (.slice O3 1 oc3) B0
        have Hfin := Lib.hid (show PDone0 w (.slice A dk.secs.length ac) (.slice B dk.cache.length bc) cst wk wo OA JO ocp jocp ⟨0, kind, page, data, 0⟩ dk next (U2.setCell ⟨w.heap.size, 8, none⟩ (.slice O3 1 oc3)) from by
          rw [hQ]
          have hj : Sl Jr.cells 1 38 U2 (.slice (some ⟨G, 0, none⟩) 2 jc2) ([⟨A2, 0, c2⟩, ⟨JO, 0, jocp⟩] : List Jr) := Sl.of_own (f := Jr.cells) (l := ([⟨A2, 0, c2⟩, ⟨JO, 0, jocp⟩] : List Jr)) HoP2.out rfl jr_len (by decide)
          refine ⟨_, _, _, _, LA, lcp, A2, c2, hcc2, B0', B1.keep (hkQ _ (by omega)), ⟨HmlP2.out.keep (fun b' t cs fr ht hb' => hkQ b' (B0.ne_type hb' (by rcases ht with rfl | rfl <;> decide))), hj.off B0 (by decide) hkQ, fun y hy e => ?_, ⟨⟨HmdP2.out.1.1.off B0 (by decide) hkQ, HmdP2.out.1.2.off B0 (by decide) hkQ⟩, HmdP2.out.2.off B0 (by decide) hkQ⟩, HO3.out.off B0 (by decide) hkQ⟩, hbQ _ _ HbU2.out (Nat.le_refl _)⟩
          simp only [List.mem_cons, List.mem_nil_iff, or_false] at hy
          rcases hy with rfl | rfl <;> cases e)
        clear hQ B0' hkQ hsQ hbQ HoP2 HmlP2 HmdP2 HO3 HbU2
        go_wp2_with fail
        go_roundg 0
        case measure => omega
        case rel => exact .inr ⟨rfl, Hfin.out⟩
      · skip
        refine wp_region_S 10 (fun U => ∃ y : BW V9, U = y.w) (by kernel_rfl) rfl rfl ?_
        have n_a := bw_cell c03 lt0
        have n_b := bw_cell gG ltG
        have HC : Hid (∃ y : BW V9, V9.drew = y.w) := Lib.hid ⟨⟨_, (Below.refl _ _).drew⟩, rfl⟩
        clear gG c00 c01 c02 c03 c04 c05 c06 c07 c08 f00 f01 f02 f03 f04 f05 f06 f07 f08 c10 c11 c12 c13 c14 c15 c16 c17 c18 f10 f11 f12 f13 f14 f15 f16 f17 f18 cj0 cj1 cj2 cj3 cj4 fj0 fj1 fj2 fj3 fj4
        refine pureS 0 rfl (by kernel_rfl) rfl (fun _ _ _ _ _ h => h) HC.out ?_
        go_big_quiet_step (fail)
        refine wpQuiet_nil ?_
        refine pureS 1 rfl (by kernel_rfl) rfl (fun _ _ _ _ _ h => h) HC.out ?_
        go_big_quiet_step (fail)
        refine wpQuiet_nil ?_
        refine pureS 2 rfl (by kernel_rfl) rfl (fun _ _ _ _ _ h => h) HC.out ?_
        go_big_quiet_step (fail)
        refine wpQuiet_nil ?_
        refine pureS 3 rfl (by kernel_rfl) rfl (fun _ _ _ _ _ h => h) HC.out ?_
        go_big_quiet_step (fail)
        refine wpQuiet_nil ?_
        refine pureS 4 rfl (by kernel_rfl) rfl (fun _ _ _ _ _ h => h) HC.out ?_
        go_big_quiet_step (fail)
        refine wpQuiet_nil ?_
        refine pureS 5 rfl (by kernel_rfl) rfl (fun _ _ _ _ _ h => h) HC.out ?_
        go_big_quiet_step (fail)
        refine wpQuiet_nil ?_
        refine pureS 6 rfl (by kernel_rfl) rfl (fun _ _ _ _ _ h => h) HC.out ?_
        go_big_quiet_step (fail)
        refine wpQuiet_nil ?_
        refine pureS 7 rfl (by kernel_rfl) rfl (fun _ _ _ _ _ h => h) HC.out ?_
        go_big_quiet_step (fail)
        refine wpQuiet_nil ?_
        refine pureS 8 rfl (by kernel_rfl) rfl (fun _ _ _ _ _ h => h) HC.out ?_
        go_big_quiet_step (fail)
        refine wpQuiet_nil ?_
        refine oneS 9 (by kernel_rfl) rfl rfl rfl (fun K hK => ?_)
        have HK := Lib.hid hK; clear hK
        go_simp
        refine (clone_Jb Jb.cells jb_len jb_one V9.drew (some ⟨jb, jo + 5, none⟩) (jcp - 1) [] (by simp) Rt.nil).mono ?_
        rintro e U ⟨A2, c2, rfl, hoC, hbC⟩
        have hbU : Below V9.heap.size V9 U := (Below.refl _ V9).drew.trans hbC
        have HbU := Lib.hid hbU
        obtain ⟨A2', c2', heC, hcc1, hcc2⟩ := own_slice hoC
        injection heC with heA heB heC
        subst heA
        subst heC
        clear hoC heB hbC hbU
        refine HK.out _ _ (fun _ => ⟨⟨U, HbU.out⟩, rfl⟩) ?_
        clear HK K
        replace B0 := B0.upB HbU.out lt0; replace B1 := B1.upB HbU.out lt1; replace BJ := BJ.upB HbU.out ltj
        clear lt0 lt1 ltj
        have HoU := Lib.hid (own_up HoJ9.out HbU.out); have HoOU := Lib.hid (own_up HoO9.out HbU.out); have HmlU := Lib.hid (Hml9.out.up HbU.out)
        have HbU2 := Lib.hid (Hb9.out.trans (HbU.out.mono Hb9.out.size))
        clear HoJ9 HoO9 Hml9 Hb9 ltG
        obtain ⟨c00, c01, c02, c03, c04, c05, c06, c07, c08, f00, f01, f02, f03, f04, f05, f06, f07, f08, lt0⟩ := B0.c9
        obtain ⟨c10, c11, c12, c13, c14, c15, c16, c17, c18, f10, f11, f12, f13, f14, f15, f16, f17, f18, lt1⟩ := B1.c9
        obtain ⟨cj0, cj1, cj2, cj3, cj4, fj0, fj1, fj2, fj3, fj4, ltj⟩ := BJ.c5
        have k1 : U.cell? ⟨G, 0, none⟩ = some (.slice (some ⟨jb, jo, none⟩) 1 jcp) := HoU.out.cellAt 0 (by decide)
        have k2 := HoU.out.frozenAt 0
        have ltG : G < U.heap.size := (HoU.out.lt G rfl).2
        refine oneS 10 (by kernel_rfl) rfl rfl rfl (fun K hK => ?_)
        have HK := Lib.hid hK; clear hK
        go_simp
        refine HK.out _ _ (fun h => absurd h (by decide)) ?_
        clear HK K
        refine oneS 11 (by kernel_rfl) rfl rfl rfl (fun K hK => ?_)
        have HK := Lib.hid hK; clear hK
        go_simp
        refine HK.out _ _ (fun h => absurd h (by decide)) ?_
        clear HK K
        refine doneS (by kernel_rfl) ?_
        obtain ⟨X, hX⟩ : ∃ X, U.setCell ⟨G, 0, none⟩ (.slice A2 0 c2) = X := ⟨_, rfl⟩
        rw [hX]
        have hoX := (HoU.out.stored 0 (.slice A2 0 c2)).1
        rw [hX] at hoX
        have HoX : Hid (X.ownsRow (w.heap.size + 1 + 1) 38 1 (.slice (some ⟨G, 0, none⟩) 2 jc2) 2 [.slice A2 0 c2, .slice JO 0 jocp]) := Lib.hid hoX
        obtain ⟨cur, hcur, _⟩ := own_row HoU.out
        have hkeep : ∀ (b' : Nat) t cs fr, t ≠ 38 → U.heap[b']? = some (Obj.cells cs t fr) → X.heap[b']? = U.heap[b']? := fun b' t cs fr ht hb' => by
          rw [← hX]
          exact Below.heap_setCell U ⟨G, 0, none⟩ _ b' (fun e => by
            subst e
            rw [hcur] at hb'
            injection hb' with hb'
            injection hb' with _ hb' _
            exact ht hb'.symm)
        have HmlX := Lib.hid (HmlU.out.keep (w' := X) fun b' t cs fr ht hb' => hkeep b' t cs fr (by rcases ht with rfl | rfl <;> decide) hb')
        have HoOX : Hid (X.ownsRow (w.heap.size + 1 + 1) 46 5 (.slice O2 0 oc2) 0 []) := Lib.hid (by
          refine ⟨HoOU.out.1, ?_⟩
          rcases HoOU.out.2 with hn | ⟨g, cap, cur', hv, hg, hh, r⟩
          · exact .inl hn
          · exact .inr ⟨g, cap, cur', hv, hg, (hkeep g _ _ _ (by decide) hh).trans hh, r⟩)
        replace B0 := B0.keep (hkeep _ _ _ _ (by decide) B0); replace B1 := B1.keep (hkeep _ _ _ _ (by decide) B1); replace BJ := BJ.keep (hkeep _ _ _ _ (by decide) BJ)
        have HbX := Lib.hid (show Below w.heap.size w X from by
          rw [← hX]
          exact HbU2.out.setCell (p := ⟨G, 0, none⟩) (by show w.heap.size ≤ G; omega) _)
        clear hX hoX hcur hkeep HoU HoOU HmlU HbU HbU2 k1 k2 ltG c00 c01 c02 c03 c04 c05 c06 c07 c08 f00 f01 f02 f03 f04 f05 f06 f07 f08 lt0 c10 c11 c12 c13 c14 c15 c16 c17 c18 f10 f11 f12 f13 f14 f15 f16 f17 f18 lt1 cj0 cj1 cj2 cj3 cj4 fj0 fj1 fj2 fj3 fj4 ltj
        obtain ⟨c00, c01, c02, c03, c04, c05, c06, c07, c08, f00, f01, f02, f03, f04, f05, f06, f07, f08, lt0⟩ := B0.c9
        obtain ⟨c10, c11, c12, c13, c14, c15, c16, c17, c18, f10, f11, f12, f13, f14, f15, f16, f17, f18, lt1⟩ := B1.c9
        obtain ⟨cj0, cj1, cj2, cj3, cj4, fj0, fj1, fj2, fj3, fj4, ltj⟩ := BJ.c5
        go_upto_region 12 with fail
        obtain ⟨Y, hY, BJ', hkY, hsY, hbY⟩ := st_5_4_1 (.int .i64 1) BJ
        try rw [hY]
        replace B0 := B0.keep (hkY _ (by omega)); replace B1 := B1.keep (hkY _ (by omega))
        have HmlY := Lib.hid (HmlX.out.keep (fun b' t cs fr ht hb' => hkY b' (BJ.ne_type hb' (by rcases ht with rfl | rfl <;> decide))))
        have hGJ : G ≠ M2 := by omega
        have HoY : Hid (Y.ownsRow (w.heap.size + 1 + 1) 38 1 (.slice (some ⟨G, 0, none⟩) 2 jc2) 2 [.slice A2 0 c2, .slice JO 0 jocp]) := Lib.hid (by
          rw [← hY]
          exact own_setCell (j := 4) HoX.out (by simp [Value.ownBlock]; omega) _)
        have HoOY : Hid (Y.ownsRow (w.heap.size + 1 + 1) 46 5 (.slice O2 0 oc2) 0 []) := Lib.hid (by
          rw [← hY]
          refine own_setCell (j := 4) HoOX.out (fun e => ?_) _
          exact hOM e)
        have HbY := Lib.hid (hbY _ _ HbX.out (by omega))
        clear hY hkY hsY hbY BJ HoX HoOX HmlX HbX c00 c01 c02 c03 c04 c05 c06 c07 c08 f00 f01 f02 f03 f04 f05 f06 f07 f08 lt0 c10 c11 c12 c13 c14 c15 c16 c17 c18 f10 f11 f12 f13 f14 f15 f16 f17 f18 lt1 cj0 cj1 cj2 cj3 cj4 fj0 fj1 fj2 fj3 fj4 ltj
        have BJ := BJ'
        clear BJ'
        obtain ⟨c00, c01, c02, c03, c04, c05, c06, c07, c08, f00, f01, f02, f03, f04, f05, f06, f07, f08, lt0⟩ := B0.c9
        obtain ⟨c10, c11, c12, c13, c14, c15, c16, c17, c18, f10, f11, f12, f13, f14, f15, f16, f17, f18, lt1⟩ := B1.c9
        obtain ⟨cj0, cj1, cj2, cj3, cj4, fj0, fj1, fj2, fj3, fj4, ltj⟩ := BJ.c5
        go_wp2_with fail
        refine (submit_any Y _ _ _ ⟨dk, next, []⟩ kind page data Hg.out.dev hn9 Hrq.out (Hm.out.dev.up HbY.out)).mono ?_
        rintro e Z ⟨f', rfl, hmd, hbZ⟩
        obtain ⟨_, _, F2, fc2, rfl, _, _⟩ := hmd.len
        simp only [List.nil_append, List.length_cons, List.length_nil, Nat.zero_add] at hmd ⊢
        clear c00 c01 c02 c03 c04 c05 c06 c07 c08 f00 f01 f02 f03 f04 f05 f06 f07 f08 lt0 c10 c11 c12 c13 c14 c15 c16 c17 c18 f10 f11 f12 f13 f14 f15 f16 f17 f18 lt1 cj0 cj1 cj2 cj3 cj4 fj0 fj1 fj2 fj3 fj4 ltj
        replace B0 := B0.up hbZ; replace B1 := B1.up hbZ; replace BJ := BJ.up hbZ
        have HmdZ := Lib.hid hmd; have HoZ := Lib.hid (own_up HoY.out hbZ); have HoOZ := Lib.hid (own_up HoOY.out hbZ); have HmlZ := Lib.hid (HmlY.out.up hbZ)
        have HbZ := Lib.hid (HbY.out.trans (hbZ.mono HbY.out.size))
        clear hmd hbZ HoY HoOY HmlY HbY
        obtain ⟨c00, c01, c02, c03, c04, c05, c06, c07, c08, f00, f01, f02, f03, f04, f05, f06, f07, f08, lt0⟩ := B0.c9
        obtain ⟨c10, c11, c12, c13, c14, c15, c16, c17, c18, f10, f11, f12, f13, f14, f15, f16, f17, f18, lt1⟩ := B1.c9
        obtain ⟨cj0, cj1, cj2, cj3, cj4, fj0, fj1, fj2, fj3, fj4, ltj⟩ := BJ.c5
        go_upto_region 13 with fail
        obtain ⟨P, hP, B0', hkP, hsP, hbP⟩ := st_9_4_4 (.slice A dk.secs.length ac) (.slice B dk.cache.length bc) (.int .i64 (next + 1)) (.slice F2 1 fc2) B0
        try rw [hP]
        replace B1 := B1.keep (hkP _ (by omega)); replace BJ := BJ.keep (hkP _ (by omega))
        have HoP := Lib.hid (own_off HoZ.out (by omega) hkP); have HoOP := Lib.hid (own_off HoOZ.out (by omega) hkP)
        have HmlP := Lib.hid (HmlZ.out.keep (fun b' t cs fr ht hb' => hkP b' (B0.ne_type hb' (by rcases ht with rfl | rfl <;> decide))))
        have HmdP : Hid (MDv P (.slice A dk.secs.length ac) (.slice B dk.cache.length bc) (.slice F2 1 fc2) ⟨dk, next + 1, [⟨next, kind, page, data⟩]⟩) := Lib.hid ⟨⟨HmdZ.out.1.1.off B0 (by decide) hkP, HmdZ.out.1.2.off B0 (by decide) hkP⟩, HmdZ.out.2.off B0 (by decide) hkP⟩
        have HbP := Lib.hid (hbP _ _ HbZ.out (Nat.le_refl _))
        clear hP hkP hsP hbP B0 HoZ HoOZ HmlZ HmdZ HbZ c00 c01 c02 c03 c04 c05 c06 c07 c08 f00 f01 f02 f03 f04 f05 f06 f07 f08 lt0 c10 c11 c12 c13 c14 c15 c16 c17 c18 f10 f11 f12 f13 f14 f15 f16 f17 f18 lt1 cj0 cj1 cj2 cj3 cj4 fj0 fj1 fj2 fj3 fj4 ltj
        have B0 := B0'
        clear B0'
        obtain ⟨i0, hi, hz0, hz1, hz2⟩ := info_parts Tryz.infJb
        have Hi := Lib.hid hi; have Hz0 := Lib.hid hz0; have Hz1 := Lib.hid hz1; have Hz2 := Lib.hid hz2
        clear hi hz0 hz1 hz2
        obtain ⟨c00, c01, c02, c03, c04, c05, c06, c07, c08, f00, f01, f02, f03, f04, f05, f06, f07, f08, lt0⟩ := B0.c9
        obtain ⟨c10, c11, c12, c13, c14, c15, c16, c17, c18, f10, f11, f12, f13, f14, f15, f16, f17, f18, lt1⟩ := B1.c9
        obtain ⟨cj0, cj1, cj2, cj3, cj4, fj0, fj1, fj2, fj3, fj4, ltj⟩ := BJ.c5
        go_wp2_with (at_builtin; refine list_app rfl (.tmp 77) (.tmp 79) 38 rfl (w.heap.size + 1 + 1) 46 i0 (.agg #[.int .i64 0, .int .i64 0, .int .i64 0, .string ⟨#[]⟩, .int .i64 0]) 5 48 Tryz.underlying38 Hi.out Hz0.out Hz1.out Hz2.out rfl (by decide) rfl (own_up HoOP.out ((Below.refl _ _).alloc (Nat.le_refl _) _)) (A := some ⟨P.heap.size, 0, none⟩) (m := 1) (news := Jb.cells ⟨0, kind, page, data, 1⟩) rfl rfl (by simp) ?_ (jb_one ⟨0, kind, page, data, 1⟩) ?_ ?_ ?_ ?_)
        · intro j u hu
          try rw [Addr.add_lit, Nat.zero_add]
          have h := (Bx.new P 46 #[.int .i64 0, .int .i64 kind, .int .i64 page, .string data, .int .i64 1]).cell (j := j) (v := u) (by rw [← hu]; simp [Jb.cells])
          first | exact h | simpa using h
        · unfold maxLen; omega
        · omega
        intro v' U2 ho2 hg2 _
        obtain ⟨O3, oc3, rfl, ho3a, ho3b⟩ := own_slice ho2
        have hbU : Below (w.heap.size + 1 + 1) P U2 := ((Below.refl (w.heap.size + 1 + 1) P).alloc (by have := lt1; omega) _).grown hg2 (by have := lt1; simp; omega) (fun q hq => (HoOP.out.lt q hq).1)
        have hkeep : ∀ (b' : Nat) t cs fr, t ≠ 46 → P.heap[b']? = some (Obj.cells cs t fr) → U2.heap[b']? = P.heap[b']? := fun b' t cs fr ht hb' => by
          have hlt : b' < P.heap.size := (Array.getElem?_eq_some_iff.1 hb').1
          refine (hg2.block b' (by simp; omega) (fun e => ?_)).trans (heap_alloc_old P _ hlt)
          rcases HoOP.out.2 with ⟨hv, _⟩ | ⟨g, cap, cur, hv, _, hh, _⟩
          · rw [hv] at e
            cases e
          · rw [hv] at e
            injection e with e
            subst e
            rw [hh] at hb'
            injection hb' with hb'
            injection hb' with _ hb' _
            exact ht hb'.symm
        have HoP2 : Hid (U2.ownsRow (w.heap.size + 1 + 1) 38 1 (.slice (some ⟨G, 0, none⟩) 2 jc2) 2 [.slice A2 0 c2, .slice JO 0 jocp]) := Lib.hid (by
          refine ⟨HoP.out.1, ?_⟩
          rcases HoP.out.2 with hn | ⟨g, cap, cur', hv, hg, hh, r⟩
          · exact .inl hn
          · exact .inr ⟨g, cap, cur', hv, hg, (hkeep g _ _ _ (by decide) hh).trans hh, r⟩)
        have HmlP2 := Lib.hid (HmlP.out.keep (w' := U2) fun b' t cs fr ht hb' => hkeep b' t cs fr (by rcases ht with rfl | rfl <;> decide) hb')
        have HmdP2 : Hid (MDv U2 (.slice A dk.secs.length ac) (.slice B dk.cache.length bc) (.slice F2 1 fc2) ⟨dk, next + 1, [⟨next, kind, page, data⟩]⟩) := Lib.hid ⟨⟨HmdP.out.1.1.keep fun b' cs fr hb' => hkeep b' _ cs fr (by decide) hb', HmdP.out.1.2.keep fun b' cs fr hb' => hkeep b' _ cs fr (by decide) hb'⟩, HmdP.out.2.keep fun b' cs fr hb' => hkeep b' _ cs fr (by decide) hb'⟩
        have HO3 : Hid (Sl Jb.cells 5 46 U2 (.slice O3 1 oc3) [⟨0, kind, page, data, 1⟩]) := Lib.hid (Sl.of_own (f := Jb.cells) (l := [⟨0, kind, page, data, 1⟩]) (by simpa using ho2) rfl jb_len (by decide))
        have HbU2 := Lib.hid (HbP.out.trans (hbU.mono (by omega)))
        clear c00 c01 c02 c03 c04 c05 c06 c07 c08 f00 f01 f02 f03 f04 f05 f06 f07 f08 lt0 c10 c11 c12 c13 c14 c15 c16 c17 c18 f10 f11 f12 f13 f14 f15 f16 f17 f18 lt1 cj0 cj1 cj2 cj3 cj4 fj0 fj1 fj2 fj3 fj4 ltj
        replace B0 := B0.upB hbU (by omega); replace B1 := B1.upB hbU (by omega)
        clear BJ hbU hkeep ho2 hg2 HoP HoOP HmlP HmdP HbP
        obtain ⟨c00, c01, c02, c03, c04, c05, c06, c07, c08, f00, f01, f02, f03, f04, f05, f06, f07, f08, lt0⟩ := B0.c9
        obtain ⟨c10, c11, c12, c13, c14, c15, c16, c17, c18, f10, f11, f12, f13, f14, f15, f16, f17, f18, lt1⟩ := B1.c9
        obtain ⟨Q, hQ, B0', hkQ, hsQ, hbQ⟩ := st_9_8_1 (.slice O3 1 oc3) B0
        have Hfin := Lib.hid (show PDone0 w (.slice A dk.secs.length ac) (.slice B dk.cache.length bc) cst wk wo OA JO ocp jocp ⟨0, kind, page, data, 0⟩ dk next (U2.setCell ⟨w.heap.size, 8, none⟩ (.slice O3 1 oc3)) from by
          rw [hQ]
          have hj : Sl Jr.cells 1 38 U2 (.slice (some ⟨G, 0, none⟩) 2 jc2) ([⟨A2, 0, c2⟩, ⟨JO, 0, jocp⟩] : List Jr) := Sl.of_own (f := Jr.cells) (l := ([⟨A2, 0, c2⟩, ⟨JO, 0, jocp⟩] : List Jr)) HoP2.out rfl jr_len (by decide)
          refine ⟨_, _, _, _, LA, lcp, A2, c2, hcc2, B0', B1.keep (hkQ _ (by omega)), ⟨HmlP2.out.keep (fun b' t cs fr ht hb' => hkQ b' (B0.ne_type hb' (by rcases ht with rfl | rfl <;> decide))), hj.off B0 (by decide) hkQ, fun y hy e => ?_, ⟨⟨HmdP2.out.1.1.off B0 (by decide) hkQ, HmdP2.out.1.2.off B0 (by decide) hkQ⟩, HmdP2.out.2.off B0 (by decide) hkQ⟩, HO3.out.off B0 (by decide) hkQ⟩, hbQ _ _ HbU2.out (Nat.le_refl _)⟩
          simp only [List.mem_cons, List.mem_nil_iff, or_false] at hy
          rcases hy with rfl | rfl <;> cases e)
        clear hQ B0' hkQ hsQ hbQ HoP2 HmlP2 HmdP2 HO3 HbU2
        go_wp2_with fail
        go_roundg 0
        case measure => omega
        case rel => exact .inr ⟨rfl, Hfin.out⟩
    · clear B0 B1
      obtain ⟨lv, jv, f', ov', LA, lcp, A2, c2, hc2, B0, B1, hM, hb⟩ := hd
      obtain ⟨⟨L1, lc1, rfl⟩, ⟨J1, jc1, rfl⟩, _, _, ⟨F1, fc1, rfl, _, _⟩, ⟨O1, oc1, rfl, _, _⟩⟩ := hM.len
      simp only [List.length_cons, List.length_nil, Nat.zero_add, Nat.reduceAdd] at hM B0 ⊢
      have HM := Lib.hid hM; have Hb := Lib.hid hb
      clear hM hb
      obtain ⟨c00, c01, c02, c03, c04, c05, c06, c07, c08, f00, f01, f02, f03, f04, f05, f06, f07, f08, lt0⟩ := B0.c9
      obtain ⟨c10, c11, c12, c13, c14, c15, c16, c17, c18, f10, f11, f12, f13, f14, f15, f16, f17, f18, lt1⟩ := B1.c9
      go_wp2_with fail
      refine (next_no wr _ cst 0 true [⟨wk, 0, LA, 0, lcp⟩, ⟨wo, 0, OA, 0, ocp⟩] Hc.out (by simp) (by simp) (by simp) HM.out.lan (by simp)).mono ?_
      rintro e V6 ⟨rfl, hb6⟩
      clear c00 c01 c02 c03 c04 c05 c06 c07 c08 f00 f01 f02 f03 f04 f05 f06 f07 f08 lt0 c10 c11 c12 c13 c14 c15 c16 c17 c18 f10 f11 f12 f13 f14 f15 f16 f17 f18 lt1
      replace B0 := B0.up hb6; replace B1 := B1.up hb6
      have Hb6 := Lib.hid (Hb.out.trans (hb6.mono Hb.out.size))
      have HM6 := Lib.hid (HM.out.up hb6)
      clear hb6
      obtain ⟨c00, c01, c02, c03, c04, c05, c06, c07, c08, f00, f01, f02, f03, f04, f05, f06, f07, f08, lt0⟩ := B0.c9
      obtain ⟨c10, c11, c12, c13, c14, c15, c16, c17, c18, f10, f11, f12, f13, f14, f15, f16, f17, f18, lt1⟩ := B1.c9
      go_wp2_with fail
      refine bodyPost_ret (v := .agg #[.slice L1 2 lc1, .int .i64 0, .bool true, .slice J1 2 jc1, .slice A dk.secs.length ac, .slice B dk.cache.length bc, .int .i64 (next + 1), .slice F1 1 fc1, .slice O1 1 oc1]) (by simp [results, Tryz.results8, go_sem, c10, c11, c12, c13, c14, c15, c16, c17, c18, lt1]) rfl ?_
      obtain ⟨U8, hU8, _, hk8, _, hb8⟩ := st_9_0_9 (.slice L1 2 lc1) (.int .i64 0) (.bool true) (.slice J1 2 jc1) (.slice A dk.secs.length ac) (.slice B dk.cache.length bc) (.int .i64 (next + 1)) (.slice F1 1 fc1) (.slice O1 1 oc1) B1
      rw [hU8]
      have hba : Below U8.heap.size U8 (U8.alloc (.cells #[.slice L1 2 lc1, .int .i64 0, .bool true] 33)) := (Below.refl _ _).alloc (Nat.le_refl _) _
      have hb0 := hb8 _ _ Hb6.out (by omega)
      refine ⟨_, _, _, _, rfl, ⟨LA, lcp, A2, c2, hc2, MSc.up ?_ hba⟩, hb0.trans (hba.mono hb0.size)⟩
      have hM := HM6.out
      refine ⟨hM.lan.keep (fun b' t cs fr ht hb' => hk8 b' (B1.ne_type hb' (by rcases ht with rfl | rfl <;> decide))), hM.jobs.off B1 (by decide) hk8, fun y hy e => ?_, ⟨⟨hM.dev.1.1.off B1 (by decide) hk8, hM.dev.1.2.off B1 (by decide) hk8⟩, hM.dev.2.off B1 (by decide) hk8⟩, hM.out.off B1 (by decide) hk8⟩
      simp only [List.mem_cons, List.mem_nil_iff, or_false] at hy
      rcases hy with rfl | rfl <;> cases e
def PDone1 (w : World) (s c : Value) (cst wk wo : Int) (OA JO : Option Addr) (ocp jocp : Nat) (job : Jb) (dk : Dk) (next : Int) (wr : World) : Prop :=
  ∃ lv jv f ov LA lcp A2 c2, c2 ≤ 9223372036854775807 ∧ Bx w.heap.size 40 #[lv, .int .i64 1, .bool true, jv, s, c, .int .i64 (next + 1), f, ov] wr ∧ Bx (w.heap.size + 1) 40 #[.slice none 0 0, .int .i64 0, .bool false, .slice none 0 0, .slice none 0 0, .slice none 0 0, .int .i64 0, .slice none 0 0, .slice none 0 0] wr ∧ MSc wr lv jv s c f ov ⟨1, true, cst, [⟨wo, 0, OA, 0, ocp⟩, ⟨wk, 0, LA, 0, lcp⟩], [⟨JO, 0, jocp⟩, ⟨A2, 0, c2⟩], job, dk, next + 1, [(next, { job with tries := 1 })]⟩ ∧ Below w.heap.size w wr
set_option maxHeartbeats 16000000 in
theorem pump_yes1 (w : World) (lv jv s c f ov : Value) (at_ cst wk wo : Int) (given : Bool) (KA OA JA JO : Option Addr) (kcp ocp jcp jocp : Nat) (job : Jb) (dk : Dk) (next : Int) (hg : GSc ⟨at_, given, cst, [⟨wo, 0, OA, 0, ocp⟩, ⟨wk, 0, KA, 1, kcp⟩], [⟨JO, 0, jocp⟩, ⟨JA, 1, jcp⟩], job, dk, next, []⟩) (hcw : cst ≤ wk * 4) (hn9 : next ≤ 999) (ha : (at_ = 1 ∧ given = false) ∨ at_ = 0) (hm : MSc w lv jv s c f ov ⟨at_, given, cst, [⟨wo, 0, OA, 0, ocp⟩, ⟨wk, 0, KA, 1, kcp⟩], [⟨JO, 0, jocp⟩, ⟨JA, 1, jcp⟩], job, dk, next, []⟩) :
    Calls Tryz.prog 8 #[.agg #[lv, .int .i64 at_, .bool given, jv, s, c, .int .i64 next, f, ov]] w fun e w' => ∃ lv' jv' f' ov', e = .returned (.agg #[lv', .int .i64 1, .bool true, jv', s, c, .int .i64 (next + 1), f', ov']) ∧
      (∃ LA lcp A2 c2, c2 ≤ 9223372036854775807 ∧ MSc w' lv' jv' s c f' ov' ⟨1, true, cst, [⟨wo, 0, OA, 0, ocp⟩, ⟨wk, 0, LA, 0, lcp⟩], [⟨JO, 0, jocp⟩, ⟨A2, 0, c2⟩], job, dk, next + 1, [(next, { job with tries := 1 })]⟩) ∧ Below w.heap.size w w' := by
  obtain ⟨⟨L, lc, rfl⟩, ⟨J, jc, rfl⟩, ⟨A, ac, rfl⟩, ⟨B, bc, rfl⟩, ⟨F, fc, rfl, _, _⟩, ⟨O, oc, rfl, _, _⟩⟩ := hm.len
  simp only [List.length_cons, List.length_nil, Nat.zero_add, Nat.reduceAdd] at *
  obtain ⟨hjn, hjc1, hjc2, hjob⟩ := hg.rows 1 ⟨JA, 1, jcp⟩ ⟨wk, 0, KA, 1, kcp⟩ rfl rfl
  obtain ⟨hwho, htr, hrq, hck⟩ := hjob rfl
  obtain ⟨hjn', hjc1', hjc2', _⟩ := hg.rows 0 ⟨JO, 0, jocp⟩ ⟨wo, 0, OA, 0, ocp⟩ rfl rfl
  obtain ⟨who, kind, page, data, tries⟩ := job
  simp only at hwho htr hrq hck hjc1 hjc2 hjc1' hjc2'
  subst hwho
  subst htr
  obtain ⟨x, jb, jo, hx, rfl, hjbl, hjcell⟩ := jb_at (hm.row ⟨JA, 1, jcp⟩ (by simp) rfl) (k := 0) (by simp)
  obtain rfl : _ = x := by simpa using hx
  obtain ⟨W, hW, hbW, hsW, B0, B1⟩ := box2 w #[.slice L 2 lc, .int .i64 at_, .bool given, .slice J 2 jc, .slice A dk.secs.length ac, .slice B dk.cache.length bc, .int .i64 next, .slice F 0 fc, .slice O 0 oc] 40 #[.slice none 0 0, .int .i64 0, .bool false, .slice none 0 0, .slice none 0 0, .slice none 0 0, .int .i64 0, .slice none 0 0, .slice none 0 0] 40
  have Hjcell := Lib.hid hjcell
  have Hm := Lib.hid hm; have Hg := Lib.hid hg; have Ha := Lib.hid ha; have Hrq := Lib.hid hrq; have Hck := Lib.hid hck
  have HbW := Lib.hid hbW
  have hsW' := bsz hsW
  obtain ⟨hn0, _⟩ := hg.dev.next
  have Hc := Lib.hid hg.c
  simp only at hn0
  clear hm hg hbW hsW hx hjcell ha hrq hjob hjn hjn' hck
  obtain ⟨c00, c01, c02, c03, c04, c05, c06, c07, c08, f00, f01, f02, f03, f04, f05, f06, f07, f08, lt0⟩ := B0.c9
  obtain ⟨c10, c11, c12, c13, c14, c15, c16, c17, c18, f10, f11, f12, f13, f14, f15, f16, f17, f18, lt1⟩ := B1.c9
  go_enter Tryz.func8, Tryz.ntmps8
  go_wp2_with fail
  refine (schRight_any W _ _ _ _ _ _ _ Hg.out (Hm.out.up HbW.out)).mono ?_
  rintro e V1 ⟨rfl, hb_V1⟩
  clear c00 c01 c02 c03 c04 c05 c06 c07 c08 f00 f01 f02 f03 f04 f05 f06 f07 f08 lt0 c10 c11 c12 c13 c14 c15 c16 c17 c18 f10 f11 f12 f13 f14 f15 f16 f17 f18 lt1 hW
  replace B0 := B0.up hb_V1
  replace B1 := B1.up hb_V1
  have Hb1 := Lib.hid (HbW.out.trans (hb_V1.mono hsW'))
  have hs_V1 := hb_V1.size
  clear hb_V1
  obtain ⟨c00, c01, c02, c03, c04, c05, c06, c07, c08, f00, f01, f02, f03, f04, f05, f06, f07, f08, lt0⟩ := B0.c9
  obtain ⟨c10, c11, c12, c13, c14, c15, c16, c17, c18, f10, f11, f12, f13, f14, f15, f16, f17, f18, lt1⟩ := B1.c9
  go_wp2_with fail
  refine (clone_Jr Jr.cells jr_len jr_one V1 J jc [⟨JO, 0, jocp⟩, ⟨some ⟨jb, jo, none⟩, 1, jcp⟩] (by simp) (Hm.out.jobs.rt.up Hb1.out)).mono ?_
  rintro e V2 ⟨J2, jc2, rfl, hoJ, hb2⟩
  clear c00 c01 c02 c03 c04 c05 c06 c07 c08 f00 f01 f02 f03 f04 f05 f06 f07 f08 lt0 c10 c11 c12 c13 c14 c15 c16 c17 c18 f10 f11 f12 f13 f14 f15 f16 f17 f18 lt1
  have ltM := B1.lt
  replace B0 := B0.up hb2; replace B1 := B1.up hb2
  have Hb2 := Lib.hid (Hb1.out.trans (hb2.mono Hb1.out.size))
  obtain ⟨G, jc2', hG, hGb, _, _⟩ := own_addr hoJ (by simp)
  injection hG with hG1 _ hG2
  subst hG1
  subst hG2
  have hGM : w.heap.size + 1 + 1 ≤ G := by omega
  have HoJ : Hid (V2.ownsRow (w.heap.size + 1 + 1) 38 1 (.slice (some ⟨G, 0, none⟩) 2 jc2) 2 [.slice JO 0 jocp, .slice (some ⟨jb, jo, none⟩) 1 jcp]) := Lib.hid (own_base hoJ (show w.heap.size + 1 + 1 ≤ V1.heap.size from ltM))
  clear hoJ hb2
  obtain ⟨c00, c01, c02, c03, c04, c05, c06, c07, c08, f00, f01, f02, f03, f04, f05, f06, f07, f08, lt0⟩ := B0.c9
  obtain ⟨c10, c11, c12, c13, c14, c15, c16, c17, c18, f10, f11, f12, f13, f14, f15, f16, f17, f18, lt1⟩ := B1.c9
  simp only [List.length_cons, List.length_nil, Nat.zero_add, Nat.reduceAdd]
  go_upto_region 4 with fail
  obtain ⟨V3, hV3, B0', hk3, hs3, hb3⟩ := st_9_3_1 (.slice (some ⟨G, 0, none⟩) 2 jc2) B0
  try rw [hV3]
  replace B1 := B1.keep (hk3 _ (by omega))
  have HoJ3 : Hid (V3.ownsRow (w.heap.size + 1 + 1) 38 1 (.slice (some ⟨G, 0, none⟩) 2 jc2) 2 [.slice JO 0 jocp, .slice (some ⟨jb, jo, none⟩) 1 jcp]) := Lib.hid (by
    rw [← hV3]
    exact own_setCell (j := 3) HoJ.out (by simp [Value.ownBlock]; omega) _)
  have Hb3 := Lib.hid (hb3 _ _ Hb2.out (Nat.le_refl _))
  clear hV3 hk3 hs3 hb3 B0 HoJ c00 c01 c02 c03 c04 c05 c06 c07 c08 f00 f01 f02 f03 f04 f05 f06 f07 f08 lt0 c10 c11 c12 c13 c14 c15 c16 c17 c18 f10 f11 f12 f13 f14 f15 f16 f17 f18 lt1
  have B0 := B0'
  clear B0'
  obtain ⟨c00, c01, c02, c03, c04, c05, c06, c07, c08, f00, f01, f02, f03, f04, f05, f06, f07, f08, lt0⟩ := B0.c9
  obtain ⟨c10, c11, c12, c13, c14, c15, c16, c17, c18, f10, f11, f12, f13, f14, f15, f16, f17, f18, lt1⟩ := B1.c9
  go_wp2_with fail
  refine (clone_Jb Jb.cells jb_len jb_one V3 O oc [] (by simp) Rt.nil).mono ?_
  rintro e V4 ⟨O2, oc2, rfl, hoO, hb4⟩
  clear c00 c01 c02 c03 c04 c05 c06 c07 c08 f00 f01 f02 f03 f04 f05 f06 f07 f08 lt0 c10 c11 c12 c13 c14 c15 c16 c17 c18 f10 f11 f12 f13 f14 f15 f16 f17 f18 lt1
  have ltM := B1.lt
  replace B0 := B0.up hb4; replace B1 := B1.up hb4
  have Hb4 := Lib.hid (Hb3.out.trans (hb4.mono Hb3.out.size))
  have HoO : Hid (V4.ownsRow (w.heap.size + 1 + 1) 46 5 (.slice O2 0 oc2) 0 []) := Lib.hid (own_base hoO (show w.heap.size + 1 + 1 ≤ V3.heap.size from ltM))
  have HoJ4 := Lib.hid (own_up HoJ3.out hb4)
  clear hoO hb4 HoJ3 Hb3
  obtain ⟨c00, c01, c02, c03, c04, c05, c06, c07, c08, f00, f01, f02, f03, f04, f05, f06, f07, f08, lt0⟩ := B0.c9
  obtain ⟨c10, c11, c12, c13, c14, c15, c16, c17, c18, f10, f11, f12, f13, f14, f15, f16, f17, f18, lt1⟩ := B1.c9
  go_wp2_with fail
  obtain ⟨V5, hV5, B0', hk5, hs5, hb5⟩ := st_9_8_1 (.slice O2 0 oc2) B0
  try rw [hV5]
  replace B1 := B1.keep (hk5 _ (by omega))
  have HoJ5 : Hid (V5.ownsRow (w.heap.size + 1 + 1) 38 1 (.slice (some ⟨G, 0, none⟩) 2 jc2) 2 [.slice JO 0 jocp, .slice (some ⟨jb, jo, none⟩) 1 jcp]) := Lib.hid (by
    rw [← hV5]
    exact own_setCell (j := 8) HoJ4.out (by simp [Value.ownBlock]; omega) _)
  have HoO5 : Hid (V5.ownsRow (w.heap.size + 1 + 1) 46 5 (.slice O2 0 oc2) 0 []) := Lib.hid (by
    rw [← hV5]
    refine own_setCell (j := 8) HoO.out (fun e => ?_) _
    obtain ⟨q, hq⟩ : ∃ q, q = w.heap.size := ⟨_, rfl⟩
    have := (HoO.out.lt _ e).1
    omega)
  have Hb5 := Lib.hid (hb5 _ _ Hb4.out (Nat.le_refl _))
  clear hV5 hk5 hs5 hb5 B0 HoJ4 HoO c00 c01 c02 c03 c04 c05 c06 c07 c08 f00 f01 f02 f03 f04 f05 f06 f07 f08 lt0 c10 c11 c12 c13 c14 c15 c16 c17 c18 f10 f11 f12 f13 f14 f15 f16 f17 f18 lt1
  have B0 := B0'
  clear B0'
  go_loopg [] 1 (fun g wr => (g = 1 ∧ V5 = wr) ∨ (g = 0 ∧ PDone1 w (.slice A dk.secs.length ac) (.slice B dk.cache.length bc) cst wk wo OA JO ocp jocp ⟨1, kind, page, data, 0⟩ dk next wr))
  case atStart => exact .inl ⟨rfl, rfl⟩
  case round =>
    rcases hrel with ⟨rfl, rfl⟩ | ⟨rfl, hd⟩
    · skip
      obtain ⟨c00, c01, c02, c03, c04, c05, c06, c07, c08, f00, f01, f02, f03, f04, f05, f06, f07, f08, lt0⟩ := B0.c9
      obtain ⟨c10, c11, c12, c13, c14, c15, c16, c17, c18, f10, f11, f12, f13, f14, f15, f16, f17, f18, lt1⟩ := B1.c9
      go_wp2_with fail
      refine (next_yes1 V5 _ cst at_ wk wo given KA OA kcp ocp Hc.out hcw Ha.out (Hm.out.lan.up Hb5.out)).mono ?_
      rintro e V6 ⟨v', rfl, ⟨LA, lcp, hml⟩, hb6⟩
      obtain ⟨L1, lc1, rfl, _, _⟩ := hml.len
      simp only [List.length_cons, List.length_nil, Nat.zero_add, Nat.reduceAdd] at hml ⊢
      clear c00 c01 c02 c03 c04 c05 c06 c07 c08 f00 f01 f02 f03 f04 f05 f06 f07 f08 lt0 c10 c11 c12 c13 c14 c15 c16 c17 c18 f10 f11 f12 f13 f14 f15 f16 f17 f18 lt1
      replace B0 := B0.up hb6; replace B1 := B1.up hb6
      have Hb6 := Lib.hid (Hb5.out.trans (hb6.mono Hb5.out.size))
      have Hml6 := Lib.hid hml; have HoJ6 := Lib.hid (own_up HoJ5.out hb6); have HoO6 := Lib.hid (own_up HoO5.out hb6)
      clear hb6 hml HoJ5 HoO5
      obtain ⟨c00, c01, c02, c03, c04, c05, c06, c07, c08, f00, f01, f02, f03, f04, f05, f06, f07, f08, lt0⟩ := B0.c9
      obtain ⟨c10, c11, c12, c13, c14, c15, c16, c17, c18, f10, f11, f12, f13, f14, f15, f16, f17, f18, lt1⟩ := B1.c9
      go_upto_region 8 with fail
      obtain ⟨V7, hV7⟩ : ∃ V7, V6.alloc (.cells #[.slice L1 2 lc1, .int .i64 1, .bool true] 33) = V7 := ⟨_, rfl⟩
      rw [hV7]
      have hb7 : Below V6.heap.size V6 V7 := by rw [← hV7]; exact (Below.refl _ _).alloc (Nat.le_refl _) _
      have BM : Bx V6.heap.size 33 #[.slice L1 2 lc1, .int .i64 1, .bool true] V7 := by rw [← hV7]; exact Bx.new _ _ _
      have hMs := lt1
      obtain ⟨M, hM⟩ : ∃ M, V6.heap.size = M := ⟨_, rfl⟩
      rw [hM] at BM hMs ⊢
      clear hV7 hM c00 c01 c02 c03 c04 c05 c06 c07 c08 f00 f01 f02 f03 f04 f05 f06 f07 f08 lt0 c10 c11 c12 c13 c14 c15 c16 c17 c18 f10 f11 f12 f13 f14 f15 f16 f17 f18 lt1
      replace B0 := B0.up hb7; replace B1 := B1.up hb7
      have Hb7 := Lib.hid (Hb6.out.trans (hb7.mono Hb6.out.size))
      have Hml7 := Lib.hid (Hml6.out.up hb7); have HoJ7 := Lib.hid (own_up HoJ6.out hb7); have HoO7 := Lib.hid (own_up HoO6.out hb7)
      clear hb7 Hml6 HoJ6 HoO6 Hb6
      obtain ⟨c00, c01, c02, c03, c04, c05, c06, c07, c08, f00, f01, f02, f03, f04, f05, f06, f07, f08, lt0⟩ := B0.c9
      obtain ⟨c10, c11, c12, c13, c14, c15, c16, c17, c18, f10, f11, f12, f13, f14, f15, f16, f17, f18, lt1⟩ := B1.c9
      obtain ⟨cm0, cm1, cm2, fm0, fm1, fm2, ltm⟩ := BM.c3
      go_upto_region 9 with fail
      obtain ⟨V8, hV8, B0', hk8, hs8, hb8⟩ := st_9_0_3 (.slice L1 2 lc1) (.int .i64 1) (.bool true) B0
      try rw [hV8]
      replace B1 := B1.keep (hk8 _ (by omega)); replace BM := BM.keep (hk8 _ (by omega))
      have HoJ8 := Lib.hid (own_off HoJ7.out (by omega) hk8); have HoO8 := Lib.hid (own_off HoO7.out (by omega) hk8)
      have Hml8 := Lib.hid (Hml7.out.keep (fun b' t cs fr ht hb' => hk8 b' (B0.ne_type hb' (by rcases ht with rfl | rfl <;> decide))))
      have Hb8 := Lib.hid (hb8 _ _ Hb7.out (Nat.le_refl _))
      clear hV8 hk8 hs8 hb8 B0 HoJ7 HoO7 Hml7 Hb7 c00 c01 c02 c03 c04 c05 c06 c07 c08 f00 f01 f02 f03 f04 f05 f06 f07 f08 lt0 c10 c11 c12 c13 c14 c15 c16 c17 c18 f10 f11 f12 f13 f14 f15 f16 f17 f18 lt1 cm0 cm1 cm2 fm0 fm1 fm2 ltm
      have B0 := B0'
      clear B0'
      obtain ⟨c00, c01, c02, c03, c04, c05, c06, c07, c08, f00, f01, f02, f03, f04, f05, f06, f07, f08, lt0⟩ := B0.c9
      obtain ⟨c10, c11, c12, c13, c14, c15, c16, c17, c18, f10, f11, f12, f13, f14, f15, f16, f17, f18, lt1⟩ := B1.c9
      have gG : V8.cell? ⟨G, 1, none⟩ = some (.slice (some ⟨jb, jo, none⟩) 1 jcp) := HoJ8.out.cellAt 1 (by decide)
      have ltG : G < V8.heap.size := (HoJ8.out.lt G rfl).2
      obtain ⟨j0, j1, j2, j3, j4⟩ := Hjcell.out V8 Hb8.out
      simp only [Nat.zero_mul, Nat.add_zero] at j0 j1 j2 j3 j4
      have ltj : jb < V8.heap.size := by have := Hb8.out.size; omega
      go_upto_region 10 with fail
      obtain ⟨V9, hV9⟩ : ∃ V9, V8.alloc (.cells #[.int .i64 1, .int .i64 kind, .int .i64 page, .string data, .int .i64 0] 46) = V9 := ⟨_, rfl⟩
      rw [hV9]
      have hb9 : Below V8.heap.size V8 V9 := by rw [← hV9]; exact (Below.refl _ _).alloc (Nat.le_refl _) _
      have BJ : Bx V8.heap.size 46 #[.int .i64 1, .int .i64 kind, .int .i64 page, .string data, .int .i64 0] V9 := by rw [← hV9]; exact Bx.new _ _ _
      have hJs := lt1
      obtain ⟨M2, hM2⟩ : ∃ M2, V8.heap.size = M2 := ⟨_, rfl⟩
      rw [hM2] at BJ hJs ⊢
      have hGM2 : G < M2 := by rw [← hM2]; exact ltG
      have hOM : (Value.slice O2 0 oc2).ownBlock ≠ some M2 := fun e => by have := (HoO8.out.lt _ e).2; omega
      clear hV9 hM2 gG ltG j0 j1 j2 j3 j4 ltj c00 c01 c02 c03 c04 c05 c06 c07 c08 f00 f01 f02 f03 f04 f05 f06 f07 f08 lt0 c10 c11 c12 c13 c14 c15 c16 c17 c18 f10 f11 f12 f13 f14 f15 f16 f17 f18 lt1
      replace B0 := B0.up hb9; replace B1 := B1.up hb9
      have Hb9 := Lib.hid (Hb8.out.trans (hb9.mono Hb8.out.size))
      have Hml9 := Lib.hid (Hml8.out.up hb9); have HoJ9 := Lib.hid (own_up HoJ8.out hb9); have HoO9 := Lib.hid (own_up HoO8.out hb9)
      clear hb9 Hml8 HoJ8 HoO8 Hb8 BM
      obtain ⟨c00, c01, c02, c03, c04, c05, c06, c07, c08, f00, f01, f02, f03, f04, f05, f06, f07, f08, lt0⟩ := B0.c9
      obtain ⟨c10, c11, c12, c13, c14, c15, c16, c17, c18, f10, f11, f12, f13, f14, f15, f16, f17, f18, lt1⟩ := B1.c9
      obtain ⟨cj0, cj1, cj2, cj3, cj4, fj0, fj1, fj2, fj3, fj4, ltj⟩ := BJ.c5
      have gG : V9.cell? ⟨G, 1, none⟩ = some (.slice (some ⟨jb, jo, none⟩) 1 jcp) := HoJ9.out.cellAt 1 (by decide)
      have ltG : G < V9.heap.size := (HoJ9.out.lt G rfl).2
      rcases Classical.em (jcp = 1) with rfl | hkc
      · skip
        refine wp_region_S 10 (fun U => ∃ y : BW V9, U = y.w) (by kernel_rfl) rfl rfl ?_
        have n_a := bw_cell c03 lt0
        have n_b := bw_cell gG ltG
        have HC : Hid (∃ y : BW V9, V9.drew = y.w) := Lib.hid ⟨⟨_, (Below.refl _ _).drew⟩, rfl⟩
        clear gG c00 c01 c02 c03 c04 c05 c06 c07 c08 f00 f01 f02 f03 f04 f05 f06 f07 f08 c10 c11 c12 c13 c14 c15 c16 c17 c18 f10 f11 f12 f13 f14 f15 f16 f17 f18 cj0 cj1 cj2 cj3 cj4 fj0 fj1 fj2 fj3 fj4
        refine pureS 0 rfl (by kernel_rfl) rfl (fun _ _ _ _ _ h => h) HC.out ?_
        go_big_quiet_step (fail)
        refine wpQuiet_nil ?_
        refine pureS 1 rfl (by kernel_rfl) rfl (fun _ _ _ _ _ h => h) HC.out ?_
        go_big_quiet_step (fail)
        refine wpQuiet_nil ?_
        refine pureS 2 rfl (by kernel_rfl) rfl (fun _ _ _ _ _ h => h) HC.out ?_
        go_big_quiet_step (fail)
        refine wpQuiet_nil ?_
        refine pureS 3 rfl (by kernel_rfl) rfl (fun _ _ _ _ _ h => h) HC.out ?_
        go_big_quiet_step (fail)
        refine wpQuiet_nil ?_
        refine pureS 4 rfl (by kernel_rfl) rfl (fun _ _ _ _ _ h => h) HC.out ?_
        go_big_quiet_step (fail)
        refine wpQuiet_nil ?_
        refine pureS 5 rfl (by kernel_rfl) rfl (fun _ _ _ _ _ h => h) HC.out ?_
        go_big_quiet_step (fail)
        refine wpQuiet_nil ?_
        refine pureS 6 rfl (by kernel_rfl) rfl (fun _ _ _ _ _ h => h) HC.out ?_
        go_big_quiet_step (fail)
        refine wpQuiet_nil ?_
        refine pureS 7 rfl (by kernel_rfl) rfl (fun _ _ _ _ _ h => h) HC.out ?_
        go_big_quiet_step (fail)
        refine wpQuiet_nil ?_
        refine pureS 8 rfl (by kernel_rfl) rfl (fun _ _ _ _ _ h => h) HC.out ?_
        go_big_quiet_step (fail)
        refine wpQuiet_nil ?_
        refine oneS 9 (by kernel_rfl) rfl rfl rfl (fun K hK => ?_)
        have HK := Lib.hid hK; clear hK
        go_simp
        refine (clone_Jb Jb.cells jb_len jb_one V9.drew (some ⟨jb, jo, none⟩) 0 [] (by simp) Rt.nil).mono ?_
        rintro e U ⟨A2, c2, rfl, hoC, hbC⟩
        have hbU : Below V9.heap.size V9 U := (Below.refl _ V9).drew.trans hbC
        have HbU := Lib.hid hbU
        obtain ⟨A2', c2', heC, hcc1, hcc2⟩ := own_slice hoC
        injection heC with heA heB heC
        subst heA
        subst heC
        clear hoC heB hbC hbU
        refine HK.out _ _ (fun _ => ⟨⟨U, HbU.out⟩, rfl⟩) ?_
        clear HK K
        replace B0 := B0.upB HbU.out lt0; replace B1 := B1.upB HbU.out lt1; replace BJ := BJ.upB HbU.out ltj
        clear lt0 lt1 ltj
        have HoU := Lib.hid (own_up HoJ9.out HbU.out); have HoOU := Lib.hid (own_up HoO9.out HbU.out); have HmlU := Lib.hid (Hml9.out.up HbU.out)
        have HbU2 := Lib.hid (Hb9.out.trans (HbU.out.mono Hb9.out.size))
        clear HoJ9 HoO9 Hml9 Hb9 ltG
        obtain ⟨c00, c01, c02, c03, c04, c05, c06, c07, c08, f00, f01, f02, f03, f04, f05, f06, f07, f08, lt0⟩ := B0.c9
        obtain ⟨c10, c11, c12, c13, c14, c15, c16, c17, c18, f10, f11, f12, f13, f14, f15, f16, f17, f18, lt1⟩ := B1.c9
        obtain ⟨cj0, cj1, cj2, cj3, cj4, fj0, fj1, fj2, fj3, fj4, ltj⟩ := BJ.c5
        have k1 : U.cell? ⟨G, 1, none⟩ = some (.slice (some ⟨jb, jo, none⟩) 1 1) := HoU.out.cellAt 1 (by decide)
        have k2 := HoU.out.frozenAt 1
        have ltG : G < U.heap.size := (HoU.out.lt G rfl).2
        refine oneS 10 (by kernel_rfl) rfl rfl rfl (fun K hK => ?_)
        have HK := Lib.hid hK; clear hK
        go_simp
        refine HK.out _ _ (fun h => absurd h (by decide)) ?_
        clear HK K
        refine oneS 11 (by kernel_rfl) rfl rfl rfl (fun K hK => ?_)
        have HK := Lib.hid hK; clear hK
        go_simp
        refine HK.out _ _ (fun h => absurd h (by decide)) ?_
        clear HK K
        refine doneS (by kernel_rfl) ?_
        obtain ⟨X, hX⟩ : ∃ X, U.setCell ⟨G, 1, none⟩ (.slice A2 0 c2) = X := ⟨_, rfl⟩
        rw [hX]
        have hoX := (HoU.out.stored 1 (.slice A2 0 c2)).1
        rw [hX] at hoX
        have HoX : Hid (X.ownsRow (w.heap.size + 1 + 1) 38 1 (.slice (some ⟨G, 0, none⟩) 2 jc2) 2 [.slice JO 0 jocp, .slice A2 0 c2]) := Lib.hid hoX
        obtain ⟨cur, hcur, _⟩ := own_row HoU.out
        have hkeep : ∀ (b' : Nat) t cs fr, t ≠ 38 → U.heap[b']? = some (Obj.cells cs t fr) → X.heap[b']? = U.heap[b']? := fun b' t cs fr ht hb' => by
          rw [← hX]
          exact Below.heap_setCell U ⟨G, 1, none⟩ _ b' (fun e => by
            subst e
            rw [hcur] at hb'
            injection hb' with hb'
            injection hb' with _ hb' _
            exact ht hb'.symm)
        have HmlX := Lib.hid (HmlU.out.keep (w' := X) fun b' t cs fr ht hb' => hkeep b' t cs fr (by rcases ht with rfl | rfl <;> decide) hb')
        have HoOX : Hid (X.ownsRow (w.heap.size + 1 + 1) 46 5 (.slice O2 0 oc2) 0 []) := Lib.hid (by
          refine ⟨HoOU.out.1, ?_⟩
          rcases HoOU.out.2 with hn | ⟨g, cap, cur', hv, hg, hh, r⟩
          · exact .inl hn
          · exact .inr ⟨g, cap, cur', hv, hg, (hkeep g _ _ _ (by decide) hh).trans hh, r⟩)
        replace B0 := B0.keep (hkeep _ _ _ _ (by decide) B0); replace B1 := B1.keep (hkeep _ _ _ _ (by decide) B1); replace BJ := BJ.keep (hkeep _ _ _ _ (by decide) BJ)
        have HbX := Lib.hid (show Below w.heap.size w X from by
          rw [← hX]
          exact HbU2.out.setCell (p := ⟨G, 1, none⟩) (by show w.heap.size ≤ G; omega) _)
        clear hX hoX hcur hkeep HoU HoOU HmlU HbU HbU2 k1 k2 ltG c00 c01 c02 c03 c04 c05 c06 c07 c08 f00 f01 f02 f03 f04 f05 f06 f07 f08 lt0 c10 c11 c12 c13 c14 c15 c16 c17 c18 f10 f11 f12 f13 f14 f15 f16 f17 f18 lt1 cj0 cj1 cj2 cj3 cj4 fj0 fj1 fj2 fj3 fj4 ltj
        obtain ⟨c00, c01, c02, c03, c04, c05, c06, c07, c08, f00, f01, f02, f03, f04, f05, f06, f07, f08, lt0⟩ := B0.c9
        obtain ⟨c10, c11, c12, c13, c14, c15, c16, c17, c18, f10, f11, f12, f13, f14, f15, f16, f17, f18, lt1⟩ := B1.c9
        obtain ⟨cj0, cj1, cj2, cj3, cj4, fj0, fj1, fj2, fj3, fj4, ltj⟩ := BJ.c5
        go_upto_region 12 with fail
        obtain ⟨Y, hY, BJ', hkY, hsY, hbY⟩ := st_5_4_1 (.int .i64 1) BJ
        try rw [hY]
        replace B0 := B0.keep (hkY _ (by omega)); replace B1 := B1.keep (hkY _ (by omega))
        have HmlY := Lib.hid (HmlX.out.keep (fun b' t cs fr ht hb' => hkY b' (BJ.ne_type hb' (by rcases ht with rfl | rfl <;> decide))))
        have hGJ : G ≠ M2 := by omega
        have HoY : Hid (Y.ownsRow (w.heap.size + 1 + 1) 38 1 (.slice (some ⟨G, 0, none⟩) 2 jc2) 2 [.slice JO 0 jocp, .slice A2 0 c2]) := Lib.hid (by
          rw [← hY]
          exact own_setCell (j := 4) HoX.out (by simp [Value.ownBlock]; omega) _)
        have HoOY : Hid (Y.ownsRow (w.heap.size + 1 + 1) 46 5 (.slice O2 0 oc2) 0 []) := Lib.hid (by
          rw [← hY]
          refine own_setCell (j := 4) HoOX.out (fun e => ?_) _
          exact hOM e)
        have HbY := Lib.hid (hbY _ _ HbX.out (by omega))
        clear hY hkY hsY hbY BJ HoX HoOX HmlX HbX c00 c01 c02 c03 c04 c05 c06 c07 c08 f00 f01 f02 f03 f04 f05 f06 f07 f08 lt0 c10 c11 c12 c13 c14 c15 c16 c17 c18 f10 f11 f12 f13 f14 f15 f16 f17 f18 lt1 cj0 cj1 cj2 cj3 cj4 fj0 fj1 fj2 fj3 fj4 ltj
        have BJ := BJ'
        clear BJ'
        obtain ⟨c00, c01, c02, c03, c04, c05, c06, c07, c08, f00, f01, f02, f03, f04, f05, f06, f07, f08, lt0⟩ := B0.c9
        obtain ⟨c10, c11, c12, c13, c14, c15, c16, c17, c18, f10, f11, f12, f13, f14, f15, f16, f17, f18, lt1⟩ := B1.c9
        obtain ⟨cj0, cj1, cj2, cj3, cj4, fj0, fj1, fj2, fj3, fj4, ltj⟩ := BJ.c5
        go_wp2_with fail
        refine (submit_any Y _ _ _ ⟨dk, next, []⟩ kind page data Hg.out.dev hn9 Hrq.out (Hm.out.dev.up HbY.out)).mono ?_
        rintro e Z ⟨f', rfl, hmd, hbZ⟩
        obtain ⟨_, _, F2, fc2, rfl, _, _⟩ := hmd.len
        simp only [List.nil_append, List.length_cons, List.length_nil, Nat.zero_add] at hmd ⊢
        clear c00 c01 c02 c03 c04 c05 c06 c07 c08 f00 f01 f02 f03 f04 f05 f06 f07 f08 lt0 c10 c11 c12 c13 c14 c15 c16 c17 c18 f10 f11 f12 f13 f14 f15 f16 f17 f18 lt1 cj0 cj1 cj2 cj3 cj4 fj0 fj1 fj2 fj3 fj4 ltj
        replace B0 := B0.up hbZ; replace B1 := B1.up hbZ; replace BJ := BJ.up hbZ
        have HmdZ := Lib.hid hmd; have HoZ := Lib.hid (own_up HoY.out hbZ); have HoOZ := Lib.hid (own_up HoOY.out hbZ); have HmlZ := Lib.hid (HmlY.out.up hbZ)
        have HbZ := Lib.hid (HbY.out.trans (hbZ.mono HbY.out.size))
        clear hmd hbZ HoY HoOY HmlY HbY
        obtain ⟨c00, c01, c02, c03, c04, c05, c06, c07, c08, f00, f01, f02, f03, f04, f05, f06, f07, f08, lt0⟩ := B0.c9
        obtain ⟨c10, c11, c12, c13, c14, c15, c16, c17, c18, f10, f11, f12, f13, f14, f15, f16, f17, f18, lt1⟩ := B1.c9
        obtain ⟨cj0, cj1, cj2, cj3, cj4, fj0, fj1, fj2, fj3, fj4, ltj⟩ := BJ.c5
        go_upto_region 13 with fail
        obtain ⟨P, hP, B0', hkP, hsP, hbP⟩ := st_9_4_4 (.slice A dk.secs.length ac) (.slice B dk.cache.length bc) (.int .i64 (next + 1)) (.slice F2 1 fc2) B0
        try rw [hP]
        replace B1 := B1.keep (hkP _ (by omega)); replace BJ := BJ.keep (hkP _ (by omega))
        have HoP := Lib.hid (own_off HoZ.out (by omega) hkP); have HoOP := Lib.hid (own_off HoOZ.out (by omega) hkP)
        have HmlP := Lib.hid (HmlZ.out.keep (fun b' t cs fr ht hb' => hkP b' (B0.ne_type hb' (by rcases ht with rfl | rfl <;> decide))))
        have HmdP : Hid (MDv P (.slice A dk.secs.length ac) (.slice B dk.cache.length bc) (.slice F2 1 fc2) ⟨dk, next + 1, [⟨next, kind, page, data⟩]⟩) := Lib.hid ⟨⟨HmdZ.out.1.1.off B0 (by decide) hkP, HmdZ.out.1.2.off B0 (by decide) hkP⟩, HmdZ.out.2.off B0 (by decide) hkP⟩
        have HbP := Lib.hid (hbP _ _ HbZ.out (Nat.le_refl _))
        clear hP hkP hsP hbP B0 HoZ HoOZ HmlZ HmdZ HbZ c00 c01 c02 c03 c04 c05 c06 c07 c08 f00 f01 f02 f03 f04 f05 f06 f07 f08 lt0 c10 c11 c12 c13 c14 c15 c16 c17 c18 f10 f11 f12 f13 f14 f15 f16 f17 f18 lt1 cj0 cj1 cj2 cj3 cj4 fj0 fj1 fj2 fj3 fj4 ltj
        have B0 := B0'
        clear B0'
        obtain ⟨i0, hi, hz0, hz1, hz2⟩ := info_parts Tryz.infJb
        have Hi := Lib.hid hi; have Hz0 := Lib.hid hz0; have Hz1 := Lib.hid hz1; have Hz2 := Lib.hid hz2
        clear hi hz0 hz1 hz2
        obtain ⟨c00, c01, c02, c03, c04, c05, c06, c07, c08, f00, f01, f02, f03, f04, f05, f06, f07, f08, lt0⟩ := B0.c9
        obtain ⟨c10, c11, c12, c13, c14, c15, c16, c17, c18, f10, f11, f12, f13, f14, f15, f16, f17, f18, lt1⟩ := B1.c9
        obtain ⟨cj0, cj1, cj2, cj3, cj4, fj0, fj1, fj2, fj3, fj4, ltj⟩ := BJ.c5
        go_wp2_with (at_builtin; refine list_app rfl (.tmp 77) (.tmp 79) 38 rfl (w.heap.size + 1 + 1) 46 i0 (.agg #[.int .i64 0, .int .i64 0, .int .i64 0, .string ⟨#[]⟩, .int .i64 0]) 5 48 Tryz.underlying38 Hi.out Hz0.out Hz1.out Hz2.out rfl (by decide) rfl (own_up HoOP.out ((Below.refl _ _).alloc (Nat.le_refl _) _)) (A := some ⟨P.heap.size, 0, none⟩) (m := 1) (news := Jb.cells ⟨1, kind, page, data, 1⟩) rfl rfl (by simp) ?_ (jb_one ⟨1, kind, page, data, 1⟩) ?_ ?_ ?_ ?_)
        · intro j u hu
          try rw [Addr.add_lit, Nat.zero_add]
          have h := (Bx.new P 46 #[.int .i64 1, .int .i64 kind, .int .i64 page, .string data, .int .i64 1]).cell (j := j) (v := u) (by rw [← hu]; simp [Jb.cells])
          first | exact h | simpa using h
        · unfold maxLen; omega
        · omega
        intro v' U2 ho2 hg2 _
        obtain ⟨O3, oc3, rfl, ho3a, ho3b⟩ := own_slice ho2
        have hbU : Below (w.heap.size + 1 + 1) P U2 := ((Below.refl (w.heap.size + 1 + 1) P).alloc (by have := lt1; omega) _).grown hg2 (by have := lt1; simp; omega) (fun q hq => (HoOP.out.lt q hq).1)
        have hkeep : ∀ (b' : Nat) t cs fr, t ≠ 46 → P.heap[b']? = some (Obj.cells cs t fr) → U2.heap[b']? = P.heap[b']? := fun b' t cs fr ht hb' => by
          have hlt : b' < P.heap.size := (Array.getElem?_eq_some_iff.1 hb').1
          refine (hg2.block b' (by simp; omega) (fun e => ?_)).trans (heap_alloc_old P _ hlt)
          rcases HoOP.out.2 with ⟨hv, _⟩ | ⟨g, cap, cur, hv, _, hh, _⟩
          · rw [hv] at e
            cases e
          · rw [hv] at e
            injection e with e
            subst e
            rw [hh] at hb'
            injection hb' with hb'
            injection hb' with _ hb' _
            exact ht hb'.symm
        have HoP2 : Hid (U2.ownsRow (w.heap.size + 1 + 1) 38 1 (.slice (some ⟨G, 0, none⟩) 2 jc2) 2 [.slice JO 0 jocp, .slice A2 0 c2]) := Lib.hid (by
          refine ⟨HoP.out.1, ?_⟩
          rcases HoP.out.2 with hn | ⟨g, cap, cur', hv, hg, hh, r⟩
          · exact .inl hn
          · exact .inr ⟨g, cap, cur', hv, hg, (hkeep g _ _ _ (by decide) hh).trans hh, r⟩)
        have HmlP2 := Lib.hid (HmlP.out.keep (w' := U2) fun b' t cs fr ht hb' => hkeep b' t cs fr (by rcases ht with rfl | rfl <;> decide) hb')
        have HmdP2 : Hid (MDv U2 (.slice A dk.secs.length ac) (.slice B dk.cache.length bc) (.slice F2 1 fc2) ⟨dk, next + 1, [⟨next, kind, page, data⟩]⟩) := Lib.hid ⟨⟨HmdP.out.1.1.keep fun b' cs fr hb' => hkeep b' _ cs fr (by decide) hb', HmdP.out.1.2.keep fun b' cs fr hb' => hkeep b' _ cs fr (by decide) hb'⟩, HmdP.out.2.keep fun b' cs fr hb' => hkeep b' _ cs fr (by decide) hb'⟩
        have HO3 : Hid (Sl Jb.cells 5 46 U2 (.slice O3 1 oc3) [⟨1, kind, page, data, 1⟩]) := Lib.hid (Sl.of_own (f := Jb.cells) (l := [⟨1, kind, page, data, 1⟩]) (by simpa using ho2) rfl jb_len (by decide))
        have HbU2 := Lib.hid (HbP.out.trans (hbU.mono (by omega)))
        clear c00 c01 c02 c03 c04 c05 c06 c07 c08 f00 f01 f02 f03 f04 f05 f06 f07 f08 lt0 c10 c11 c12 c13 c14 c15 c16 c17 c18 f10 f11 f12 f13 f14 f15 f16 f17 f18 lt1 cj0 cj1 cj2 cj3 cj4 fj0 fj1 fj2 fj3 fj4 ltj
        replace B0 := B0.upB hbU (by omega); replace B1 := B1.upB hbU (by omega)
        clear BJ hbU hkeep ho2 hg2 HoP HoOP HmlP HmdP HbP
        obtain ⟨c00, c01, c02, c03, c04, c05, c06, c07, c08, f00, f01, f02, f03, f04, f05, f06, f07, f08, lt0⟩ := B0.c9
        obtain ⟨c10, c11, c12, c13, c14, c15, c16, c17, c18, f10, f11, f12, f13, f14, f15, f16, f17, f18, lt1⟩ := B1.c9
        obtain ⟨Q, hQ, B0', hkQ, hsQ, hbQ⟩ := st_9_8_1 (.slice O3 1 oc3) B0
        have Hfin := Lib.hid (show PDone1 w (.slice A dk.secs.length ac) (.slice B dk.cache.length bc) cst wk wo OA JO ocp jocp ⟨1, kind, page, data, 0⟩ dk next (U2.setCell ⟨w.heap.size, 8, none⟩ (.slice O3 1 oc3)) from by
          rw [hQ]
          have hj : Sl Jr.cells 1 38 U2 (.slice (some ⟨G, 0, none⟩) 2 jc2) ([⟨JO, 0, jocp⟩, ⟨A2, 0, c2⟩] : List Jr) := Sl.of_own (f := Jr.cells) (l := ([⟨JO, 0, jocp⟩, ⟨A2, 0, c2⟩] : List Jr)) HoP2.out rfl jr_len (by decide)
          refine ⟨_, _, _, _, LA, lcp, A2, c2, hcc2, B0', B1.keep (hkQ _ (by omega)), ⟨HmlP2.out.keep (fun b' t cs fr ht hb' => hkQ b' (B0.ne_type hb' (by rcases ht with rfl | rfl <;> decide))), hj.off B0 (by decide) hkQ, fun y hy e => ?_, ⟨⟨HmdP2.out.1.1.off B0 (by decide) hkQ, HmdP2.out.1.2.off B0 (by decide) hkQ⟩, HmdP2.out.2.off B0 (by decide) hkQ⟩, HO3.out.off B0 (by decide) hkQ⟩, hbQ _ _ HbU2.out (Nat.le_refl _)⟩
          simp only [List.mem_cons, List.mem_nil_iff, or_false] at hy
          rcases hy with rfl | rfl <;> cases e)
        clear hQ B0' hkQ hsQ hbQ HoP2 HmlP2 HmdP2 HO3 HbU2
        go_wp2_with fail
        go_roundg 0
        case measure => omega
        case rel => exact .inr ⟨rfl, Hfin.out⟩
      · skip
        refine wp_region_S 10 (fun U => ∃ y : BW V9, U = y.w) (by kernel_rfl) rfl rfl ?_
        have n_a := bw_cell c03 lt0
        have n_b := bw_cell gG ltG
        have HC : Hid (∃ y : BW V9, V9.drew = y.w) := Lib.hid ⟨⟨_, (Below.refl _ _).drew⟩, rfl⟩
        clear gG c00 c01 c02 c03 c04 c05 c06 c07 c08 f00 f01 f02 f03 f04 f05 f06 f07 f08 c10 c11 c12 c13 c14 c15 c16 c17 c18 f10 f11 f12 f13 f14 f15 f16 f17 f18 cj0 cj1 cj2 cj3 cj4 fj0 fj1 fj2 fj3 fj4
        refine pureS 0 rfl (by kernel_rfl) rfl (fun _ _ _ _ _ h => h) HC.out ?_
        go_big_quiet_step (fail)
        refine wpQuiet_nil ?_
        refine pureS 1 rfl (by kernel_rfl) rfl (fun _ _ _ _ _ h => h) HC.out ?_
        go_big_quiet_step (fail)
        refine wpQuiet_nil ?_
        refine pureS 2 rfl (by kernel_rfl) rfl (fun _ _ _ _ _ h => h) HC.out ?_
        go_big_quiet_step (fail)
        refine wpQuiet_nil ?_
        refine pureS 3 rfl (by kernel_rfl) rfl (fun _ _ _ _ _ h => h) HC.out ?_
        go_big_quiet_step (fail)
        refine wpQuiet_nil ?_
        refine pureS 4 rfl (by kernel_rfl) rfl (fun _ _ _ _ _ h => h) HC.out ?_
        go_big_quiet_step (fail)
        refine wpQuiet_nil ?_
        refine pureS 5 rfl (by kernel_rfl) rfl (fun _ _ _ _ _ h => h) HC.out ?_
        go_big_quiet_step (fail)
        refine wpQuiet_nil ?_
        refine pureS 6 rfl (by kernel_rfl) rfl (fun _ _ _ _ _ h => h) HC.out ?_
        go_big_quiet_step (fail)
        refine wpQuiet_nil ?_
        refine pureS 7 rfl (by kernel_rfl) rfl (fun _ _ _ _ _ h => h) HC.out ?_
        go_big_quiet_step (fail)
        refine wpQuiet_nil ?_
        refine pureS 8 rfl (by kernel_rfl) rfl (fun _ _ _ _ _ h => h) HC.out ?_
        go_big_quiet_step (fail)
        refine wpQuiet_nil ?_
        refine oneS 9 (by kernel_rfl) rfl rfl rfl (fun K hK => ?_)
        have HK := Lib.hid hK; clear hK
        go_simp
        refine (clone_Jb Jb.cells jb_len jb_one V9.drew (some ⟨jb, jo + 5, none⟩) (jcp - 1) [] (by simp) Rt.nil).mono ?_
        rintro e U ⟨A2, c2, rfl, hoC, hbC⟩
        have hbU : Below V9.heap.size V9 U := (Below.refl _ V9).drew.trans hbC
        have HbU := Lib.hid hbU
        obtain ⟨A2', c2', heC, hcc1, hcc2⟩ := own_slice hoC
        injection heC with heA heB heC
        subst heA
        subst heC
        clear hoC heB hbC hbU
        refine HK.out _ _ (fun _ => ⟨⟨U, HbU.out⟩, rfl⟩) ?_
        clear HK K
        replace B0 := B0.upB HbU.out lt0; replace B1 := B1.upB HbU.out lt1; replace BJ := BJ.upB HbU.out ltj
        clear lt0 lt1 ltj
        have HoU := Lib.hid (own_up HoJ9.out HbU.out); have HoOU := Lib.hid (own_up HoO9.out HbU.out); have HmlU := Lib.hid (Hml9.out.up HbU.out)
        have HbU2 := Lib.hid (Hb9.out.trans (HbU.out.mono Hb9.out.size))
        clear HoJ9 HoO9 Hml9 Hb9 ltG
        obtain ⟨c00, c01, c02, c03, c04, c05, c06, c07, c08, f00, f01, f02, f03, f04, f05, f06, f07, f08, lt0⟩ := B0.c9
        obtain ⟨c10, c11, c12, c13, c14, c15, c16, c17, c18, f10, f11, f12, f13, f14, f15, f16, f17, f18, lt1⟩ := B1.c9
        obtain ⟨cj0, cj1, cj2, cj3, cj4, fj0, fj1, fj2, fj3, fj4, ltj⟩ := BJ.c5
        have k1 : U.cell? ⟨G, 1, none⟩ = some (.slice (some ⟨jb, jo, none⟩) 1 jcp) := HoU.out.cellAt 1 (by decide)
        have k2 := HoU.out.frozenAt 1
        have ltG : G < U.heap.size := (HoU.out.lt G rfl).2
        refine oneS 10 (by kernel_rfl) rfl rfl rfl (fun K hK => ?_)
        have HK := Lib.hid hK; clear hK
        go_simp
        refine HK.out _ _ (fun h => absurd h (by decide)) ?_
        clear HK K
        refine oneS 11 (by kernel_rfl) rfl rfl rfl (fun K hK => ?_)
        have HK := Lib.hid hK; clear hK
        go_simp
        refine HK.out _ _ (fun h => absurd h (by decide)) ?_
        clear HK K
        refine doneS (by kernel_rfl) ?_
        obtain ⟨X, hX⟩ : ∃ X, U.setCell ⟨G, 1, none⟩ (.slice A2 0 c2) = X := ⟨_, rfl⟩
        rw [hX]
        have hoX := (HoU.out.stored 1 (.slice A2 0 c2)).1
        rw [hX] at hoX
        have HoX : Hid (X.ownsRow (w.heap.size + 1 + 1) 38 1 (.slice (some ⟨G, 0, none⟩) 2 jc2) 2 [.slice JO 0 jocp, .slice A2 0 c2]) := Lib.hid hoX
        obtain ⟨cur, hcur, _⟩ := own_row HoU.out
        have hkeep : ∀ (b' : Nat) t cs fr, t ≠ 38 → U.heap[b']? = some (Obj.cells cs t fr) → X.heap[b']? = U.heap[b']? := fun b' t cs fr ht hb' => by
          rw [← hX]
          exact Below.heap_setCell U ⟨G, 1, none⟩ _ b' (fun e => by
            subst e
            rw [hcur] at hb'
            injection hb' with hb'
            injection hb' with _ hb' _
            exact ht hb'.symm)
        have HmlX := Lib.hid (HmlU.out.keep (w' := X) fun b' t cs fr ht hb' => hkeep b' t cs fr (by rcases ht with rfl | rfl <;> decide) hb')
        have HoOX : Hid (X.ownsRow (w.heap.size + 1 + 1) 46 5 (.slice O2 0 oc2) 0 []) := Lib.hid (by
          refine ⟨HoOU.out.1, ?_⟩
          rcases HoOU.out.2 with hn | ⟨g, cap, cur', hv, hg, hh, r⟩
          · exact .inl hn
          · exact .inr ⟨g, cap, cur', hv, hg, (hkeep g _ _ _ (by decide) hh).trans hh, r⟩)
        replace B0 := B0.keep (hkeep _ _ _ _ (by decide) B0); replace B1 := B1.keep (hkeep _ _ _ _ (by decide) B1); replace BJ := BJ.keep (hkeep _ _ _ _ (by decide) BJ)
        have HbX := Lib.hid (show Below w.heap.size w X from by
          rw [← hX]
          exact HbU2.out.setCell (p := ⟨G, 1, none⟩) (by show w.heap.size ≤ G; omega) _)
        clear hX hoX hcur hkeep HoU HoOU HmlU HbU HbU2 k1 k2 ltG c00 c01 c02 c03 c04 c05 c06 c07 c08 f00 f01 f02 f03 f04 f05 f06 f07 f08 lt0 c10 c11 c12 c13 c14 c15 c16 c17 c18 f10 f11 f12 f13 f14 f15 f16 f17 f18 lt1 cj0 cj1 cj2 cj3 cj4 fj0 fj1 fj2 fj3 fj4 ltj
        obtain ⟨c00, c01, c02, c03, c04, c05, c06, c07, c08, f00, f01, f02, f03, f04, f05, f06, f07, f08, lt0⟩ := B0.c9
        obtain ⟨c10, c11, c12, c13, c14, c15, c16, c17, c18, f10, f11, f12, f13, f14, f15, f16, f17, f18, lt1⟩ := B1.c9
        obtain ⟨cj0, cj1, cj2, cj3, cj4, fj0, fj1, fj2, fj3, fj4, ltj⟩ := BJ.c5
        go_upto_region 12 with fail
        obtain ⟨Y, hY, BJ', hkY, hsY, hbY⟩ := st_5_4_1 (.int .i64 1) BJ
        try rw [hY]
        replace B0 := B0.keep (hkY _ (by omega)); replace B1 := B1.keep (hkY _ (by omega))
        have HmlY := Lib.hid (HmlX.out.keep (fun b' t cs fr ht hb' => hkY b' (BJ.ne_type hb' (by rcases ht with rfl | rfl <;> decide))))
        have hGJ : G ≠ M2 := by omega
        have HoY : Hid (Y.ownsRow (w.heap.size + 1 + 1) 38 1 (.slice (some ⟨G, 0, none⟩) 2 jc2) 2 [.slice JO 0 jocp, .slice A2 0 c2]) := Lib.hid (by
          rw [← hY]
          exact own_setCell (j := 4) HoX.out (by simp [Value.ownBlock]; omega) _)
        have HoOY : Hid (Y.ownsRow (w.heap.size + 1 + 1) 46 5 (.slice O2 0 oc2) 0 []) := Lib.hid (by
          rw [← hY]
          refine own_setCell (j := 4) HoOX.out (fun e => ?_) _
          exact hOM e)
        have HbY := Lib.hid (hbY _ _ HbX.out (by omega))
        clear hY hkY hsY hbY BJ HoX HoOX HmlX HbX c00 c01 c02 c03 c04 c05 c06 c07 c08 f00 f01 f02 f03 f04 f05 f06 f07 f08 lt0 c10 c11 c12 c13 c14 c15 c16 c17 c18 f10 f11 f12 f13 f14 f15 f16 f17 f18 lt1 cj0 cj1 cj2 cj3 cj4 fj0 fj1 fj2 fj3 fj4 ltj
        have BJ := BJ'
        clear BJ'
        obtain ⟨c00, c01, c02, c03, c04, c05, c06, c07, c08, f00, f01, f02, f03, f04, f05, f06, f07, f08, lt0⟩ := B0.c9
        obtain ⟨c10, c11, c12, c13, c14, c15, c16, c17, c18, f10, f11, f12, f13, f14, f15, f16, f17, f18, lt1⟩ := B1.c9
        obtain ⟨cj0, cj1, cj2, cj3, cj4, fj0, fj1, fj2, fj3, fj4, ltj⟩ := BJ.c5
        go_wp2_with fail
        refine (submit_any Y _ _ _ ⟨dk, next, []⟩ kind page data Hg.out.dev hn9 Hrq.out (Hm.out.dev.up HbY.out)).mono ?_
        rintro e Z ⟨f', rfl, hmd, hbZ⟩
        obtain ⟨_, _, F2, fc2, rfl, _, _⟩ := hmd.len
        simp only [List.nil_append, List.length_cons, List.length_nil, Nat.zero_add] at hmd ⊢
        clear c00 c01 c02 c03 c04 c05 c06 c07 c08 f00 f01 f02 f03 f04 f05 f06 f07 f08 lt0 c10 c11 c12 c13 c14 c15 c16 c17 c18 f10 f11 f12 f13 f14 f15 f16 f17 f18 lt1 cj0 cj1 cj2 cj3 cj4 fj0 fj1 fj2 fj3 fj4 ltj
        replace B0 := B0.up hbZ; replace B1 := B1.up hbZ; replace BJ := BJ.up hbZ
        have HmdZ := Lib.hid hmd; have HoZ := Lib.hid (own_up HoY.out hbZ); have HoOZ := Lib.hid (own_up HoOY.out hbZ); have HmlZ := Lib.hid (HmlY.out.up hbZ)
        have HbZ := Lib.hid (HbY.out.trans (hbZ.mono HbY.out.size))
        clear hmd hbZ HoY HoOY HmlY HbY
        obtain ⟨c00, c01, c02, c03, c04, c05, c06, c07, c08, f00, f01, f02, f03, f04, f05, f06, f07, f08, lt0⟩ := B0.c9
        obtain ⟨c10, c11, c12, c13, c14, c15, c16, c17, c18, f10, f11, f12, f13, f14, f15, f16, f17, f18, lt1⟩ := B1.c9
        obtain ⟨cj0, cj1, cj2, cj3, cj4, fj0, fj1, fj2, fj3, fj4, ltj⟩ := BJ.c5
        go_upto_region 13 with fail
        obtain ⟨P, hP, B0', hkP, hsP, hbP⟩ := st_9_4_4 (.slice A dk.secs.length ac) (.slice B dk.cache.length bc) (.int .i64 (next + 1)) (.slice F2 1 fc2) B0
        try rw [hP]
        replace B1 := B1.keep (hkP _ (by omega)); replace BJ := BJ.keep (hkP _ (by omega))
        have HoP := Lib.hid (own_off HoZ.out (by omega) hkP); have HoOP := Lib.hid (own_off HoOZ.out (by omega) hkP)
        have HmlP := Lib.hid (HmlZ.out.keep (fun b' t cs fr ht hb' => hkP b' (B0.ne_type hb' (by rcases ht with rfl | rfl <;> decide))))
        have HmdP : Hid (MDv P (.slice A dk.secs.length ac) (.slice B dk.cache.length bc) (.slice F2 1 fc2) ⟨dk, next + 1, [⟨next, kind, page, data⟩]⟩) := Lib.hid ⟨⟨HmdZ.out.1.1.off B0 (by decide) hkP, HmdZ.out.1.2.off B0 (by decide) hkP⟩, HmdZ.out.2.off B0 (by decide) hkP⟩
        have HbP := Lib.hid (hbP _ _ HbZ.out (Nat.le_refl _))
        clear hP hkP hsP hbP B0 HoZ HoOZ HmlZ HmdZ HbZ c00 c01 c02 c03 c04 c05 c06 c07 c08 f00 f01 f02 f03 f04 f05 f06 f07 f08 lt0 c10 c11 c12 c13 c14 c15 c16 c17 c18 f10 f11 f12 f13 f14 f15 f16 f17 f18 lt1 cj0 cj1 cj2 cj3 cj4 fj0 fj1 fj2 fj3 fj4 ltj
        have B0 := B0'
        clear B0'
        obtain ⟨i0, hi, hz0, hz1, hz2⟩ := info_parts Tryz.infJb
        have Hi := Lib.hid hi; have Hz0 := Lib.hid hz0; have Hz1 := Lib.hid hz1; have Hz2 := Lib.hid hz2
        clear hi hz0 hz1 hz2
        obtain ⟨c00, c01, c02, c03, c04, c05, c06, c07, c08, f00, f01, f02, f03, f04, f05, f06, f07, f08, lt0⟩ := B0.c9
        obtain ⟨c10, c11, c12, c13, c14, c15, c16, c17, c18, f10, f11, f12, f13, f14, f15, f16, f17, f18, lt1⟩ := B1.c9
        obtain ⟨cj0, cj1, cj2, cj3, cj4, fj0, fj1, fj2, fj3, fj4, ltj⟩ := BJ.c5
        go_wp2_with (at_builtin; refine list_app rfl (.tmp 77) (.tmp 79) 38 rfl (w.heap.size + 1 + 1) 46 i0 (.agg #[.int .i64 0, .int .i64 0, .int .i64 0, .string ⟨#[]⟩, .int .i64 0]) 5 48 Tryz.underlying38 Hi.out Hz0.out Hz1.out Hz2.out rfl (by decide) rfl (own_up HoOP.out ((Below.refl _ _).alloc (Nat.le_refl _) _)) (A := some ⟨P.heap.size, 0, none⟩) (m := 1) (news := Jb.cells ⟨1, kind, page, data, 1⟩) rfl rfl (by simp) ?_ (jb_one ⟨1, kind, page, data, 1⟩) ?_ ?_ ?_ ?_)
        · intro j u hu
          try rw [Addr.add_lit, Nat.zero_add]
          have h := (Bx.new P 46 #[.int .i64 1, .int .i64 kind, .int .i64 page, .string data, .int .i64 1]).cell (j := j) (v := u) (by rw [← hu]; simp [Jb.cells])
          first | exact h | simpa using h
        · unfold maxLen; omega
        · omega
        intro v' U2 ho2 hg2 _
        obtain ⟨O3, oc3, rfl, ho3a, ho3b⟩ := own_slice ho2
        have hbU : Below (w.heap.size + 1 + 1) P U2 := ((Below.refl (w.heap.size + 1 + 1) P).alloc (by have := lt1; omega) _).grown hg2 (by have := lt1; simp; omega) (fun q hq => (HoOP.out.lt q hq).1)
        have hkeep : ∀ (b' : Nat) t cs fr, t ≠ 46 → P.heap[b']? = some (Obj.cells cs t fr) → U2.heap[b']? = P.heap[b']? := fun b' t cs fr ht hb' => by
          have hlt : b' < P.heap.size := (Array.getElem?_eq_some_iff.1 hb').1
          refine (hg2.block b' (by simp; omega) (fun e => ?_)).trans (heap_alloc_old P _ hlt)
          rcases HoOP.out.2 with ⟨hv, _⟩ | ⟨g, cap, cur, hv, _, hh, _⟩
          · rw [hv] at e
            cases e
          · rw [hv] at e
            injection e with e
            subst e
            rw [hh] at hb'
            injection hb' with hb'
            injection hb' with _ hb' _
            exact ht hb'.symm
        have HoP2 : Hid (U2.ownsRow (w.heap.size + 1 + 1) 38 1 (.slice (some ⟨G, 0, none⟩) 2 jc2) 2 [.slice JO 0 jocp, .slice A2 0 c2]) := Lib.hid (by
          refine ⟨HoP.out.1, ?_⟩
          rcases HoP.out.2 with hn | ⟨g, cap, cur', hv, hg, hh, r⟩
          · exact .inl hn
          · exact .inr ⟨g, cap, cur', hv, hg, (hkeep g _ _ _ (by decide) hh).trans hh, r⟩)
        have HmlP2 := Lib.hid (HmlP.out.keep (w' := U2) fun b' t cs fr ht hb' => hkeep b' t cs fr (by rcases ht with rfl | rfl <;> decide) hb')
        have HmdP2 : Hid (MDv U2 (.slice A dk.secs.length ac) (.slice B dk.cache.length bc) (.slice F2 1 fc2) ⟨dk, next + 1, [⟨next, kind, page, data⟩]⟩) := Lib.hid ⟨⟨HmdP.out.1.1.keep fun b' cs fr hb' => hkeep b' _ cs fr (by decide) hb', HmdP.out.1.2.keep fun b' cs fr hb' => hkeep b' _ cs fr (by decide) hb'⟩, HmdP.out.2.keep fun b' cs fr hb' => hkeep b' _ cs fr (by decide) hb'⟩
        have HO3 : Hid (Sl Jb.cells 5 46 U2 (.slice O3 1 oc3) [⟨1, kind, page, data, 1⟩]) := Lib.hid (Sl.of_own (f := Jb.cells) (l := [⟨1, kind, page, data, 1⟩]) (by simpa using ho2) rfl jb_len (by decide))
        have HbU2 := Lib.hid (HbP.out.trans (hbU.mono (by omega)))
        clear c00 c01 c02 c03 c04 c05 c06 c07 c08 f00 f01 f02 f03 f04 f05 f06 f07 f08 lt0 c10 c11 c12 c13 c14 c15 c16 c17 c18 f10 f11 f12 f13 f14 f15 f16 f17 f18 lt1 cj0 cj1 cj2 cj3 cj4 fj0 fj1 fj2 fj3 fj4 ltj
        replace B0 := B0.upB hbU (by omega); replace B1 := B1.upB hbU (by omega)
        clear BJ hbU hkeep ho2 hg2 HoP HoOP HmlP HmdP HbP
        obtain ⟨c00, c01, c02, c03, c04, c05, c06, c07, c08, f00, f01, f02, f03, f04, f05, f06, f07, f08, lt0⟩ := B0.c9
        obtain ⟨c10, c11, c12, c13, c14, c15, c16, c17, c18, f10, f11, f12, f13, f14, f15, f16, f17, f18, lt1⟩ := B1.c9
        obtain ⟨Q, hQ, B0', hkQ, hsQ, hbQ⟩ := st_9_8_1 (.slice O3 1 oc3) B0
        have Hfin := Lib.hid (show PDone1 w (.slice A dk.secs.length ac) (.slice B dk.cache.length bc) cst wk wo OA JO ocp jocp ⟨1, kind, page, data, 0⟩ dk next (U2.setCell ⟨w.heap.size, 8, none⟩ (.slice O3 1 oc3)) from by
          rw [hQ]
          have hj : Sl Jr.cells 1 38 U2 (.slice (some ⟨G, 0, none⟩) 2 jc2) ([⟨JO, 0, jocp⟩, ⟨A2, 0, c2⟩] : List Jr) := Sl.of_own (f := Jr.cells) (l := ([⟨JO, 0, jocp⟩, ⟨A2, 0, c2⟩] : List Jr)) HoP2.out rfl jr_len (by decide)
          refine ⟨_, _, _, _, LA, lcp, A2, c2, hcc2, B0', B1.keep (hkQ _ (by omega)), ⟨HmlP2.out.keep (fun b' t cs fr ht hb' => hkQ b' (B0.ne_type hb' (by rcases ht with rfl | rfl <;> decide))), hj.off B0 (by decide) hkQ, fun y hy e => ?_, ⟨⟨HmdP2.out.1.1.off B0 (by decide) hkQ, HmdP2.out.1.2.off B0 (by decide) hkQ⟩, HmdP2.out.2.off B0 (by decide) hkQ⟩, HO3.out.off B0 (by decide) hkQ⟩, hbQ _ _ HbU2.out (Nat.le_refl _)⟩
          simp only [List.mem_cons, List.mem_nil_iff, or_false] at hy
          rcases hy with rfl | rfl <;> cases e)
        clear hQ B0' hkQ hsQ hbQ HoP2 HmlP2 HmdP2 HO3 HbU2
        go_wp2_with fail
        go_roundg 0
        case measure => omega
        case rel => exact .inr ⟨rfl, Hfin.out⟩
    · clear B0 B1
      obtain ⟨lv, jv, f', ov', LA, lcp, A2, c2, hc2, B0, B1, hM, hb⟩ := hd
      obtain ⟨⟨L1, lc1, rfl⟩, ⟨J1, jc1, rfl⟩, _, _, ⟨F1, fc1, rfl, _, _⟩, ⟨O1, oc1, rfl, _, _⟩⟩ := hM.len
      simp only [List.length_cons, List.length_nil, Nat.zero_add, Nat.reduceAdd] at hM B0 ⊢
      have HM := Lib.hid hM; have Hb := Lib.hid hb
      clear hM hb
      obtain ⟨c00, c01, c02, c03, c04, c05, c06, c07, c08, f00, f01, f02, f03, f04, f05, f06, f07, f08, lt0⟩ := B0.c9
      obtain ⟨c10, c11, c12, c13, c14, c15, c16, c17, c18, f10, f11, f12, f13, f14, f15, f16, f17, f18, lt1⟩ := B1.c9
      go_wp2_with fail
      refine (next_no wr _ cst 1 true [⟨wo, 0, OA, 0, ocp⟩, ⟨wk, 0, LA, 0, lcp⟩] Hc.out (by simp) (by simp) (by simp) HM.out.lan (by simp)).mono ?_
      rintro e V6 ⟨rfl, hb6⟩
      clear c00 c01 c02 c03 c04 c05 c06 c07 c08 f00 f01 f02 f03 f04 f05 f06 f07 f08 lt0 c10 c11 c12 c13 c14 c15 c16 c17 c18 f10 f11 f12 f13 f14 f15 f16 f17 f18 lt1
      replace B0 := B0.up hb6; replace B1 := B1.up hb6
      have Hb6 := Lib.hid (Hb.out.trans (hb6.mono Hb.out.size))
      have HM6 := Lib.hid (HM.out.up hb6)
      clear hb6
      obtain ⟨c00, c01, c02, c03, c04, c05, c06, c07, c08, f00, f01, f02, f03, f04, f05, f06, f07, f08, lt0⟩ := B0.c9
      obtain ⟨c10, c11, c12, c13, c14, c15, c16, c17, c18, f10, f11, f12, f13, f14, f15, f16, f17, f18, lt1⟩ := B1.c9
      go_wp2_with fail
      refine bodyPost_ret (v := .agg #[.slice L1 2 lc1, .int .i64 1, .bool true, .slice J1 2 jc1, .slice A dk.secs.length ac, .slice B dk.cache.length bc, .int .i64 (next + 1), .slice F1 1 fc1, .slice O1 1 oc1]) (by simp [results, Tryz.results8, go_sem, c10, c11, c12, c13, c14, c15, c16, c17, c18, lt1]) rfl ?_
      obtain ⟨U8, hU8, _, hk8, _, hb8⟩ := st_9_0_9 (.slice L1 2 lc1) (.int .i64 1) (.bool true) (.slice J1 2 jc1) (.slice A dk.secs.length ac) (.slice B dk.cache.length bc) (.int .i64 (next + 1)) (.slice F1 1 fc1) (.slice O1 1 oc1) B1
      rw [hU8]
      have hba : Below U8.heap.size U8 (U8.alloc (.cells #[.slice L1 2 lc1, .int .i64 1, .bool true] 33)) := (Below.refl _ _).alloc (Nat.le_refl _) _
      have hb0 := hb8 _ _ Hb6.out (by omega)
      refine ⟨_, _, _, _, rfl, ⟨LA, lcp, A2, c2, hc2, MSc.up ?_ hba⟩, hb0.trans (hba.mono hb0.size)⟩
      have hM := HM6.out
      refine ⟨hM.lan.keep (fun b' t cs fr ht hb' => hk8 b' (B1.ne_type hb' (by rcases ht with rfl | rfl <;> decide))), hM.jobs.off B1 (by decide) hk8, fun y hy e => ?_, ⟨⟨hM.dev.1.1.off B1 (by decide) hk8, hM.dev.1.2.off B1 (by decide) hk8⟩, hM.dev.2.off B1 (by decide) hk8⟩, hM.out.off B1 (by decide) hk8⟩
      simp only [List.mem_cons, List.mem_nil_iff, or_false] at hy
      rcases hy with rfl | rfl <;> cases e
end Go.Proofs.YthiblfkmcdnalaaGreat
