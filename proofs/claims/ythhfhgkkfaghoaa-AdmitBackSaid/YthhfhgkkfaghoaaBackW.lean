/- The law AdmitBack, walked. -/
import Derived.Test.YthhfhgkkfaghoaaPins
import Derived.Test.YthhfhgkkfaghoaaBackP
namespace Go.Proofs.Ythhfhgkkfaghoaa
open Go.RowKit

set_option maxRecDepth 20000 in
set_option maxHeartbeats 8000000 in
theorem lawBack (w : World) (A0 Q0 : Option Addr) (a0 q0 : Nat) (x : Hall) (who : Int) (hc : x.cs.length ≤ 9223372036854775807) (hq : x.q.length ≤ 9223372036854775807) (hm : HM w (fun b => b < w.heap.size) x A0 a0 Q0 q0) :
    Calls Try.prog 8 #[.agg #[.int .i64 x.frames, .int .i64 x.budget, .slice A0 x.cs.length a0, .slice Q0 x.q.length q0], .int .i64 who] w fun e w' => e = .returned (.bool true) ∧ Below w.heap.size w w' := by
  obtain ⟨P0, hP0⟩ : ∃ P0, P0 = w.heap.size := ⟨_, rfl⟩
  obtain ⟨U0, hU0, hb0, hs0, hB0, hM0⟩ := new_box 25 hm
  rw [← hP0] at hB0
  have HU0 := Lib.hid hU0.symm; have HP0 := Lib.hid hP0.symm
  have Hb0 := Lib.hid hb0; have HB0 := Lib.hid hB0
  have HM0 := Lib.hid (hM0.imp (ok' := fun b => b < U0.heap.size) fun b hb => hb.2)
  clear hP0 hU0 hb0 hs0 hB0 hM0 hm
  go_enter Try.func8, Try.ntmps8
  go_upto_region 1 with fail
  rw [HU0.out, HP0.out]
  obtain ⟨c0, c1, c2, c3, _, _, _, _, lt⟩ := HB0.out
  by_cases hlen : x.cs.length ≤ 40 ∧ x.q.length ≤ 60
  case neg =>
    have Hlen := Lib.hid hlen
    clear hlen
    go_wp2_with fail
    refine (refLong_any U0 A0 Q0 a0 q0 x Hlen.out).mono ?_
    rintro e V ⟨rfl, hb⟩
    have Hb := Lib.hid hb
    clear hb c0 c1 c2 c3
    try simp only
    go_wp2_with fail
    refine (awake_any _).mono ?_
    rintro e V2 ⟨rfl, hb2⟩
    go_wp2_with fail
    go_ret
    exact ⟨rfl, bnext ((bnext Hb0.out Hb.out).alloc (bnext Hb0.out Hb.out).size _) hb2⟩
  obtain ⟨hl1, hl2⟩ := hlen
  have hmb := HM0.out
  have hd := refHere_any U0 A0 Q0 a0 q0 x hl1 hl2 hmb.c hmb.q
  have Hd := Lib.hid hd
  clear hd hmb
  go_wp2_with fail
  refine Hd.out.mono ?_
  clear Hd
  rintro e V1 ⟨A1, a1, Q1, q1, rfl, hm, hb⟩
  have hm' : HM V1 (fun b => b < V1.heap.size) x A1 a1 Q1 q1 := hm.imp fun b h => by have := hb.size; omega
  obtain ⟨P1, hP⟩ : ∃ P, P = V1.heap.size := ⟨_, rfl⟩
  obtain ⟨U1, hU, hbU, hsU, hBU, hMU⟩ := new_box 29 hm'
  rw [← hP] at hBU
  have Hq1 := Lib.hid (show Below U0.heap.size U0 U1 from bnext hb hbU)
  have HB1 := Lib.hid hBU; have HM1 := Lib.hid (hMU.imp (ok' := fun b => b < U1.heap.size) fun b hb => hb.2)
  have HU := Lib.hid hU.symm; have HP := Lib.hid hP.symm
  clear hm hb hm' hP hU hbU hsU hBU hMU c0 c1 c2 c3 lt
  try simp only
  go_upto_region 2 with fail
  rw [HU.out, HP.out]
  clear HU HP
  obtain ⟨c0, c1, c2, c3, _, _, _, _, lt⟩ := HB1.out
  have hd := refHall_any U1 A1 Q1 a1 q1 x (by omega) (by omega) HM1.out.c HM1.out.q
  obtain ⟨rt, hrt⟩ : ∃ rt, rt = x.right := ⟨_, rfl⟩
  rw [← hrt] at hd
  have Hd := Lib.hid hd; have Hrt := Lib.hid hrt
  clear hd hrt
  go_wp2_with fail
  refine Hd.out.mono ?_
  clear Hd
  rintro e UR ⟨rfl, hb⟩
  have HqR := Lib.hid hb
  clear hb c0 c1 c2 c3 lt
  cases rt with
  | false =>
    go_wp2_with fail
    refine (awake_any _).mono ?_
    rintro e V2 ⟨rfl, hb2⟩
    go_wp2_with fail
    go_ret
    exact ⟨rfl, bnext (bnext (bnext Hb0.out Hq1.out) HqR.out) hb2⟩
  | true =>
    have hxr := Hrt.out.symm
    obtain ⟨r, n, hrn⟩ : ∃ r n, pinM x who = (r, n) := ⟨_, _, rfl⟩
    obtain ⟨b, came, g, hbg⟩ : ∃ b came g, beginM x who 1 = (b, came, g) := ⟨_, _, _, rfl⟩
    have Hxr := Lib.hid hxr; have Hrn := Lib.hid hrn; have Hbg := Lib.hid hbg
    have Hrl := Lib.hid (show r.cs.length = x.cs.length ∧ r.q = x.q by have := pin_len x who; rwa [hrn] at this)
    clear hxr hrn hbg
    go_upto_region 4 with fail
    obtain ⟨c0, c1, c2, c3, _, _, _, _, lt⟩ := HB0.out.up (bnext Hq1.out HqR.out) HB0.out.lt
    have hmb := HM0.out.up (bnext Hq1.out HqR.out)
    have hd := pin_any UR (fun b => b < UR.heap.size) A0 Q0 a0 q0 x who (by omega) (by omega) (fun b h => h) hmb
    rw [Hrn.out] at hd
    have Hd := Lib.hid hd
    clear hd hmb
    go_wp2_with fail
    refine Hd.out.mono ?_
    clear Hd
    rintro e V2 ⟨A2, a2, Q2, q2, rfl, hm, hb⟩
    have hm' : HM V2 (fun b => b < V2.heap.size) r A2 a2 Q2 q2 := hm.imp fun b h => by have := hb.size; rcases h with h | h <;> omega
    obtain ⟨P2, hP⟩ : ∃ P, P = V2.heap.size := ⟨_, rfl⟩
    obtain ⟨U2, hU, hbU, hsU, hBU, hMU⟩ := new_box 25 hm'
    rw [← hP] at hBU
    have Hq2 := Lib.hid (show Below UR.heap.size UR U2 from bnext hb hbU)
    have HB2 := Lib.hid hBU; have HM2 := Lib.hid (hMU.imp (ok' := fun b => b < U2.heap.size) fun b hb => hb.2)
    have HU := Lib.hid hU.symm; have HP := Lib.hid hP.symm
    clear hm hb hm' hP hU hbU hsU hBU hMU c0 c1 c2 c3 lt
    try simp only
    go_upto_region 5 with fail
    rw [HU.out, HP.out]
    clear HU HP
    by_cases hn : n = 0
    case neg =>
      have hnb : (n == 0) = false := by simpa using hn
      clear hn
      go_upto_region 10 with fail
      obtain ⟨c0, c1, c2, c3, _, _, _, _, lt⟩ := HB0.out.up (bnext (bnext Hq1.out HqR.out) Hq2.out) HB0.out.lt
      have hmb := HM0.out.up (bnext (bnext Hq1.out HqR.out) Hq2.out)
      have hd := begin_any U2 (fun b => b < U2.heap.size) A0 Q0 a0 q0 x who 1 (by omega) (by omega) (fun b h => h) hmb
      rw [Hbg.out] at hd
      simp only at hd
      generalize came.contains who = cb at hd
      have Hd := Lib.hid hd
      clear hd hmb
      go_wp2_with fail
      refine Hd.out.mono ?_
      clear Hd
      rintro e VB ⟨AB, aB, QB, qB, rfl, hm, hb⟩
      have hm' : HM VB (fun b => b < VB.heap.size) b AB aB QB qB := hm.imp fun b h => by have := hb.size; rcases h with h | h <;> omega
      obtain ⟨PB, hP⟩ : ∃ P, P = VB.heap.size := ⟨_, rfl⟩
      obtain ⟨UB, hU, hbU, hsU, hBU, hMU⟩ := new_box 25 hm'
      rw [← hP] at hBU
      have HqB := Lib.hid (show Below U2.heap.size U2 UB from bnext hb hbU)
      have HBB := Lib.hid hBU; have HMB := Lib.hid (hMU.imp (ok' := fun b => b < UB.heap.size) fun b hb => hb.2)
      have HU := Lib.hid hU.symm; have HP := Lib.hid hP.symm
      clear hm hb hm' hP hU hbU hsU hBU hMU c0 c1 c2 c3 lt
      try simp only
      go_upto_region 11 with fail
      rw [HU.out, HP.out]
      clear HU HP
      by_cases hg : g = 0
      case neg =>
        have hgb : (g == 0) = false := by simpa using hg
        clear hg
        go_wp2_with fail
        refine (awake_any _).mono ?_
        rintro e V2 ⟨rfl, hb2⟩
        go_wp2_with fail
        go_ret
        exact ⟨rfl, bnext (bnext Hb0.out (bnext (bnext (bnext Hq1.out HqR.out) Hq2.out) HqB.out)) hb2⟩
      subst hg
      have hbe := begin_end Hxr.out Hbg.out
      have hbr : b.right = true := by have := begin_right Hxr.out who 1; rw [Hbg.out] at this; exact this
      have hbl := (heads_iff.1 (right_pre.1 hbr).1.heads).2.2.2.2
      have Hbe := Lib.hid hbe
      clear hbe hbr
      go_upto_region 13 with fail
      obtain ⟨c0, c1, c2, c3, _, _, _, _, lt⟩ := HBB.out
      have hmb := HMB.out
      have hd := end_any UB (fun b => b < UB.heap.size) AB QB aB qB b who (by omega) (by omega) (fun b h => h) hmb
      rw [Hbe.out] at hd
      have Hd := Lib.hid hd
      clear hd hmb
      go_wp2_with fail
      refine Hd.out.mono ?_
      clear Hd
      rintro e VE ⟨AE, aE, QE, qE, IE, iE, rfl, hm, _, hb⟩
      have hm' : HM VE (fun b => b < VE.heap.size) x AE aE QE qE := hm.imp fun b h => by have := hb.size; rcases h with h | h <;> omega
      obtain ⟨PE, hP⟩ : ∃ P, P = VE.heap.size := ⟨_, rfl⟩
      obtain ⟨UE, hU, hbU, hsU, hBU, hMU⟩ := new_box 25 hm'
      rw [← hP] at hBU
      have HqE := Lib.hid (show Below UB.heap.size UB UE from bnext hb hbU)
      have HBE := Lib.hid hBU; have HME := Lib.hid (hMU.imp (ok' := fun b => b < UE.heap.size) fun b hb => hb.2)
      have HU := Lib.hid hU.symm; have HP := Lib.hid hP.symm
      clear hm hb hm' hP hU hbU hsU hBU hMU c0 c1 c2 c3 lt
      try simp only
      go_upto_region 14 with fail
      rw [HU.out, HP.out]
      clear HU HP
      obtain ⟨c0, c1, c2, c3, _, _, _, _, lt⟩ := HBE.out
      have hmb := HME.out
      have hd := refHere_any UE AE QE aE qE x hl1 hl2 hmb.c hmb.q
      have Hd := Lib.hid hd
      clear hd hmb
      go_wp2_with fail
      refine Hd.out.mono ?_
      clear Hd
      rintro e VF ⟨AF, aF, QF, qF, rfl, hm, hb⟩
      have hm' : HM VF (fun b => b < VF.heap.size) x AF aF QF qF := hm.imp fun b h => by have := hb.size; omega
      obtain ⟨PF, hP⟩ : ∃ P, P = VF.heap.size := ⟨_, rfl⟩
      obtain ⟨UF, hU, hbU, hsU, hBU, hMU⟩ := new_box 29 hm'
      rw [← hP] at hBU
      have HqF := Lib.hid (show Below UE.heap.size UE UF from bnext hb hbU)
      have HBF := Lib.hid hBU; have HMF := Lib.hid (hMU.imp (ok' := fun b => b < UF.heap.size) fun b hb => hb.2)
      have HU := Lib.hid hU.symm; have HP := Lib.hid hP.symm
      clear hm hb hm' hP hU hbU hsU hBU hMU c0 c1 c2 c3 lt
      try simp only
      go_upto_region 15 with fail
      rw [HU.out, HP.out]
      clear HU HP
      have hm1 := HM1.out.up (bnext (bnext (bnext (bnext HqR.out Hq2.out) HqB.out) HqE.out) HqF.out)
      have hd := refSame_any UF A1 Q1 a1 q1 AF QF aF qF x (by omega) (by omega) hm1.c hm1.q HMF.out.c HMF.out.q
      have Hd := Lib.hid hd
      clear hd hm1
      obtain ⟨c0, c1, c2, c3, _, _, _, _, lt⟩ := HBF.out
      obtain ⟨d0, d1, d2, d3, _, _, _, _, lt2⟩ := HB1.out.up (bnext (bnext (bnext (bnext HqR.out Hq2.out) HqB.out) HqE.out) HqF.out) HB1.out.lt
      go_wp2_with fail
      refine Hd.out.mono ?_
      clear Hd
      rintro e V8 ⟨rfl, hb8⟩
      have Hq8 := Lib.hid hb8
      clear hb8 c0 c1 c2 c3 lt d0 d1 d2 d3 lt2
      go_wp2_with fail
      refine (awake_any V8).mono ?_
      rintro e V10 ⟨rfl, hb10⟩
      have Hq10 := Lib.hid hb10
      clear hb10
      go_wp2_with fail
      go_ret
      exact ⟨rfl, bnext (bnext (bnext Hb0.out (bnext (bnext (bnext (bnext (bnext Hq1.out HqR.out) Hq2.out) HqB.out) HqE.out) HqF.out)) Hq8.out) Hq10.out⟩
    subst hn
    obtain ⟨hun, hlf, hrr⟩ := pin_unpin Hxr.out Hrn.out
    have Hun := Lib.hid hun; have Hlf := Lib.hid hlf; have Hrr := Lib.hid hrr
    clear hun hlf hrr
    go_upto_region 6 with fail
    obtain ⟨c0, c1, c2, c3, _, _, _, _, lt⟩ := HB2.out
    have hmb := HM2.out
    have hd := unpin_any U2 (fun b => b < U2.heap.size) A2 Q2 a2 q2 r who (by rw [Hrl.out.1]; omega) (by rw [Hrl.out.2]; omega) (fun b h => h) hmb
    rw [Hun.out] at hd
    have Hd := Lib.hid hd
    clear hd hmb
    go_wp2_with fail
    refine Hd.out.mono ?_
    clear Hd
    rintro e V3 ⟨A3, a3, Q3, q3, rfl, hm, hb⟩
    have hm' : HM V3 (fun b => b < V3.heap.size) x A3 a3 Q3 q3 := hm.imp fun b h => by have := hb.size; rcases h with h | h <;> omega
    obtain ⟨P3, hP⟩ : ∃ P, P = V3.heap.size := ⟨_, rfl⟩
    obtain ⟨U3, hU, hbU, hsU, hBU, hMU⟩ := new_box 25 hm'
    rw [← hP] at hBU
    have Hq3 := Lib.hid (show Below U2.heap.size U2 U3 from bnext hb hbU)
    have HB3 := Lib.hid hBU; have HM3 := Lib.hid (hMU.imp (ok' := fun b => b < U3.heap.size) fun b hb => hb.2)
    have HU := Lib.hid hU.symm; have HP := Lib.hid hP.symm
    clear hm hb hm' hP hU hbU hsU hBU hMU c0 c1 c2 c3 lt
    try simp only
    go_upto_region 7 with fail
    rw [HU.out, HP.out]
    clear HU HP
    obtain ⟨c0, c1, c2, c3, _, _, _, _, lt⟩ := HB3.out
    have hmb := HM3.out
    have hd := refHere_any U3 A3 Q3 a3 q3 x hl1 hl2 hmb.c hmb.q
    have Hd := Lib.hid hd
    clear hd hmb
    go_wp2_with fail
    refine Hd.out.mono ?_
    clear Hd
    rintro e V4 ⟨A4, a4, Q4, q4, rfl, hm, hb⟩
    have hm' : HM V4 (fun b => b < V4.heap.size) x A4 a4 Q4 q4 := hm.imp fun b h => by have := hb.size; omega
    obtain ⟨P4, hP⟩ : ∃ P, P = V4.heap.size := ⟨_, rfl⟩
    obtain ⟨U4, hU, hbU, hsU, hBU, hMU⟩ := new_box 29 hm'
    rw [← hP] at hBU
    have Hq4 := Lib.hid (show Below U3.heap.size U3 U4 from bnext hb hbU)
    have HB4 := Lib.hid hBU; have HM4 := Lib.hid (hMU.imp (ok' := fun b => b < U4.heap.size) fun b hb => hb.2)
    have HU := Lib.hid hU.symm; have HP := Lib.hid hP.symm
    clear hm hb hm' hP hU hbU hsU hBU hMU c0 c1 c2 c3 lt
    try simp only
    go_upto_region 8 with fail
    rw [HU.out, HP.out]
    clear HU HP
    obtain ⟨c0, c1, c2, c3, _, _, _, _, lt⟩ := HB0.out.up (bnext (bnext (bnext (bnext Hq1.out HqR.out) Hq2.out) Hq3.out) Hq4.out) HB0.out.lt
    obtain ⟨d0, d1, d2, d3, _, _, _, _, lt1⟩ := HB1.out.up (bnext (bnext (bnext HqR.out Hq2.out) Hq3.out) Hq4.out) HB1.out.lt
    obtain ⟨e0, e1, e2, e3, _, _, _, _, lt2⟩ := HB2.out.up (bnext Hq3.out Hq4.out) HB2.out.lt
    obtain ⟨f0, f1, f2, f3, _, _, _, _, lt4⟩ := HB4.out
    have n0 := bw_cell c0 lt; have n1 := bw_cell c1 lt; have n2 := bw_cell c2 lt; have n3 := bw_cell c3 lt
    have o0 := bw_cell d0 lt1; have o1 := bw_cell d1 lt1; have o2 := bw_cell d2 lt1; have o3 := bw_cell d3 lt1
    have p0 := bw_cell e0 lt2; have p1 := bw_cell e1 lt2; have p2 := bw_cell e2 lt2; have p3 := bw_cell e3 lt2
    have r0 := bw_cell f0 lt4; have r1 := bw_cell f1 lt4; have r2 := bw_cell f2 lt4; have r3 := bw_cell f3 lt4
    obtain ⟨lf, hlf⟩ : ∃ lf, lf = x.left := ⟨_, rfl⟩
    have hs1 : ∀ y : BW U4, Calls Try.prog 17 #[.agg #[.int .i64 x.frames, .int .i64 x.budget, .slice A1 x.cs.length a1, .slice Q1 x.q.length q1], .agg #[.int .i64 x.frames, .int .i64 x.budget, .slice A4 x.cs.length a4, .slice Q4 x.q.length q4]] y.w fun e w' => e = .returned (.bool true) ∧ Below y.w.heap.size y.w w' := fun y => by
      have h1 := (HM1.out.up (bnext (bnext (bnext HqR.out Hq2.out) Hq3.out) Hq4.out)).up y.below
      have h4 := HM4.out.up y.below
      exact refSame_any y.w A1 Q1 a1 q1 A4 Q4 a4 q4 x (by omega) (by omega) h1.c h1.q h4.c h4.q
    have hf1 : ∀ y : BW U4, Calls Try.prog 20 #[.agg #[.int .i64 r.frames, .int .i64 r.budget, .slice A2 r.cs.length a2, .slice Q2 r.q.length q2]] y.w fun e w' => e = .returned (.int .i64 (lf - 1)) ∧ Below y.w.heap.size y.w w' := fun y => by
      have h := free_any y.w A2 Q2 a2 q2 r (by rw [Hrl.out.1]; omega) (by rw [Hrl.out.2]; omega) ((HM2.out.up (bnext Hq3.out Hq4.out)).up y.below)
      rw [if_pos Hrr.out, Hlf.out, ← hlf] at h
      exact h
    have hf0 : ∀ y : BW U4, Calls Try.prog 20 #[.agg #[.int .i64 x.frames, .int .i64 x.budget, .slice A0 x.cs.length a0, .slice Q0 x.q.length q0]] y.w fun e w' => e = .returned (.int .i64 lf) ∧ Below y.w.heap.size y.w w' := fun y => by
      have h := free_any y.w A0 Q0 a0 q0 x (by omega) (by omega) ((HM0.out.up (bnext (bnext (bnext (bnext Hq1.out HqR.out) Hq2.out) Hq3.out) Hq4.out)).up y.below)
      rw [if_pos Hxr.out, ← hlf] at h
      exact h
    have hp := (right_pre.1 Hxr.out).1
    have hl0 := hp.left
    have hl8 := left_le hp.cs hp.heads
    rw [← hlf] at hl0 hl8
    have ew : IntKind.i64.wrap (lf - 1) = lf - 1 := IntWalk.i64_in _ (by omega)
    have Hs1 := Lib.hid hs1; have Hf1 := Lib.hid hf1; have Hf0 := Lib.hid hf0
    clear hs1 hf1 hf0 hp hl0 hl8 hlf c0 c1 c2 c3 d0 d1 d2 d3 e0 e1 e2 e3 f0 f1 f2 f3
    refine wp_region_bw (by kernel_rfl) (by kernel_rfl) ?_
    repeat (go_big_quiet_step (first | exact call_bw (Hs1.out _) | exact call_bw (Hf1.out _) | exact call_bw (Hf0.out _)))
    refine wpQuiet_nil (bw_nil fun U5 hV => ?_)
    have Hq5 := Lib.hid hV
    clear hV n0 n1 n2 n3 o0 o1 o2 o3 p0 p1 p2 p3 r0 r1 r2 r3 ew lt lt1 lt2 lt4
    go_upto_region 10 with fail
    obtain ⟨c0, c1, c2, c3, _, _, _, _, lt⟩ := HB0.out.up (bnext (bnext (bnext (bnext (bnext Hq1.out HqR.out) Hq2.out) Hq3.out) Hq4.out) Hq5.out) HB0.out.lt
    have hmb := HM0.out.up (bnext (bnext (bnext (bnext (bnext Hq1.out HqR.out) Hq2.out) Hq3.out) Hq4.out) Hq5.out)
    have hd := begin_any U5 (fun b => b < U5.heap.size) A0 Q0 a0 q0 x who 1 (by omega) (by omega) (fun b h => h) hmb
    rw [Hbg.out] at hd
    simp only at hd
    generalize came.contains who = cb at hd
    have Hd := Lib.hid hd
    clear hd hmb
    go_wp2_with fail
    refine Hd.out.mono ?_
    clear Hd
    rintro e VB ⟨AB, aB, QB, qB, rfl, hm, hb⟩
    have hm' : HM VB (fun b => b < VB.heap.size) b AB aB QB qB := hm.imp fun b h => by have := hb.size; rcases h with h | h <;> omega
    obtain ⟨PB, hP⟩ : ∃ P, P = VB.heap.size := ⟨_, rfl⟩
    obtain ⟨UB, hU, hbU, hsU, hBU, hMU⟩ := new_box 25 hm'
    rw [← hP] at hBU
    have HqB := Lib.hid (show Below U5.heap.size U5 UB from bnext hb hbU)
    have HBB := Lib.hid hBU; have HMB := Lib.hid (hMU.imp (ok' := fun b => b < UB.heap.size) fun b hb => hb.2)
    have HU := Lib.hid hU.symm; have HP := Lib.hid hP.symm
    clear hm hb hm' hP hU hbU hsU hBU hMU c0 c1 c2 c3 lt
    try simp only
    go_upto_region 11 with fail
    rw [HU.out, HP.out]
    clear HU HP
    by_cases hg : g = 0
    case neg =>
      have hgb : (g == 0) = false := by simpa using hg
      clear hg
      go_wp2_with fail
      refine (awake_any _).mono ?_
      rintro e V2 ⟨rfl, hb2⟩
      go_wp2_with fail
      go_ret
      exact ⟨rfl, bnext (bnext Hb0.out (bnext (bnext (bnext (bnext (bnext (bnext Hq1.out HqR.out) Hq2.out) Hq3.out) Hq4.out) Hq5.out) HqB.out)) hb2⟩
    subst hg
    have hbe := begin_end Hxr.out Hbg.out
    have hbr : b.right = true := by have := begin_right Hxr.out who 1; rw [Hbg.out] at this; exact this
    have hbl := (heads_iff.1 (right_pre.1 hbr).1.heads).2.2.2.2
    have Hbe := Lib.hid hbe
    clear hbe hbr
    go_upto_region 13 with fail
    obtain ⟨c0, c1, c2, c3, _, _, _, _, lt⟩ := HBB.out
    have hmb := HMB.out
    have hd := end_any UB (fun b => b < UB.heap.size) AB QB aB qB b who (by omega) (by omega) (fun b h => h) hmb
    rw [Hbe.out] at hd
    have Hd := Lib.hid hd
    clear hd hmb
    go_wp2_with fail
    refine Hd.out.mono ?_
    clear Hd
    rintro e VE ⟨AE, aE, QE, qE, IE, iE, rfl, hm, _, hb⟩
    have hm' : HM VE (fun b => b < VE.heap.size) x AE aE QE qE := hm.imp fun b h => by have := hb.size; rcases h with h | h <;> omega
    obtain ⟨PE, hP⟩ : ∃ P, P = VE.heap.size := ⟨_, rfl⟩
    obtain ⟨UE, hU, hbU, hsU, hBU, hMU⟩ := new_box 25 hm'
    rw [← hP] at hBU
    have HqE := Lib.hid (show Below UB.heap.size UB UE from bnext hb hbU)
    have HBE := Lib.hid hBU; have HME := Lib.hid (hMU.imp (ok' := fun b => b < UE.heap.size) fun b hb => hb.2)
    have HU := Lib.hid hU.symm; have HP := Lib.hid hP.symm
    clear hm hb hm' hP hU hbU hsU hBU hMU c0 c1 c2 c3 lt
    try simp only
    go_upto_region 14 with fail
    rw [HU.out, HP.out]
    clear HU HP
    obtain ⟨c0, c1, c2, c3, _, _, _, _, lt⟩ := HBE.out
    have hmb := HME.out
    have hd := refHere_any UE AE QE aE qE x hl1 hl2 hmb.c hmb.q
    have Hd := Lib.hid hd
    clear hd hmb
    go_wp2_with fail
    refine Hd.out.mono ?_
    clear Hd
    rintro e VF ⟨AF, aF, QF, qF, rfl, hm, hb⟩
    have hm' : HM VF (fun b => b < VF.heap.size) x AF aF QF qF := hm.imp fun b h => by have := hb.size; omega
    obtain ⟨PF, hP⟩ : ∃ P, P = VF.heap.size := ⟨_, rfl⟩
    obtain ⟨UF, hU, hbU, hsU, hBU, hMU⟩ := new_box 29 hm'
    rw [← hP] at hBU
    have HqF := Lib.hid (show Below UE.heap.size UE UF from bnext hb hbU)
    have HBF := Lib.hid hBU; have HMF := Lib.hid (hMU.imp (ok' := fun b => b < UF.heap.size) fun b hb => hb.2)
    have HU := Lib.hid hU.symm; have HP := Lib.hid hP.symm
    clear hm hb hm' hP hU hbU hsU hBU hMU c0 c1 c2 c3 lt
    try simp only
    go_upto_region 15 with fail
    rw [HU.out, HP.out]
    clear HU HP
    have hm1 := HM1.out.up (bnext (bnext (bnext (bnext (bnext (bnext (bnext HqR.out Hq2.out) Hq3.out) Hq4.out) Hq5.out) HqB.out) HqE.out) HqF.out)
    have hd := refSame_any UF A1 Q1 a1 q1 AF QF aF qF x (by omega) (by omega) hm1.c hm1.q HMF.out.c HMF.out.q
    have Hd := Lib.hid hd
    clear hd hm1
    obtain ⟨c0, c1, c2, c3, _, _, _, _, lt⟩ := HBF.out
    obtain ⟨d0, d1, d2, d3, _, _, _, _, lt2⟩ := HB1.out.up (bnext (bnext (bnext (bnext (bnext (bnext (bnext HqR.out Hq2.out) Hq3.out) Hq4.out) Hq5.out) HqB.out) HqE.out) HqF.out) HB1.out.lt
    go_wp2_with fail
    refine Hd.out.mono ?_
    clear Hd
    rintro e V8 ⟨rfl, hb8⟩
    have Hq8 := Lib.hid hb8
    clear hb8 c0 c1 c2 c3 lt d0 d1 d2 d3 lt2
    go_wp2_with fail
    refine (awake_any V8).mono ?_
    rintro e V10 ⟨rfl, hb10⟩
    have Hq10 := Lib.hid hb10
    clear hb10
    go_wp2_with fail
    go_ret
    exact ⟨rfl, bnext (bnext (bnext Hb0.out (bnext (bnext (bnext (bnext (bnext (bnext (bnext (bnext Hq1.out HqR.out) Hq2.out) Hq3.out) Hq4.out) Hq5.out) HqB.out) HqE.out) HqF.out)) Hq8.out) Hq10.out⟩
end Go.Proofs.Ythhfhgkkfaghoaa
