/- The law LatchGives, walked. -/
import Derived.Test.YtigffndobddflaaLGP
namespace Go.Proofs.Ytigffndobddflaa
open Go.RowKit

set_option maxRecDepth 20000 in
set_option maxHeartbeats 8000000 in
theorem lawGives (w : World) (A0 Q0 : Option Addr) (a0 q0 : Nat) (x : La) (who : Int) (ex : Bool) (hc : x.hs.length ≤ 9223372036854775807) (hq : x.q.length ≤ 9223372036854775807) (hm : LM w (fun b => b < w.heap.size) x A0 a0 Q0 q0) :
    Calls Try.prog 7 #[.agg #[.slice A0 x.hs.length a0, .bool x.ex, .slice Q0 x.q.length q0], .int .i64 who, .bool ex] w fun e w' => e = .returned (.bool true) ∧ Below w.heap.size w w' := by
  obtain ⟨P0, hP0⟩ : ∃ P0, P0 = w.heap.size := ⟨_, rfl⟩
  obtain ⟨U0, hU0, hb0, hs0, hB0, hM0⟩ := new_la 25 hm
  rw [← hP0] at hB0
  have HU0 := Lib.hid hU0.symm; have HP0 := Lib.hid hP0.symm
  have Hb0 := Lib.hid hb0; have HB0 := Lib.hid hB0
  have HM0 := Lib.hid (hM0.imp (ok' := fun b => b < U0.heap.size) fun b hb => hb.2)
  clear hP0 hU0 hb0 hs0 hB0 hM0 hm
  go_enter Try.func7, Try.ntmps7
  go_upto_region 1 with fail
  rw [HU0.out, HP0.out]
  obtain ⟨c0, c1, c2, _, _, _, lt⟩ := HB0.out
  by_cases hlen : x.hs.length ≤ 80 ∧ x.q.length ≤ 80
  case neg =>
    have Hlen := Lib.hid hlen
    clear hlen
    go_wp2_with fail
    refine (refLong_any U0 A0 Q0 a0 q0 x Hlen.out).mono ?_
    rintro e V ⟨rfl, hb⟩
    have Hb := Lib.hid hb
    clear hb c0 c1 c2
    try simp only
    go_wp2_with fail
    refine (awake_any _).mono ?_
    rintro e V2 ⟨rfl, hb2⟩
    go_wp2_with fail
    go_ret
    exact ⟨rfl, bnext ((bnext Hb0.out Hb.out).alloc (bnext Hb0.out Hb.out).size _) hb2⟩
  obtain ⟨hl1, hl2⟩ := hlen
  have Hd := Lib.hid (refHere_any U0 (fun b => b < U0.heap.size) A0 Q0 a0 q0 x hl1 hl2 (fun b h => h) HM0.out)
  go_wp2_with fail
  refine Hd.out.mono ?_
  clear Hd
  rintro e V1 ⟨Q1, q1, rfl, hm, hb⟩
  have hm' : LM V1 (fun b => b < V1.heap.size) x A0 a0 Q1 q1 := hm.imp fun b h => by have := hb.size; omega
  obtain ⟨P1, hP⟩ : ∃ P, P = V1.heap.size := ⟨_, rfl⟩
  obtain ⟨U1, hU, hbU, hsU, hBU, hMU⟩ := new_la 28 hm'
  rw [← hP] at hBU
  have Hq1 := Lib.hid (show Below U0.heap.size U0 U1 from bnext hb hbU)
  have HB1 := Lib.hid hBU; have HM1 := Lib.hid (hMU.imp (ok' := fun b => b < U1.heap.size) fun b hb => hb.2)
  have HU := Lib.hid hU.symm; have HP := Lib.hid hP.symm
  clear hm hb hm' hP hU hbU hsU hBU hMU c0 c1 c2 lt
  try simp only
  go_upto_region 4 with fail
  rw [HU.out, HP.out]
  clear HU HP
  obtain ⟨r, came, g, hrg⟩ : ∃ r came g, askM x who ex = (r, came, g) := ⟨_, _, _, rfl⟩
  obtain ⟨cb, hcb⟩ : ∃ cb, came.contains who = cb := ⟨_, rfl⟩
  have Hrg := Lib.hid hrg
  have Hd := Lib.hid (ask_is hrg hcb U1 (fun b => b < U1.heap.size) A0 Q0 a0 q0 (by omega) (by omega) (fun b h => h) (HM0.out.up Hq1.out))
  clear hrg hcb
  obtain ⟨c0, c1, c2, _, _, _, lt⟩ := HB0.out.up Hq1.out HB0.out.lt
  go_wp2_with fail
  refine Hd.out.mono ?_
  clear Hd
  rintro e V2 ⟨A2, a2, Q2, q2, rfl, hm, hb⟩
  have hm' : LM V2 (fun b => b < V2.heap.size) r A2 a2 Q2 q2 := hm.imp fun b h => by have := hb.size; rcases h with h | h <;> omega
  obtain ⟨P2, hP⟩ : ∃ P, P = V2.heap.size := ⟨_, rfl⟩
  obtain ⟨U2, hU, hbU, hsU, hBU, hMU⟩ := new_la 25 hm'
  rw [← hP] at hBU
  have Hq2 := Lib.hid (show Below U1.heap.size U1 U2 from bnext hb hbU)
  have HB2 := Lib.hid hBU; have HM2 := Lib.hid (hMU.imp (ok' := fun b => b < U2.heap.size) fun b hb => hb.2)
  have HU := Lib.hid hU.symm; have HP := Lib.hid hP.symm
  clear hm hb hm' hP hU hbU hsU hBU hMU c0 c1 c2 lt
  try simp only
  go_upto_region 5 with fail
  rw [HU.out, HP.out]
  clear HU HP
  by_cases hg : g = 0
  case neg =>
    have hgb : (g == 0) = false := by simpa using hg
    have hgn : (g != 0) = true := by simpa using hg
    clear hg
    go_wp2_with fail
    refine (awake_any _).mono ?_
    rintro e V2 ⟨rfl, hb2⟩
    go_wp2_with fail
    go_ret
    exact ⟨rfl, bnext (bnext Hb0.out (bnext Hq1.out Hq2.out)) hb2⟩
  subst hg
  have hxr := ask_ok Hrg.out
  have hdr := ask_drop hxr Hrg.out
  have hrl : r.hs.length + r.q.length ≤ 64 := right_len (by have := ask_right hxr who ex; rw [Hrg.out] at this; exact this)
  have Hd := Lib.hid (drop_is hdr U2 (fun b => b < U2.heap.size) A2 Q2 a2 q2 (by omega) (by omega) (fun b h => h) HM2.out)
  clear hdr hxr
  go_upto_region 7 with fail
  obtain ⟨c0, c1, c2, _, _, _, lt⟩ := HB2.out
  go_wp2_with fail
  refine Hd.out.mono ?_
  clear Hd
  rintro e V3 ⟨A3, a3, Q3, q3, I3, i3, rfl, hm, _, hb⟩
  have hm' : LM V3 (fun b => b < V3.heap.size) x A3 a3 Q3 q3 := hm.imp fun b h => by have := hb.size; rcases h with h | h <;> omega
  obtain ⟨P3, hP⟩ : ∃ P, P = V3.heap.size := ⟨_, rfl⟩
  obtain ⟨U3, hU, hbU, hsU, hBU, hMU⟩ := new_la 25 hm'
  rw [← hP] at hBU
  have Hq3 := Lib.hid (show Below U2.heap.size U2 U3 from bnext hb hbU)
  have HB3 := Lib.hid hBU; have HM3 := Lib.hid (hMU.imp (ok' := fun b => b < U3.heap.size) fun b hb => hb.2)
  have HU := Lib.hid hU.symm; have HP := Lib.hid hP.symm
  clear hm hb hm' hP hU hbU hsU hBU hMU c0 c1 c2 lt
  try simp only
  go_upto_region 8 with fail
  rw [HU.out, HP.out]
  clear HU HP
  obtain ⟨c0, c1, c2, _, _, _, lt⟩ := HB3.out
  have Hd := Lib.hid (refHere_any U3 (fun b => b < U3.heap.size) A3 Q3 a3 q3 x hl1 hl2 (fun b h => h) HM3.out)
  go_wp2_with fail
  refine Hd.out.mono ?_
  clear Hd
  rintro e V4 ⟨Q4, q4, rfl, hm, hb⟩
  have hm' : LM V4 (fun b => b < V4.heap.size) x A3 a3 Q4 q4 := hm.imp fun b h => by have := hb.size; omega
  obtain ⟨P4, hP⟩ : ∃ P, P = V4.heap.size := ⟨_, rfl⟩
  obtain ⟨U4, hU, hbU, hsU, hBU, hMU⟩ := new_la 28 hm'
  rw [← hP] at hBU
  have Hq4 := Lib.hid (show Below U3.heap.size U3 U4 from bnext hb hbU)
  have HB4 := Lib.hid hBU; have HM4 := Lib.hid (hMU.imp (ok' := fun b => b < U4.heap.size) fun b hb => hb.2)
  have HU := Lib.hid hU.symm; have HP := Lib.hid hP.symm
  clear hm hb hm' hP hU hbU hsU hBU hMU c0 c1 c2 lt
  try simp only
  go_upto_region 9 with fail
  rw [HU.out, HP.out]
  clear HU HP
  have hm1 := HM1.out.up (bnext (bnext Hq2.out Hq3.out) Hq4.out)
  have Hd := Lib.hid (refSame_any U4 A0 Q1 a0 q1 A3 Q4 a3 q4 x (by omega) (by omega) hm1.c hm1.q HM4.out.c HM4.out.q)
  clear hm1
  obtain ⟨c0, c1, c2, _, _, _, lt⟩ := HB4.out
  obtain ⟨d0, d1, d2, _, _, _, lt2⟩ := HB1.out.up (bnext (bnext Hq2.out Hq3.out) Hq4.out) HB1.out.lt
  go_wp2_with fail
  refine Hd.out.mono ?_
  clear Hd
  rintro e V8 ⟨rfl, hb8⟩
  have Hq8 := Lib.hid hb8
  clear hb8 c0 c1 c2 lt d0 d1 d2 lt2
  go_wp2_with fail
  refine (awake_any V8).mono ?_
  rintro e V10 ⟨rfl, hb10⟩
  have Hq10 := Lib.hid hb10
  clear hb10
  go_wp2_with fail
  go_ret
  exact ⟨rfl, bnext (bnext (bnext Hb0.out (bnext (bnext (bnext Hq1.out Hq2.out) Hq3.out) Hq4.out)) Hq8.out) Hq10.out⟩
end Go.Proofs.Ytigffndobddflaa
