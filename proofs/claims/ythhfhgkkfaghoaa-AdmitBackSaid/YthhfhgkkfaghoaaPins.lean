/- The law AdmitPins, walked. -/
import Derived.Test.YthhfhgkkfaghoaaRef7
namespace Go.Proofs.Ythhfhgkkfaghoaa
open Go.RowKit

theorem pin_len (h : Hall) (who : Int) : (pinM h who).1.cs.length = h.cs.length ∧ (pinM h who).1.q = h.q := by
  rw [pinM]
  split
  · exact ⟨rfl, rfl⟩
  split
  · exact ⟨rfl, rfl⟩
  split
  · exact ⟨rfl, rfl⟩
  repeat' split
  all_goals first | exact ⟨rfl, rfl⟩ | exact ⟨moreAt_len _ _ _, rfl⟩
theorem unpin_len (h : Hall) (who : Int) : (unpinM h who).1.cs.length = h.cs.length ∧ (unpinM h who).1.q = h.q := by
  rw [unpinM]
  split
  · exact ⟨rfl, rfl⟩
  split
  · exact ⟨rfl, rfl⟩
  split
  · exact ⟨rfl, rfl⟩
  repeat' split
  all_goals first | exact ⟨rfl, rfl⟩ | exact ⟨moreAt_len _ _ _, rfl⟩

set_option maxRecDepth 20000 in
set_option maxHeartbeats 8000000 in
theorem lawPins (w : World) (A0 Q0 : Option Addr) (a0 q0 : Nat) (x : Hall) (who : Int) (hc : x.cs.length ≤ 9223372036854775807) (hq : x.q.length ≤ 9223372036854775807) (hm : HM w (fun b => b < w.heap.size) x A0 a0 Q0 q0) :
    Calls Try.prog 6 #[.agg #[.int .i64 x.frames, .int .i64 x.budget, .slice A0 x.cs.length a0, .slice Q0 x.q.length q0], .int .i64 who] w fun e w' => e = .returned (.bool true) ∧ Below w.heap.size w w' := by
  obtain ⟨P0, hP0⟩ : ∃ P0, P0 = w.heap.size := ⟨_, rfl⟩
  obtain ⟨U0, hU0, hb0, hs0, hB0, hM0⟩ := new_box 25 hm
  rw [← hP0] at hB0
  have HU0 := Lib.hid hU0.symm; have HP0 := Lib.hid hP0.symm
  have Hb0 := Lib.hid hb0; have HB0 := Lib.hid hB0
  have HM0 := Lib.hid (hM0.imp (ok' := fun b => b < U0.heap.size) fun b hb => hb.2)
  clear hP0 hU0 hb0 hs0 hB0 hM0 hm
  go_enter Try.func6, Try.ntmps6
  go_upto_region 1 with fail
  rw [HU0.out, HP0.out]
  obtain ⟨c0, c1, c2, c3, _, _, _, _, lt⟩ := HB0.out
  by_cases hlen : x.cs.length ≤ 40 ∧ x.q.length ≤ 60
  case neg =>
    have Hlen := Lib.hid hlen
    clear hlen
    go_wp2_with fail
    refine (refLong_any U0 A0 Q0 a0 q0 x Hlen.out).mono ?_
    rintro e V ⟨rfl, hb⟩
    have Hb := Lib.hid hb
    have Hal := Lib.hid awake_any
    clear hb c0 c1 c2 c3
    try simp only
    go_wp2_with fail
    refine (awake_any _).mono ?_
    rintro e V2 ⟨rfl, hb2⟩
    go_wp2_with fail
    go_ret
    exact ⟨rfl, bnext ((bnext Hb0.out Hb.out).alloc (bnext Hb0.out Hb.out).size _) hb2⟩
  obtain ⟨hl1, hl2⟩ := hlen
  obtain ⟨r, n, hrn⟩ : ∃ r n, pinM x who = (r, n) := ⟨_, _, rfl⟩
  obtain ⟨s, m, hsm⟩ : ∃ s m, unpinM x who = (s, m) := ⟨_, _, rfl⟩
  have hrl : r.cs.length = x.cs.length ∧ r.q = x.q := by have := pin_len x who; rwa [hrn] at this
  have hsl : s.cs.length = x.cs.length ∧ s.q = x.q := by have := unpin_len x who; rwa [hsm] at this
  have Hrn := Lib.hid hrn; have Hsm := Lib.hid hsm; have Hrl := Lib.hid hrl; have Hsl := Lib.hid hsl
  clear hrn hsm hrl hsl
  have hmb := HM0.out
  have hd := refHere_any U0 A0 Q0 a0 q0 x hl1 hl2 hmb.c hmb.q
  have Hd := Lib.hid hd
  clear hd hmb
  go_wp2_with fail
  refine Hd.out.mono ?_
  clear Hd
  rintro e V1 ⟨A1, a1, Q1, q1, rfl, hm, hb⟩
  have hm' : HM V1 (fun b => b < V1.heap.size) x A1 a1 Q1 q1 := hm.imp fun b h => by have := hb.size; omega
  obtain ⟨P1, hP⟩ : ∃ P, P = V1.heap.size := ⟨_, rfl⟩
  obtain ⟨U1, hU, hbU, hsU, hBU, hMU⟩ := new_box 29 hm'
  rw [← hP] at hBU
  have Hq1 := Lib.hid (show Below U0.heap.size U0 U1 from bnext hb hbU)
  have HB1 := Lib.hid hBU; have HM1 := Lib.hid (hMU.imp (ok' := fun b => b < U1.heap.size) fun b hb => hb.2)
  have HU := Lib.hid hU.symm; have HP := Lib.hid hP.symm
  clear hm hb hm' hP hU hbU hsU hBU hMU c0 c1 c2 c3 lt
  try simp only
  go_upto_region 4 with fail
  rw [HU.out, HP.out]
  clear HU HP
  obtain ⟨c0, c1, c2, c3, _, _, _, _, lt⟩ := HB0.out.up Hq1.out HB0.out.lt
  have hmb := (HM0.out.up Hq1.out)
  have hd := pin_any U1 (fun b => b < U1.heap.size) A0 Q0 a0 q0 x who (by omega) (by omega) (fun b h => h) hmb
  rw [Hrn.out] at hd
  have Hd := Lib.hid hd
  clear hd hmb
  go_wp2_with fail
  refine Hd.out.mono ?_
  clear Hd
  rintro e V2 ⟨A2, a2, Q2, q2, rfl, hm, hb⟩
  have hm' : HM V2 (fun b => b < V2.heap.size) r A2 a2 Q2 q2 := hm.imp fun b h => by have := hb.size; rcases h with h | h <;> omega
  obtain ⟨P2, hP⟩ : ∃ P, P = V2.heap.size := ⟨_, rfl⟩
  obtain ⟨U2, hU, hbU, hsU, hBU, hMU⟩ := new_box 25 hm'
  rw [← hP] at hBU
  have Hq2 := Lib.hid (show Below U1.heap.size U1 U2 from bnext hb hbU)
  have HB2 := Lib.hid hBU; have HM2 := Lib.hid (hMU.imp (ok' := fun b => b < U2.heap.size) fun b hb => hb.2)
  have HU := Lib.hid hU.symm; have HP := Lib.hid hP.symm
  clear hm hb hm' hP hU hbU hsU hBU hMU c0 c1 c2 c3 lt
  try simp only
  go_upto_region 5 with fail
  rw [HU.out, HP.out]
  clear HU HP
  obtain ⟨c0, c1, c2, c3, _, _, _, _, lt⟩ := HB1.out.up Hq2.out HB1.out.lt
  have hmb := (HM1.out.up Hq2.out)
  have hd := refPin_any U2 (fun b => b < U2.heap.size) A1 Q1 a1 q1 x who (by omega) (by omega) (fun b h => h) hmb
  rw [Hrn.out] at hd
  have Hd := Lib.hid hd
  clear hd hmb
  go_wp2_with fail
  refine Hd.out.mono ?_
  clear Hd
  rintro e V3 ⟨A3, a3, Q3, q3, rfl, hm, hb⟩
  have hm' : HM V3 (fun b => b < V3.heap.size) r A3 a3 Q3 q3 := hm.imp fun b h => by have := hb.size; rcases h with h | h <;> omega
  obtain ⟨P3, hP⟩ : ∃ P, P = V3.heap.size := ⟨_, rfl⟩
  obtain ⟨U3, hU, hbU, hsU, hBU, hMU⟩ := new_box 29 hm'
  rw [← hP] at hBU
  have Hq3 := Lib.hid (show Below U2.heap.size U2 U3 from bnext hb hbU)
  have HB3 := Lib.hid hBU; have HM3 := Lib.hid (hMU.imp (ok' := fun b => b < U3.heap.size) fun b hb => hb.2)
  have HU := Lib.hid hU.symm; have HP := Lib.hid hP.symm
  clear hm hb hm' hP hU hbU hsU hBU hMU c0 c1 c2 c3 lt
  try simp only
  go_upto_region 6 with fail
  rw [HU.out, HP.out]
  clear HU HP
  obtain ⟨c0, c1, c2, c3, _, _, _, _, lt⟩ := HB0.out.up (bnext (bnext Hq1.out Hq2.out) Hq3.out) HB0.out.lt
  have hmb := (HM0.out.up (bnext (bnext Hq1.out Hq2.out) Hq3.out))
  have hd := unpin_any U3 (fun b => b < U3.heap.size) A0 Q0 a0 q0 x who (by omega) (by omega) (fun b h => h) hmb
  rw [Hsm.out] at hd
  have Hd := Lib.hid hd
  clear hd hmb
  go_wp2_with fail
  refine Hd.out.mono ?_
  clear Hd
  rintro e V4 ⟨A4, a4, Q4, q4, rfl, hm, hb⟩
  have hm' : HM V4 (fun b => b < V4.heap.size) s A4 a4 Q4 q4 := hm.imp fun b h => by have := hb.size; rcases h with h | h <;> omega
  obtain ⟨P4, hP⟩ : ∃ P, P = V4.heap.size := ⟨_, rfl⟩
  obtain ⟨U4, hU, hbU, hsU, hBU, hMU⟩ := new_box 25 hm'
  rw [← hP] at hBU
  have Hq4 := Lib.hid (show Below U3.heap.size U3 U4 from bnext hb hbU)
  have HB4 := Lib.hid hBU; have HM4 := Lib.hid (hMU.imp (ok' := fun b => b < U4.heap.size) fun b hb => hb.2)
  have HU := Lib.hid hU.symm; have HP := Lib.hid hP.symm
  clear hm hb hm' hP hU hbU hsU hBU hMU c0 c1 c2 c3 lt
  try simp only
  go_upto_region 7 with fail
  rw [HU.out, HP.out]
  clear HU HP
  obtain ⟨c0, c1, c2, c3, _, _, _, _, lt⟩ := HB1.out.up (bnext (bnext Hq2.out Hq3.out) Hq4.out) HB1.out.lt
  have hmb := (HM1.out.up (bnext (bnext Hq2.out Hq3.out) Hq4.out))
  have hd := refUnpin_any U4 (fun b => b < U4.heap.size) A1 Q1 a1 q1 x who (by omega) (by omega) (fun b h => h) hmb
  rw [Hsm.out] at hd
  have Hd := Lib.hid hd
  clear hd hmb
  go_wp2_with fail
  refine Hd.out.mono ?_
  clear Hd
  rintro e V5 ⟨A5, a5, Q5, q5, rfl, hm, hb⟩
  have hm' : HM V5 (fun b => b < V5.heap.size) s A5 a5 Q5 q5 := hm.imp fun b h => by have := hb.size; rcases h with h | h <;> omega
  obtain ⟨P5, hP⟩ : ∃ P, P = V5.heap.size := ⟨_, rfl⟩
  obtain ⟨U5, hU, hbU, hsU, hBU, hMU⟩ := new_box 29 hm'
  rw [← hP] at hBU
  have Hq5 := Lib.hid (show Below U4.heap.size U4 U5 from bnext hb hbU)
  have HB5 := Lib.hid hBU; have HM5 := Lib.hid (hMU.imp (ok' := fun b => b < U5.heap.size) fun b hb => hb.2)
  have HU := Lib.hid hU.symm; have HP := Lib.hid hP.symm
  clear hm hb hm' hP hU hbU hsU hBU hMU c0 c1 c2 c3 lt
  try simp only
  go_upto_region 8 with fail
  rw [HU.out, HP.out]
  clear HU HP
  obtain ⟨c0, c1, c2, c3, _, _, _, _, lt⟩ := HB2.out.up (bnext (bnext Hq3.out Hq4.out) Hq5.out) HB2.out.lt
  have hmb := (HM2.out.up (bnext (bnext Hq3.out Hq4.out) Hq5.out))
  have hd := refHere_any U5 A2 Q2 a2 q2 r (by rw [Hrl.out.1]; exact hl1) (by rw [Hrl.out.2]; exact hl2) hmb.c hmb.q
  have Hd := Lib.hid hd
  clear hd hmb
  go_wp2_with fail
  refine Hd.out.mono ?_
  clear Hd
  rintro e V6 ⟨A6, a6, Q6, q6, rfl, hm, hb⟩
  have hm' : HM V6 (fun b => b < V6.heap.size) r A6 a6 Q6 q6 := hm.imp fun b h => by have := hb.size; omega
  obtain ⟨P6, hP⟩ : ∃ P, P = V6.heap.size := ⟨_, rfl⟩
  obtain ⟨U6, hU, hbU, hsU, hBU, hMU⟩ := new_box 29 hm'
  rw [← hP] at hBU
  have Hq6 := Lib.hid (show Below U5.heap.size U5 U6 from bnext hb hbU)
  have HB6 := Lib.hid hBU; have HM6 := Lib.hid (hMU.imp (ok' := fun b => b < U6.heap.size) fun b hb => hb.2)
  have HU := Lib.hid hU.symm; have HP := Lib.hid hP.symm
  clear hm hb hm' hP hU hbU hsU hBU hMU c0 c1 c2 c3 lt
  try simp only
  go_upto_region 9 with fail
  rw [HU.out, HP.out]
  clear HU HP
  obtain ⟨c0, c1, c2, c3, _, _, _, _, lt⟩ := HB4.out.up (bnext Hq5.out Hq6.out) HB4.out.lt
  have hmb := (HM4.out.up (bnext Hq5.out Hq6.out))
  have hd := refHere_any U6 A4 Q4 a4 q4 s (by rw [Hsl.out.1]; exact hl1) (by rw [Hsl.out.2]; exact hl2) hmb.c hmb.q
  have Hd := Lib.hid hd
  clear hd hmb
  go_wp2_with fail
  refine Hd.out.mono ?_
  clear Hd
  rintro e V7 ⟨A7, a7, Q7, q7, rfl, hm, hb⟩
  have hm' : HM V7 (fun b => b < V7.heap.size) s A7 a7 Q7 q7 := hm.imp fun b h => by have := hb.size; omega
  obtain ⟨P7, hP⟩ : ∃ P, P = V7.heap.size := ⟨_, rfl⟩
  obtain ⟨U7, hU, hbU, hsU, hBU, hMU⟩ := new_box 29 hm'
  rw [← hP] at hBU
  have Hq7 := Lib.hid (show Below U6.heap.size U6 U7 from bnext hb hbU)
  have HB7 := Lib.hid hBU; have HM7 := Lib.hid (hMU.imp (ok' := fun b => b < U7.heap.size) fun b hb => hb.2)
  have HU := Lib.hid hU.symm; have HP := Lib.hid hP.symm
  clear hm hb hm' hP hU hbU hsU hBU hMU c0 c1 c2 c3 lt
  try simp only
  go_upto_region 10 with fail
  rw [HU.out, HP.out]
  clear HU HP
  have hm6 := HM6.out.up Hq7.out
  have hm3 := HM3.out.up (bnext (bnext (bnext Hq4.out Hq5.out) Hq6.out) Hq7.out)
  have hd := refSame_any U7 A6 Q6 a6 q6 A3 Q3 a3 q3 r (by rw [Hrl.out.1]; omega) (by rw [Hrl.out.2]; omega) hm6.c hm6.q hm3.c hm3.q
  have Hd := Lib.hid hd
  clear hd hm6 hm3
  obtain ⟨c0, c1, c2, c3, _, _, _, _, lt⟩ := HB6.out.up Hq7.out HB6.out.lt
  obtain ⟨d0, d1, d2, d3, _, _, _, _, lt2⟩ := HB3.out.up (bnext (bnext (bnext Hq4.out Hq5.out) Hq6.out) Hq7.out) HB3.out.lt
  go_wp2_with fail
  refine Hd.out.mono ?_
  clear Hd
  rintro e V8 ⟨rfl, hb8⟩
  have Hq8 := Lib.hid hb8
  clear hb8 c0 c1 c2 c3 lt d0 d1 d2 d3 lt2
  have hm7 := HM7.out.up Hq8.out
  have hm5 := HM5.out.up (bnext (bnext Hq6.out Hq7.out) Hq8.out)
  have hd := refSame_any V8 A7 Q7 a7 q7 A5 Q5 a5 q5 s (by rw [Hsl.out.1]; omega) (by rw [Hsl.out.2]; omega) hm7.c hm7.q hm5.c hm5.q
  have Hd := Lib.hid hd
  clear hd hm7 hm5
  obtain ⟨c0, c1, c2, c3, _, _, _, _, lt⟩ := HB7.out.up Hq8.out HB7.out.lt
  obtain ⟨d0, d1, d2, d3, _, _, _, _, lt2⟩ := HB5.out.up (bnext (bnext Hq6.out Hq7.out) Hq8.out) HB5.out.lt
  go_wp2_with fail
  refine Hd.out.mono ?_
  clear Hd
  rintro e V9 ⟨rfl, hb9⟩
  have Hq9 := Lib.hid hb9
  clear hb9 c0 c1 c2 c3 lt d0 d1 d2 d3 lt2
  go_wp2_with fail
  refine (awake_any V9).mono ?_
  rintro e V10 ⟨rfl, hb10⟩
  have Hq10 := Lib.hid hb10
  clear hb10
  go_wp2_with fail
  go_ret
  exact ⟨rfl, bnext Hb0.out (bnext (bnext (bnext (bnext (bnext (bnext (bnext (bnext (bnext Hq1.out Hq2.out) Hq3.out) Hq4.out) Hq5.out) Hq6.out) Hq7.out) Hq8.out) Hq9.out) Hq10.out)⟩
end Go.Proofs.Ythhfhgkkfaghoaa
