/- The law AdmitComes, walked. -/
import Derived.Test.YthhfhgkkfaghoaaRef10
import Derived.Test.YthhfhgkkfaghoaaBackP
import Derived.Test.YthhfhgkkfaghoaaEqual
import Derived.Deep.DeepCutAuto
namespace Go.Proofs.Ythhfhgkkfaghoaa
open Go.RowKit

theorem begin_came {x : Hall} (who claim : Int) : (beginM x who claim).2.1 = [] ∨ (beginM x who claim).2.1 = [who] := by
  rw [beginM]
  split
  · exact .inl rfl
  rename_i hr
  split
  · exact .inl rfl
  split
  · exact .inl rfl
  split
  · exact .inl rfl
  have hxr : x.right = true := by
    cases h : x.right with
    | true => rfl
    | false => exact absurd (.inl h) hr
  obtain ⟨hp, ho⟩ := right_pre.1 hxr
  show (letIn x.frames x.cs (x.q ++ [⟨who, claim⟩])).2.2 = [] ∨ _
  cases hop : openQ x.frames x.cs (x.q ++ [⟨who, claim⟩]) with
  | false => rw [letIn_shut hop.symm]; exact .inl rfl
  | true =>
    have hq : x.q = [] := by
      cases hq : x.q with
      | nil => rfl
      | cons t q =>
        rw [hq] at hop
        have : openQ x.frames x.cs (t :: q) = true := hop
        rw [← hq] at this
        rw [Hall.open] at ho
        rw [ho] at this
        cases this
    rw [hq] at hop
    have e : (letIn x.frames x.cs (([] : List T) ++ [⟨who, claim⟩])).2.2 = [who] := by rw [List.nil_append, letIn_cons hop.symm]; rfl
    rw [hq]
    exact .inr e
theorem begin_lens {x : Hall} (who claim : Int) (h1 : x.cs.length ≤ 40) (h2 : x.q.length ≤ 60) : (beginM x who claim).1.cs.length ≤ 40 ∧ (beginM x who claim).1.q.length ≤ 60 := by
  cases hr : x.right with
  | true => have := (heads_iff.1 (right_pre.1 (begin_right hr who claim)).1.heads).2.2.2.2; omega
  | false => rw [beginM, if_pos (.inl hr)]; exact ⟨h1, h2⟩
theorem end_lens {x : Hall} (who : Int) (h1 : x.cs.length ≤ 40) (h2 : x.q.length ≤ 60) : (endM x who).1.cs.length ≤ 40 ∧ (endM x who).1.q.length ≤ 60 := by
  cases hr : x.right with
  | true => have := (heads_iff.1 (right_pre.1 (end_right hr who)).1.heads).2.2.2.2; omega
  | false => rw [endM, if_pos hr]; exact ⟨h1, h2⟩
theorem end_came {x : Hall} (who : Int) (h2 : x.q.length ≤ 60) : (endM x who).2.1.length ≤ 60 := by
  rw [endM]
  split
  · simp
  split
  · simp
  · have := (letIn_len x.frames (goneT x.q who) (goneC x.cs who)).1
    have h3 : (goneT x.q who).length ≤ x.q.length := List.length_filter_le _ _
    show (letIn x.frames (goneC x.cs who) (goneT x.q who)).2.2.length ≤ 60
    omega

set_option maxRecDepth 20000 in
set_option maxHeartbeats 8000000 in
theorem lawComes (w : World) (A0 Q0 : Option Addr) (a0 q0 : Nat) (x : Hall) (who claim : Int) (hc : x.cs.length ≤ 9223372036854775807) (hq : x.q.length ≤ 9223372036854775807) (hm : HM w (fun b => b < w.heap.size) x A0 a0 Q0 q0) :
    Calls Try.prog 3 #[.agg #[.int .i64 x.frames, .int .i64 x.budget, .slice A0 x.cs.length a0, .slice Q0 x.q.length q0], .int .i64 who, .int .i64 claim] w fun e w' => e = .returned (.bool true) ∧ Below w.heap.size w w' := by
  obtain ⟨P0, hP0⟩ : ∃ P0, P0 = w.heap.size := ⟨_, rfl⟩
  obtain ⟨U0, hU0, hb0, hs0, hB0, hM0⟩ := new_box 25 hm
  rw [← hP0] at hB0
  have HU0 := Lib.hid hU0.symm; have HP0 := Lib.hid hP0.symm
  have Hb0 := Lib.hid hb0; have HB0 := Lib.hid hB0
  have HM0 := Lib.hid (hM0.imp (ok' := fun b => b < U0.heap.size) fun b hb => hb.2)
  clear hP0 hU0 hb0 hs0 hB0 hM0 hm
  go_enter Try.func3, Try.ntmps3
  go_upto_region 1 with fail
  rw [HU0.out, HP0.out]
  obtain ⟨c0, c1, c2, c3, _, _, _, _, lt⟩ := HB0.out
  by_cases hlen : x.cs.length ≤ 40 ∧ x.q.length ≤ 60
  case neg =>
    have Hlen := Lib.hid hlen
    clear hlen
    go_wp2_with fail
    refine (refLong_any U0 A0 Q0 a0 q0 x Hlen.out).mono ?_
    rintro e V ⟨rfl, hb⟩
    have Hb := Lib.hid hb
    clear hb c0 c1 c2 c3
    try simp only
    go_wp2_with fail
    refine (awake_any _).mono ?_
    rintro e V2 ⟨rfl, hb2⟩
    go_wp2_with fail
    go_ret
    exact ⟨rfl, bnext ((bnext Hb0.out Hb.out).alloc (bnext Hb0.out Hb.out).size _) hb2⟩
  obtain ⟨hl1, hl2⟩ := hlen
  have hbc := begin_came (x := x) who claim
  have hbl := begin_lens (x := x) who claim hl1 hl2
  have hel := end_lens (x := x) who hl1 hl2
  have hec := end_came (x := x) who hl2
  obtain ⟨r, came, n, hrn⟩ : ∃ r came n, beginM x who claim = (r, came, n) := ⟨_, _, _, rfl⟩
  obtain ⟨s, gone, m, hsm⟩ : ∃ s gone m, endM x who = (s, gone, m) := ⟨_, _, _, rfl⟩
  rw [hrn] at hbc hbl
  rw [hsm] at hel hec
  simp only at hbc hbl hel hec
  obtain ⟨hrl1, hrl2⟩ := hbl
  obtain ⟨hsl1, hsl2⟩ := hel
  obtain ⟨cb, hcb⟩ : ∃ cb, came.contains who = cb := ⟨_, rfl⟩
  have Hcb := Lib.hid (show (cb = true ∧ came = [who]) ∨ (cb = false ∧ came = []) by
    rcases hbc with h | h
    · rw [h] at hcb; exact .inr ⟨by rw [← hcb]; rfl, h⟩
    · rw [h] at hcb; exact .inl ⟨by rw [← hcb]; simp, h⟩)
  have Hrn := Lib.hid hrn; have Hsm := Lib.hid hsm; have Hcbv := Lib.hid hcb
  clear hrn hsm hbc hcb
  have hmb := HM0.out
  have hd := refHere_any U0 A0 Q0 a0 q0 x hl1 hl2 hmb.c hmb.q
  have Hd := Lib.hid hd
  clear hd hmb
  go_wp2_with fail
  refine Hd.out.mono ?_
  clear Hd
  rintro e V1 ⟨A1, a1, Q1, q1, rfl, hm, hb⟩
  have hm' : HM V1 (fun b => b < V1.heap.size) x A1 a1 Q1 q1 := hm.imp fun b h => by have := hb.size; omega
  obtain ⟨P1, hP⟩ : ∃ P, P = V1.heap.size := ⟨_, rfl⟩
  obtain ⟨U1, hU, hbU, hsU, hBU, hMU⟩ := new_box 29 hm'
  rw [← hP] at hBU
  have Hq1 := Lib.hid (show Below U0.heap.size U0 U1 from bnext hb hbU)
  have HB1 := Lib.hid hBU; have HM1 := Lib.hid (hMU.imp (ok' := fun b => b < U1.heap.size) fun b hb => hb.2)
  have HU := Lib.hid hU.symm; have HP := Lib.hid hP.symm
  clear hm hb hm' hP hU hbU hsU hBU hMU c0 c1 c2 c3 lt
  try simp only
  go_upto_region 4 with fail
  rw [HU.out, HP.out]
  clear HU HP
  obtain ⟨c0, c1, c2, c3, _, _, _, _, lt⟩ := HB0.out.up Hq1.out HB0.out.lt
  have hmb := (HM0.out.up Hq1.out)
  have hd := begin_any U1 (fun b => b < U1.heap.size) A0 Q0 a0 q0 x who claim (by omega) (by omega) (fun b h => h) hmb
  rw [Hrn.out] at hd
  simp only [Hcbv.out] at hd
  have Hd := Lib.hid hd
  clear hd hmb
  go_wp2_with fail
  refine Hd.out.mono ?_
  clear Hd
  rintro e V2 ⟨A2, a2, Q2, q2, rfl, hm, hb⟩
  have hm' : HM V2 (fun b => b < V2.heap.size) r A2 a2 Q2 q2 := hm.imp fun b h => by have := hb.size; rcases h with h | h <;> omega
  obtain ⟨P2, hP⟩ : ∃ P, P = V2.heap.size := ⟨_, rfl⟩
  obtain ⟨U2, hU, hbU, hsU, hBU, hMU⟩ := new_box 25 hm'
  rw [← hP] at hBU
  have Hq2 := Lib.hid (show Below U1.heap.size U1 U2 from bnext hb hbU)
  have HB2 := Lib.hid hBU; have HM2 := Lib.hid (hMU.imp (ok' := fun b => b < U2.heap.size) fun b hb => hb.2)
  have HU := Lib.hid hU.symm; have HP := Lib.hid hP.symm
  clear hm hb hm' hP hU hbU hsU hBU hMU c0 c1 c2 c3 lt
  try simp only
  go_upto_region 5 with fail
  rw [HU.out, HP.out]
  clear HU HP
  obtain ⟨c0, c1, c2, c3, _, _, _, _, lt⟩ := HB1.out.up Hq2.out HB1.out.lt
  have hmb := (HM1.out.up Hq2.out)
  have hd := refBegin_any U2 (fun b => b < U2.heap.size) A1 Q1 a1 q1 x who claim (by omega) (by omega) (fun b h => h) hmb
  rw [Hrn.out] at hd
  have Hd := Lib.hid hd
  clear hd hmb
  go_wp2_with fail
  refine Hd.out.mono ?_
  clear Hd
  rintro e V3 ⟨A3, a3, Q3, q3, I3, i3, rfl, hm, hi, hb⟩
  have hm' : HM V3 (fun b => b < V3.heap.size) r A3 a3 Q3 q3 := hm.imp fun b h => by have := hb.size; rcases h with h | h <;> omega
  obtain ⟨P3, hP⟩ : ∃ P, P = V3.heap.size := ⟨_, rfl⟩
  obtain ⟨U3, hU, hbU, hsU, hBU, hMU⟩ := new_box 29 hm'
  rw [← hP] at hBU
  have Hq3 := Lib.hid (show Below U2.heap.size U2 U3 from bnext hb hbU)
  have HB3 := Lib.hid hBU; have HM3 := Lib.hid (hMU.imp (ok' := fun b => b < U3.heap.size) fun b hb => hb.2)
  have HI3 := Lib.hid ((hi.to (B := V3.heap.size) fun b hb => hb.2).up hbU)
  clear hi
  have HU := Lib.hid hU.symm; have HP := Lib.hid hP.symm
  clear hm hb hm' hP hU hbU hsU hBU hMU c0 c1 c2 c3 lt
  try simp only
  go_upto_region 6 with fail
  rw [HU.out, HP.out]
  clear HU HP
  obtain ⟨c0, c1, c2, c3, _, _, _, _, lt⟩ := HB0.out.up (bnext (bnext Hq1.out Hq2.out) Hq3.out) HB0.out.lt
  have hmb := (HM0.out.up (bnext (bnext Hq1.out Hq2.out) Hq3.out))
  have hd := end_any U3 (fun b => b < U3.heap.size) A0 Q0 a0 q0 x who (by omega) (by omega) (fun b h => h) hmb
  rw [Hsm.out] at hd
  have Hd := Lib.hid hd
  clear hd hmb
  go_wp2_with fail
  refine Hd.out.mono ?_
  clear Hd
  rintro e V4 ⟨A4, a4, Q4, q4, I4, i4, rfl, hm, hi, hb⟩
  have hm' : HM V4 (fun b => b < V4.heap.size) s A4 a4 Q4 q4 := hm.imp fun b h => by have := hb.size; rcases h with h | h <;> omega
  obtain ⟨P4, hP⟩ : ∃ P, P = V4.heap.size := ⟨_, rfl⟩
  obtain ⟨U4, hU, hbU, hsU, hBU, hMU⟩ := new_box 25 hm'
  rw [← hP] at hBU
  have Hq4 := Lib.hid (show Below U3.heap.size U3 U4 from bnext hb hbU)
  have HB4 := Lib.hid hBU; have HM4 := Lib.hid (hMU.imp (ok' := fun b => b < U4.heap.size) fun b hb => hb.2)
  have HI4 := Lib.hid ((hi.to (B := V4.heap.size) fun b hb => hb.2).up hbU)
  clear hi
  have HU := Lib.hid hU.symm; have HP := Lib.hid hP.symm
  clear hm hb hm' hP hU hbU hsU hBU hMU c0 c1 c2 c3 lt
  try simp only
  go_upto_region 7 with fail
  rw [HU.out, HP.out]
  clear HU HP
  obtain ⟨c0, c1, c2, c3, _, _, _, _, lt⟩ := HB1.out.up (bnext (bnext Hq2.out Hq3.out) Hq4.out) HB1.out.lt
  have hmb := (HM1.out.up (bnext (bnext Hq2.out Hq3.out) Hq4.out))
  have hd := refEnd_any U4 (fun b => b < U4.heap.size) A1 Q1 a1 q1 x who (by omega) (by omega) (fun b h => h) hmb
  rw [Hsm.out] at hd
  have Hd := Lib.hid hd
  clear hd hmb
  go_wp2_with fail
  refine Hd.out.mono ?_
  clear Hd
  rintro e V5 ⟨A5, a5, Q5, q5, I5, i5, rfl, hm, hi, hb⟩
  have hm' : HM V5 (fun b => b < V5.heap.size) s A5 a5 Q5 q5 := hm.imp fun b h => by have := hb.size; rcases h with h | h <;> omega
  obtain ⟨P5, hP⟩ : ∃ P, P = V5.heap.size := ⟨_, rfl⟩
  obtain ⟨U5, hU, hbU, hsU, hBU, hMU⟩ := new_box 29 hm'
  rw [← hP] at hBU
  have Hq5 := Lib.hid (show Below U4.heap.size U4 U5 from bnext hb hbU)
  have HB5 := Lib.hid hBU; have HM5 := Lib.hid (hMU.imp (ok' := fun b => b < U5.heap.size) fun b hb => hb.2)
  have HI5 := Lib.hid ((hi.to (B := V5.heap.size) fun b hb => hb.2).up hbU)
  clear hi
  have HU := Lib.hid hU.symm; have HP := Lib.hid hP.symm
  clear hm hb hm' hP hU hbU hsU hBU hMU c0 c1 c2 c3 lt
  try simp only
  go_upto_region 8 with fail
  rw [HU.out, HP.out]
  clear HU HP
  obtain ⟨c0, c1, c2, c3, _, _, _, _, lt⟩ := HB2.out.up (bnext (bnext Hq3.out Hq4.out) Hq5.out) HB2.out.lt
  have hmb := (HM2.out.up (bnext (bnext Hq3.out Hq4.out) Hq5.out))
  have hd := refHere_any U5 A2 Q2 a2 q2 r hrl1 hrl2 hmb.c hmb.q
  have Hd := Lib.hid hd
  clear hd hmb
  go_wp2_with fail
  refine Hd.out.mono ?_
  clear Hd
  rintro e V6 ⟨A6, a6, Q6, q6, rfl, hm, hb⟩
  have hm' : HM V6 (fun b => b < V6.heap.size) r A6 a6 Q6 q6 := hm.imp fun b h => by have := hb.size; omega
  obtain ⟨P6, hP⟩ : ∃ P, P = V6.heap.size := ⟨_, rfl⟩
  obtain ⟨U6, hU, hbU, hsU, hBU, hMU⟩ := new_box 29 hm'
  rw [← hP] at hBU
  have Hq6 := Lib.hid (show Below U5.heap.size U5 U6 from bnext hb hbU)
  have HB6 := Lib.hid hBU; have HM6 := Lib.hid (hMU.imp (ok' := fun b => b < U6.heap.size) fun b hb => hb.2)
  have HU := Lib.hid hU.symm; have HP := Lib.hid hP.symm
  clear hm hb hm' hP hU hbU hsU hBU hMU c0 c1 c2 c3 lt
  try simp only
  go_upto_region 9 with fail
  rw [HU.out, HP.out]
  clear HU HP
  obtain ⟨c0, c1, c2, c3, _, _, _, _, lt⟩ := HB4.out.up (bnext Hq5.out Hq6.out) HB4.out.lt
  have hmb := (HM4.out.up (bnext Hq5.out Hq6.out))
  have hd := refHere_any U6 A4 Q4 a4 q4 s hsl1 hsl2 hmb.c hmb.q
  have Hd := Lib.hid hd
  clear hd hmb
  go_wp2_with fail
  refine Hd.out.mono ?_
  clear Hd
  rintro e V7 ⟨A7, a7, Q7, q7, rfl, hm, hb⟩
  have hm' : HM V7 (fun b => b < V7.heap.size) s A7 a7 Q7 q7 := hm.imp fun b h => by have := hb.size; omega
  obtain ⟨P7, hP⟩ : ∃ P, P = V7.heap.size := ⟨_, rfl⟩
  obtain ⟨U7, hU, hbU, hsU, hBU, hMU⟩ := new_box 29 hm'
  rw [← hP] at hBU
  have Hq7 := Lib.hid (show Below U6.heap.size U6 U7 from bnext hb hbU)
  have HB7 := Lib.hid hBU; have HM7 := Lib.hid (hMU.imp (ok' := fun b => b < U7.heap.size) fun b hb => hb.2)
  have HU := Lib.hid hU.symm; have HP := Lib.hid hP.symm
  clear hm hb hm' hP hU hbU hsU hBU hMU c0 c1 c2 c3 lt
  try simp only
  go_upto_region 10 with fail
  rw [HU.out, HP.out]
  clear HU HP
  have hd := refHall_any U7 A1 Q1 a1 q1 x (by omega) (by omega) (HM1.out.up (bnext (bnext (bnext (bnext (bnext Hq2.out Hq3.out) Hq4.out) Hq5.out) Hq6.out) Hq7.out)).c (HM1.out.up (bnext (bnext (bnext (bnext (bnext Hq2.out Hq3.out) Hq4.out) Hq5.out) Hq6.out) Hq7.out)).q
  obtain ⟨rt, hrt⟩ : ∃ rt, rt = x.right := ⟨_, rfl⟩
  obtain ⟨fr, hfr⟩ : ∃ fr, fr = if x.right = true then x.left else 0 := ⟨_, rfl⟩
  rw [← hrt] at hd
  have Hd := Lib.hid hd; have Hrt := Lib.hid hrt; have Hfr := Lib.hid hfr
  clear hd hrt hfr
  obtain ⟨c0, c1, c2, c3, _, _, _, _, lt⟩ := HB1.out.up (bnext (bnext (bnext (bnext (bnext Hq2.out Hq3.out) Hq4.out) Hq5.out) Hq6.out) Hq7.out) HB1.out.lt
  go_wp2_with fail
  refine Hd.out.mono ?_
  clear Hd
  rintro e V8 ⟨rfl, hb8⟩
  have Hq8 := Lib.hid hb8
  clear hb8 c0 c1 c2 c3 lt
  go_upto_if 75 with fail
  go_cut [25] (fun s25 wx => s25 = .int .i64 fr ∧ Below V8.heap.size V8 wx)
  case first =>
    cases rt with
    | false =>
      have hfr0 : fr = 0 := by rw [Hfr.out, ← Hrt.out]; rfl
      have Hfr0 := Lib.hid hfr0
      clear hfr0
      go_wp2_with fail
      go_meet
      exact ⟨by rw [Hfr0.out], Below.refl _ _⟩
    | true =>
      have hp := (right_pre.1 Hrt.out.symm).1
      have hl0 := hp.left
      have hl8 := left_le hp.cs hp.heads
      have hfl : fr = x.left := by rw [Hfr.out, ← Hrt.out]; rfl
      obtain ⟨hd, hhd⟩ : ∃ hd, hd = heldS x.cs := ⟨_, rfl⟩
      have hll : x.left = x.frames - hd := by rw [hhd]; rfl
      have ew : IntKind.i64.wrap (x.frames - hd) = fr := by rw [IntWalk.i64_in _ (by omega), hfl, hll]
      obtain ⟨c0, c1, c2, c3, _, _, _, _, lt⟩ := HB1.out.up (bnext (bnext (bnext (bnext (bnext (bnext Hq2.out Hq3.out) Hq4.out) Hq5.out) Hq6.out) Hq7.out) Hq8.out) HB1.out.lt
      have n0 := bw_cell c0 lt; have n1 := bw_cell c1 lt; have n2 := bw_cell c2 lt; have n3 := bw_cell c3 lt
      have Hh := Lib.hid (show ∀ y : BW V8, Calls Try.prog 16 #[.agg #[.int .i64 x.frames, .int .i64 x.budget, .slice A1 x.cs.length a1, .slice Q1 x.q.length q1]] y.w fun e w' => e = .returned (.int .i64 hd) ∧ Below y.w.heap.size y.w w' from fun y => by
        rw [hhd]
        exact refHeld_any y.w A1 Q1 a1 q1 x (by omega) (smallC_of hp.cs) ((HM1.out.up (bnext (bnext (bnext (bnext (bnext (bnext Hq2.out Hq3.out) Hq4.out) Hq5.out) Hq6.out) Hq7.out) Hq8.out)).up y.below).c)
      clear hp hl0 hl8 hfl hhd hll c0 c1 c2 c3
      go_upto_region 12 with fail
      refine wp_region_bw (by kernel_rfl) (by kernel_rfl) ?_
      repeat (go_big_quiet_step (exact call_bw (Hh.out _)))
      refine wpQuiet_nil (bw_nil fun V9 hV => ?_)
      have HV := Lib.hid hV
      clear hV
      go_wp2_with fail
      go_meet
      exact ⟨rfl, HV.out⟩
  case rest =>
    obtain ⟨rfl, hb9⟩ := hcut
    obtain ⟨V9, rfl⟩ : ∃ V9, V9 = wc := ⟨_, rfl⟩
    have Hq9 := Lib.hid hb9
    clear hb9
    obtain ⟨c0, c1, c2, c3, _, _, _, _, lt0⟩ := HB0.out.up (bnext (bnext (bnext (bnext (bnext (bnext (bnext (bnext Hq1.out Hq2.out) Hq3.out) Hq4.out) Hq5.out) Hq6.out) Hq7.out) Hq8.out) Hq9.out) HB0.out.lt
    have k0 := bw_cell c0 lt0
    have k1 := bw_cell c1 lt0
    have k2 := bw_cell c2 lt0
    have k3 := bw_cell c3 lt0
    clear c0 c1 c2 c3
    obtain ⟨c0, c1, c2, c3, _, _, _, _, lt1⟩ := HB1.out.up (bnext (bnext (bnext (bnext (bnext (bnext (bnext Hq2.out Hq3.out) Hq4.out) Hq5.out) Hq6.out) Hq7.out) Hq8.out) Hq9.out) HB1.out.lt
    have n0 := bw_cell c0 lt1
    have n1 := bw_cell c1 lt1
    have n2 := bw_cell c2 lt1
    have n3 := bw_cell c3 lt1
    clear c0 c1 c2 c3
    obtain ⟨c0, c1, c2, c3, _, _, _, _, lt3⟩ := HB3.out.up (bnext (bnext (bnext (bnext (bnext Hq4.out Hq5.out) Hq6.out) Hq7.out) Hq8.out) Hq9.out) HB3.out.lt
    have o0 := bw_cell c0 lt3
    have o1 := bw_cell c1 lt3
    have o2 := bw_cell c2 lt3
    have o3 := bw_cell c3 lt3
    clear c0 c1 c2 c3
    obtain ⟨c0, c1, c2, c3, _, _, _, _, lt5⟩ := HB5.out.up (bnext (bnext (bnext Hq6.out Hq7.out) Hq8.out) Hq9.out) HB5.out.lt
    have p0 := bw_cell c0 lt5
    have p1 := bw_cell c1 lt5
    have p2 := bw_cell c2 lt5
    have p3 := bw_cell c3 lt5
    clear c0 c1 c2 c3
    obtain ⟨c0, c1, c2, c3, _, _, _, _, lt6⟩ := HB6.out.up (bnext (bnext Hq7.out Hq8.out) Hq9.out) HB6.out.lt
    have r0 := bw_cell c0 lt6
    have r1 := bw_cell c1 lt6
    have r2 := bw_cell c2 lt6
    have r3 := bw_cell c3 lt6
    clear c0 c1 c2 c3
    obtain ⟨c0, c1, c2, c3, _, _, _, _, lt7⟩ := HB7.out.up (bnext Hq8.out Hq9.out) HB7.out.lt
    have s0 := bw_cell c0 lt7
    have s1 := bw_cell c1 lt7
    have s2 := bw_cell c2 lt7
    have s3 := bw_cell c3 lt7
    clear c0 c1 c2 c3
    have hsm1 : ∀ y : BW V9, Calls Try.prog 17 #[.agg #[.int .i64 r.frames, .int .i64 r.budget, .slice A6 r.cs.length a6, .slice Q6 r.q.length q6], .agg #[.int .i64 r.frames, .int .i64 r.budget, .slice A3 r.cs.length a3, .slice Q3 r.q.length q3]] y.w fun e w' => e = .returned (.bool true) ∧ Below y.w.heap.size y.w w' := fun y => refSame_any y.w A6 Q6 a6 q6 A3 Q3 a3 q3 r (by omega) (by omega) ((HM6.out.up (bnext (bnext Hq7.out Hq8.out) Hq9.out)).up y.below).c ((HM6.out.up (bnext (bnext Hq7.out Hq8.out) Hq9.out)).up y.below).q ((HM3.out.up (bnext (bnext (bnext (bnext (bnext Hq4.out Hq5.out) Hq6.out) Hq7.out) Hq8.out) Hq9.out)).up y.below).c ((HM3.out.up (bnext (bnext (bnext (bnext (bnext Hq4.out Hq5.out) Hq6.out) Hq7.out) Hq8.out) Hq9.out)).up y.below).q
    have hsm2 : ∀ y : BW V9, Calls Try.prog 17 #[.agg #[.int .i64 s.frames, .int .i64 s.budget, .slice A7 s.cs.length a7, .slice Q7 s.q.length q7], .agg #[.int .i64 s.frames, .int .i64 s.budget, .slice A5 s.cs.length a5, .slice Q5 s.q.length q5]] y.w fun e w' => e = .returned (.bool true) ∧ Below y.w.heap.size y.w w' := fun y => refSame_any y.w A7 Q7 a7 q7 A5 Q5 a5 q5 s (by omega) (by omega) ((HM7.out.up (bnext Hq8.out Hq9.out)).up y.below).c ((HM7.out.up (bnext Hq8.out Hq9.out)).up y.below).q ((HM5.out.up (bnext (bnext (bnext Hq6.out Hq7.out) Hq8.out) Hq9.out)).up y.below).c ((HM5.out.up (bnext (bnext (bnext Hq6.out Hq7.out) Hq8.out) Hq9.out)).up y.below).q
    have heq : ∀ y : BW V9, Calls Try.prog 18 #[.slice I4 gone.length i4, .slice I5 gone.length i5] y.w fun e w' => e = .returned (.bool true) ∧ Below y.w.heap.size y.w w' := fun y => by
      have h := equal_any y.w I4 I5 i4 i5 gone gone (by omega) (HI4.out.up (bnext (bnext (bnext (bnext (bnext Hq5.out Hq6.out) Hq7.out) Hq8.out) Hq9.out) y.below)) (HI5.out.up (bnext (bnext (bnext (bnext Hq6.out Hq7.out) Hq8.out) Hq9.out) y.below))
      rwa [show decide (gone = gone) = true from decide_eq_true rfl] at h
    have hr1 : ∀ y : BW V9, Calls Try.prog 19 #[.agg #[.int .i64 x.frames, .int .i64 x.budget, .slice A0 x.cs.length a0, .slice Q0 x.q.length q0]] y.w fun e w' => e = .returned (.bool rt) ∧ Below y.w.heap.size y.w w' := fun y => by rw [Hrt.out]; exact hallRight_any y.w A0 Q0 a0 q0 x (by omega) (by omega) ((HM0.out.up (bnext (bnext (bnext (bnext (bnext (bnext (bnext (bnext Hq1.out Hq2.out) Hq3.out) Hq4.out) Hq5.out) Hq6.out) Hq7.out) Hq8.out) Hq9.out)).up y.below)
    have hr2 : ∀ y : BW V9, Calls Try.prog 15 #[.agg #[.int .i64 x.frames, .int .i64 x.budget, .slice A1 x.cs.length a1, .slice Q1 x.q.length q1]] y.w fun e w' => e = .returned (.bool rt) ∧ Below y.w.heap.size y.w w' := fun y => by rw [Hrt.out]; exact refHall_any y.w A1 Q1 a1 q1 x (by omega) (by omega) ((HM1.out.up (bnext (bnext (bnext (bnext (bnext (bnext (bnext Hq2.out Hq3.out) Hq4.out) Hq5.out) Hq6.out) Hq7.out) Hq8.out) Hq9.out)).up y.below).c ((HM1.out.up (bnext (bnext (bnext (bnext (bnext (bnext (bnext Hq2.out Hq3.out) Hq4.out) Hq5.out) Hq6.out) Hq7.out) Hq8.out) Hq9.out)).up y.below).q
    have hfe : ∀ y : BW V9, Calls Try.prog 20 #[.agg #[.int .i64 x.frames, .int .i64 x.budget, .slice A0 x.cs.length a0, .slice Q0 x.q.length q0]] y.w fun e w' => e = .returned (.int .i64 fr) ∧ Below y.w.heap.size y.w w' := fun y => by rw [Hfr.out]; exact free_any y.w A0 Q0 a0 q0 x (by omega) (by omega) ((HM0.out.up (bnext (bnext (bnext (bnext (bnext (bnext (bnext (bnext Hq1.out Hq2.out) Hq3.out) Hq4.out) Hq5.out) Hq6.out) Hq7.out) Hq8.out) Hq9.out)).up y.below)
    have H1 := Lib.hid hsm1; have H2 := Lib.hid hsm2; have H3 := Lib.hid heq; have H4 := Lib.hid hr1; have H5 := Lib.hid hr2; have H6 := Lib.hid hfe
    clear hsm1 hsm2 heq hr1 hr2 hfe
    have hrr : (rt == rt) = true := by simp
    have hff : (fr == fr) = true := by simp
    have hnn : (n == n) = true := by simp
    have hmm : (m == m) = true := by simp
    rcases Hcb.out with ⟨rfl, rfl⟩ | ⟨rfl, rfl⟩
    all_goals
      simp only [List.length_cons, List.length_nil, Nat.zero_add]
      go_upto_region 13 with fail
      refine wp_region_bw (by kernel_rfl) (by kernel_rfl) ?_
      repeat (go_big_quiet_step (first | (go_at_call 17; first | (with_reducible exact call_bw (H1.out _)) | (with_reducible exact call_bw (H2.out _))) | (go_at_call 18; exact call_bw (H3.out _)) | (go_at_call 19; exact call_bw (H4.out _)) | (go_at_call 15; exact call_bw (H5.out _)) | (go_at_call 20; exact call_bw (H6.out _)) | (go_at_call 10; exact call_bw (awake_any _))))
      with_reducible refine wpQuiet_nil (bw_nil fun V10 hV => ?_)
      have Hq10 := Lib.hid hV
      clear hV
      go_wp2_with fail
      go_ret
      exact ⟨rfl, bnext Hb0.out (bnext (bnext (bnext (bnext (bnext (bnext (bnext (bnext (bnext Hq1.out Hq2.out) Hq3.out) Hq4.out) Hq5.out) Hq6.out) Hq7.out) Hq8.out) Hq9.out) Hq10.out)⟩
end Go.Proofs.Ythhfhgkkfaghoaa
