/- The law LatchExact, walked. -/
import Derived.Test.YtigffndobddflaaLR7
import Derived.Test.YtigffndobddflaaEqualI
namespace Go.Proofs.Ytigffndobddflaa
open Go.RowKit

theorem cntL_zero (x : La) (who : Int) : cntL x who = 0 ↔ x.hs.contains who = false ∧ inW x.q who = false := by
  rw [cntL, cntH, cntW, inW, Nat.add_eq_zero_iff, List.countP_eq_zero, List.countP_eq_zero, List.any_eq_false]
  constructor
  · rintro ⟨h1, h2⟩
    refine ⟨?_, h2⟩
    rw [← Bool.not_eq_true, List.contains_iff_mem]
    intro h
    exact h1 _ h (by simp)
  · rintro ⟨h1, h2⟩
    refine ⟨fun a ha hc => ?_, h2⟩
    rw [← Bool.not_eq_true, List.contains_iff_mem] at h1
    simp only [decide_eq_true_eq] at hc
    exact h1 (hc ▸ ha)
theorem enter_came {x : La} (h : x.right = true) (who : Int) (ex : Bool) : (enterL { x with q := x.q ++ [⟨who, ex⟩] }).2 = [] ∨ (enterL { x with q := x.q ++ [⟨who, ex⟩] }).2 = [who] := by
  obtain ⟨hp, ho⟩ := la_pre.1 h
  show (letL x.hs x.ex (x.q ++ [⟨who, ex⟩])).2.2.2 = [] ∨ _
  cases hop : openW x.hs x.ex (x.q ++ [⟨who, ex⟩]) with
  | false => rw [letL_shut hop.symm]; exact .inl rfl
  | true =>
    have hq : x.q = [] := by
      cases hq : x.q with
      | nil => rfl
      | cons t q =>
        rw [hq] at hop
        have : openW x.hs x.ex (t :: q) = true := hop
        rw [← hq] at this
        rw [La.open] at ho
        rw [ho] at this
        cases this
    rw [hq] at hop
    have e : (letL x.hs x.ex (([] : List Wt) ++ [⟨who, ex⟩])).2.2.2 = [who] := by rw [List.nil_append, letL_cons hop.symm]; rfl
    rw [hq]
    exact .inr e
theorem exact_cases {x r s : La} {who n m : Int} {ex : Bool} {came gone : List Int} (h : askM x who ex = (r, came, n)) (h2 : dropM x who = (s, gone, m)) :
    (x.right = false ∧ x = r ∧ came = [] ∧ n = 1 ∧ x = s ∧ gone = [] ∧ m = 1) ∨
    (x.right = true ∧ (who < 0 ∨ 2147483647 < who) ∧ cntL x who = 0 ∧ x = r ∧ came = [] ∧ n = 1 ∧ x = s ∧ gone = [] ∧ m = 3) ∨
    (x.right = true ∧ ¬ who < 0 ∧ ¬ 2147483647 < who ∧ 0 < cntL x who ∧ x = r ∧ came = [] ∧ n = 4 ∧ enterL (lessL x who) = (s, gone) ∧ m = 0) ∨
    (x.right = true ∧ ¬ who < 0 ∧ ¬ 2147483647 < who ∧ cntL x who = 0 ∧ x.hs.length + x.q.length = 64 ∧ x = r ∧ came = [] ∧ n = 7 ∧ x = s ∧ gone = [] ∧ m = 3) ∨
    (x.right = true ∧ ¬ who < 0 ∧ ¬ 2147483647 < who ∧ cntL x who = 0 ∧ x.hs.length + x.q.length ≠ 64 ∧ enterL { x with q := x.q ++ [⟨who, ex⟩] } = (r, came) ∧ (came = [] ∨ came = [who]) ∧ n = 0 ∧ x = s ∧ gone = [] ∧ m = 3) := by
  rw [askM] at h
  rw [dropM] at h2
  cases hr : x.right with
  | false =>
    rw [hr] at h h2
    simp only [true_or, if_true, Prod.mk.injEq] at h h2
    obtain ⟨rfl, rfl, rfl⟩ := h
    obtain ⟨rfl, rfl, rfl⟩ := h2
    exact .inl ⟨rfl, rfl, rfl, rfl, rfl, rfl, rfl⟩
  | true =>
    have hp := (la_pre.1 hr).1
    have h64 := right_len hr
    rw [hr] at h h2
    rw [if_neg (by simp)] at h2
    have hz := cntL_zero x who
    by_cases hw : who < 0 ∨ 2147483647 < who
    · rw [if_pos (.inr hw)] at h
      simp only [Prod.mk.injEq] at h
      obtain ⟨rfl, rfl, rfl⟩ := h
      have h0 : cntL x who = 0 := by
        rw [hz]
        constructor
        · rw [← Bool.not_eq_true, List.contains_iff_mem]
          intro hm
          have := hp.hr _ hm
          omega
        · rw [inW, List.any_eq_false]
          intro t ht hc
          simp only [decide_eq_true_eq] at hc
          have := hp.tk _ ht
          omega
      rw [if_pos (hz.1 h0)] at h2
      simp only [Prod.mk.injEq] at h2
      obtain ⟨rfl, rfl, rfl⟩ := h2
      exact .inr (.inl ⟨rfl, hw, h0, rfl, rfl, rfl, rfl, rfl, rfl⟩)
    · rw [if_neg (by simp only [Bool.true_eq_false, false_or]; exact hw)] at h
      have hw1 : ¬ who < 0 := by omega
      have hw2 : ¬ 2147483647 < who := by omega
      by_cases h0 : cntL x who = 0
      · have h00 := hz.1 h0
        rw [if_neg (by rw [h00.1, h00.2]; simp)] at h
        rw [if_pos h00] at h2
        simp only [Prod.mk.injEq] at h2
        obtain ⟨rfl, rfl, rfl⟩ := h2
        by_cases hl : 64 ≤ x.hs.length + x.q.length
        · rw [if_pos hl] at h
          simp only [Prod.mk.injEq] at h
          obtain ⟨rfl, rfl, rfl⟩ := h
          exact .inr (.inr (.inr (.inl ⟨rfl, hw1, hw2, h0, by omega, rfl, rfl, rfl, rfl, rfl, rfl⟩)))
        · rw [if_neg hl] at h
          simp only [Prod.mk.injEq] at h
          obtain ⟨h1, h2, rfl⟩ := h
          refine .inr (.inr (.inr (.inr ⟨rfl, hw1, hw2, h0, by omega, by rw [← h1, ← h2], ?_, rfl, rfl, rfl, rfl⟩)))
          rw [← h2]; exact enter_came hr who ex
      · have h00 := fun e => h0 (hz.2 e)
        rw [if_pos (by
          cases e1 : x.hs.contains who with
          | true => exact .inl rfl
          | false =>
            cases e2 : inW x.q who with
            | true => exact .inr rfl
            | false => exact absurd ⟨e1, e2⟩ h00)] at h
        rw [if_neg h00] at h2
        simp only [Prod.mk.injEq] at h h2
        obtain ⟨rfl, rfl, rfl⟩ := h
        obtain ⟨h3, h4, rfl⟩ := h2
        exact .inr (.inr (.inl ⟨rfl, hw1, hw2, by omega, rfl, rfl, rfl, by rw [← h3, ← h4], rfl⟩))
theorem ask_lens {x : La} (who : Int) (ex : Bool) (h1 : x.hs.length ≤ 80) (h2 : x.q.length ≤ 80) : (askM x who ex).1.hs.length ≤ 80 ∧ (askM x who ex).1.q.length ≤ 80 := by
  cases hr : x.right with
  | true => have := right_len (ask_right hr who ex); omega
  | false => rw [askM, if_pos (.inl hr)]; exact ⟨h1, h2⟩
theorem drop_lens {x : La} (who : Int) (h1 : x.hs.length ≤ 80) (h2 : x.q.length ≤ 80) : (dropM x who).1.hs.length ≤ 80 ∧ (dropM x who).1.q.length ≤ 80 := by
  cases hr : x.right with
  | true => have := right_len (drop_right hr who); omega
  | false => rw [dropM, if_pos hr]; exact ⟨h1, h2⟩
theorem drop_came {x : La} (who : Int) (h2 : x.q.length ≤ 80) : (dropM x who).2.1.length ≤ 80 := by
  rw [dropM]
  split
  · simp
  split
  · simp
  · have h := (letL_len (lessL x who).q (lessL x who).hs (lessL x who).ex).1
    have h3 : (lessL x who).q.length ≤ x.q.length := List.length_filter_le _ _
    show (letL (lessL x who).hs (lessL x who).ex (lessL x who).q).2.2.2.length ≤ 80
    omega

set_option maxRecDepth 20000 in
set_option maxHeartbeats 8000000 in
theorem lawExact (w : World) (A0 Q0 : Option Addr) (a0 q0 : Nat) (x : La) (who : Int) (ex : Bool) (hc : x.hs.length ≤ 9223372036854775807) (hq : x.q.length ≤ 9223372036854775807) (hm : LM w (fun b => b < w.heap.size) x A0 a0 Q0 q0) :
    Calls Try.prog 3 #[.agg #[.slice A0 x.hs.length a0, .bool x.ex, .slice Q0 x.q.length q0], .int .i64 who, .bool ex] w fun e w' => e = .returned (.bool true) ∧ Below w.heap.size w w' := by
  obtain ⟨P0, hP0⟩ : ∃ P0, P0 = w.heap.size := ⟨_, rfl⟩
  obtain ⟨U0, hU0, hb0, hs0, hB0, hM0⟩ := new_la 25 hm
  rw [← hP0] at hB0
  have HU0 := Lib.hid hU0.symm; have HP0 := Lib.hid hP0.symm
  have Hb0 := Lib.hid hb0; have HB0 := Lib.hid hB0
  have HM0 := Lib.hid (hM0.imp (ok' := fun b => b < U0.heap.size) fun b hb => hb.2)
  clear hP0 hU0 hb0 hs0 hB0 hM0 hm
  go_enter Try.func3, Try.ntmps3
  go_upto_region 1 with fail
  rw [HU0.out, HP0.out]
  obtain ⟨c0, c1, c2, _, _, _, lt⟩ := HB0.out
  by_cases hlen : x.hs.length ≤ 80 ∧ x.q.length ≤ 80
  case neg =>
    have Hlen := Lib.hid hlen
    clear hlen
    go_wp2_with fail
    refine (refLong_any U0 A0 Q0 a0 q0 x Hlen.out).mono ?_
    rintro e V ⟨rfl, hb⟩
    have Hb := Lib.hid hb
    clear hb c0 c1 c2
    try simp only
    go_wp2_with fail
    refine (awake_any _).mono ?_
    rintro e V2 ⟨rfl, hb2⟩
    go_wp2_with fail
    go_ret
    exact ⟨rfl, bnext ((bnext Hb0.out Hb.out).alloc (bnext Hb0.out Hb.out).size _) hb2⟩
  obtain ⟨hl1, hl2⟩ := hlen
  have hbl := ask_lens who ex hl1 hl2
  have hel := drop_lens who hl1 hl2
  have hec := drop_came who hl2
  obtain ⟨r, came, n, hrn⟩ : ∃ r came n, askM x who ex = (r, came, n) := ⟨_, _, _, rfl⟩
  obtain ⟨s, gone, m, hsm⟩ : ∃ s gone m, dropM x who = (s, gone, m) := ⟨_, _, _, rfl⟩
  rw [hrn] at hbl
  rw [hsm] at hel hec
  simp only at hbl hel hec
  obtain ⟨hrl1, hrl2⟩ := hbl
  obtain ⟨hsl1, hsl2⟩ := hel
  obtain ⟨cb, hcb⟩ : ∃ cb, came.contains who = cb := ⟨_, rfl⟩
  obtain ⟨rt, hrt⟩ : ∃ rt, rt = x.right := ⟨_, rfl⟩
  obtain ⟨cn, hcn⟩ : ∃ cn, cn = cntL x who := ⟨_, rfl⟩
  obtain ⟨inb, hinb⟩ : ∃ inb, inb = decide (0 < cn) := ⟨_, rfl⟩
  have Hcn2 := Lib.hid (show cn ≤ 200 by
    have h1 := List.countP_le_length (p := fun n => decide (n = who)) (l := x.hs)
    have h2 := List.countP_le_length (p := fun t : Wt => decide (t.who = who)) (l := x.q)
    rw [hcn, cntL, cntH, cntW]; omega)
  have Hrn := Lib.hid hrn; have Hsm := Lib.hid hsm; have Hcbv := Lib.hid hcb; have Hrt := Lib.hid hrt; have Hcn := Lib.hid hcn; have Hinb := Lib.hid hinb
  clear hrn hsm hcb hrt hcn hinb
  have hmb := HM0.out
  have hd := refHere_any U0 (fun b => b < U0.heap.size) A0 Q0 a0 q0 x hl1 hl2 (fun b h => h) hmb
  have Hd := Lib.hid hd
  clear hd hmb
  go_wp2_with fail
  refine Hd.out.mono ?_
  clear Hd
  rintro e V1 ⟨Q1, q1, rfl, hm, hb⟩
  have hm' : LM V1 (fun b => b < V1.heap.size) x A0 a0 Q1 q1 := hm.imp fun b h => by have := hb.size; omega
  obtain ⟨P1, hP⟩ : ∃ P, P = V1.heap.size := ⟨_, rfl⟩
  obtain ⟨U1, hU, hbU, hsU, hBU, hMU⟩ := new_la 28 hm'
  rw [← hP] at hBU
  have Hq1 := Lib.hid (show Below U0.heap.size U0 U1 from bnext hb hbU)
  have HB1 := Lib.hid hBU; have HM1 := Lib.hid (hMU.imp (ok' := fun b => b < U1.heap.size) fun b hb => hb.2)
  have HU := Lib.hid hU.symm; have HP := Lib.hid hP.symm
  clear hm hb hm' hP hU hbU hsU hBU hMU
  clear c0 c1 c2 lt
  try simp only
  go_upto_region 4 with fail
  rw [HU.out, HP.out]
  clear HU HP
  obtain ⟨c0, c1, c2, _, _, _, ltc⟩ := HB1.out
  have hd := refRight_any U1 A0 Q1 a0 q1 x (by omega) (by omega) HM1.out.c HM1.out.q
  rw [← Hrt.out] at hd
  have Hd := Lib.hid hd
  clear hd
  go_wp2_with fail
  refine Hd.out.mono ?_
  clear Hd
  rintro e U2 ⟨rfl, hb⟩
  have Hq2 := Lib.hid hb
  clear hb
  clear c0 c1 c2 ltc
  go_upto_region 5 with fail
  obtain ⟨c0, c1, c2, _, _, _, ltc⟩ := (HB1.out.up Hq2.out HB1.out.lt)
  have hd := refIn_any U2 A0 Q1 a0 q1 x who (by omega) (by omega) (HM1.out.up Hq2.out).c (HM1.out.up Hq2.out).q
  rw [← Hcn.out] at hd
  have hcn2 := Hcn2.out
  have Hd := Lib.hid hd
  clear hd
  go_wp2_with fail
  refine Hd.out.mono ?_
  clear Hd
  rintro e U3 ⟨rfl, hb⟩
  have Hq3 := Lib.hid hb
  clear hb
  clear c0 c1 c2 ltc
  go_upto_region 6 with fail
  rw [← Hinb.out]
  clear hcn2
  obtain ⟨c0, c1, c2, _, _, _, ltc⟩ := (HB0.out.up (bnext (bnext Hq1.out Hq2.out) Hq3.out) HB0.out.lt)
  have hmb := (HM0.out.up (bnext (bnext Hq1.out Hq2.out) Hq3.out))
  have hd := ask_is Hrn.out Hcbv.out U3 (fun b => b < U3.heap.size) A0 Q0 a0 q0 (by omega) (by omega) (fun b h => h) hmb
  have Hd := Lib.hid hd
  clear hd hmb
  go_wp2_with fail
  refine Hd.out.mono ?_
  clear Hd
  rintro e V4 ⟨A4, a4, Q4, q4, rfl, hm, hb⟩
  have hm' : LM V4 (fun b => b < V4.heap.size) r A4 a4 Q4 q4 := hm.imp fun b h => by have := hb.size; rcases h with h | h <;> omega
  obtain ⟨P4, hP⟩ : ∃ P, P = V4.heap.size := ⟨_, rfl⟩
  obtain ⟨U4, hU, hbU, hsU, hBU, hMU⟩ := new_la 25 hm'
  rw [← hP] at hBU
  have Hq4 := Lib.hid (show Below U3.heap.size U3 U4 from bnext hb hbU)
  have HB4 := Lib.hid hBU; have HM4 := Lib.hid (hMU.imp (ok' := fun b => b < U4.heap.size) fun b hb => hb.2)
  have HU := Lib.hid hU.symm; have HP := Lib.hid hP.symm
  clear hm hb hm' hP hU hbU hsU hBU hMU
  clear c0 c1 c2 ltc
  try simp only
  go_upto_region 7 with fail
  rw [HU.out, HP.out]
  clear HU HP
  obtain ⟨c0, c1, c2, _, _, _, ltc⟩ := (HB0.out.up (bnext (bnext (bnext Hq1.out Hq2.out) Hq3.out) Hq4.out) HB0.out.lt)
  have hmb := (HM0.out.up (bnext (bnext (bnext Hq1.out Hq2.out) Hq3.out) Hq4.out))
  have hd := drop_is Hsm.out U4 (fun b => b < U4.heap.size) A0 Q0 a0 q0 (by omega) (by omega) (fun b h => h) hmb
  have Hd := Lib.hid hd
  clear hd hmb
  go_wp2_with fail
  refine Hd.out.mono ?_
  clear Hd
  rintro e V5 ⟨A5, a5, Q5, q5, I5, i5, rfl, hm, hi, hb⟩
  have hm' : LM V5 (fun b => b < V5.heap.size) s A5 a5 Q5 q5 := hm.imp fun b h => by have := hb.size; rcases h with h | h <;> omega
  obtain ⟨P5, hP⟩ : ∃ P, P = V5.heap.size := ⟨_, rfl⟩
  obtain ⟨U5, hU, hbU, hsU, hBU, hMU⟩ := new_la 25 hm'
  rw [← hP] at hBU
  have Hq5 := Lib.hid (show Below U4.heap.size U4 U5 from bnext hb hbU)
  have HB5 := Lib.hid hBU; have HM5 := Lib.hid (hMU.imp (ok' := fun b => b < U5.heap.size) fun b hb => hb.2)
  have HI5 := Lib.hid ((Rd'.to hi (B := V5.heap.size) fun b hb => hb.2).up hbU)
  clear hi
  have HU := Lib.hid hU.symm; have HP := Lib.hid hP.symm
  clear hm hb hm' hP hU hbU hsU hBU hMU
  clear c0 c1 c2 ltc
  try simp only
  go_upto_region 8 with fail
  rw [HU.out, HP.out]
  clear HU HP
  obtain ⟨c0, c1, c2, _, _, _, ltc⟩ := (HB4.out.up Hq5.out HB4.out.lt)
  have hmb := (HM4.out.up Hq5.out)
  have hd := refHere_any U5 (fun b => b < U5.heap.size) A4 Q4 a4 q4 r hrl1 hrl2 (fun b h => h) hmb
  have Hd := Lib.hid hd
  clear hd hmb
  go_wp2_with fail
  refine Hd.out.mono ?_
  clear Hd
  rintro e V6 ⟨Q6, q6, rfl, hm, hb⟩
  have hm' : LM V6 (fun b => b < V6.heap.size) r A4 a4 Q6 q6 := hm.imp fun b h => by have := hb.size; omega
  obtain ⟨P6, hP⟩ : ∃ P, P = V6.heap.size := ⟨_, rfl⟩
  obtain ⟨U6, hU, hbU, hsU, hBU, hMU⟩ := new_la 28 hm'
  rw [← hP] at hBU
  have Hq6 := Lib.hid (show Below U5.heap.size U5 U6 from bnext hb hbU)
  have HB6 := Lib.hid hBU; have HM6 := Lib.hid (hMU.imp (ok' := fun b => b < U6.heap.size) fun b hb => hb.2)
  have HU := Lib.hid hU.symm; have HP := Lib.hid hP.symm
  clear hm hb hm' hP hU hbU hsU hBU hMU
  clear c0 c1 c2 ltc
  try simp only
  go_upto_region 9 with fail
  rw [HU.out, HP.out]
  clear HU HP
  obtain ⟨c0, c1, c2, _, _, _, ltc⟩ := (HB5.out.up Hq6.out HB5.out.lt)
  have hmb := (HM5.out.up Hq6.out)
  have hd := refHere_any U6 (fun b => b < U6.heap.size) A5 Q5 a5 q5 s hsl1 hsl2 (fun b h => h) hmb
  have Hd := Lib.hid hd
  clear hd hmb
  go_wp2_with fail
  refine Hd.out.mono ?_
  clear Hd
  rintro e V7 ⟨Q7, q7, rfl, hm, hb⟩
  have hm' : LM V7 (fun b => b < V7.heap.size) s A5 a5 Q7 q7 := hm.imp fun b h => by have := hb.size; omega
  obtain ⟨P7, hP⟩ : ∃ P, P = V7.heap.size := ⟨_, rfl⟩
  obtain ⟨U7, hU, hbU, hsU, hBU, hMU⟩ := new_la 28 hm'
  rw [← hP] at hBU
  have Hq7 := Lib.hid (show Below U6.heap.size U6 U7 from bnext hb hbU)
  have HB7 := Lib.hid hBU; have HM7 := Lib.hid (hMU.imp (ok' := fun b => b < U7.heap.size) fun b hb => hb.2)
  have HU := Lib.hid hU.symm; have HP := Lib.hid hP.symm
  clear hm hb hm' hP hU hbU hsU hBU hMU
  clear c0 c1 c2 ltc
  try simp only
  go_upto_region 10 with fail
  rw [HU.out, HP.out]
  clear HU HP
  obtain ⟨c0, c1, c2, _, _, _, ltc⟩ := (HB0.out.up (bnext (bnext (bnext (bnext (bnext (bnext Hq1.out Hq2.out) Hq3.out) Hq4.out) Hq5.out) Hq6.out) Hq7.out) HB0.out.lt)
  have hd := laRight_any U7 A0 Q0 a0 q0 x (by omega) (by omega) (HM0.out.up (bnext (bnext (bnext (bnext (bnext (bnext Hq1.out Hq2.out) Hq3.out) Hq4.out) Hq5.out) Hq6.out) Hq7.out))
  rw [← Hrt.out] at hd
  have hrr : (rt != rt) = false := by simp
  have Hd := Lib.hid hd
  clear hd
  go_wp2_with fail
  refine Hd.out.mono ?_
  clear Hd
  rintro e U8 ⟨rfl, hb⟩
  have Hq8 := Lib.hid hb
  clear hb
  clear c0 c1 c2 ltc
  have hcs := exact_cases Hrn.out Hsm.out
  rw [← Hcn.out, ← Hrt.out] at hcs
  clear hrr
  rcases hcs with ⟨rfl, rfl, rfl, rfl, rfl, rfl, rfl⟩ | ⟨rfl, hwho, h0, rfl, rfl, rfl, rfl, rfl, rfl⟩ | ⟨rfl, hw1, hw2, h0, rfl, rfl, rfl, hent, rfl⟩ | ⟨rfl, hw1, hw2, h0, h64, rfl, rfl, rfl, rfl, rfl, rfl⟩ | ⟨rfl, hw1, hw2, h0, h64, hent, hcm, rfl, rfl, rfl, rfl⟩
  · --
    obtain rfl : cb = false := by rw [← Hcbv.out]; rfl
    simp only [List.length_nil]
    obtain ⟨c0, c1, c2, _, _, _, ltc⟩ := (HB1.out.up (bnext (bnext (bnext (bnext (bnext (bnext Hq2.out Hq3.out) Hq4.out) Hq5.out) Hq6.out) Hq7.out) Hq8.out) HB1.out.lt)
    obtain ⟨d0, d1, d2, _, _, _, ltd⟩ := (HB6.out.up (bnext Hq7.out Hq8.out) HB6.out.lt)
    have hd := refSame_any U8 A0 Q1 a0 q1 A4 Q6 a4 q6 x (by omega) (by omega) (HM1.out.up (bnext (bnext (bnext (bnext (bnext (bnext Hq2.out Hq3.out) Hq4.out) Hq5.out) Hq6.out) Hq7.out) Hq8.out)).c (HM1.out.up (bnext (bnext (bnext (bnext (bnext (bnext Hq2.out Hq3.out) Hq4.out) Hq5.out) Hq6.out) Hq7.out) Hq8.out)).q (HM6.out.up (bnext Hq7.out Hq8.out)).c (HM6.out.up (bnext Hq7.out Hq8.out)).q
    have Hd := Lib.hid hd
    clear hd
    go_wp2_with fail
    refine Hd.out.mono ?_
    clear Hd
    rintro e U9 ⟨rfl, hb⟩
    have Hq9 := Lib.hid hb
    clear hb
    clear c0 c1 c2 ltc d0 d1 d2 ltd
    obtain ⟨c0, c1, c2, _, _, _, ltc⟩ := (HB1.out.up (bnext (bnext (bnext (bnext (bnext (bnext (bnext Hq2.out Hq3.out) Hq4.out) Hq5.out) Hq6.out) Hq7.out) Hq8.out) Hq9.out) HB1.out.lt)
    obtain ⟨d0, d1, d2, _, _, _, ltd⟩ := (HB7.out.up (bnext Hq8.out Hq9.out) HB7.out.lt)
    have hd := refSame_any U9 A0 Q1 a0 q1 A5 Q7 a5 q7 x (by omega) (by omega) (HM1.out.up (bnext (bnext (bnext (bnext (bnext (bnext (bnext Hq2.out Hq3.out) Hq4.out) Hq5.out) Hq6.out) Hq7.out) Hq8.out) Hq9.out)).c (HM1.out.up (bnext (bnext (bnext (bnext (bnext (bnext (bnext Hq2.out Hq3.out) Hq4.out) Hq5.out) Hq6.out) Hq7.out) Hq8.out) Hq9.out)).q (HM7.out.up (bnext Hq8.out Hq9.out)).c (HM7.out.up (bnext Hq8.out Hq9.out)).q
    have Hd := Lib.hid hd
    clear hd
    go_wp2_with fail
    refine Hd.out.mono ?_
    clear Hd
    rintro e U10 ⟨rfl, hb⟩
    have Hq10 := Lib.hid hb
    clear hb
    clear c0 c1 c2 ltc d0 d1 d2 ltd
    go_wp2_with fail
    refine (awake_any _).mono ?_
    rintro e U11 ⟨rfl, hb⟩
    have Hq11 := Lib.hid hb
    clear hb
    go_wp2_with fail
    go_ret
    exact ⟨rfl, bnext Hb0.out (bnext (bnext (bnext (bnext (bnext (bnext (bnext (bnext (bnext (bnext Hq1.out Hq2.out) Hq3.out) Hq4.out) Hq5.out) Hq6.out) Hq7.out) Hq8.out) Hq9.out) Hq10.out) Hq11.out)⟩
  · --
    obtain rfl : cb = false := by rw [← Hcbv.out]; rfl
    obtain rfl : inb = false := by rw [Hinb.out, h0]; rfl
    clear h0
    simp only [List.length_nil]
    rcases (show who < 0 ∨ (¬ who < 0 ∧ 2147483647 < who) by omega) with h1 | ⟨h1, h2⟩
    all_goals
      clear hwho
      obtain ⟨c0, c1, c2, _, _, _, ltc⟩ := (HB1.out.up (bnext (bnext (bnext (bnext (bnext (bnext Hq2.out Hq3.out) Hq4.out) Hq5.out) Hq6.out) Hq7.out) Hq8.out) HB1.out.lt)
      obtain ⟨d0, d1, d2, _, _, _, ltd⟩ := (HB6.out.up (bnext Hq7.out Hq8.out) HB6.out.lt)
      have hd := refSame_any U8 A0 Q1 a0 q1 A4 Q6 a4 q6 x (by omega) (by omega) (HM1.out.up (bnext (bnext (bnext (bnext (bnext (bnext Hq2.out Hq3.out) Hq4.out) Hq5.out) Hq6.out) Hq7.out) Hq8.out)).c (HM1.out.up (bnext (bnext (bnext (bnext (bnext (bnext Hq2.out Hq3.out) Hq4.out) Hq5.out) Hq6.out) Hq7.out) Hq8.out)).q (HM6.out.up (bnext Hq7.out Hq8.out)).c (HM6.out.up (bnext Hq7.out Hq8.out)).q
      have Hd := Lib.hid hd
      clear hd
      go_wp2_with fail
      refine Hd.out.mono ?_
      clear Hd
      rintro e U9 ⟨rfl, hb⟩
      have Hq9 := Lib.hid hb
      clear hb
      clear c0 c1 c2 ltc d0 d1 d2 ltd
      obtain ⟨c0, c1, c2, _, _, _, ltc⟩ := (HB1.out.up (bnext (bnext (bnext (bnext (bnext (bnext (bnext Hq2.out Hq3.out) Hq4.out) Hq5.out) Hq6.out) Hq7.out) Hq8.out) Hq9.out) HB1.out.lt)
      obtain ⟨d0, d1, d2, _, _, _, ltd⟩ := (HB7.out.up (bnext Hq8.out Hq9.out) HB7.out.lt)
      have hd := refSame_any U9 A0 Q1 a0 q1 A5 Q7 a5 q7 x (by omega) (by omega) (HM1.out.up (bnext (bnext (bnext (bnext (bnext (bnext (bnext Hq2.out Hq3.out) Hq4.out) Hq5.out) Hq6.out) Hq7.out) Hq8.out) Hq9.out)).c (HM1.out.up (bnext (bnext (bnext (bnext (bnext (bnext (bnext Hq2.out Hq3.out) Hq4.out) Hq5.out) Hq6.out) Hq7.out) Hq8.out) Hq9.out)).q (HM7.out.up (bnext Hq8.out Hq9.out)).c (HM7.out.up (bnext Hq8.out Hq9.out)).q
      have Hd := Lib.hid hd
      clear hd
      go_wp2_with fail
      refine Hd.out.mono ?_
      clear Hd
      rintro e U10 ⟨rfl, hb⟩
      have Hq10 := Lib.hid hb
      clear hb
      clear c0 c1 c2 ltc d0 d1 d2 ltd
      go_wp2_with fail
      refine (awake_any _).mono ?_
      rintro e U11 ⟨rfl, hb⟩
      have Hq11 := Lib.hid hb
      clear hb
      go_wp2_with fail
      go_ret
      exact ⟨rfl, bnext Hb0.out (bnext (bnext (bnext (bnext (bnext (bnext (bnext (bnext (bnext (bnext Hq1.out Hq2.out) Hq3.out) Hq4.out) Hq5.out) Hq6.out) Hq7.out) Hq8.out) Hq9.out) Hq10.out) Hq11.out)⟩
  · --
    obtain rfl : cb = false := by rw [← Hcbv.out]; rfl
    obtain rfl : inb = true := by rw [Hinb.out]; simp; omega
    clear h0
    have Hent := Lib.hid hent
    clear hent
    obtain ⟨c0, c1, c2, _, _, _, ltc⟩ := (HB1.out.up (bnext (bnext (bnext (bnext (bnext (bnext Hq2.out Hq3.out) Hq4.out) Hq5.out) Hq6.out) Hq7.out) Hq8.out) HB1.out.lt)
    obtain ⟨d0, d1, d2, _, _, _, ltd⟩ := (HB6.out.up (bnext Hq7.out Hq8.out) HB6.out.lt)
    have hd := refSame_any U8 A0 Q1 a0 q1 A4 Q6 a4 q6 x (by omega) (by omega) (HM1.out.up (bnext (bnext (bnext (bnext (bnext (bnext Hq2.out Hq3.out) Hq4.out) Hq5.out) Hq6.out) Hq7.out) Hq8.out)).c (HM1.out.up (bnext (bnext (bnext (bnext (bnext (bnext Hq2.out Hq3.out) Hq4.out) Hq5.out) Hq6.out) Hq7.out) Hq8.out)).q (HM6.out.up (bnext Hq7.out Hq8.out)).c (HM6.out.up (bnext Hq7.out Hq8.out)).q
    have Hd := Lib.hid hd
    clear hd
    go_wp2_with fail
    refine Hd.out.mono ?_
    clear Hd
    rintro e U9 ⟨rfl, hb⟩
    have Hq9 := Lib.hid hb
    clear hb
    clear c0 c1 c2 ltc d0 d1 d2 ltd
    obtain ⟨c0, c1, c2, _, _, _, ltc⟩ := (HB1.out.up (bnext (bnext (bnext (bnext (bnext (bnext (bnext Hq2.out Hq3.out) Hq4.out) Hq5.out) Hq6.out) Hq7.out) Hq8.out) Hq9.out) HB1.out.lt)
    have hmb := (HM1.out.up (bnext (bnext (bnext (bnext (bnext (bnext (bnext Hq2.out Hq3.out) Hq4.out) Hq5.out) Hq6.out) Hq7.out) Hq8.out) Hq9.out))
    have hd := refDrop_any U9 (fun b => b < U9.heap.size) A0 Q1 a0 q1 x who (by omega) (fun b h => h) hmb
    rw [Hent.out] at hd
    have Hd := Lib.hid hd
    clear hd hmb
    go_wp2_with fail
    refine Hd.out.mono ?_
    clear Hd
    rintro e V10 ⟨A10, a10, Q10, q10, I10, i10, rfl, hm, hi, hb⟩
    have hm' : LM V10 (fun b => b < V10.heap.size) s A10 a10 Q10 q10 := hm.imp fun b h => by have := hb.size; rcases h with h | h <;> omega
    obtain ⟨P10, hP⟩ : ∃ P, P = V10.heap.size := ⟨_, rfl⟩
    obtain ⟨U10, hU, hbU, hsU, hBU, hMU⟩ := new_la 28 hm'
    rw [← hP] at hBU
    have Hq10 := Lib.hid (show Below U9.heap.size U9 U10 from bnext hb hbU)
    have HB10 := Lib.hid hBU; have HM10 := Lib.hid (hMU.imp (ok' := fun b => b < U10.heap.size) fun b hb => hb.2)
    have HI10 := Lib.hid ((Rd'.to hi (B := V10.heap.size) fun b hb => hb.2).up hbU)
    clear hi
    have HU := Lib.hid hU.symm; have HP := Lib.hid hP.symm
    clear hm hb hm' hP hU hbU hsU hBU hMU
    clear c0 c1 c2 ltc
    try simp only
    go_upto_region 29 with fail
    rw [HU.out, HP.out]
    clear HU HP
    obtain ⟨c0, c1, c2, _, _, _, ltc⟩ := HB10.out
    obtain ⟨d0, d1, d2, _, _, _, ltd⟩ := (HB7.out.up (bnext (bnext Hq8.out Hq9.out) Hq10.out) HB7.out.lt)
    have hd := refSame_any U10 A10 Q10 a10 q10 A5 Q7 a5 q7 s (by omega) (by omega) HM10.out.c HM10.out.q (HM7.out.up (bnext (bnext Hq8.out Hq9.out) Hq10.out)).c (HM7.out.up (bnext (bnext Hq8.out Hq9.out) Hq10.out)).q
    have Hd := Lib.hid hd
    clear hd
    go_wp2_with fail
    refine Hd.out.mono ?_
    clear Hd
    rintro e U11 ⟨rfl, hb⟩
    have Hq11 := Lib.hid hb
    clear hb
    clear c0 c1 c2 ltc d0 d1 d2 ltd
    have hd := equal_any U11 I5 I10 i5 i10 gone gone (by omega) (HI5.out.up (bnext (bnext (bnext (bnext (bnext Hq6.out Hq7.out) Hq8.out) Hq9.out) Hq10.out) Hq11.out)) (HI10.out.up Hq11.out)
    rw [show decide (gone = gone) = true from decide_eq_true rfl] at hd
    have Hd := Lib.hid hd
    clear hd
    go_wp2_with fail
    refine Hd.out.mono ?_
    clear Hd
    rintro e U12 ⟨rfl, hb⟩
    have Hq12 := Lib.hid hb
    clear hb
    go_wp2_with fail
    refine (awake_any _).mono ?_
    rintro e U13 ⟨rfl, hb⟩
    have Hq13 := Lib.hid hb
    clear hb
    go_wp2_with fail
    go_ret
    exact ⟨rfl, bnext Hb0.out (bnext (bnext (bnext (bnext (bnext (bnext (bnext (bnext (bnext (bnext (bnext (bnext Hq1.out Hq2.out) Hq3.out) Hq4.out) Hq5.out) Hq6.out) Hq7.out) Hq8.out) Hq9.out) Hq10.out) Hq11.out) Hq12.out) Hq13.out)⟩
  · --
    obtain rfl : cb = false := by rw [← Hcbv.out]; rfl
    obtain rfl : inb = false := by rw [Hinb.out, h0]; rfl
    clear h0
    simp only [List.length_nil]
    have h64b : ((x.hs.length : Int) + (x.q.length : Int) == 64) = true := by rw [beq_iff_eq]; omega
    clear h64
    obtain ⟨c0, c1, c2, _, _, _, ltc⟩ := (HB1.out.up (bnext (bnext (bnext (bnext (bnext (bnext Hq2.out Hq3.out) Hq4.out) Hq5.out) Hq6.out) Hq7.out) Hq8.out) HB1.out.lt)
    obtain ⟨d0, d1, d2, _, _, _, ltd⟩ := (HB6.out.up (bnext Hq7.out Hq8.out) HB6.out.lt)
    obtain ⟨g0, g1, g2, _, _, _, ltg⟩ := (HB0.out.up (bnext (bnext (bnext (bnext (bnext (bnext (bnext Hq1.out Hq2.out) Hq3.out) Hq4.out) Hq5.out) Hq6.out) Hq7.out) Hq8.out) HB0.out.lt)
    have hd := refSame_any U8 A0 Q1 a0 q1 A4 Q6 a4 q6 x (by omega) (by omega) (HM1.out.up (bnext (bnext (bnext (bnext (bnext (bnext Hq2.out Hq3.out) Hq4.out) Hq5.out) Hq6.out) Hq7.out) Hq8.out)).c (HM1.out.up (bnext (bnext (bnext (bnext (bnext (bnext Hq2.out Hq3.out) Hq4.out) Hq5.out) Hq6.out) Hq7.out) Hq8.out)).q (HM6.out.up (bnext Hq7.out Hq8.out)).c (HM6.out.up (bnext Hq7.out Hq8.out)).q
    have Hd := Lib.hid hd
    clear hd
    go_wp2_with fail
    refine Hd.out.mono ?_
    clear Hd
    rintro e U9 ⟨rfl, hb⟩
    have Hq9 := Lib.hid hb
    clear hb
    clear c0 c1 c2 ltc d0 d1 d2 ltd g0 g1 g2 ltg
    obtain ⟨c0, c1, c2, _, _, _, ltc⟩ := (HB1.out.up (bnext (bnext (bnext (bnext (bnext (bnext (bnext Hq2.out Hq3.out) Hq4.out) Hq5.out) Hq6.out) Hq7.out) Hq8.out) Hq9.out) HB1.out.lt)
    obtain ⟨d0, d1, d2, _, _, _, ltd⟩ := (HB7.out.up (bnext Hq8.out Hq9.out) HB7.out.lt)
    have hd := refSame_any U9 A0 Q1 a0 q1 A5 Q7 a5 q7 x (by omega) (by omega) (HM1.out.up (bnext (bnext (bnext (bnext (bnext (bnext (bnext Hq2.out Hq3.out) Hq4.out) Hq5.out) Hq6.out) Hq7.out) Hq8.out) Hq9.out)).c (HM1.out.up (bnext (bnext (bnext (bnext (bnext (bnext (bnext Hq2.out Hq3.out) Hq4.out) Hq5.out) Hq6.out) Hq7.out) Hq8.out) Hq9.out)).q (HM7.out.up (bnext Hq8.out Hq9.out)).c (HM7.out.up (bnext Hq8.out Hq9.out)).q
    have Hd := Lib.hid hd
    clear hd
    go_wp2_with fail
    refine Hd.out.mono ?_
    clear Hd
    rintro e U10 ⟨rfl, hb⟩
    have Hq10 := Lib.hid hb
    clear hb
    clear c0 c1 c2 ltc d0 d1 d2 ltd
    go_wp2_with fail
    refine (awake_any _).mono ?_
    rintro e U11 ⟨rfl, hb⟩
    have Hq11 := Lib.hid hb
    clear hb
    go_wp2_with fail
    go_ret
    exact ⟨rfl, bnext Hb0.out (bnext (bnext (bnext (bnext (bnext (bnext (bnext (bnext (bnext (bnext Hq1.out Hq2.out) Hq3.out) Hq4.out) Hq5.out) Hq6.out) Hq7.out) Hq8.out) Hq9.out) Hq10.out) Hq11.out)⟩
  · --
    obtain rfl : inb = false := by rw [Hinb.out, h0]; rfl
    clear h0
    simp only [List.length_nil]
    have h64b : ((x.hs.length : Int) + (x.q.length : Int) == 64) = false := by rw [beq_eq_false_iff_ne]; omega
    clear h64
    have Hent := Lib.hid hent
    clear hent
    have hemp := pre_empty (la_pre.1 Hrt.out.symm).1
    have Hemp := Lib.hid hemp; clear hemp
    obtain ⟨c0, c1, c2, _, _, _, ltc⟩ := (HB1.out.up (bnext (bnext (bnext (bnext (bnext (bnext Hq2.out Hq3.out) Hq4.out) Hq5.out) Hq6.out) Hq7.out) Hq8.out) HB1.out.lt)
    obtain ⟨d0, d1, d2, _, _, _, ltd⟩ := (HB0.out.up (bnext (bnext (bnext (bnext (bnext (bnext (bnext Hq1.out Hq2.out) Hq3.out) Hq4.out) Hq5.out) Hq6.out) Hq7.out) Hq8.out) HB0.out.lt)
    have hmb := (HM1.out.up (bnext (bnext (bnext (bnext (bnext (bnext Hq2.out Hq3.out) Hq4.out) Hq5.out) Hq6.out) Hq7.out) Hq8.out))
    have hd := refAsk_any U8 (fun b => b < U8.heap.size) A0 Q1 a0 q1 x who ex Hemp.out (by omega) (fun b h => h) hmb
    rw [Hent.out] at hd
    have Hd := Lib.hid hd
    clear hd hmb
    go_wp2_with fail
    refine Hd.out.mono ?_
    clear Hd
    rintro e V9 ⟨A9, a9, Q9, q9, I9, i9, rfl, hm, hi, hb⟩
    have hm' : LM V9 (fun b => b < V9.heap.size) r A9 a9 Q9 q9 := hm.imp fun b h => by have := hb.size; rcases h with h | h <;> omega
    obtain ⟨P9, hP⟩ : ∃ P, P = V9.heap.size := ⟨_, rfl⟩
    obtain ⟨U9, hU, hbU, hsU, hBU, hMU⟩ := new_la 28 hm'
    rw [← hP] at hBU
    have Hq9 := Lib.hid (show Below U8.heap.size U8 U9 from bnext hb hbU)
    have HB9 := Lib.hid hBU; have HM9 := Lib.hid (hMU.imp (ok' := fun b => b < U9.heap.size) fun b hb => hb.2)
    have HI9 := Lib.hid ((Rd'.to hi (B := V9.heap.size) fun b hb => hb.2).up hbU)
    clear hi
    have HU := Lib.hid hU.symm; have HP := Lib.hid hP.symm
    clear hm hb hm' hP hU hbU hsU hBU hMU
    clear c0 c1 c2 ltc d0 d1 d2 ltd
    try simp only
    go_upto_region 13 with fail
    rw [HU.out, HP.out]
    clear HU HP
    have Hcb2 := Lib.hid (show (cb = true ∧ came = [who]) ∨ (cb = false ∧ came = []) by
      rcases hcm with h | h
      · have := Hcbv.out; rw [h] at this; exact .inr ⟨by rw [← this]; rfl, h⟩
      · have := Hcbv.out; rw [h] at this; exact .inl ⟨by rw [← this]; simp, h⟩)
    clear hcm
    rcases Hcb2.out with ⟨rfl, rfl⟩ | ⟨rfl, rfl⟩
    all_goals
      clear Hcb2
      simp only [List.length_cons, List.length_nil, Nat.zero_add]
      obtain ⟨c0, c1, c2, _, _, _, ltc⟩ := HB9.out
      obtain ⟨d0, d1, d2, _, _, _, ltd⟩ := (HB6.out.up (bnext (bnext Hq7.out Hq8.out) Hq9.out) HB6.out.lt)
      have hd := refSame_any U9 A9 Q9 a9 q9 A4 Q6 a4 q6 r (by omega) (by omega) HM9.out.c HM9.out.q (HM6.out.up (bnext (bnext Hq7.out Hq8.out) Hq9.out)).c (HM6.out.up (bnext (bnext Hq7.out Hq8.out) Hq9.out)).q
      have Hd := Lib.hid hd
      clear hd
      go_wp2_with fail
      refine Hd.out.mono ?_
      clear Hd
      rintro e U10 ⟨rfl, hb⟩
      have Hq10 := Lib.hid hb
      clear hb
      clear c0 c1 c2 ltc d0 d1 d2 ltd
      obtain ⟨c0, c1, c2, _, _, _, ltc⟩ := (HB1.out.up (bnext (bnext (bnext (bnext (bnext (bnext (bnext (bnext Hq2.out Hq3.out) Hq4.out) Hq5.out) Hq6.out) Hq7.out) Hq8.out) Hq9.out) Hq10.out) HB1.out.lt)
      obtain ⟨d0, d1, d2, _, _, _, ltd⟩ := (HB7.out.up (bnext (bnext Hq8.out Hq9.out) Hq10.out) HB7.out.lt)
      have hd := refSame_any U10 A0 Q1 a0 q1 A5 Q7 a5 q7 x (by omega) (by omega) (HM1.out.up (bnext (bnext (bnext (bnext (bnext (bnext (bnext (bnext Hq2.out Hq3.out) Hq4.out) Hq5.out) Hq6.out) Hq7.out) Hq8.out) Hq9.out) Hq10.out)).c (HM1.out.up (bnext (bnext (bnext (bnext (bnext (bnext (bnext (bnext Hq2.out Hq3.out) Hq4.out) Hq5.out) Hq6.out) Hq7.out) Hq8.out) Hq9.out) Hq10.out)).q (HM7.out.up (bnext (bnext Hq8.out Hq9.out) Hq10.out)).c (HM7.out.up (bnext (bnext Hq8.out Hq9.out) Hq10.out)).q
      have Hd := Lib.hid hd
      clear hd
      go_wp2_with fail
      refine Hd.out.mono ?_
      clear Hd
      rintro e U11 ⟨rfl, hb⟩
      have Hq11 := Lib.hid hb
      clear hb
      clear c0 c1 c2 ltc d0 d1 d2 ltd
      go_wp2_with fail
      refine (awake_any _).mono ?_
      rintro e U12 ⟨rfl, hb⟩
      have Hq12 := Lib.hid hb
      clear hb
      go_wp2_with fail
      go_ret
      exact ⟨rfl, bnext Hb0.out (bnext (bnext (bnext (bnext (bnext (bnext (bnext (bnext (bnext (bnext (bnext Hq1.out Hq2.out) Hq3.out) Hq4.out) Hq5.out) Hq6.out) Hq7.out) Hq8.out) Hq9.out) Hq10.out) Hq11.out) Hq12.out)⟩
end Go.Proofs.Ytigffndobddflaa
