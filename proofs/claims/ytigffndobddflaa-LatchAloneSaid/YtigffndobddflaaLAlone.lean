/- The law LatchAlone, walked. -/
import Derived.Test.YtigffndobddflaaLAl0
import Derived.Deep.DeepCutAuto
namespace Go.Proofs.Ytigffndobddflaa
open Go.RowKit

set_option maxRecDepth 20000 in
set_option maxHeartbeats 8000000 in
theorem lawAlone (w : World) (A0 : Option Addr) (cap0 : Nat) (acts : List (Int × Int)) (hc : acts.length ≤ cap0) (hm : cap0 ≤ 9223372036854775807) (hB : PairsAt w A0 acts) :
    Calls Try.prog 4 #[.slice A0 acts.length cap0] w fun e w' => e = .returned (.bool true) ∧ Below w.heap.size w w' := by
  obtain ⟨hr, hQ⟩ := hB
  have HQ := Lib.hid hQ; clear hQ
  obtain ⟨N, hN⟩ : ∃ N, N = w.heap.size := ⟨_, rfl⟩
  obtain ⟨U0, hU0, hS0⟩ := AlS.start w 47 48
  rw [← hN] at hS0 hr
  have HS0 := Lib.hid hS0
  have HU0 := Lib.hid hU0.symm; have HN := Lib.hid hN.symm
  clear hU0 hS0 hN
  go_enter Try.func4, Try.ntmps4
  go_upto_region 4 with fail
  rw [HU0.out, HN.out]
  clear HU0
  go_wp2_with fail
  go_loopg [7, 8] acts.length (fun g cv iv wr => ∃ (i : Nat) (l : La) (A : Option Addr) (ac : Nat) (Q : Option Addr) (qc : Nat) (si : Nat → Nat) (wv ho : Nat → Bool), i ≤ acts.length ∧ i ≤ 100 ∧ g = acts.length - i ∧ cv = .int .i64 i ∧ iv = .int .i64 i ∧ Al l si wv ho i ∧ l.right = true ∧ AlS w N wr l A ac Q qc l A ac Q qc si wv ho)
  case atStart => exact ⟨0, _, _, _, _, _, _, _, _, Nat.zero_le _, Nat.zero_le _, rfl, rfl, rfl, Al.zero, by kernel_rfl, HS0.out⟩
  case round =>
    clear HS0
    obtain ⟨i, l, A, ac, Q, qc, si, wv, ho, hi, hi100, hg, rfl, rfl, hal, hlr, hE⟩ := hrel
    have HE := Lib.hid hE; have Hg := Lib.hid hg; have Hal := Lib.hid hal; have Hlr := Lib.hid hlr
    clear hE hg hal hlr
    by_cases hlt : i < acts.length ∧ i < 100
    case neg =>
      have hlt' : ¬ (i : Int) < (acts.length : Int) ∨ ((i : Int) < (acts.length : Int) ∧ ¬ (i : Int) < 100) := by omega
      clear hlt hi hi100 Hg
      rcases hlt' with h1 | ⟨h1, h2⟩
      all_goals
        go_wp2_with fail
        refine (awake_any _).mono ?_
        rintro e V2 ⟨rfl, hb2⟩
        go_wp2_with fail
        go_ret
        refine ⟨rfl, ?_⟩
        rw [HN.out]
        exact HE.out.below.trans (hb2.mono (by have := HE.out.hb.lt; omega))
    case pos =>
      obtain ⟨hlt1, hlt2⟩ := hlt
      obtain ⟨x, b, off, hx, rfl, hbb, hcell⟩ := rd_p hr hlt1
      obtain ⟨⟨x0, x1⟩, ⟨y0, y1⟩⟩ := HQ.out i x hx
      obtain ⟨g0, g1⟩ := hcell wr HE.out.below
      have hbs : b < wr.heap.size := by have := HE.out.hb.lt; omega
      obtain ⟨k, hk⟩ : ∃ k : Nat, x.1 % 10 = (k : Int) := ⟨(x.1 % 10).toNat, by omega⟩
      have hk10 : k < 10 := by omega
      have hji : (i : Int) < (acts.length : Int) := by omega
      have hji2 : (i : Int) < 100 := by omega
      have q0 := Int.emod_nonneg x.1 (show (10 : Int) ≠ 0 by decide)
      have q1 := Int.emod_lt_of_pos x.1 (show (0 : Int) < 10 by decide)
      have q2 := Int.emod_nonneg x.2 (show (4 : Int) ≠ 0 by decide)
      have q3 := Int.emod_lt_of_pos x.2 (show (0 : Int) < 4 by decide)
      have q4 := Int.emod_nonneg x.2 (show (8 : Int) ≠ 0 by decide)
      have q5 := Int.emod_lt_of_pos x.2 (show (0 : Int) < 8 by decide)
      obtain ⟨wt, hwt⟩ : ∃ wt, (x.2 % 4 == 0) = wt := ⟨_, rfl⟩
      obtain ⟨ak, hak⟩ : ∃ ak, decide (x.2 % 8 < 5) = ak := ⟨_, rfl⟩
      have Hk := Lib.hid hk; have Hwt := Lib.hid hwt; have Hak := Lib.hid hak; have Hcell := Lib.hid hcell
      clear hcell hx hwt hak hk
      go_upto_region 8 with fail
      go_quiet (fail)
      rw [Hk.out, Hwt.out]
      obtain ⟨V0, hV0⟩ : ∃ V0, V0 = wr.drewN nq := ⟨_, rfl⟩
      have HV := Lib.hid (HE.out.up (V := V0) (by rw [hV0]; exact below_drewN (Below.refl _ _) _))
      rw [← hV0]
      clear hV0 g0 g1 hbs q0 q1 q2 q3 x0 x1 HE
      obtain ⟨_, g1⟩ := Hcell.out V0 HV.out.below
      have hbs : b < V0.heap.size := by have := HV.out.hb.lt; omega
      go_upto_if 58 with fail
      clear g1 hbs q4 q5 y0 y1
      go_cut [11] (fun s11 wx => ∃ (ml : La) (I : Option Addr) (ic : Nat) (A : Option Addr) (ac : Nat) (Q : Option Addr) (qc : Nat) (si : Nat → Nat) (wv ho : Nat → Bool), s11 = .slice I (enterL ml).2.length ic ∧ Al ml si wv ho (i + 1) ∧ AlS w N wx (enterL ml).1 A ac Q qc (enterL ml).1 A ac Q qc si wv ho ∧ Rd' icells 1 wx (fun d => N + 3 < d ∧ d < wx.heap.size) I (enterL ml).2)
      case first =>
        rw [Hak.out]
        clear Hak
        have hk0 : (0 : Int) ≤ (k : Int) := by omega
        have hk1 : (k : Int) < 10 := by omega
        obtain ⟨c0, c1, c2, f0, f1, f2, lt⟩ := HV.out.hb
        have hsm := Hal.out.small
        cases ak with
        | true =>
          by_cases hs0 : si k = 0
          · as_aux_lemma =>
            obtain ⟨heq, hal2⟩ := Hal.out.ask_new Hlr.out hk10 wt hs0
            have hcm := ask_came Hlr.out (k : Int) wt
            obtain ⟨r, ins, hri⟩ : ∃ r ins, enterL { l with q := l.q ++ [⟨(k : Int), wt⟩] } = (r, ins) := ⟨_, _, rfl⟩
            rw [hri] at heq hcm
            obtain ⟨cb, hcb⟩ : ∃ cb, ins.contains (k : Int) = cb := ⟨_, rfl⟩
            have hd := ask_is (b := cb) heq hcb V0 (fun d => (d < N ∨ N + 3 < d) ∧ d < V0.heap.size) A Q ac qc (by omega) (by omega) (fun d hd => hd.2) HV.out.hm
            have Hri := Lib.hid hri; have Hal2 := Lib.hid hal2; have Hcb := Lib.hid hcb; have Hcm := Lib.hid hcm; have Hs0 := Lib.hid hs0
            clear heq hri hal2 hcb hcm hs0
            have Hd := Lib.hid hd
            clear hd
            go_wp2_with fail
            refine Hd.out.mono ?_
            clear Hd
            rintro e V1 ⟨A2, a2, Q2, q2, rfl, hm2, hb⟩
            have hS1 := HV.out.got hb hm2
            obtain ⟨U, hU, hbU, hsU, hBP⟩ := la_box V1 A2 Q2 a2 q2 r 25
            obtain ⟨P, hP⟩ : ∃ P, P = V1.heap.size := ⟨_, rfl⟩
            rw [← hP] at hBP
            have HSU := Lib.hid (hS1.up hbU); have HBP := Lib.hid hBP
            have hNP : N + 3 < P := by have := hS1.hv.lt; omega
            have HU := Lib.hid hU.symm; have HP := Lib.hid hP.symm
            clear hm2 hb hS1 hU hbU hsU hBP hP c0 c1 c2 f0 f1 f2 lt
            try simp only
            go_upto_region 13 with fail
            rw [HU.out, HP.out]
            clear HU HP
            have lt1 := HSU.out.s.lt
            have e1 : U.cell? ⟨N + 1, k, none⟩ = some (.int .i64 0) := by have := HSU.out.s.cell k hk10; simpa [Hs0.out] using this
            go_upto_region 16 with fail
            have e1f := HSU.out.s.froz k hk10
            have e2 : U.cell? ⟨N + 1 + 1, k, none⟩ = some (.bool (wv k)) := HSU.out.wv.cell k hk10
            have e2f : U.frozen? ⟨N + 1 + 1, k, none⟩ = false := HSU.out.wv.froz k hk10
            have lt2 : N + 1 + 1 < U.heap.size := HSU.out.wv.lt
            obtain ⟨X, hX⟩ : ∃ X, X = (U.setCell ⟨N + 1, k, none⟩ (.int .i64 ((i : Int) + 1))).setCell ⟨N + 1 + 1, k, none⟩ (.bool wt) := ⟨_, rfl⟩
            have HSX := Lib.hid (show AlS w N X l A ac Q qc r A2 a2 Q2 q2 (fun j => if j = k then i + 1 else si j) (fun j => if j = k then wt else wv j) ho by rw [hX]; exact (HSU.out.setS hk10 (i + 1)).setW hk10 wt)
            have hkX : ∀ g, g ≠ N + 1 → g ≠ N + 2 → X.heap[g]? = U.heap[g]? := fun g h1 h2 => by rw [hX]; exact (Below.heap_setCell _ ⟨N + 1 + 1, k, none⟩ _ g h2).trans (Below.heap_setCell _ ⟨N + 1, k, none⟩ _ g h1)
            have HBX := Lib.hid (HBP.out.keep (hkX P (by omega) (by omega)))
            have HX := Lib.hid hX.symm
            clear hX hkX
            go_upto_region 17 with fail
            rw [HX.out]
            clear HX e1 e1f e2 e2f lt1 lt2
            rcases Hcm.out with rfl | rfl
            · obtain rfl : cb = false := by rw [← Hcb.out]; rfl
              have HBQ := HBX
              obtain ⟨c0, c1, c2, f0, f1, f2, lt⟩ := HSX.out.hb
              obtain ⟨y0, y1, y2, _, _, _, ltp⟩ := HBQ.out
              have hNP1 : ¬ N = P := by omega
              have hNP2 : ¬ P = N := by omega
              clear hNP
              go_wp2_with fail
              go_meet
              have hfin := HSX.out.put
              rw [fill3] at hfin
              refine ⟨{ l with q := l.q ++ [⟨(k : Int), wt⟩] }, none, 0, A2, a2, Q2, q2, _, _, _, ?_, Hal2.out, ?_, ?_⟩
              · rw [Hri.out]; rfl
              · rw [Hri.out]; exact hfin
              · rw [Hri.out]; exact Rd'.nil
            · obtain rfl : cb = true := by rw [← Hcb.out]; simp
              obtain ⟨Y, hY⟩ : ∃ Y, Y = X.alloc (.cells #[.int .i64 (k : Int)] 3) := ⟨_, rfl⟩
              obtain ⟨B, hBn⟩ : ∃ B, B = X.heap.size := ⟨_, rfl⟩
              have hbY : Below X.heap.size X Y := by rw [hY]; exact (Below.refl _ _).alloc (Nat.le_refl _) _
              have hsY : Y.heap.size = B + 1 := by rw [hY, hBn]; simp
              have HSY := Lib.hid (HSX.out.up hbY)
              have HBQ := Lib.hid (HBX.out.up hbY HBX.out.lt)
              have hNB : N + 3 < B := by have := HSX.out.hv.lt; omega
              have HrY := Lib.hid (show Rd' icells 1 Y (fun d => N + 3 < d ∧ d < Y.heap.size) (some ⟨B, 0, none⟩) [(k : Int)] from fun _ => ⟨B, 0, rfl, ⟨hNB, by omega⟩, fun m c hc j v hv => by
                cases m with
                | succ m => simp at hc
                | zero =>
                  simp at hc
                  subst hc
                  cases j with
                  | succ j => simp [icells] at hv
                  | zero =>
                    simp [icells] at hv
                    subst hv
                    rw [hY, hBn]
                    simp⟩)
              have HY := Lib.hid hY.symm; have HBn := Lib.hid hBn.symm
              clear hY hbY hsY hBn
              go_upto_region 19 with fail
              rw [HY.out, HBn.out]
              clear HY HBn
              obtain ⟨c0, c1, c2, f0, f1, f2, lt⟩ := HSY.out.hb
              obtain ⟨y0, y1, y2, _, _, _, ltp⟩ := HBQ.out
              have hNP1 : ¬ N = P := by omega
              have hNP2 : ¬ P = N := by omega
              clear hNP
              go_wp2_with fail
              go_meet
              have hfin := HSY.out.put
              rw [fill3] at hfin
              refine ⟨{ l with q := l.q ++ [⟨(k : Int), wt⟩] }, some ⟨B, 0, none⟩, 1, A2, a2, Q2, q2, _, _, _, ?_, Hal2.out, ?_, ?_⟩
              · rw [Hri.out]; rfl
              · rw [Hri.out]; exact hfin
              · rw [Hri.out]
                have hk3 := (HrY.out.keep (w' := fill3 Y N r A2 a2 Q2 q2) fun d hd => fill3_keep (by omega)).imp (ok' := fun d => N + 3 < d ∧ d < (fill3 Y N r A2 a2 Q2 q2).heap.size) fun d hd => by rw [fill3_size]; exact hd
                rw [fill3] at hk3
                exact hk3
          · as_aux_lemma =>
            have heq := Hal.out.ask_in Hlr.out hk10 wt hs0
            have hd := ask_is (b := false) heq rfl V0 (fun d => (d < N ∨ N + 3 < d) ∧ d < V0.heap.size) A Q ac qc (by omega) (by omega) (fun d hd => hd.2) HV.out.hm
            have Hs0 := Lib.hid hs0
            clear heq hs0
            have Hd := Lib.hid hd
            clear hd
            go_wp2_with fail
            refine Hd.out.mono ?_
            clear Hd
            rintro e V1 ⟨A2, a2, Q2, q2, rfl, hm2, hb⟩
            have hS1 := HV.out.got hb hm2
            obtain ⟨U, hU, hbU, hsU, hBP⟩ := la_box V1 A2 Q2 a2 q2 l 25
            obtain ⟨P, hP⟩ : ∃ P, P = V1.heap.size := ⟨_, rfl⟩
            rw [← hP] at hBP
            have HSU := Lib.hid (hS1.up hbU); have HBP := Lib.hid hBP
            have hNP : N + 3 < P := by have := hS1.hv.lt; omega
            have HU := Lib.hid hU.symm; have HP := Lib.hid hP.symm
            clear hm2 hb hS1 hU hbU hsU hBP hP c0 c1 c2 f0 f1 f2 lt
            try simp only
            go_upto_region 13 with fail
            rw [HU.out, HP.out]
            clear HU HP
            have lt1 := HSU.out.s.lt
            have hsk : ((si k : Int) == 0) = false := by rw [beq_eq_false_iff_ne]; have := Hs0.out; omega
            have e1 : U.cell? ⟨N + 1, k, none⟩ = some (.int .i64 (si k : Int)) := HSU.out.s.cell k hk10
            go_upto_region 19 with fail
            clear e1 hsk lt1
            have HBQ := HBP
            obtain ⟨c0, c1, c2, f0, f1, f2, lt⟩ := HSU.out.hb
            obtain ⟨y0, y1, y2, _, _, _, ltp⟩ := HBQ.out
            have hNP1 : ¬ N = P := by omega
            have hNP2 : ¬ P = N := by omega
            clear hNP
            go_wp2_with fail
            go_meet
            have hfin := HSU.out.put
            rw [fill3] at hfin
            refine ⟨l, none, 0, A2, a2, Q2, q2, si, wv, ho, ?_, Hal.out.up (by omega), ?_, ?_⟩
            · rw [enter_none Hlr.out]; rfl
            · rw [enter_none Hlr.out]; exact hfin
            · rw [enter_none Hlr.out]; exact Rd'.nil
        | false =>
          by_cases hs0 : si k = 0
          · as_aux_lemma =>
            have heq := Hal.out.drop_out Hlr.out hk10 hs0
            have hd := drop_is heq V0 (fun d => (d < N ∨ N + 3 < d) ∧ d < V0.heap.size) A Q ac qc (by omega) (by omega) (fun d hd => hd.2) HV.out.hm
            have Hs0 := Lib.hid hs0
            have Hho := Lib.hid (show ho k = false by rw [Hal.out.hold k hk10]; exact decide_eq_false fun e => (Hal.out.si0 k hk10).2 (.inl e) hs0)
            clear heq hs0
            have Hd := Lib.hid hd
            clear hd
            go_wp2_with fail
            refine Hd.out.mono ?_
            clear Hd
            rintro e V1 ⟨A2, a2, Q2, q2, I2, i2, rfl, hm2, hI, hb⟩
            have hS1 := HV.out.got hb hm2
            obtain ⟨U, hU, hbU, hsU, hBP⟩ := la_box V1 A2 Q2 a2 q2 l 25
            obtain ⟨P, hP⟩ : ∃ P, P = V1.heap.size := ⟨_, rfl⟩
            rw [← hP] at hBP
            have HSU := Lib.hid (hS1.up hbU); have HBP := Lib.hid hBP
            have hNP : N + 3 < P := by have := hS1.hv.lt; omega
            have HI := Lib.hid ((hI.keep (w' := U) fun d hd => hbU.block d hd.2).imp (ok' := fun d => N + 3 < d ∧ d < U.heap.size) fun d hd => by have := HV.out.hv.lt; omega)
            have HU := Lib.hid hU.symm; have HP := Lib.hid hP.symm
            clear hm2 hb hS1 hU hbU hsU hBP hP c0 c1 c2 f0 f1 f2 lt hI
            try simp only
            go_upto_region 21 with fail
            rw [HU.out, HP.out]
            clear HU HP
            have lt1 := HSU.out.s.lt
            have e1 : U.cell? ⟨N + 1, k, none⟩ = some (.int .i64 0) := by have := HSU.out.s.cell k hk10; simpa [Hs0.out] using this
            have e1f := HSU.out.s.froz k hk10
            have e2 : U.cell? ⟨N + 1 + 1 + 1, k, none⟩ = some (.bool (ho k)) := HSU.out.hv.cell k hk10
            have e2f : U.frozen? ⟨N + 1 + 1 + 1, k, none⟩ = false := HSU.out.hv.froz k hk10
            have lt2 : N + 1 + 1 + 1 < U.heap.size := HSU.out.hv.lt
            go_upto_region 23 with fail
            obtain ⟨X, hX⟩ : ∃ X, X = (U.setCell ⟨N + 1, k, none⟩ (.int .i64 0)).setCell ⟨N + 1 + 1 + 1, k, none⟩ (.bool false) := ⟨_, rfl⟩
            have HSX := Lib.hid (show AlS w N X l A ac Q qc l A2 a2 Q2 q2 (fun j => if j = k then 0 else si j) wv (fun j => if j = k then false else ho j) by rw [hX]; exact (HSU.out.setS hk10 0).setH hk10 false)
            have hkX : ∀ g, g ≠ N + 1 → g ≠ N + 3 → X.heap[g]? = U.heap[g]? := fun g h1 h2 => by rw [hX]; exact (Below.heap_setCell _ ⟨N + 1 + 1 + 1, k, none⟩ _ g h2).trans (Below.heap_setCell _ ⟨N + 1, k, none⟩ _ g h1)
            have hsX : X.heap.size = U.heap.size := by rw [hX]; simp
            have HBQ := Lib.hid (HBP.out.keep (hkX P (by omega) (by omega)))
            have HIX := Lib.hid ((HI.out.keep (w' := X) fun d hd => hkX d (by omega) (by omega)).imp (ok' := fun d => N + 3 < d ∧ d < X.heap.size) fun d hd => by rw [hsX]; exact hd)
            have HX := Lib.hid hX.symm
            clear hX hkX hsX
            go_upto_region 24 with fail
            rw [HX.out]
            clear HX e1 e1f e2 e2f lt1 lt2
            simp only [List.length_nil]
            obtain ⟨c0, c1, c2, f0, f1, f2, lt⟩ := HSX.out.hb
            obtain ⟨y0, y1, y2, _, _, _, ltp⟩ := HBQ.out
            have hNP1 : ¬ N = P := by omega
            have hNP2 : ¬ P = N := by omega
            clear hNP
            go_wp2_with fail
            go_meet
            have hfin := HSX.out.put
            rw [fill3] at hfin
            refine ⟨l, I2, i2, A2, a2, Q2, q2, si, wv, ho, ?_, Hal.out.up (by omega), ?_, ?_⟩
            · rw [enter_none Hlr.out]; rfl
            · rw [enter_none Hlr.out]
              exact hfin.congr (fun j _ => by by_cases h : j = k; rw [if_pos h, h, Hs0.out]; rw [if_neg h]) (fun _ _ => rfl) (fun j _ => by by_cases h : j = k; rw [if_pos h, h, Hho.out]; rw [if_neg h])
            · rw [enter_none Hlr.out]
              have hk3 := (HIX.out.keep (w' := fill3 X N l A2 a2 Q2 q2) fun d hd => fill3_keep (by omega)).imp (ok' := fun d => N + 3 < d ∧ d < (fill3 X N l A2 a2 Q2 q2).heap.size) fun d hd => by rw [fill3_size]; exact hd
              rw [fill3] at hk3
              exact hk3
          · as_aux_lemma =>
            obtain ⟨heq, hal2⟩ := Hal.out.drop_in Hlr.out hk10 hs0
            obtain ⟨r, ins, hri⟩ : ∃ r ins, enterL (lessL l (k : Int)) = (r, ins) := ⟨_, _, rfl⟩
            rw [hri] at heq
            have hd := drop_is heq V0 (fun d => (d < N ∨ N + 3 < d) ∧ d < V0.heap.size) A Q ac qc (by omega) (by omega) (fun d hd => hd.2) HV.out.hm
            have Hri := Lib.hid hri; have Hal2 := Lib.hid hal2; have Hs0 := Lib.hid hs0
            clear heq hri hal2 hs0
            have Hd := Lib.hid hd
            clear hd
            go_wp2_with fail
            refine Hd.out.mono ?_
            clear Hd
            rintro e V1 ⟨A2, a2, Q2, q2, I2, i2, rfl, hm2, hI, hb⟩
            have hS1 := HV.out.got hb hm2
            obtain ⟨U, hU, hbU, hsU, hBP⟩ := la_box V1 A2 Q2 a2 q2 r 25
            obtain ⟨P, hP⟩ : ∃ P, P = V1.heap.size := ⟨_, rfl⟩
            rw [← hP] at hBP
            have HSU := Lib.hid (hS1.up hbU); have HBP := Lib.hid hBP
            have hNP : N + 3 < P := by have := hS1.hv.lt; omega
            have HI := Lib.hid ((hI.keep (w' := U) fun d hd => hbU.block d hd.2).imp (ok' := fun d => N + 3 < d ∧ d < U.heap.size) fun d hd => by have := HV.out.hv.lt; omega)
            have HU := Lib.hid hU.symm; have HP := Lib.hid hP.symm
            clear hm2 hb hS1 hU hbU hsU hBP hP c0 c1 c2 f0 f1 f2 lt hI
            try simp only
            go_upto_region 21 with fail
            rw [HU.out, HP.out]
            clear HU HP
            have lt1 := HSU.out.s.lt
            have hsk : ((si k : Int) != 0) = true := by rw [bne_iff_ne]; have := Hs0.out; omega
            have e1 : U.cell? ⟨N + 1, k, none⟩ = some (.int .i64 (si k : Int)) := HSU.out.s.cell k hk10
            have e1f := HSU.out.s.froz k hk10
            have e2 : U.cell? ⟨N + 1 + 1 + 1, k, none⟩ = some (.bool (ho k)) := HSU.out.hv.cell k hk10
            have e2f : U.frozen? ⟨N + 1 + 1 + 1, k, none⟩ = false := HSU.out.hv.froz k hk10
            have lt2 : N + 1 + 1 + 1 < U.heap.size := HSU.out.hv.lt
            go_upto_region 23 with fail
            obtain ⟨X, hX⟩ : ∃ X, X = (U.setCell ⟨N + 1, k, none⟩ (.int .i64 0)).setCell ⟨N + 1 + 1 + 1, k, none⟩ (.bool false) := ⟨_, rfl⟩
            have HSX := Lib.hid (show AlS w N X l A ac Q qc r A2 a2 Q2 q2 (fun j => if j = k then 0 else si j) wv (fun j => if j = k then false else ho j) by rw [hX]; exact (HSU.out.setS hk10 0).setH hk10 false)
            have hkX : ∀ g, g ≠ N + 1 → g ≠ N + 3 → X.heap[g]? = U.heap[g]? := fun g h1 h2 => by rw [hX]; exact (Below.heap_setCell _ ⟨N + 1 + 1 + 1, k, none⟩ _ g h2).trans (Below.heap_setCell _ ⟨N + 1, k, none⟩ _ g h1)
            have hsX : X.heap.size = U.heap.size := by rw [hX]; simp
            have HBQ := Lib.hid (HBP.out.keep (hkX P (by omega) (by omega)))
            have HIX := Lib.hid ((HI.out.keep (w' := X) fun d hd => hkX d (by omega) (by omega)).imp (ok' := fun d => N + 3 < d ∧ d < X.heap.size) fun d hd => by rw [hsX]; exact hd)
            have HX := Lib.hid hX.symm
            clear hX hkX hsX
            go_upto_region 24 with fail
            rw [HX.out]
            clear HX e1 e1f e2 e2f lt1 lt2
            clear hsk
            obtain ⟨c0, c1, c2, f0, f1, f2, lt⟩ := HSX.out.hb
            obtain ⟨y0, y1, y2, _, _, _, ltp⟩ := HBQ.out
            have hNP1 : ¬ N = P := by omega
            have hNP2 : ¬ P = N := by omega
            clear hNP
            go_wp2_with fail
            go_meet
            have hfin := HSX.out.put
            rw [fill3] at hfin
            refine ⟨lessL l (k : Int), I2, i2, A2, a2, Q2, q2, _, _, _, ?_, Hal2.out.up (by omega), ?_, ?_⟩
            · rw [Hri.out]
            · rw [Hri.out]; exact hfin
            · rw [Hri.out]
              have hk3 := (HIX.out.keep (w' := fill3 X N r A2 a2 Q2 q2) fun d hd => fill3_keep (by omega)).imp (ok' := fun d => N + 3 < d ∧ d < (fill3 X N r A2 a2 Q2 q2).heap.size) fun d hd => by rw [fill3_size]; exact hd
              rw [fill3] at hk3
              exact hk3
      case rest =>
        clear HV Hal Hlr Hcell Hk Hwt Hak
        obtain ⟨ml, I, ic, A, ac, Q, qc, si, wv, ho, rfl, hal, hS, hI⟩ := hcut
        have hml := hal.small
        obtain ⟨lf, hlf⟩ : ∃ lf, lf = (enterL ml).1 := ⟨_, rfl⟩
        obtain ⟨cm, hcm⟩ : ∃ cm, cm = (enterL ml).2 := ⟨_, rfl⟩
        have hcl : cm.length ≤ 10 := by
          have h := (letL_len ml.q ml.hs ml.ex).1
          have h2 : cm = (letL ml.hs ml.ex ml.q).2.2.2 := hcm
          rw [h2]; omega
        rw [← hlf] at hS
        rw [← hcm] at hI ⊢
        have Hlf := Lib.hid hlf; have Hcm := Lib.hid hcm; have Hal := Lib.hid hal; have HS := Lib.hid hS; have HI := Lib.hid hI
        clear hlf hcm hal hS hI hml
        go_wp2_with fail
        go_loopg [108] cm.length (fun g cv wr => ∃ (c : Nat) (hs : List Int) (ex : Bool) (q : List Wt) (dn : List Int) (ho : Nat → Bool), c ≤ cm.length ∧ g = cm.length - c ∧ cv = .int .i64 c ∧ dn.length = c ∧
          letL ml.hs ml.ex ml.q = ((letL hs ex q).1, (letL hs ex q).2.1, (letL hs ex q).2.2.1, dn ++ (letL hs ex q).2.2.2) ∧ Al ⟨hs, ex, q⟩ si wv ho (i + 1) ∧ AlS w N wr lf A ac Q qc lf A ac Q qc si wv ho ∧ Rd' icells 1 wr (fun d => N + 3 < d ∧ d < wr.heap.size) I cm)
        case atStart => exact ⟨0, ml.hs, ml.ex, ml.q, [], ho, Nat.zero_le _, rfl, rfl, rfl, by simp, Hal.out, HS.out, HI.out⟩
        case round =>
          clear Hal HS HI
          obtain ⟨c, hs, ex, q, dn, ho, hc, hg, rfl, hdl, hrun, hal, hS, hI⟩ := hrel
          have HS := Lib.hid hS; have HI := Lib.hid hI; have Hal := Lib.hid hal; have Hrun := Lib.hid hrun; have Hdl := Lib.hid hdl; have Hg2 := Lib.hid hg
          clear hS hI hal hrun hdl hg
          by_cases hlt : c < cm.length
          · as_aux_lemma =>
            obtain ⟨t, q', rfl, hop, hat, hrun2⟩ := run_next Hrun.out (by rw [Hdl.out, ← Hcm.out]; exact hlt)
            obtain ⟨n, hn10, htn, hhn, hsn, hord, hal2⟩ := Hal.out.letin hop
            rw [← Hcm.out, Hdl.out, htn] at hat
            obtain ⟨n', bI, oI, hn', rfl, hbI, hcI⟩ := rd_i (HI.out.to (B := wr.heap.size) fun d hd => hd.2) hlt
            obtain rfl : n' = (n : Int) := Option.some.inj (hn'.symm.trans hat)
            have g0 := hcI wr (Below.refl _ _)
            have e1 : wr.cell? ⟨N + 1 + 1 + 1, n, none⟩ = some (.bool false) := by have := HS.out.hv.cell n hn10; rw [hhn] at this; exact this
            have e1f : wr.frozen? ⟨N + 1 + 1 + 1, n, none⟩ = false := HS.out.hv.froz n hn10
            have e2 : wr.cell? ⟨N + 1, n, none⟩ = some (.int .i64 (si n : Int)) := HS.out.s.cell n hn10
            have lt1 : N + 1 < wr.heap.size := HS.out.s.lt
            have lt3 : N + 1 + 1 + 1 < wr.heap.size := HS.out.hv.lt
            have hsk : ((si n : Int) == 0) = false := by rw [beq_eq_false_iff_ne]; omega
            have hn0 : ¬ (n : Int) < 0 := by omega
            have hn9 : ¬ (9 : Int) < (n : Int) := by omega
            have hn10i : (n : Int) < 10 := by omega
            have hci : (c : Int) < (cm.length : Int) := by omega
            have Hord := Lib.hid hord; have Hal2 := Lib.hid hal2; have Hrun2 := Lib.hid hrun2
            clear hop hat hn' hhn hsn hord hal2 hrun2 hcI htn
            go_upto_region 30 with fail
            obtain ⟨X, hX⟩ : ∃ X, X = wr.setCell ⟨N + 1 + 1 + 1, n, none⟩ (.bool true) := ⟨_, rfl⟩
            have HSX := Lib.hid (show AlS w N X lf A ac Q qc lf A ac Q qc si wv (fun j => if j = n then true else ho j) by rw [hX]; exact HS.out.setH hn10 true)
            have hsX : X.heap.size = wr.heap.size := by rw [hX]; simp
            have HIX := Lib.hid ((HI.out.keep (w' := X) fun d hd => by rw [hX]; exact Below.heap_setCell wr ⟨N + 1 + 1 + 1, n, none⟩ _ d (by show d ≠ N + 1 + 1 + 1; omega)).imp (ok' := fun d => N + 3 < d ∧ d < X.heap.size) fun d hd => by rw [hsX]; exact hd)
            have HX := Lib.hid hX.symm
            clear hX hsX
            go_upto_region 31 with fail
            rw [HX.out]
            clear HX e1 e1f e2 lt1 lt3 hsk g0 hbI
            obtain ⟨wz, hwz⟩ : ∃ wz : World, wz = wr := ⟨_, rfl⟩
            clear hwz
            go_wp2_with fail
            go_loopg [131] 10 (fun g kv wy => ∃ (k2 : Nat), k2 ≤ 10 ∧ g = 10 - k2 ∧ kv = .int .i64 k2 ∧ Below X.heap.size X wy)
            case atStart => exact ⟨0, Nat.zero_le _, rfl, rfl, Below.refl _ _⟩
            case round =>
              obtain ⟨k2, hk2, hg3, rfl, hbX⟩ := hrel
              have HbX := Lib.hid hbX; have Hg3 := Lib.hid hg3
              clear hbX hg3
              have HSY := Lib.hid (HSX.out.up HbX.out)
              by_cases hlt2 : k2 < 10
              · have hk2i : (k2 : Int) < 10 := by omega
                have hk20 : (0 : Int) ≤ (k2 : Int) := by omega
                have hn00 : (0 : Int) ≤ (n : Int) := by omega
                have e1 := HSY.out.s.cell k2 hlt2
                have e2 := HSY.out.s.cell n hn10
                have e3 := HSY.out.hv.cell k2 hlt2
                have hordk := Hord.out k2 hlt2
                obtain ⟨hb3, hhb3⟩ : ∃ hb3, (if k2 = n then true else ho k2) = hb3 := ⟨_, rfl⟩
                simp only [hhb3] at e3 hordk
                obtain ⟨sa, hsa⟩ : ∃ sa : Int, sa = (si k2 : Int) := ⟨_, rfl⟩
                obtain ⟨sb, hsb⟩ : ∃ sb : Int, sb = (si n : Int) := ⟨_, rfl⟩
                simp only [← hsa] at e1
                simp only [← hsb] at e2
                have e1' : _ := e1
                have e2' : _ := e2
                have e3' : _ := e3
                have lt1 := HSY.out.s.lt
                have lt3 := HSY.out.hv.lt
                have hcs : (sa != 0) = false ∨ ((sa != 0) = true ∧ ¬ sa < sb) ∨ ((sa != 0) = true ∧ sa < sb ∧ hb3 = true) := by
                  by_cases h1 : sa = 0
                  · exact .inl (by simp [h1])
                  · by_cases h2 : sa < sb
                    · exact .inr (.inr ⟨by simpa using h1, h2, hordk (by omega) (by omega)⟩)
                    · exact .inr (.inl ⟨by simpa using h1, h2⟩)
                clear hordk hhb3 hsa hsb
                rcases hcs with h1 | ⟨h1, h2⟩ | ⟨h1, h2, rfl⟩
                all_goals
                  go_upto_region 34 with fail
                  go_quiet (fail)
                  go_wp2_with fail
                  go_roundg (10 - (k2 + 1))
                  case measure => have := Hg3.out; omega
                  case rel => exact ⟨k2 + 1, by omega, rfl, by go_num, below_drewN HbX.out _⟩
              · obtain rfl : k2 = 10 := by omega
                clear hlt2 hk2 Hg3
                go_wp2_with fail
                go_roundg (cm.length - (c + 1))
                case measure => have := Hg2.out; omega
                case rel => exact ⟨c + 1, withL hs t.who, ex || t.ex, q', dn ++ [t.who], _, by omega, rfl, by go_num, by rw [List.length_append, Hdl.out]; rfl, Hrun2.out, Hal2.out, HSY.out, (HIX.out.keep fun d hd => HbX.out.block d hd.2).imp fun d hd => ⟨hd.1, Nat.lt_of_lt_of_le hd.2 HbX.out.size⟩⟩
          · as_aux_lemma =>
            obtain rfl : c = cm.length := by omega
            obtain ⟨hl2, hop⟩ := run_end Hrun.out (by rw [Hdl.out, ← Hcm.out]; omega)
            rw [← Hlf.out] at hl2
            have Hlr := Lib.hid (show lf.right = true by rw [hl2]; exact la_pre.2 ⟨Hal.out.pre, hop⟩)
            have Hal' := Lib.hid (show Al lf si wv ho (i + 1) by rw [hl2]; exact Hal.out)
            clear hl2 hop Hrun Hdl Hg2 Hal hlt hc HI Hcm Hlf
            have hsm := Hal'.out.small
            obtain ⟨V, hV⟩ : ∃ V, V = wr := ⟨_, rfl⟩
            rw [← hV] at HS ⊢
            clear hV
            go_upto_region 39 with fail
            go_wp2_with fail
            go_loopg [155, 21, 22] 10 (fun g kv rv uv wy => ∃ (k2 : Nat), k2 ≤ 10 ∧ g = 10 - k2 ∧ kv = .int .i64 k2 ∧ rv = .int .i64 ((cntRd wv ho k2 : Nat) : Int) ∧ uv = .int .i64 ((cntWr wv ho k2 : Nat) : Int) ∧ Below V.heap.size V wy)
            case atStart => exact ⟨0, Nat.zero_le _, rfl, rfl, rfl, rfl, Below.refl _ _⟩
            case round =>
              obtain ⟨k2, hk2, hg3, rfl, rfl, rfl, hbV⟩ := hrel
              have HbV := Lib.hid hbV; have Hg3 := Lib.hid hg3
              clear hbV hg3
              have HSY := Lib.hid (HS.out.up HbV.out)
              obtain ⟨c0, c1, c2, f0, f1, f2, lt⟩ := HSY.out.hb
              by_cases hlt2 : k2 < 10
              · obtain ⟨hb3, hhb3⟩ : ∃ hb3, ho k2 = hb3 := ⟨_, rfl⟩
                obtain ⟨wb3, hwb3⟩ : ∃ wb3, wv k2 = wb3 := ⟨_, rfl⟩
                have hh := Hal'.out.holds Hlr.out hlt2
                rw [hhb3, hwb3] at hh
                have hd : Calls Try.prog 20 #[.agg #[.slice A lf.hs.length ac, .bool lf.ex, .slice Q lf.q.length qc], .int .i64 (k2 : Int)] wr fun e w' => e = .returned (.tuple #[.bool hb3, .bool (hb3 && wb3)]) ∧ Below wr.heap.size wr w' := by
                  have h := holds_any wr A Q ac qc lf (k2 : Int) (by omega) (by omega) (HSY.out.hm.imp fun b hb => hb.2)
                  rw [hh.1] at h
                  cases hb3 with
                  | false => exact h
                  | true => rw [hh.2 rfl]; exact h
                have Hr1 := Lib.hid (show cntRd wv ho (k2 + 1) = cntRd wv ho k2 + if hb3 = true ∧ wb3 = false then 1 else 0 by rw [cntRd, hhb3, hwb3])
                have Hw1 := Lib.hid (show cntWr wv ho (k2 + 1) = cntWr wv ho k2 + if hb3 = true ∧ wb3 = true then 1 else 0 by rw [cntWr, hhb3, hwb3])
                have hrl := cntRd_le wv ho k2
                have hwl := cntWr_le wv ho k2
                obtain ⟨rn, hrn⟩ : ∃ rn, rn = cntRd wv ho k2 := ⟨_, rfl⟩
                obtain ⟨wn, hwn⟩ : ∃ wn, wn = cntWr wv ho k2 := ⟨_, rfl⟩
                rw [← hrn] at Hr1 hrl ⊢
                rw [← hwn] at Hw1 hwl ⊢
                have Hd := Lib.hid hd; have Hhb3 := Lib.hid hhb3; have Hwb3 := Lib.hid hwb3
                clear hd hh hhb3 hwb3 hrn hwn
                have hk2i : (k2 : Int) < 10 := by omega
                have hk20 : (0 : Int) ≤ (k2 : Int) := by omega
                go_wp2_with fail
                refine Hd.out.mono ?_
                clear Hd
                rintro e V1 ⟨rfl, hb1⟩
                have HSZ := Lib.hid (HSY.out.up hb1)
                have HbV1 := Lib.hid (HbV.out.trans (hb1.mono HbV.out.size))
                clear hb1 c0 c1 c2 f0 f1 f2 lt
                have e1 : V1.cell? ⟨N + 1 + 1 + 1, k2, none⟩ = some (.bool hb3) := by have := HSZ.out.hv.cell k2 hlt2; rw [Hhb3.out] at this; exact this
                have e2 : V1.cell? ⟨N + 1 + 1, k2, none⟩ = some (.bool wb3) := by have := HSZ.out.wv.cell k2 hlt2; rw [Hwb3.out] at this; exact this
                have lt1 : N + 1 + 1 < V1.heap.size := HSZ.out.wv.lt
                have lt3 : N + 1 + 1 + 1 < V1.heap.size := HSZ.out.hv.lt
                cases hb3 <;> cases wb3
                all_goals
                  go_wp2_with fail
                  go_roundg (10 - (k2 + 1))
                  case measure => have := Hg3.out; omega
                  case rel => exact ⟨k2 + 1, by omega, rfl, by go_num, by rw [Hr1.out]; first | rfl | (simp; done) | go_num, by rw [Hw1.out]; first | rfl | (simp; done) | go_num, HbV1.out⟩
              · obtain rfl : k2 = 10 := by omega
                have hao := Hal'.out.alone
                obtain ⟨rn, hrn⟩ : ∃ rn, rn = cntRd wv ho 10 := ⟨_, rfl⟩
                obtain ⟨wn, hwn⟩ : ∃ wn, wn = cntWr wv ho 10 := ⟨_, rfl⟩
                rw [← hrn, ← hwn] at hao
                rw [← hrn, ← hwn]
                have hcs : wn = 0 ∨ (wn = 1 ∧ rn = 0) := by omega
                have hd : Calls Try.prog 15 #[.agg #[.slice A lf.hs.length ac, .bool lf.ex, .slice Q lf.q.length qc]] wr fun e w' => e = .returned (.bool true) ∧ Below wr.heap.size wr w' := by
                  have h := laRight_any wr A Q ac qc lf (by omega) (by omega) (HSY.out.hm.imp fun b hb => hb.2)
                  rw [Hlr.out] at h
                  exact h
                have Hd := Lib.hid hd
                clear hd hao hrn hwn hlt2 hk2 Hg3
                rcases hcs with rfl | ⟨rfl, rfl⟩
                all_goals
                  go_wp2_with fail
                  refine Hd.out.mono ?_
                  rintro e V1 ⟨rfl, hb1⟩
                  have HSZ := Lib.hid (HSY.out.up hb1)
                  clear hb1 c0 c1 c2 f0 f1 f2 lt
                  go_wp2_with fail
                  go_roundg (acts.length - (i + 1))
                  case measure => have := Hg.out; omega
                  case rel => exact ⟨i + 1, lf, A, ac, Q, qc, si, wv, ho, by omega, by omega, rfl, by go_num, by go_num, Hal'.out, Hlr.out, HSZ.out⟩
end Go.Proofs.Ytigffndobddflaa
