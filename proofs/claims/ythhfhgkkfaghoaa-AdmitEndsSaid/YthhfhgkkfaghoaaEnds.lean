/- The law AdmitEnds, walked. -/
import Derived.Test.YthhfhgkkfaghoaaEndsP
import Derived.Test.YthhfhgkkfaghoaaRef7
import Derived.Test.YthhfhgkkfaghoaaAdm12
import Derived.Deep.DeepCutAuto
namespace Go.Proofs.Ythhfhgkkfaghoaa
open Go.RowKit

/-- what the loop has done so far: k is the hall, ins who came; the box at N, the document's hall at P -/
structure EndsR (w : World) (N P B0 : Nat) (x : Hall) (A1 : Option Addr) (a1 : Nat) (Q1 : Option Addr) (q1 : Nat) (wr : World) (j : Nat) (k : Hall) (ins : List Int) (A : Option Addr) (ac : Nat) (Q : Option Addr) (qc : Nat) (I : Option Addr) (ic : Nat) : Prop where
  hb : HB N k A ac Q qc wr
  hm : HM wr (fun b => b ≠ N ∧ b < wr.heap.size ∧ (Value.slice I ins.length ic).ownBlock ≠ some b) k A ac Q qc
  bx : HB P x A1 a1 Q1 q1 wr
  rx : Rd' T.cells 2 wr (fun b => b ≠ N ∧ b < wr.heap.size ∧ (Value.slice I ins.length ic).ownBlock ≠ some b) Q1 x.q
  own : wr.ownsRow B0 3 1 (.slice I ins.length ic) ins.length (ins.flatMap icells)
  below : Below N w wr
  size : B0 ≤ wr.heap.size
  right : k.right = true
  run : ins ++ k.q.map T.who = x.q.map T.who
  tot : k.total + j = x.total
theorem ends_len {ins : List Int} {q r : List T} (h : ins ++ q.map T.who = r.map T.who) : ins.length + q.length = r.length := by
  have := congrArg List.length h
  simpa using this
theorem icells_len : ∀ l : List Int, (l.flatMap icells).length = l.length * 1
  | [] => rfl
  | a :: l => by rw [List.flatMap_cons, List.length_append, icells_len l]; simp [icells]; omega
theorem own_none {v : Value} {b : Nat} (h : v.ownBlock = none) : v.ownBlock ≠ some b := by rw [h]; simp

set_option maxRecDepth 20000 in
set_option maxHeartbeats 8000000 in
theorem lawEnds (w : World) (A0 Q0 : Option Addr) (a0 q0 : Nat) (x : Hall) (hc : x.cs.length ≤ 9223372036854775807) (hq : x.q.length ≤ 9223372036854775807) (hm : HM w (fun b => b < w.heap.size) x A0 a0 Q0 q0) :
    Calls Try.prog 4 #[.agg #[.int .i64 x.frames, .int .i64 x.budget, .slice A0 x.cs.length a0, .slice Q0 x.q.length q0]] w fun e w' => e = .returned (.bool true) ∧ Below w.heap.size w w' := by
  obtain ⟨N, hP0⟩ : ∃ P0, P0 = w.heap.size := ⟨_, rfl⟩
  obtain ⟨U0, hU0, hb0, hs0, hB0, hM0⟩ := new_box 25 hm
  rw [← hP0] at hB0 hM0
  have HU0 := Lib.hid hU0.symm; have HP0 := Lib.hid hP0.symm
  have Hb0 := Lib.hid hb0; have HB0 := Lib.hid hB0
  have HM0 := Lib.hid hM0
  clear hP0 hU0 hb0 hs0 hB0 hM0 hm
  go_enter Try.func4, Try.ntmps4
  go_upto_region 1 with fail
  rw [HU0.out, HP0.out]
  obtain ⟨c0, c1, c2, c3, _, _, _, _, lt⟩ := HB0.out
  by_cases hlen : x.cs.length ≤ 40 ∧ x.q.length ≤ 60
  case neg =>
    have Hlen := Lib.hid hlen
    clear hlen
    go_wp2_with fail
    refine (refLong_any U0 A0 Q0 a0 q0 x Hlen.out).mono ?_
    rintro e V ⟨rfl, hb⟩
    have Hb := Lib.hid hb
    clear hb c0 c1 c2 c3
    try simp only
    go_wp2_with fail
    refine (awake_any _).mono ?_
    rintro e V2 ⟨rfl, hb2⟩
    go_wp2_with fail
    go_ret
    exact ⟨rfl, bnext ((bnext Hb0.out Hb.out).alloc (bnext Hb0.out Hb.out).size _) hb2⟩
  obtain ⟨hl1, hl2⟩ := hlen
  have hmb := HM0.out.imp (ok' := fun b => b < U0.heap.size) fun b hb => hb.2
  have hd := refHere_any U0 A0 Q0 a0 q0 x hl1 hl2 hmb.c hmb.q
  have Hd := Lib.hid hd
  clear hd hmb
  go_wp2_with fail
  refine Hd.out.mono ?_
  clear Hd
  rintro e V1 ⟨A1, a1, Q1, q1, rfl, hm, hb⟩
  have hm' : HM V1 (fun b => b < V1.heap.size) x A1 a1 Q1 q1 := hm.imp fun b h => by have := hb.size; omega
  obtain ⟨P1, hP⟩ : ∃ P, P = V1.heap.size := ⟨_, rfl⟩
  obtain ⟨U1, hU, hbU, hsU, hBU, hMU⟩ := new_box 29 hm'
  rw [← hP] at hBU
  have hNP : N < P1 := by have := hb.size; omega
  have hmN : HM U1 (fun b => b ≠ N ∧ b < U1.heap.size) x A1 a1 Q1 q1 := (hm.below hbU fun b h => by have := hb.size; omega).imp fun b h => by have := hb.size; have := hbU.size; omega
  have Hq1 := Lib.hid (show Below U0.heap.size U0 U1 from bnext hb hbU)
  have HB1 := Lib.hid hBU; have HM1 := Lib.hid hmN
  have HU := Lib.hid hU.symm; have HP := Lib.hid hP.symm
  clear hm hb hm' hP hU hbU hsU hBU hMU hmN c0 c1 c2 c3 lt
  try simp only
  go_upto_region 2 with fail
  rw [HU.out, HP.out]
  clear HU HP
  obtain ⟨c0, c1, c2, c3, _, _, _, _, lt⟩ := HB1.out
  have hm1 := HM1.out.imp (ok' := fun b => b < U1.heap.size) fun b hb => hb.2
  have hd := refHall_any U1 A1 Q1 a1 q1 x (by omega) (by omega) hm1.c hm1.q
  obtain ⟨rt, hrt⟩ : ∃ rt, rt = x.right := ⟨_, rfl⟩
  rw [← hrt] at hd
  have Hd := Lib.hid hd; have Hrt := Lib.hid hrt
  clear hd hrt hm1
  go_wp2_with fail
  refine Hd.out.mono ?_
  clear Hd
  rintro e UR ⟨rfl, hb⟩
  have HqR := Lib.hid hb
  clear hb c0 c1 c2 c3 lt
  cases rt with
  | false =>
    go_wp2_with fail
    refine (awake_any _).mono ?_
    rintro e V2 ⟨rfl, hb2⟩
    go_wp2_with fail
    go_ret
    exact ⟨rfl, bnext (bnext (bnext Hb0.out Hq1.out) HqR.out) hb2⟩
  | true =>
    have HBR := Lib.hid (HB0.out.up (bnext Hq1.out HqR.out) HB0.out.lt)
    have HR := Lib.hid (show EndsR w N P1 UR.heap.size x A1 a1 Q1 q1 UR 0 x [] A0 a0 Q0 q0 none 0 from
      ⟨HBR.out, (HM0.out.below (bnext Hq1.out HqR.out) fun b h => h.2).imp fun b h => ⟨h.1, by have := (bnext Hq1.out HqR.out).size; omega, own_none rfl⟩, HB1.out.up HqR.out HB1.out.lt,
        (HM1.out.rq.keep fun b h => HqR.out.block b h.2).imp fun b h => ⟨h.1, by have := HqR.out.size; omega, own_none rfl⟩, World.ownsRow_nil _ _ _ _, by rw [← HP0.out]; exact bnext (bnext Hb0.out Hq1.out) HqR.out, Nat.le_refl _, Hrt.out.symm, by simp, rfl⟩)
    have HltP := Lib.hid (show P1 < UR.heap.size ∧ N < UR.heap.size by have := HB1.out.lt; have := HqR.out.size; omega)
    obtain ⟨c0, c1, c2, c3, _, _, _, _, lt⟩ := HBR.out
    obtain ⟨j0, hj, hy0, hy1, hy2⟩ := info_parts Try.infoInt
    obtain ⟨B0, hB0⟩ : ∃ B, B = UR.heap.size := ⟨_, rfl⟩
    rw [← hB0] at HR HltP
    clear hB0
    go_wp2_with fail
    clear c0 c1 c2 c3 lt
    go_loopg [5, 33] (x.cs.length + x.q.length) (fun g cv iv wr => ∃ (j : Nat) (k : Hall) (ins : List Int) (A : Option Addr) (ac : Nat) (Q : Option Addr) (qc : Nat) (I : Option Addr) (ic : Nat), j ≤ x.cs.length + x.q.length ∧ g = x.cs.length + x.q.length - j ∧ cv = .slice I ins.length ic ∧ iv = .int .i64 j ∧ EndsR w N P1 B0 x A1 a1 Q1 q1 wr j k ins A ac Q qc I ic)
    case atStart => exact ⟨0, x, [], A0, a0, Q0, q0, none, 0, Nat.zero_le _, rfl, rfl, rfl, HR.out⟩
    case round =>
      obtain ⟨j, k, ins, A, ac, Q, qc, I, ic, hj', hg, rfl, rfl, hE⟩ := hrel
      have HE := Lib.hid hE
      have Hg := Lib.hid hg
      obtain ⟨c0, c1, c2, c3, f0, f1, f2, f3, lt⟩ := hE.hb
      clear hE hg
      by_cases hlt : j < x.cs.length + x.q.length
      · obtain ⟨c, r, hcr⟩ := ends_some HE.out.right (by have := HE.out.tot; unfold Hall.total at *; omega)
        obtain ⟨k2, ins2, hend, hk2r, hk2t, hk2q⟩ := ends_step HE.out.right hcr
        obtain ⟨b, off, rfl, hbb, hcell⟩ := HE.out.hm.rc (by rw [hcr]; simp)
        have a0' : wr.cell? ⟨b, off, none⟩ = some (.int .i64 c.who) := by have := hcell 0 c (by rw [hcr]; rfl) 0 _ rfl; simpa using this
        have hk0 : 0 < k.cs.length := by rw [hcr]; simp
        have hk0i : ((k.cs.length : Int) == 0) = false := by rw [beq_eq_false_iff_ne]; omega
        have hk0i2 : (0 : Int) < (k.cs.length : Int) := by omega
        have hji : (j : Int) < (x.cs.length : Int) + (x.q.length : Int) := by omega
        have hkl := (heads_iff.1 (right_pre.1 HE.out.right).1.heads).2.2.2.2
        have Ha0 := Lib.hid a0'
        have Hend := Lib.hid hend; have Hk2r := Lib.hid hk2r; have Hk2t := Lib.hid hk2t; have Hk2q := Lib.hid hk2q; have Hkl := Lib.hid hkl; have Hhbb := Lib.hid hbb
        clear hcell hcr hend hk2r hk2t hk2q hkl hbb
        go_upto_region 10 with fail
        go_cut [7, 8, 9] (fun s7 s8 s9 wx => ∃ (p : Nat) (A2 : Option Addr) (ac2 : Nat) (Q2 : Option Addr) (qc2 : Nat) (I2 : Option Addr) (ic2 : Nat), s7 = .pointer (some ⟨p, 0, none⟩) ∧ s8 = .slice I2 ins2.length ic2 ∧ s9 = .int .i64 0 ∧ HB p k2 A2 ac2 Q2 qc2 wx ∧ wr.heap.size ≤ p ∧
          HM wx (fun d => (d ≠ N ∧ d < wr.heap.size ∧ (Value.slice I ins.length ic).ownBlock ≠ some d) ∨ (wr.heap.size ≤ d ∧ d ≠ p ∧ d < wx.heap.size)) k2 A2 ac2 Q2 qc2 ∧ Rd' icells 1 wx (fun d => wr.heap.size ≤ d ∧ d < wx.heap.size) I2 ins2 ∧ Below wr.heap.size wr wx)
        case first =>
          obtain ⟨M, hM⟩ : ∃ M, M = wr.heap.size := ⟨_, rfl⟩
          have hC : ∀ U, Below M wr U → HB N k (some ⟨b, off, none⟩) ac Q qc U ∧ U.cell? ⟨b, off, none⟩ = some (.int .i64 c.who) := fun U hU => ⟨HE.out.hb.up hU (by have := HE.out.hb.lt; omega), (hU.cell (p := ⟨b, off, none⟩) (by have := Hhbb.out.2.1; show b < M; omega)).trans Ha0.out⟩
          have HC := Lib.hid hC
          refine wp_region_C (fun U => HB N k (some ⟨b, off, none⟩) ac Q qc U ∧ U.cell? ⟨b, off, none⟩ = some (.int .i64 c.who)) (by kernel_rfl) rfl rfl ?_
          obtain ⟨U0', hU0⟩ : ∃ U0, U0 = wr.drew := ⟨_, rfl⟩
          have hb0 : Below M wr U0' := by rw [hU0, hM]; exact (Below.refl _ _).drew
          have hs0 : U0'.heap.size = M := by rw [hU0, hM]; rfl
          have hm0 : HM U0' (fun b => b ≠ N ∧ b < M ∧ (Value.slice I ins.length ic).ownBlock ≠ some b) k (some ⟨b, off, none⟩) ac Q qc := by rw [hU0, hM]; exact HE.out.hm.keep (fun b _ => rfl)
          have Hs0 := Lib.hid hs0; have Hb0' := Lib.hid hb0; have Hm0 := Lib.hid hm0
          have hNM : N < M := by have := HE.out.hb.lt; omega
          rw [← hU0]
          have HMM := Lib.hid hM.symm
          clear hU0 hs0 hm0 hM hC hb0 c0 c1 c2 c3 f0 f1 f2 f3 lt a0'
          (refine takeC (i := 0) (.agg #[.int .i64 k.frames, .int .i64 k.budget, .slice (some ⟨b, off, none⟩) k.cs.length ac, .slice Q k.q.length qc]) rfl (by kernel_rfl) (by kernel_rfl) (by kernel_rfl) rfl (fun _ _ _ h => h) (HC.out U0' Hb0'.out) rfl (fun U hU => by obtain ⟨⟨k0, k1, k2, k3, _, _, _, _, _⟩, a0⟩ := hU; go_simp) (fun K hK => ?_); have HK := Lib.hid hK; clear hK; go_simp; refine HK.out _ ?_; clear HK K)
          (refine takeC (i := 1) (.pointer (some ⟨N, 2, none⟩)) rfl (by kernel_rfl) (by kernel_rfl) (by kernel_rfl) rfl (fun _ _ _ h => h) (HC.out U0' Hb0'.out) rfl (fun U hU => by obtain ⟨⟨k0, k1, k2, k3, _, _, _, _, _⟩, a0⟩ := hU; go_simp) (fun K hK => ?_); have HK := Lib.hid hK; clear hK; go_simp; refine HK.out _ ?_; clear HK K)
          (refine takeC (i := 2) (.slice (some ⟨b, off, none⟩) k.cs.length ac) rfl (by kernel_rfl) (by kernel_rfl) (by kernel_rfl) rfl (fun _ _ _ h => h) (HC.out U0' Hb0'.out) rfl (fun U hU => by obtain ⟨⟨k0, k1, k2, k3, _, _, _, _, _⟩, a0⟩ := hU; go_simp) (fun K hK => ?_); have HK := Lib.hid hK; clear hK; go_simp; refine HK.out _ ?_; clear HK K)
          (refine takeC (i := 3) (.pointer (some ⟨b, off, none⟩)) rfl (by kernel_rfl) (by kernel_rfl) (by kernel_rfl) rfl (fun _ _ _ h => h) (HC.out U0' Hb0'.out) rfl (fun U hU => by obtain ⟨⟨k0, k1, k2, k3, _, _, _, _, _⟩, a0⟩ := hU; go_simp) (fun K hK => ?_); have HK := Lib.hid hK; clear hK; go_simp; refine HK.out _ ?_; clear HK K)
          (refine takeC (i := 4) (.pointer (some ⟨b, off, none⟩)) rfl (by kernel_rfl) (by kernel_rfl) (by kernel_rfl) rfl (fun _ _ _ h => h) (HC.out U0' Hb0'.out) rfl (fun U hU => by obtain ⟨⟨k0, k1, k2, k3, _, _, _, _, _⟩, a0⟩ := hU; go_simp) (fun K hK => ?_); have HK := Lib.hid hK; clear hK; go_simp; refine HK.out _ ?_; clear HK K)
          (refine takeC (i := 5) (.int .i64 c.who) rfl (by kernel_rfl) (by kernel_rfl) (by kernel_rfl) rfl (fun _ _ _ h => h) (HC.out U0' Hb0'.out) rfl (fun U hU => by obtain ⟨⟨k0, k1, k2, k3, _, _, _, _, _⟩, a0⟩ := hU; go_simp) (fun K hK => ?_); have HK := Lib.hid hK; clear hK; go_simp; refine HK.out _ ?_; clear HK K)
          refine twoC (i := 6) (j := 11) (by kernel_rfl) rfl rfl rfl rfl rfl rfl (fun K hK => ?_) (fun K hK => ?_)
          · --
            have HK := Lib.hid hK; clear hK; go_simp
            have hs := Hs0.out; have hkl := Hkl.out
            have d2 := end_any U0' (fun d => d ≠ N ∧ d < M ∧ (Value.slice I ins.length ic).ownBlock ≠ some d) (some ⟨b, off, none⟩) Q ac qc k c.who (by omega) (by omega) (fun d hd => by omega) Hm0.out
            rw [Hend.out] at d2
            refine d2.mono ?_
            clear d2 hs hkl
            rintro e U1 ⟨A2, ac2, Q2, qc2, I2, ic2, rfl, hm2, hi2, hq⟩
            have Hmr1 := Lib.hid hm2; have Hir1 := Lib.hid hi2
            have Hb1 := Lib.hid (show Below M wr U1 by have := Hs0.out; exact Hb0'.out.trans (hq.mono (by omega)))
            have Hs1 := Lib.hid hq.size
            clear hm2 hq hi2
            simp only
            refine HK.out _ _ (HC.out _ Hb1.out) ?_
            clear HK K
            (refine takeC (i := 7) (.tuple #[.agg #[.int .i64 k2.frames, .int .i64 k2.budget, .slice A2 k2.cs.length ac2, .slice Q2 k2.q.length qc2], .slice I2 ins2.length ic2, .int .i64 0]) rfl (by kernel_rfl) (by kernel_rfl) (by kernel_rfl) rfl (fun _ _ _ h => h) (HC.out U1 Hb1.out) rfl (fun U hU => by obtain ⟨⟨k0, k1, k2, k3, _, _, _, _, _⟩, a0⟩ := hU; go_simp) (fun K hK => ?_); have HK := Lib.hid hK; clear hK; go_simp; refine HK.out _ ?_; clear HK K)
            (refine takeC (i := 8) (.agg #[.int .i64 k2.frames, .int .i64 k2.budget, .slice A2 k2.cs.length ac2, .slice Q2 k2.q.length qc2]) rfl (by kernel_rfl) (by kernel_rfl) (by kernel_rfl) rfl (fun _ _ _ h => h) (HC.out U1 Hb1.out) rfl (fun U hU => by obtain ⟨⟨k0, k1, k2, k3, _, _, _, _, _⟩, a0⟩ := hU; go_simp) (fun K hK => ?_); have HK := Lib.hid hK; clear hK; go_simp; refine HK.out _ ?_; clear HK K)
            (refine takeC (i := 9) (.slice I2 ins2.length ic2) rfl (by kernel_rfl) (by kernel_rfl) (by kernel_rfl) rfl (fun _ _ _ h => h) (HC.out U1 Hb1.out) rfl (fun U hU => by obtain ⟨⟨k0, k1, k2, k3, _, _, _, _, _⟩, a0⟩ := hU; go_simp) (fun K hK => ?_); have HK := Lib.hid hK; clear hK; go_simp; refine HK.out _ ?_; clear HK K)
            (refine takeC (i := 10) (.int .i64 0) rfl (by kernel_rfl) (by kernel_rfl) (by kernel_rfl) rfl (fun _ _ _ h => h) (HC.out U1 Hb1.out) rfl (fun U hU => by obtain ⟨⟨k0, k1, k2, k3, _, _, _, _, _⟩, a0⟩ := hU; go_simp) (fun K hK => ?_); have HK := Lib.hid hK; clear hK; go_simp; refine HK.out _ ?_; clear HK K)
            refine oneC (i := 11) (by kernel_rfl) rfl rfl rfl (fun K hK => ?_)
            have HK := Lib.hid hK; clear hK; go_simp
            obtain ⟨p, hp⟩ : ∃ p, p = U1.heap.size := ⟨_, rfl⟩
            obtain ⟨U2, hU⟩ : ∃ U, U = U1.alloc (.cells #[.int .i64 0, .int .i64 0, .slice none 0 0, .slice none 0 0] 25) := ⟨_, rfl⟩
            have hq : Below U1.heap.size U1 U2 := by rw [hU]; exact (Below.refl _ _).alloc (Nat.le_refl _) _
            have hz : ZB p U2 := (HB.of (h := ⟨0, 0, [], []⟩) (t := 25) (by rw [hU, hp, heap_alloc_new]; rfl)).zb
            have hs : U2.heap.size = p + 1 := by rw [hU, hp]; simp
            rw [← hU, ← hp]
            have Hq2 := Lib.hid hq; have HzE := Lib.hid hz; have Hp := Lib.hid hp; have Hs2 := Lib.hid hs
            have hs1 := Hs1.out; have hs0 := Hs0.out
            have Hb2 := Lib.hid (Hb1.out.trans (hq.mono (by omega)))
            clear hU hq hz hp hs
            refine HK.out _ _ (HC.out _ Hb2.out) ?_
            clear HK K
            have hp2 := Hp.out; have hs2 := Hs2.out
            have HmE := Lib.hid ((Hmr1.out.below Hq2.out (fun d hd => by rcases hd with h | h <;> omega)).imp (ok' := fun d => (d ≠ N ∧ d < M ∧ (Value.slice I ins.length ic).ownBlock ≠ some d) ∨ (M ≤ d ∧ d ≠ p ∧ d < U2.heap.size)) fun d hd => by rcases hd with h | h; exact .inl h; exact .inr (by omega))
            have HiE := Lib.hid ((Hir1.out.keep (w' := U2) fun d hd => Hq2.out.block d hd.2).imp (ok' := fun d => (M ≤ d ∧ d ≠ p ∧ d < U2.heap.size)) fun d hd => by omega)
            have Hpm := Lib.hid (show M ≤ p ∧ p < U2.heap.size by omega)
            clear hs0 hs1 hp2 hs2
            obtain ⟨z0, z1, z2, z3, y0, y1, y2, y3, ltz⟩ := HzE.out
            obtain ⟨⟨c0, c1, c2, c3, f0, f1, f2, f3, lt⟩, a0⟩ := HC.out _ Hb2.out
            refine oneC (i := 12) (by kernel_rfl) rfl rfl rfl (fun K hK => ?_)
            have HK := Lib.hid hK; clear hK; go_simp
            obtain ⟨U4, hU4⟩ : ∃ U4, U4 = fill4 U2 p k2 A2 ac2 Q2 qc2 := ⟨_, rfl⟩
            have hk : ∀ b, b ≠ p → U4.heap[b]? = U2.heap[b]? := fun b h => by rw [hU4]; exact fill4_keep h
            have hB4 : HB p k2 A2 ac2 Q2 qc2 U4 := by rw [hU4]; exact HzE.out.hb.fill
            have hs4 : U4.heap.size = U2.heap.size := by rw [hU4]; exact fill4_size
            have hb4 : Below M wr U4 := by rw [hU4]; exact fill4_below Hb2.out Hpm.out.1
            rw [fill4] at hU4
            rw [← hU4]
            have HB4 := Lib.hid hB4
            have Hb4 := Lib.hid hb4
            have hpm := Hpm.out
            have Hm4 := Lib.hid ((HmE.out.keep (w' := U4) fun d hd => hk d (by rcases hd with h | h <;> omega)).imp (ok' := fun d => (d ≠ N ∧ d < M ∧ (Value.slice I ins.length ic).ownBlock ≠ some d) ∨ (M ≤ d ∧ d ≠ p ∧ d < U4.heap.size)) fun d hd => by rw [hs4]; exact hd)
            have Hi4 := Lib.hid ((HiE.out.keep (w' := U4) fun d hd => hk d hd.2.1).imp (ok' := fun d => M ≤ d ∧ d < U4.heap.size) fun d hd => by rw [hs4]; exact ⟨hd.1, hd.2.2⟩)
            clear hU4 hk hB4 hs4 hb4 z0 z1 z2 z3 y0 y1 y2 y3 ltz c0 c1 c2 c3 f0 f1 f2 f3 lt a0 hpm
            refine HK.out _ _ (HC.out _ Hb4.out) ?_
            clear HK K
            (refine oneC (i := 13) (by kernel_rfl) rfl rfl rfl (fun K hK => ?_); have HK := Lib.hid hK; clear hK; go_simp; refine HK.out _ _ (HC.out _ Hb4.out) ?_; clear HK K)
            (refine oneC (i := 14) (by kernel_rfl) rfl rfl rfl (fun K hK => ?_); have HK := Lib.hid hK; clear hK; go_simp; refine HK.out _ _ (HC.out _ Hb4.out) ?_; clear HK K)
            refine doneC (by kernel_rfl) ?_
            go_wp2_with fail
            go_meet
            rw [HMM.out]
            exact ⟨p, A2, ac2, Q2, qc2, I2, ic2, rfl, rfl, rfl, HB4.out, Hpm.out.1, Hm4.out, Hi4.out, Hb4.out⟩
          · --
            have HK := Lib.hid hK; clear hK; go_simp
            obtain ⟨p, hp⟩ : ∃ p, p = U0'.heap.size := ⟨_, rfl⟩
            obtain ⟨U1, hU⟩ : ∃ U, U = U0'.alloc (.cells #[.int .i64 0, .int .i64 0, .slice none 0 0, .slice none 0 0] 25) := ⟨_, rfl⟩
            have hq : Below U0'.heap.size U0' U1 := by rw [hU]; exact (Below.refl _ _).alloc (Nat.le_refl _) _
            have hz : ZB p U1 := (HB.of (h := ⟨0, 0, [], []⟩) (t := 25) (by rw [hU, hp, heap_alloc_new]; rfl)).zb
            have hs : U1.heap.size = p + 1 := by rw [hU, hp]; simp
            rw [← hU, ← hp]
            have Hq1' := Lib.hid hq; have Hz := Lib.hid hz; have Hp := Lib.hid hp; have Hs1 := Lib.hid hs
            have hs0 := Hs0.out
            have Hb1 := Lib.hid (Hb0'.out.trans (hq.mono (by omega)))
            clear hU hq hz hp hs
            refine HK.out _ _ (HC.out _ Hb1.out) ?_
            clear HK K
            have hp2 := Hp.out; have hs1 := Hs1.out
            have Hm1 := Lib.hid (Hm0.out.below Hq1'.out (fun b hb => by omega))
            clear hs0 hp2 hs1
            refine oneC (i := 6) (by kernel_rfl) rfl rfl rfl (fun K hK => ?_)
            have HK := Lib.hid hK; clear hK; go_simp
            have hs := Hs1.out; have hp0 := Hp.out; have hsz := Hs0.out; have hkl := Hkl.out
            have d2 := end_any U1 (fun d => d ≠ N ∧ d < M ∧ (Value.slice I ins.length ic).ownBlock ≠ some d) (some ⟨b, off, none⟩) Q ac qc k c.who (by omega) (by omega) (fun d hd => by omega) Hm1.out
            rw [Hend.out] at d2
            refine d2.mono ?_
            clear d2 hs hp0 hsz hkl
            rintro e U2 ⟨A2, ac2, Q2, qc2, I2, ic2, rfl, hm2, hi2, hq⟩
            have Hq2 := Lib.hid hq; have Hmr2 := Lib.hid hm2; have Hir2 := Lib.hid hi2
            have Hb2 := Lib.hid (show Below M wr U2 by have := Hs1.out; have hp0 := Hp.out; have hsz := Hs0.out; exact Hb1.out.trans (hq.mono (by omega)))
            have Hs2 := Lib.hid hq.size
            clear hm2 hq hi2
            simp only
            refine HK.out _ _ (HC.out _ Hb2.out) ?_
            clear HK K
            (refine takeC (i := 7) (.tuple #[.agg #[.int .i64 k2.frames, .int .i64 k2.budget, .slice A2 k2.cs.length ac2, .slice Q2 k2.q.length qc2], .slice I2 ins2.length ic2, .int .i64 0]) rfl (by kernel_rfl) (by kernel_rfl) (by kernel_rfl) rfl (fun _ _ _ h => h) (HC.out U2 Hb2.out) rfl (fun U hU => by obtain ⟨⟨k0, k1, k2, k3, _, _, _, _, _⟩, a0⟩ := hU; go_simp) (fun K hK => ?_); have HK := Lib.hid hK; clear hK; go_simp; refine HK.out _ ?_; clear HK K)
            (refine takeC (i := 8) (.agg #[.int .i64 k2.frames, .int .i64 k2.budget, .slice A2 k2.cs.length ac2, .slice Q2 k2.q.length qc2]) rfl (by kernel_rfl) (by kernel_rfl) (by kernel_rfl) rfl (fun _ _ _ h => h) (HC.out U2 Hb2.out) rfl (fun U hU => by obtain ⟨⟨k0, k1, k2, k3, _, _, _, _, _⟩, a0⟩ := hU; go_simp) (fun K hK => ?_); have HK := Lib.hid hK; clear hK; go_simp; refine HK.out _ ?_; clear HK K)
            (refine takeC (i := 9) (.slice I2 ins2.length ic2) rfl (by kernel_rfl) (by kernel_rfl) (by kernel_rfl) rfl (fun _ _ _ h => h) (HC.out U2 Hb2.out) rfl (fun U hU => by obtain ⟨⟨k0, k1, k2, k3, _, _, _, _, _⟩, a0⟩ := hU; go_simp) (fun K hK => ?_); have HK := Lib.hid hK; clear hK; go_simp; refine HK.out _ ?_; clear HK K)
            (refine takeC (i := 10) (.int .i64 0) rfl (by kernel_rfl) (by kernel_rfl) (by kernel_rfl) rfl (fun _ _ _ h => h) (HC.out U2 Hb2.out) rfl (fun U hU => by obtain ⟨⟨k0, k1, k2, k3, _, _, _, _, _⟩, a0⟩ := hU; go_simp) (fun K hK => ?_); have HK := Lib.hid hK; clear hK; go_simp; refine HK.out _ ?_; clear HK K)
            have hp2 := Hp.out; have hs1 := Hs1.out; have hs0 := Hs0.out; have hs2 := Hs2.out
            have HzE := Lib.hid (Hz.out.up Hq2.out (by omega))
            have HmE := Lib.hid (Hmr2.out.imp (ok' := fun d => (d ≠ N ∧ d < M ∧ (Value.slice I ins.length ic).ownBlock ≠ some d) ∨ (M ≤ d ∧ d ≠ p ∧ d < U2.heap.size)) fun d hd => by rcases hd with h | h; exact .inl h; exact .inr (by omega))
            have HiE := Lib.hid (Hir2.out.imp (ok' := fun d => (M ≤ d ∧ d ≠ p ∧ d < U2.heap.size)) fun d hd => by omega)
            have Hpm := Lib.hid (show M ≤ p ∧ p < U2.heap.size by omega)
            clear hs0 hs1 hp2 hs2
            obtain ⟨z0, z1, z2, z3, y0, y1, y2, y3, ltz⟩ := HzE.out
            obtain ⟨⟨c0, c1, c2, c3, f0, f1, f2, f3, lt⟩, a0⟩ := HC.out _ Hb2.out
            refine oneC (i := 12) (by kernel_rfl) rfl rfl rfl (fun K hK => ?_)
            have HK := Lib.hid hK; clear hK; go_simp
            obtain ⟨U4, hU4⟩ : ∃ U4, U4 = fill4 U2 p k2 A2 ac2 Q2 qc2 := ⟨_, rfl⟩
            have hk : ∀ b, b ≠ p → U4.heap[b]? = U2.heap[b]? := fun b h => by rw [hU4]; exact fill4_keep h
            have hB4 : HB p k2 A2 ac2 Q2 qc2 U4 := by rw [hU4]; exact HzE.out.hb.fill
            have hs4 : U4.heap.size = U2.heap.size := by rw [hU4]; exact fill4_size
            have hb4 : Below M wr U4 := by rw [hU4]; exact fill4_below Hb2.out Hpm.out.1
            rw [fill4] at hU4
            rw [← hU4]
            have HB4 := Lib.hid hB4
            have Hb4 := Lib.hid hb4
            have hpm := Hpm.out
            have Hm4 := Lib.hid ((HmE.out.keep (w' := U4) fun d hd => hk d (by rcases hd with h | h <;> omega)).imp (ok' := fun d => (d ≠ N ∧ d < M ∧ (Value.slice I ins.length ic).ownBlock ≠ some d) ∨ (M ≤ d ∧ d ≠ p ∧ d < U4.heap.size)) fun d hd => by rw [hs4]; exact hd)
            have Hi4 := Lib.hid ((HiE.out.keep (w' := U4) fun d hd => hk d hd.2.1).imp (ok' := fun d => M ≤ d ∧ d < U4.heap.size) fun d hd => by rw [hs4]; exact ⟨hd.1, hd.2.2⟩)
            clear hU4 hk hB4 hs4 hb4 z0 z1 z2 z3 y0 y1 y2 y3 ltz c0 c1 c2 c3 f0 f1 f2 f3 lt a0 hpm
            refine HK.out _ _ (HC.out _ Hb4.out) ?_
            clear HK K
            (refine oneC (i := 13) (by kernel_rfl) rfl rfl rfl (fun K hK => ?_); have HK := Lib.hid hK; clear hK; go_simp; refine HK.out _ _ (HC.out _ Hb4.out) ?_; clear HK K)
            (refine oneC (i := 14) (by kernel_rfl) rfl rfl rfl (fun K hK => ?_); have HK := Lib.hid hK; clear hK; go_simp; refine HK.out _ _ (HC.out _ Hb4.out) ?_; clear HK K)
            refine doneC (by kernel_rfl) ?_
            go_wp2_with fail
            go_meet
            rw [HMM.out]
            exact ⟨p, A2, ac2, Q2, qc2, I2, ic2, rfl, rfl, rfl, HB4.out, Hpm.out.1, Hm4.out, Hi4.out, Hb4.out⟩
        case rest =>
          obtain ⟨p, A2, ac2, Q2, qc2, I2, ic2, rfl, rfl, rfl, hH2, hMp, hM2, hI2, hb2⟩ := hcut
          obtain ⟨M, hM⟩ : ∃ M, M = wr.heap.size := ⟨_, rfl⟩
          rw [← hM] at hMp hM2 hI2 hb2
          have hown := own_below (B := M) HE.out.own hb2 fun g hg => by have := (HE.out.own.lt g hg).2; omega
          have hownM : ∀ g, (Value.slice I ins.length ic).ownBlock = some g → B0 ≤ g ∧ g < M := fun g hg => by have := HE.out.own.lt g hg; omega
          have hlen1 := ends_len HE.out.run
          have hlen2 := ends_len Hk2q.out
          have hltP := HltP.out
          have hs2 : M ≤ wc.heap.size := by have := hb2.size; omega
          have hsB : B0 ≤ M := by have := HE.out.size; omega
          have Hown := Lib.hid hown; have HownM := Lib.hid hownM; have HM2 := Lib.hid hM2; have HI2 := Lib.hid hI2; have Hb2 := Lib.hid hb2; have HH2 := Lib.hid hH2; have HM := Lib.hid hM
          have HHN := Lib.hid (HE.out.hb.up hb2 (by omega))
          have HBX := Lib.hid (HE.out.bx.up hb2 (by omega))
          have HRX := Lib.hid (HE.out.rx.keep (w' := wc) fun d hd => hb2.block d (by omega))
          have hnI2 : I2 = none → ins2.length = 0 := fun h => by
            by_cases h0 : ins2 = []
            · rw [h0]; rfl
            · obtain ⟨_, _, e, _⟩ := hI2 h0
              rw [h] at e; cases e
          have hsI2 : ∀ ad, I2 = some ad → ∀ (j : Nat) (u : Value), (ins2.flatMap icells)[j]? = some u → wc.cell? (ad.add j) = some u := fun ad had => by
            have := hI2.to (B := wc.heap.size) fun d hd => hd.2
            rw [had] at this
            exact this.src (fun _ => rfl)
          have HnI2 := Lib.hid hnI2; have HsI2 := Lib.hid hsI2
          clear c0 c1 c2 c3 f0 f1 f2 f3 lt a0' hown hownM hM2 hI2 hb2 hH2 hM hnI2 hsI2
          go_wp2_with (at_builtin; refine list_app rfl (.tmp 52) (.tmp 53) 36 rfl B0 3 j0 (.int .i64 0) 1 8 Try.underlying36 hj hy0 hy1 hy2 rfl (by decide) rfl Hown.out (m := ins2.length) (news := ins2.flatMap icells) rfl ?_ HnI2.out HsI2.out ?_ ?_ ?_ ?_ ?_)
          · exact icells_len ins2
          · intro u hu; simp [icells] at hu; obtain ⟨_, _, rfl⟩ := hu; rfl
          · unfold maxLen; omega
          · omega
          · omega
          intro v' w6 ho6 hg6 hv6
          obtain ⟨I6, c6, rfl, _, _⟩ := own_slice ho6
          have hs6 := hg6.size
          have h6 : ∀ g, g < wc.heap.size → (Value.slice I ins.length ic).ownBlock ≠ some g → w6.heap[g]? = wc.heap[g]? := fun g h1 h2 => hg6.block g h1 (fun e => h2 e.symm)
          have hltp := HH2.out.lt
          have HN6 := Lib.hid (HHN.out.keep (h6 N (by omega) fun e => by have := HownM.out _ e; omega))
          have HP6 := Lib.hid (HH2.out.keep (h6 p hltp fun e => by have := HownM.out _ e; omega))
          have HX6 := Lib.hid (HBX.out.keep (h6 P1 (by omega) fun e => by have := HownM.out _ e; omega))
          have hne6 : ∀ d, (d < wc.heap.size ∧ (Value.slice I ins.length ic).ownBlock ≠ some d) → (Value.slice I6 (ins.length + ins2.length) c6).ownBlock ≠ some d := fun d hd e => by
            rcases hv6 with h | h
            · rw [h] at e; exact hd.2 e
            · rw [h] at e; injection e with e; omega
          have hb6 : Below N w w6 := (HE.out.below.trans (Hb2.out.mono (by have := HM.out; omega))).grown hg6 (by omega) (fun d hd => by have := HownM.out d hd; omega)
          have HM6 := Lib.hid ((HM2.out.keep (w' := w6) fun d hd => h6 d (by rcases hd with h | h <;> omega) (fun e => by have := HownM.out _ e; rcases hd with h | h; exact h.2.2 e; omega)).imp (ok' := fun d => d ≠ N ∧ d < w6.heap.size ∧ (Value.slice I6 (ins.length + ins2.length) c6).ownBlock ≠ some d) fun d hd => by
            rcases hd with h | h
            · exact ⟨h.1, by omega, hne6 d ⟨by omega, h.2.2⟩⟩
            · exact ⟨by omega, by omega, hne6 d ⟨h.2.2, fun e => by have := HownM.out _ e; omega⟩⟩)
          have HR6 := Lib.hid ((HRX.out.keep (w' := w6) fun d hd => h6 d (by have := HM.out; omega) hd.2.2).imp (ok' := fun d => d ≠ N ∧ d < w6.heap.size ∧ (Value.slice I6 (ins.length + ins2.length) c6).ownBlock ≠ some d) fun d hd => ⟨hd.1, by have := HM.out; omega, hne6 d ⟨by have := HM.out; omega, hd.2.2⟩⟩)
          have Ho6 := Lib.hid ho6; have Hb6 := Lib.hid hb6
          have hNp : ¬ N = p := by omega
          have hpN : ¬ p = N := by omega
          have Hlen := Lib.hid (show B0 ≤ w6.heap.size ∧ N < B0 ∧ P1 < B0 ∧ B0 ≤ M ∧ M ≤ p by omega)
          clear ho6 hg6 hv6 h6 hne6 hb6 hs6 hs2 hsB hltP hltp
          obtain ⟨c0, c1, c2, c3, f0, f1, f2, f3, lt⟩ := HN6.out
          obtain ⟨y0, y1, y2, y3, _, _, _, _, ltp⟩ := HP6.out
          go_wp2_with fail
          go_roundg (x.cs.length + x.q.length - (j + 1))
          case measure => have := Hg.out; omega
          case rel =>
            have hl := Hlen.out
            have hF : HB N k2 A2 ac2 Q2 qc2 (fill4 w6 N k2 A2 ac2 Q2 qc2) := HN6.out.fill
            have hk : ∀ g, g ≠ N → (fill4 w6 N k2 A2 ac2 Q2 qc2).heap[g]? = w6.heap[g]? := fun g h => fill4_keep h
            have hz : (fill4 w6 N k2 A2 ac2 Q2 qc2).heap.size = w6.heap.size := fill4_size
            have hfin : EndsR w N P1 B0 x A1 a1 Q1 q1 (fill4 w6 N k2 A2 ac2 Q2 qc2) (j + 1) k2 (ins ++ ins2) A2 ac2 Q2 qc2 I6 c6 := by
              refine ⟨hF, ?_, HX6.out.keep (hk _ (by omega)), ?_, ?_, fill4_below Hb6.out (Nat.le_refl _), by rw [hz]; omega, Hk2r.out, ?_, ?_⟩
              · rw [List.length_append, hz]
                exact HM6.out.keep fun d hd => hk d hd.1
              · rw [List.length_append, hz]
                exact HR6.out.keep fun d hd => hk d hd.1
              · have := Ho6.out
                rw [List.length_append, List.flatMap_append]
                refine ⟨this.1, ?_⟩
                rcases this.2 with h | ⟨g, cap, cur, e1, e2, e3, r⟩
                · exact .inl h
                · exact .inr ⟨g, cap, cur, e1, e2, by rw [hk g (by omega)]; exact e3, r⟩
              · rw [List.append_assoc, Hk2q.out]; exact HE.out.run
              · have := HE.out.tot; have := Hk2t.out; omega
            rw [fill4] at hfin
            exact ⟨j + 1, k2, ins ++ ins2, A2, ac2, Q2, qc2, I6, c6, by omega, rfl, by rw [List.length_append], by go_num, hfin⟩
      · obtain rfl : j = x.cs.length + x.q.length := by omega
        have hkt : k.total = 0 := by have := HE.out.tot; unfold Hall.total at *; omega
        have hkc : k.cs.length = 0 := by unfold Hall.total at hkt; omega
        have hkq : k.q.length = 0 := by unfold Hall.total at hkt; omega
        have hrun := HE.out.run
        rw [List.eq_nil_of_length_eq_zero hkq, List.map_nil, List.append_nil] at hrun
        rw [hkc] at c2
        rw [hkq] at c3
        obtain ⟨x0, x1, x2, x3, _, _, _, _, ltx⟩ := HE.out.bx
        have hri := Rd.of_own HE.out.own (fun _ => rfl) (by decide)
        have hrx := HE.out.rx.to (B := wr.heap.size) fun d hd => hd.2.1
        have Hri := Lib.hid hri; have Hrx := Lib.hid hrx
        have hil : ins.length = x.q.length := by rw [hrun]; simp
        have Hrun := Lib.hid hrun
        have hle : ((ins.length : Int) == (x.q.length : Int)) = true := by rw [hil]; simp
        have hne : ((ins.length : Int) != (x.q.length : Int)) = false := by rw [hil]; simp
        have Hil := Lib.hid hil
        clear hil hri hrx hrun hkt hkc hkq f0 f1 f2 f3 Hg
        obtain ⟨V0, hV0⟩ : ∃ V : World, V = wr := ⟨_, rfl⟩
        go_wp2_with fail
        clear c0 c1 c2 c3 lt x0 x1 x2 x3 ltx hle hne
        rw [← hV0] at Hri Hrx ⊢
        have HbV := Lib.hid (show Below N w V0 by rw [hV0]; exact HE.out.below)
        clear hV0
        go_loopg [76] x.q.length (fun g iv wx => ∃ j : Nat, j ≤ x.q.length ∧ g = x.q.length - j ∧ iv = .int .i64 j ∧ Below V0.heap.size V0 wx)
        case atStart => exact ⟨0, Nat.zero_le _, rfl, rfl, Below.refl _ _⟩
        case round =>
          obtain ⟨j, hj', hg, rfl, hbx⟩ := hrel
          have Hg := Lib.hid hg; clear hg
          by_cases hlt : j < x.q.length
          · obtain ⟨t, b, off, ht, rfl, hbb, hcell⟩ := rd_t Hrx.out hlt
            obtain ⟨g0, g1⟩ := hcell wr hbx
            obtain ⟨b2, off2, rfl, hbb2, hcell2⟩ := Hri.out (by intro e; have := Hil.out; rw [e] at this; simp at this; omega)
            have hij : ins[j]? = some t.who := by rw [Hrun.out, List.getElem?_map, ht]; rfl
            have e0 : wr.cell? ⟨b2, off2 + j, none⟩ = some (.int .i64 t.who) := by
              have := (hbx.cell (p := ⟨b2, off2 + j * 1 + 0, none⟩) hbb2).trans (hcell2 j _ hij 0 _ rfl)
              simpa using this
            have hji : (j : Int) < (x.q.length : Int) := by omega
            have hjl : j < ins.length := by have := Hil.out; omega
            have hjli : (j : Int) < (ins.length : Int) := by omega
            have hbs := hbx.size
            have hb1 : b < wr.heap.size := by omega
            have hb2 : b2 < wr.heap.size := by omega
            clear hcell hcell2 ht hij
            go_upto_region 21 with fail
            go_quiet (fail)
            go_wp2_with fail
            go_roundg (x.q.length - (j + 1))
            case measure => have := Hg.out; omega
            case rel => exact ⟨j + 1, by omega, rfl, by go_num, below_drewN (hbx.alloc hbx.size _) _⟩
          · obtain rfl : j = x.q.length := by omega
            go_wp2_with fail
            refine (awake_any _).mono ?_
            rintro e V2 ⟨rfl, hb2⟩
            go_wp2_with fail
            go_ret
            refine ⟨rfl, ?_⟩
            have hN := HP0.out
            rw [hN]
            have hz1 := HbV.out.size
            have hz2 := hbx.size
            have h1 := HbV.out.trans (hbx.mono (by omega))
            exact h1.trans (hb2.mono (by omega))
end Go.Proofs.Ythhfhgkkfaghoaa
