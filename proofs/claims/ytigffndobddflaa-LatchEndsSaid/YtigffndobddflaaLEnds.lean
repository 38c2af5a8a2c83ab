/- The law LatchEnds, walked. -/
import Derived.Test.YtigffndobddflaaLGP
namespace Go.Proofs.Ytigffndobddflaa
open Go.RowKit

/-- what the loop has done so far: k is the latch -/
structure EndsL (w : World) (N : Nat) (x : La) (wr : World) (j n : Nat) (k : La) (A : Option Addr) (ac : Nat) (Q : Option Addr) (qc : Nat) : Prop where
  hb : LB N k A ac Q qc wr
  hm : LM wr (fun b => b ≠ N ∧ b < wr.heap.size) k A ac Q qc
  below : Below N w wr
  right : k.right = true
  tot : k.total + j = x.total
  cnt : n + k.q.length = x.total

set_option maxRecDepth 20000 in
set_option maxHeartbeats 8000000 in
theorem lawEnds (w : World) (A0 Q0 : Option Addr) (a0 q0 : Nat) (x : La) (hc : x.hs.length ≤ 9223372036854775807) (hq : x.q.length ≤ 9223372036854775807) (hm : LM w (fun b => b < w.heap.size) x A0 a0 Q0 q0) :
    Calls Try.prog 5 #[.agg #[.slice A0 x.hs.length a0, .bool x.ex, .slice Q0 x.q.length q0]] w fun e w' => e = .returned (.bool true) ∧ Below w.heap.size w w' := by
  obtain ⟨N, hP0⟩ : ∃ P0, P0 = w.heap.size := ⟨_, rfl⟩
  obtain ⟨U0, hU0, hb0, hs0, hB0, hM0⟩ := new_la 25 hm
  rw [← hP0] at hB0 hM0
  have HU0 := Lib.hid hU0.symm; have HP0 := Lib.hid hP0.symm
  have Hb0 := Lib.hid hb0; have HB0 := Lib.hid hB0
  have HM0 := Lib.hid hM0
  clear hP0 hU0 hb0 hs0 hB0 hM0 hm
  go_enter Try.func5, Try.ntmps5
  go_upto_region 1 with fail
  rw [HU0.out, HP0.out]
  obtain ⟨c0, c1, c2, _, _, _, lt⟩ := HB0.out
  by_cases hlen : x.hs.length ≤ 80 ∧ x.q.length ≤ 80
  case neg =>
    have Hlen := Lib.hid hlen
    clear hlen
    go_wp2_with fail
    refine (refLong_any U0 A0 Q0 a0 q0 x Hlen.out).mono ?_
    rintro e V ⟨rfl, hb⟩
    have Hb := Lib.hid hb
    clear hb c0 c1 c2
    try simp only
    go_wp2_with fail
    refine (awake_any _).mono ?_
    rintro e V2 ⟨rfl, hb2⟩
    go_wp2_with fail
    go_ret
    exact ⟨rfl, bnext ((bnext Hb0.out Hb.out).alloc (bnext Hb0.out Hb.out).size _) hb2⟩
  obtain ⟨hl1, hl2⟩ := hlen
  have Hd := Lib.hid (refHere_any U0 (fun b => b ≠ N ∧ b < U0.heap.size) A0 Q0 a0 q0 x hl1 hl2 (fun b h => h.2) HM0.out)
  go_wp2_with fail
  refine Hd.out.mono ?_
  clear Hd
  rintro e V1 ⟨Q1, q1, rfl, hm, hb⟩
  have hm' : LM V1 (fun b => b < V1.heap.size) x A0 a0 Q1 q1 := hm.imp fun b h => by have := hb.size; omega
  obtain ⟨P1, hP⟩ : ∃ P, P = V1.heap.size := ⟨_, rfl⟩
  obtain ⟨U1, hU, hbU, hsU, hBU, hMU⟩ := new_la 28 hm'
  rw [← hP] at hBU
  have Hq1 := Lib.hid (show Below U0.heap.size U0 U1 from bnext hb hbU)
  have HB1 := Lib.hid hBU; have HM1 := Lib.hid (hMU.imp (ok' := fun b => b < U1.heap.size) fun b hb => hb.2)
  have HU := Lib.hid hU.symm; have HP := Lib.hid hP.symm
  clear hm hb hm' hP hU hbU hsU hBU hMU c0 c1 c2 lt
  try simp only
  go_upto_region 2 with fail
  rw [HU.out, HP.out]
  clear HU HP
  obtain ⟨c0, c1, c2, _, _, _, lt⟩ := HB1.out
  have hd := refRight_any U1 A0 Q1 a0 q1 x (by omega) (by omega) HM1.out.c HM1.out.q
  obtain ⟨rt, hrt⟩ : ∃ rt, rt = x.right := ⟨_, rfl⟩
  rw [← hrt] at hd
  have Hd := Lib.hid hd; have Hrt := Lib.hid hrt
  clear hd hrt
  go_wp2_with fail
  refine Hd.out.mono ?_
  clear Hd
  rintro e UR ⟨rfl, hb⟩
  have HqR := Lib.hid hb
  clear hb c0 c1 c2 lt
  cases rt with
  | false =>
    go_wp2_with fail
    refine (awake_any _).mono ?_
    rintro e V2 ⟨rfl, hb2⟩
    go_wp2_with fail
    go_ret
    exact ⟨rfl, bnext (bnext (bnext Hb0.out Hq1.out) HqR.out) hb2⟩
  | true =>
    have HBR := Lib.hid (HB0.out.up (bnext Hq1.out HqR.out) HB0.out.lt)
    have HR := Lib.hid (show EndsL w N x UR 0 x.hs.length x A0 a0 Q0 q0 from
      ⟨HBR.out, (HM0.out.below (bnext Hq1.out HqR.out) fun b h => h.2).imp fun b h => ⟨h.1, by have := (bnext Hq1.out HqR.out).size; omega⟩, by rw [← HP0.out]; exact bnext (bnext Hb0.out Hq1.out) HqR.out, Hrt.out.symm, rfl, rfl⟩)
    obtain ⟨c0, c1, c2, _, _, _, lt⟩ := HBR.out
    go_wp2_with fail
    clear c0 c1 c2 lt
    go_loopg [6, 34] (x.hs.length + x.q.length) (fun g cv iv wr => ∃ (j n : Nat) (k : La) (A : Option Addr) (ac : Nat) (Q : Option Addr) (qc : Nat), j ≤ x.hs.length + x.q.length ∧ g = x.hs.length + x.q.length - j ∧ cv = .int .i64 n ∧ iv = .int .i64 j ∧ EndsL w N x wr j n k A ac Q qc)
    case atStart => exact ⟨0, x.hs.length, x, A0, a0, Q0, q0, Nat.zero_le _, rfl, rfl, rfl, HR.out⟩
    case round =>
      obtain ⟨j, n, k, A, ac, Q, qc, hj', hg, rfl, rfl, hE⟩ := hrel
      have HE := Lib.hid hE
      have Hg := Lib.hid hg
      obtain ⟨c0, c1, c2, f0, f1, f2, lt⟩ := hE.hb
      have hcnt := hE.cnt
      unfold La.total at hcnt
      clear hE hg
      by_cases hlt : j < x.hs.length + x.q.length
      · obtain ⟨c, r, hcr⟩ := la_some HE.out.right (by have := HE.out.tot; unfold La.total at *; omega)
        obtain ⟨k2, ins2, hend, hk2r, hk2t, hk2q⟩ := la_step HE.out.right hcr
        obtain ⟨b, off, rfl, hbb, hcell⟩ := HE.out.hm.rc (by rw [hcr]; simp)
        have a0' : wr.cell? ⟨b, off, none⟩ = some (.int .i64 c) := by have := hcell 0 c (by rw [hcr]; rfl) 0 _ rfl; simpa using this
        have hk0 : 0 < k.hs.length := by rw [hcr]; simp
        have hk0i : ((k.hs.length : Int) == 0) = false := by rw [beq_eq_false_iff_ne]; omega
        have hk0i2 : (0 : Int) < (k.hs.length : Int) := by omega
        have hji : (j : Int) < (x.hs.length : Int) + (x.q.length : Int) := by omega
        have hkl := right_len HE.out.right
        have Ha0 := Lib.hid a0'
        have Hend := Lib.hid hend; have Hk2r := Lib.hid hk2r; have Hk2t := Lib.hid hk2t; have Hkl := Lib.hid hkl; have Hhbb := Lib.hid hbb
        have hi2 : ins2.length ≤ 64 := by omega
        have Hk2q := Lib.hid hk2q
        clear hcell hcr hend hk2r hk2t hk2q hkl hbb
        go_upto_region 10 with fail
        go_cut [7, 8, 9] (fun s7 s8 s9 wx => ∃ (p : Nat) (A2 : Option Addr) (ac2 : Nat) (Q2 : Option Addr) (qc2 : Nat) (I2 : Option Addr) (ic2 : Nat), s7 = .pointer (some ⟨p, 0, none⟩) ∧ s8 = .slice I2 ins2.length ic2 ∧ s9 = .int .i64 0 ∧ LB p k2 A2 ac2 Q2 qc2 wx ∧ wr.heap.size ≤ p ∧
          LM wx (fun d => d ≠ N ∧ d ≠ p ∧ d < wx.heap.size) k2 A2 ac2 Q2 qc2 ∧ Below wr.heap.size wr wx)
        case first =>
          obtain ⟨M, hM⟩ : ∃ M, M = wr.heap.size := ⟨_, rfl⟩
          have hC : ∀ U, Below M wr U → LB N k (some ⟨b, off, none⟩) ac Q qc U ∧ U.cell? ⟨b, off, none⟩ = some (.int .i64 c) := fun U hU => ⟨HE.out.hb.up hU (by have := HE.out.hb.lt; omega), (hU.cell (p := ⟨b, off, none⟩) (by have := Hhbb.out.2; show b < M; omega)).trans Ha0.out⟩
          have HC := Lib.hid hC
          refine wp_region_C (fun U => LB N k (some ⟨b, off, none⟩) ac Q qc U ∧ U.cell? ⟨b, off, none⟩ = some (.int .i64 c)) (by kernel_rfl) rfl rfl ?_
          obtain ⟨U0', hU0⟩ : ∃ U0, U0 = wr.drew := ⟨_, rfl⟩
          have hb0 : Below M wr U0' := by rw [hU0, hM]; exact (Below.refl _ _).drew
          have hs0 : U0'.heap.size = M := by rw [hU0, hM]; rfl
          have hm0 : LM U0' (fun b => b ≠ N ∧ b < M) k (some ⟨b, off, none⟩) ac Q qc := by rw [hU0, hM]; exact HE.out.hm.keep (fun b _ => rfl)
          have Hs0 := Lib.hid hs0; have Hb0' := Lib.hid hb0; have Hm0 := Lib.hid hm0
          have hNM : N < M := by have := HE.out.hb.lt; omega
          rw [← hU0]
          have HMM := Lib.hid hM.symm
          clear hU0 hs0 hm0 hM hC hb0 c0 c1 c2 f0 f1 f2 lt a0' hcnt
          (refine takeC (i := 0) (.agg #[.slice (some ⟨b, off, none⟩) k.hs.length ac, .bool k.ex, .slice Q k.q.length qc]) rfl (by kernel_rfl) (by kernel_rfl) (by kernel_rfl) rfl (fun _ _ _ h => h) (HC.out U0' Hb0'.out) rfl (fun U hU => by obtain ⟨⟨k0, k1, k2, _, _, _, _⟩, a0⟩ := hU; go_simp) (fun K hK => ?_); have HK := Lib.hid hK; clear hK; go_simp; refine HK.out _ ?_; clear HK K)
          (refine takeC (i := 1) (.pointer (some ⟨N, 0, none⟩)) rfl (by kernel_rfl) (by kernel_rfl) (by kernel_rfl) rfl (fun _ _ _ h => h) (HC.out U0' Hb0'.out) rfl (fun U hU => by obtain ⟨⟨k0, k1, k2, _, _, _, _⟩, a0⟩ := hU; go_simp) (fun K hK => ?_); have HK := Lib.hid hK; clear hK; go_simp; refine HK.out _ ?_; clear HK K)
          (refine takeC (i := 2) (.slice (some ⟨b, off, none⟩) k.hs.length ac) rfl (by kernel_rfl) (by kernel_rfl) (by kernel_rfl) rfl (fun _ _ _ h => h) (HC.out U0' Hb0'.out) rfl (fun U hU => by obtain ⟨⟨k0, k1, k2, _, _, _, _⟩, a0⟩ := hU; go_simp) (fun K hK => ?_); have HK := Lib.hid hK; clear hK; go_simp; refine HK.out _ ?_; clear HK K)
          (refine takeC (i := 3) (.pointer (some ⟨b, off, none⟩)) rfl (by kernel_rfl) (by kernel_rfl) (by kernel_rfl) rfl (fun _ _ _ h => h) (HC.out U0' Hb0'.out) rfl (fun U hU => by obtain ⟨⟨k0, k1, k2, _, _, _, _⟩, a0⟩ := hU; go_simp) (fun K hK => ?_); have HK := Lib.hid hK; clear hK; go_simp; refine HK.out _ ?_; clear HK K)
          (refine takeC (i := 4) (.int .i64 c) rfl (by kernel_rfl) (by kernel_rfl) (by kernel_rfl) rfl (fun _ _ _ h => h) (HC.out U0' Hb0'.out) rfl (fun U hU => by obtain ⟨⟨k0, k1, k2, _, _, _, _⟩, a0⟩ := hU; go_simp) (fun K hK => ?_); have HK := Lib.hid hK; clear hK; go_simp; refine HK.out _ ?_; clear HK K)
          refine twoC (i := 5) (j := 10) (by kernel_rfl) rfl rfl rfl rfl rfl rfl (fun K hK => ?_) (fun K hK => ?_)
          · --
            have HK := Lib.hid hK; clear hK; go_simp
            have hs := Hs0.out; have hkl := Hkl.out
            have d2 := drop_is Hend.out U0' (fun d => d ≠ N ∧ d < M) (some ⟨b, off, none⟩) Q ac qc (by omega) (by omega) (fun d hd => by omega) Hm0.out
            refine d2.mono ?_
            clear d2 hs hkl
            rintro e U1 ⟨A2, ac2, Q2, qc2, I2, ic2, rfl, hm2, _, hq⟩
            have Hmr1 := Lib.hid hm2
            have Hb1 := Lib.hid (show Below M wr U1 by have := Hs0.out; exact Hb0'.out.trans (hq.mono (by omega)))
            have Hs1 := Lib.hid hq.size
            clear hm2 hq
            simp only
            refine HK.out _ _ (HC.out _ Hb1.out) ?_
            clear HK K
            (refine takeC (i := 6) (.tuple #[.agg #[.slice A2 k2.hs.length ac2, .bool k2.ex, .slice Q2 k2.q.length qc2], .slice I2 ins2.length ic2, .int .i64 0]) rfl (by kernel_rfl) (by kernel_rfl) (by kernel_rfl) rfl (fun _ _ _ h => h) (HC.out U1 Hb1.out) rfl (fun U hU => by obtain ⟨⟨k0, k1, k2, _, _, _, _⟩, a0⟩ := hU; go_simp) (fun K hK => ?_); have HK := Lib.hid hK; clear hK; go_simp; refine HK.out _ ?_; clear HK K)
            (refine takeC (i := 7) (.agg #[.slice A2 k2.hs.length ac2, .bool k2.ex, .slice Q2 k2.q.length qc2]) rfl (by kernel_rfl) (by kernel_rfl) (by kernel_rfl) rfl (fun _ _ _ h => h) (HC.out U1 Hb1.out) rfl (fun U hU => by obtain ⟨⟨k0, k1, k2, _, _, _, _⟩, a0⟩ := hU; go_simp) (fun K hK => ?_); have HK := Lib.hid hK; clear hK; go_simp; refine HK.out _ ?_; clear HK K)
            (refine takeC (i := 8) (.slice I2 ins2.length ic2) rfl (by kernel_rfl) (by kernel_rfl) (by kernel_rfl) rfl (fun _ _ _ h => h) (HC.out U1 Hb1.out) rfl (fun U hU => by obtain ⟨⟨k0, k1, k2, _, _, _, _⟩, a0⟩ := hU; go_simp) (fun K hK => ?_); have HK := Lib.hid hK; clear hK; go_simp; refine HK.out _ ?_; clear HK K)
            (refine takeC (i := 9) (.int .i64 0) rfl (by kernel_rfl) (by kernel_rfl) (by kernel_rfl) rfl (fun _ _ _ h => h) (HC.out U1 Hb1.out) rfl (fun U hU => by obtain ⟨⟨k0, k1, k2, _, _, _, _⟩, a0⟩ := hU; go_simp) (fun K hK => ?_); have HK := Lib.hid hK; clear hK; go_simp; refine HK.out _ ?_; clear HK K)
            refine oneC (i := 10) (by kernel_rfl) rfl rfl rfl (fun K hK => ?_)
            have HK := Lib.hid hK; clear hK; go_simp
            obtain ⟨p, hp⟩ : ∃ p, p = U1.heap.size := ⟨_, rfl⟩
            obtain ⟨U2, hU⟩ : ∃ U, U = U1.alloc (.cells #[.slice none 0 0, .bool false, .slice none 0 0] 25) := ⟨_, rfl⟩
            have hq : Below U1.heap.size U1 U2 := by rw [hU]; exact (Below.refl _ _).alloc (Nat.le_refl _) _
            have hz : LZ p U2 := (LB.of (l := ⟨[], false, []⟩) (t := 25) (by rw [hU, hp, heap_alloc_new]; rfl)).lz
            have hs : U2.heap.size = p + 1 := by rw [hU, hp]; simp
            rw [← hU, ← hp]
            have Hq2 := Lib.hid hq; have HzE := Lib.hid hz; have Hp := Lib.hid hp; have Hs2 := Lib.hid hs
            have hs1 := Hs1.out; have hs0 := Hs0.out
            have Hb2 := Lib.hid (Hb1.out.trans (hq.mono (by omega)))
            clear hU hq hz hp hs
            refine HK.out _ _ (HC.out _ Hb2.out) ?_
            clear HK K
            have hp2 := Hp.out; have hs2 := Hs2.out
            have HmE := Lib.hid ((Hmr1.out.below Hq2.out (fun d hd => by omega)).imp (ok' := fun d => d ≠ N ∧ d ≠ p ∧ d < U2.heap.size) fun d hd => by omega)
            have Hpm := Lib.hid (show M ≤ p ∧ p < U2.heap.size by omega)
            clear hs0 hs1 hp2 hs2
            obtain ⟨z0, z1, z2, y0, y1, y2, ltz⟩ := HzE.out
            obtain ⟨⟨c0, c1, c2, f0, f1, f2, lt⟩, a0⟩ := HC.out _ Hb2.out
            refine oneC (i := 11) (by kernel_rfl) rfl rfl rfl (fun K hK => ?_)
            have HK := Lib.hid hK; clear hK; go_simp
            obtain ⟨U4, hU4⟩ : ∃ U4, U4 = fill3 U2 p k2 A2 ac2 Q2 qc2 := ⟨_, rfl⟩
            have hk : ∀ b, b ≠ p → U4.heap[b]? = U2.heap[b]? := fun b h => by rw [hU4]; exact fill3_keep h
            have hB4 : LB p k2 A2 ac2 Q2 qc2 U4 := by rw [hU4]; exact HzE.out.lb.fill
            have hs4 : U4.heap.size = U2.heap.size := by rw [hU4]; exact fill3_size
            have hb4 : Below M wr U4 := by rw [hU4]; exact fill3_below Hb2.out Hpm.out.1
            rw [fill3] at hU4
            rw [← hU4]
            have HB4 := Lib.hid hB4
            have Hb4 := Lib.hid hb4
            have hpm := Hpm.out
            have Hm4 := Lib.hid ((HmE.out.keep (w' := U4) fun d hd => hk d hd.2.1).imp (ok' := fun d => d ≠ N ∧ d ≠ p ∧ d < U4.heap.size) fun d hd => by rw [hs4]; exact hd)
            clear hU4 hk hB4 hs4 hb4 z0 z1 z2 y0 y1 y2 ltz c0 c1 c2 f0 f1 f2 lt a0 hpm
            refine HK.out _ _ (HC.out _ Hb4.out) ?_
            clear HK K
            (refine oneC (i := 12) (by kernel_rfl) rfl rfl rfl (fun K hK => ?_); have HK := Lib.hid hK; clear hK; go_simp; refine HK.out _ _ (HC.out _ Hb4.out) ?_; clear HK K)
            (refine oneC (i := 13) (by kernel_rfl) rfl rfl rfl (fun K hK => ?_); have HK := Lib.hid hK; clear hK; go_simp; refine HK.out _ _ (HC.out _ Hb4.out) ?_; clear HK K)
            refine doneC (by kernel_rfl) ?_
            go_wp2_with fail
            go_meet
            rw [HMM.out]
            exact ⟨p, A2, ac2, Q2, qc2, I2, ic2, rfl, rfl, rfl, HB4.out, Hpm.out.1, Hm4.out, Hb4.out⟩
          · --
            have HK := Lib.hid hK; clear hK; go_simp
            obtain ⟨p, hp⟩ : ∃ p, p = U0'.heap.size := ⟨_, rfl⟩
            obtain ⟨U1, hU⟩ : ∃ U, U = U0'.alloc (.cells #[.slice none 0 0, .bool false, .slice none 0 0] 25) := ⟨_, rfl⟩
            have hq : Below U0'.heap.size U0' U1 := by rw [hU]; exact (Below.refl _ _).alloc (Nat.le_refl _) _
            have hz : LZ p U1 := (LB.of (l := ⟨[], false, []⟩) (t := 25) (by rw [hU, hp, heap_alloc_new]; rfl)).lz
            have hs : U1.heap.size = p + 1 := by rw [hU, hp]; simp
            rw [← hU, ← hp]
            have Hq1' := Lib.hid hq; have Hz := Lib.hid hz; have Hp := Lib.hid hp; have Hs1 := Lib.hid hs
            have hs0 := Hs0.out
            have Hb1 := Lib.hid (Hb0'.out.trans (hq.mono (by omega)))
            clear hU hq hz hp hs
            refine HK.out _ _ (HC.out _ Hb1.out) ?_
            clear HK K
            have hp2 := Hp.out; have hs1 := Hs1.out
            have Hm1 := Lib.hid (Hm0.out.below Hq1'.out (fun b hb => by omega))
            clear hs0 hp2 hs1
            refine oneC (i := 5) (by kernel_rfl) rfl rfl rfl (fun K hK => ?_)
            have HK := Lib.hid hK; clear hK; go_simp
            have hs := Hs1.out; have hp0 := Hp.out; have hsz := Hs0.out; have hkl := Hkl.out
            have d2 := drop_is Hend.out U1 (fun d => d ≠ N ∧ d < M) (some ⟨b, off, none⟩) Q ac qc (by omega) (by omega) (fun d hd => by omega) Hm1.out
            refine d2.mono ?_
            clear d2 hs hp0 hsz hkl
            rintro e U2 ⟨A2, ac2, Q2, qc2, I2, ic2, rfl, hm2, _, hq⟩
            have Hq2 := Lib.hid hq; have Hmr2 := Lib.hid hm2
            have Hb2 := Lib.hid (show Below M wr U2 by have := Hs1.out; have hp0 := Hp.out; have hsz := Hs0.out; exact Hb1.out.trans (hq.mono (by omega)))
            have Hs2 := Lib.hid hq.size
            clear hm2 hq
            simp only
            refine HK.out _ _ (HC.out _ Hb2.out) ?_
            clear HK K
            (refine takeC (i := 6) (.tuple #[.agg #[.slice A2 k2.hs.length ac2, .bool k2.ex, .slice Q2 k2.q.length qc2], .slice I2 ins2.length ic2, .int .i64 0]) rfl (by kernel_rfl) (by kernel_rfl) (by kernel_rfl) rfl (fun _ _ _ h => h) (HC.out U2 Hb2.out) rfl (fun U hU => by obtain ⟨⟨k0, k1, k2, _, _, _, _⟩, a0⟩ := hU; go_simp) (fun K hK => ?_); have HK := Lib.hid hK; clear hK; go_simp; refine HK.out _ ?_; clear HK K)
            (refine takeC (i := 7) (.agg #[.slice A2 k2.hs.length ac2, .bool k2.ex, .slice Q2 k2.q.length qc2]) rfl (by kernel_rfl) (by kernel_rfl) (by kernel_rfl) rfl (fun _ _ _ h => h) (HC.out U2 Hb2.out) rfl (fun U hU => by obtain ⟨⟨k0, k1, k2, _, _, _, _⟩, a0⟩ := hU; go_simp) (fun K hK => ?_); have HK := Lib.hid hK; clear hK; go_simp; refine HK.out _ ?_; clear HK K)
            (refine takeC (i := 8) (.slice I2 ins2.length ic2) rfl (by kernel_rfl) (by kernel_rfl) (by kernel_rfl) rfl (fun _ _ _ h => h) (HC.out U2 Hb2.out) rfl (fun U hU => by obtain ⟨⟨k0, k1, k2, _, _, _, _⟩, a0⟩ := hU; go_simp) (fun K hK => ?_); have HK := Lib.hid hK; clear hK; go_simp; refine HK.out _ ?_; clear HK K)
            (refine takeC (i := 9) (.int .i64 0) rfl (by kernel_rfl) (by kernel_rfl) (by kernel_rfl) rfl (fun _ _ _ h => h) (HC.out U2 Hb2.out) rfl (fun U hU => by obtain ⟨⟨k0, k1, k2, _, _, _, _⟩, a0⟩ := hU; go_simp) (fun K hK => ?_); have HK := Lib.hid hK; clear hK; go_simp; refine HK.out _ ?_; clear HK K)
            have hp2 := Hp.out; have hs1 := Hs1.out; have hs0 := Hs0.out; have hs2 := Hs2.out
            have HzE := Lib.hid (Hz.out.up Hq2.out (by omega))
            have HmE := Lib.hid (Hmr2.out.imp (ok' := fun d => d ≠ N ∧ d ≠ p ∧ d < U2.heap.size) fun d hd => by omega)
            have Hpm := Lib.hid (show M ≤ p ∧ p < U2.heap.size by omega)
            clear hs0 hs1 hp2 hs2
            obtain ⟨z0, z1, z2, y0, y1, y2, ltz⟩ := HzE.out
            obtain ⟨⟨c0, c1, c2, f0, f1, f2, lt⟩, a0⟩ := HC.out _ Hb2.out
            refine oneC (i := 11) (by kernel_rfl) rfl rfl rfl (fun K hK => ?_)
            have HK := Lib.hid hK; clear hK; go_simp
            obtain ⟨U4, hU4⟩ : ∃ U4, U4 = fill3 U2 p k2 A2 ac2 Q2 qc2 := ⟨_, rfl⟩
            have hk : ∀ b, b ≠ p → U4.heap[b]? = U2.heap[b]? := fun b h => by rw [hU4]; exact fill3_keep h
            have hB4 : LB p k2 A2 ac2 Q2 qc2 U4 := by rw [hU4]; exact HzE.out.lb.fill
            have hs4 : U4.heap.size = U2.heap.size := by rw [hU4]; exact fill3_size
            have hb4 : Below M wr U4 := by rw [hU4]; exact fill3_below Hb2.out Hpm.out.1
            rw [fill3] at hU4
            rw [← hU4]
            have HB4 := Lib.hid hB4
            have Hb4 := Lib.hid hb4
            have hpm := Hpm.out
            have Hm4 := Lib.hid ((HmE.out.keep (w' := U4) fun d hd => hk d hd.2.1).imp (ok' := fun d => d ≠ N ∧ d ≠ p ∧ d < U4.heap.size) fun d hd => by rw [hs4]; exact hd)
            clear hU4 hk hB4 hs4 hb4 z0 z1 z2 y0 y1 y2 ltz c0 c1 c2 f0 f1 f2 lt a0 hpm
            refine HK.out _ _ (HC.out _ Hb4.out) ?_
            clear HK K
            (refine oneC (i := 12) (by kernel_rfl) rfl rfl rfl (fun K hK => ?_); have HK := Lib.hid hK; clear hK; go_simp; refine HK.out _ _ (HC.out _ Hb4.out) ?_; clear HK K)
            (refine oneC (i := 13) (by kernel_rfl) rfl rfl rfl (fun K hK => ?_); have HK := Lib.hid hK; clear hK; go_simp; refine HK.out _ _ (HC.out _ Hb4.out) ?_; clear HK K)
            refine doneC (by kernel_rfl) ?_
            go_wp2_with fail
            go_meet
            rw [HMM.out]
            exact ⟨p, A2, ac2, Q2, qc2, I2, ic2, rfl, rfl, rfl, HB4.out, Hpm.out.1, Hm4.out, Hb4.out⟩
        case rest =>
          obtain ⟨p, A2, ac2, Q2, qc2, I2, ic2, rfl, rfl, rfl, hH2, hMp, hM2, hb2⟩ := hcut
          have HHN := Lib.hid (HE.out.hb.up hb2 lt)
          have HH2 := Lib.hid hH2; have HM2 := Lib.hid hM2
          have Hbw := Lib.hid (HE.out.below.trans (hb2.mono (by omega)))
          have hNp : ¬ N = p := by omega
          have hpN : ¬ p = N := by omega
          have ew : IntKind.i64.wrap ((n : Int) + (ins2.length : Int)) = (n : Int) + (ins2.length : Int) := IntWalk.i64_in _ (by omega)
          clear c0 c1 c2 f0 f1 f2 lt a0' hM2 hb2 hH2
          obtain ⟨c0, c1, c2, f0, f1, f2, lt⟩ := HHN.out
          obtain ⟨y0, y1, y2, _, _, _, ltp⟩ := HH2.out
          go_wp2_with fail
          go_roundg (x.hs.length + x.q.length - (j + 1))
          case measure => have := Hg.out; omega
          case rel =>
            have hfin : EndsL w N x (fill3 wc N k2 A2 ac2 Q2 qc2) (j + 1) (n + ins2.length) k2 A2 ac2 Q2 qc2 :=
              ⟨HHN.out.fill, (HM2.out.keep fun d hd => fill3_keep hd.1).imp fun d hd => ⟨hd.1, by rw [fill3_size]; exact hd.2.2⟩, fill3_below Hbw.out (Nat.le_refl _), Hk2r.out, by have := HE.out.tot; have := Hk2t.out; omega, by have := HE.out.cnt; have := Hk2q.out; omega⟩
            rw [fill3] at hfin
            exact ⟨j + 1, n + ins2.length, k2, A2, ac2, Q2, qc2, by omega, rfl, by go_num, by go_num, hfin⟩
      · obtain rfl : j = x.hs.length + x.q.length := by omega
        have hkt : k.total = 0 := by have := HE.out.tot; unfold La.total at *; omega
        obtain ⟨h1, h2, h3⟩ := la_none HE.out.right hkt
        rw [h1] at c0
        rw [h2] at c2
        rw [h3] at c1
        have hn : n = x.hs.length + x.q.length := by rw [h2] at hcnt; simpa using hcnt
        have hnb : ((n : Int) == (x.hs.length : Int) + (x.q.length : Int)) = true := by rw [beq_iff_eq]; omega
        simp only [List.length_nil] at c0 c2
        clear hn h1 h2 h3 hkt hcnt f0 f1 f2 Hg
        go_wp2_with fail
        refine (awake_any _).mono ?_
        rintro e V2 ⟨rfl, hb2⟩
        go_wp2_with fail
        go_ret
        refine ⟨rfl, ?_⟩
        have hN := HP0.out
        rw [hN]
        have hz1 := HE.out.below.size
        exact HE.out.below.trans (hb2.mono (by omega))
end Go.Proofs.Ytigffndobddflaa
