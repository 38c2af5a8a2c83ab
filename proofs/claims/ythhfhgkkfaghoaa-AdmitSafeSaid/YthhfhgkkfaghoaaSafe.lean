/- The law AdmitSafe, walked. -/
import Derived.Test.YthhfhgkkfaghoaaAdmQ
import Derived.Test.YthhfhgkkfaghoaaOnes
import Derived.Deep.DeepCutAuto
namespace Go.Proofs.Ythhfhgkkfaghoaa
open Go.RowKit

theorem rd_act {w : World} {B : Nat} {A : Option Addr} {l : List Act3} (h : Rd Act3.cells 3 w B A l) {k : Nat} (hk : k < l.length) :
    ∃ c b off, l[k]? = some c ∧ A = some ⟨b, off, none⟩ ∧ b < B ∧ ∀ W, Below B w W → W.cell? ⟨b, off + k * 3, none⟩ = some (.int .i64 c.kind) ∧ W.cell? ⟨b, off + k * 3 + 1, none⟩ = some (.int .i64 c.who) ∧ W.cell? ⟨b, off + k * 3 + 2, none⟩ = some (.int .i64 c.claim) := by
  obtain ⟨c, b, off, hc, hA, hb, hcell⟩ := h.at_ hk
  exact ⟨c, b, off, hc, hA, hb, fun W hW => ⟨hcell W hW 0 _ rfl, hcell W hW 1 _ rfl, hcell W hW 2 _ rfl⟩⟩

set_option maxRecDepth 20000 in
set_option maxHeartbeats 8000000 in
theorem lawSafe (w : World) (fr bu : Int) (A0 : Option Addr) (cap0 : Nat) (acts : List Act3) (h0 : 0 ≤ fr) (h255 : fr ≤ 255) (g0 : 0 ≤ bu) (g255 : bu ≤ 255) (hl : acts.length ≤ 9223372036854775807) (hra : Rd Act3.cells 3 w w.heap.size A0 acts) :
    Calls Try.prog 7 #[.int .u8 fr, .int .u8 bu, .slice A0 acts.length cap0] w fun e w' => e = .returned (.bool true) ∧ Below w.heap.size w w' := by
  obtain ⟨F, hF⟩ : ∃ F : Int, 1 + fr % 8 = F := ⟨_, rfl⟩
  obtain ⟨B, hB⟩ : ∃ B : Int, 1 + bu % 100 = B := ⟨_, rfl⟩
  have hF1 : 1 ≤ F := by omega
  have hF8 : F ≤ 8 := by omega
  have hB1 : 1 ≤ B := by omega
  have hB100 : B ≤ 100 := by omega
  obtain ⟨U, hU, hbU, hsU, hBx, hM⟩ := new_box (V := w) (r := ⟨F, B, [], []⟩) (A := none) (Q := none) (ac := 0) (qc := 0) 25 HM.nil
  have HB0 := Lib.hid hBx; have HM0 := Lib.hid hM; have HbU := Lib.hid hbU; have Hra := Lib.hid hra
  simp only [List.length_nil] at hU
  have HU' := Lib.hid hU.symm
  clear hBx hM hbU hU hra
  go_enter Try.func7, Try.ntmps7
  go_wp2_with fail
  rw [HU'.out]
  go_loopg [8] acts.length (fun g iv wr => ∃ (j : Nat) (x : Hall) (A : Option Addr) (ac : Nat) (Q : Option Addr) (qc : Nat), j ≤ acts.length ∧ j ≤ 100 ∧ g = acts.length - j ∧ iv = .int .i64 j ∧ x.right = true ∧ x.frames = F ∧ x.budget = B ∧ HB w.heap.size x A ac Q qc wr ∧ HM wr (fun b => b ≠ w.heap.size ∧ b < wr.heap.size) x A ac Q qc ∧ Below w.heap.size w wr)
  case atStart => exact ⟨0, ⟨F, B, [], []⟩, none, 0, none, 0, Nat.zero_le _, Nat.zero_le _, rfl, rfl, right_empty hF1 hF8 hB1 hB100, rfl, rfl, HB0.out, HM0.out, HbU.out⟩
  case round =>
    obtain ⟨j, x, A, ac, Q, qc, hj, hj100, hg, rfl, hxr, hxF, hxB, hHB, hHM, hb⟩ := hrel
    have Hg := Lib.hid hg; clear hg
    have HBx := Lib.hid hHB; have HMx := Lib.hid hHM; have Hb := Lib.hid hb
    have Hxr := Lib.hid hxr; have HxF := Lib.hid hxF; have HxB := Lib.hid hxB
    obtain ⟨c0, c1, c2, c3, f0, f1, f2, f3, lt⟩ := hHB
    have hsr := hb.size
    clear hHM hxr hxF hxB
    have hcs : (j < acts.length ∧ j < 100) ∨ ¬ (j < acts.length ∧ j < 100) := Classical.em _
    rcases hcs with ⟨hlt, hlt100⟩ | hge
    · obtain ⟨a, ba, off, ha, rfl, hba, hcell⟩ := rd_act Hra.out hlt
      have hji : (j : Int) < (acts.length : Int) := by omega
      have hji100 : (j : Int) < 100 := by omega
      obtain ⟨a0, a1, a2⟩ := hcell wr hb
      have hbar : ba < wr.heap.size := by omega
      have Hcell := Lib.hid hcell
      clear hcell ha hb
      go_upto_region 5 with fail
      go_cut [9, 10] (fun s9 s10 wx => ∃ (p : Nat) (A2 : Option Addr) (ac2 : Nat) (Q2 : Option Addr) (qc2 : Nat), s9 = .pointer (some ⟨p, 0, none⟩) ∧ s10 = .int .i64 (doA x a).2 ∧ HB w.heap.size x A ac Q qc wx ∧ HB p (doA x a).1 A2 ac2 Q2 qc2 wx ∧ w.heap.size < p ∧ HM wx (fun b => b ≠ w.heap.size ∧ b ≠ p ∧ b < wx.heap.size) (doA x a).1 A2 ac2 Q2 qc2 ∧ Below w.heap.size w wx)
      case first =>
        obtain ⟨M, hM⟩ : ∃ M, M = wr.heap.size := ⟨_, rfl⟩
        obtain ⟨r, en, hdo⟩ : ∃ r en, doA x a = (r, en) := ⟨_, _, rfl⟩
        have Hdo := Lib.hid hdo
        have hlen : x.cs.length + x.q.length ≤ 40 := (heads_iff.1 (right_iff.1 Hxr.out).1).2.2.2.2
        have hC : ∀ U, Below M wr U → HB w.heap.size x A ac Q qc U ∧ U.cell? ⟨ba, off + j * 3, none⟩ = some (.int .i64 a.kind) ∧ U.cell? ⟨ba, off + j * 3 + 1, none⟩ = some (.int .i64 a.who) ∧ U.cell? ⟨ba, off + j * 3 + 2, none⟩ = some (.int .i64 a.claim) := fun U hU => ⟨HBx.out.up hU (by omega), Hcell.out U (Hb.out.trans (hU.mono (by omega)))⟩
        have HC := Lib.hid hC
        refine wp_region_C (fun U => HB w.heap.size x A ac Q qc U ∧ U.cell? ⟨ba, off + j * 3, none⟩ = some (.int .i64 a.kind) ∧ U.cell? ⟨ba, off + j * 3 + 1, none⟩ = some (.int .i64 a.who) ∧ U.cell? ⟨ba, off + j * 3 + 2, none⟩ = some (.int .i64 a.claim)) (by kernel_rfl) rfl rfl ?_
        obtain ⟨U0, hU0⟩ : ∃ U0, U0 = wr.drew := ⟨_, rfl⟩
        have hb0 : Below M wr U0 := by rw [hU0, hM]; exact (Below.refl _ _).drew
        have hs0 : U0.heap.size = M := by rw [hU0, hM]; rfl
        have hm0 : HM U0 (fun b => b ≠ w.heap.size ∧ b < M) x A ac Q qc := by rw [hU0, hM]; exact HMx.out.keep (fun b _ => rfl)
        have Hs0 := Lib.hid hs0; have Hb0 := Lib.hid hb0; have Hm0 := Lib.hid hm0
        have hNM : w.heap.size < M := by omega
        rw [← hU0]
        clear hU0 hs0 hm0 hM hC hdo c0 c1 c2 c3 f0 f1 f2 f3 lt a0 a1 a2 hbar
        (refine takeC (i := 0) (.agg #[.int .i64 x.frames, .int .i64 x.budget, .slice A x.cs.length ac, .slice Q x.q.length qc]) rfl (by kernel_rfl) (by kernel_rfl) (by kernel_rfl) rfl (fun _ _ _ h => h) (HC.out U0 Hb0.out) rfl (fun U hU => by obtain ⟨⟨k0, k1, k2, k3, _, _, _, _, _⟩, a0, a1, a2⟩ := hU; go_simp) (fun K hK => ?_); have HK := Lib.hid hK; clear hK; go_simp; refine HK.out _ ?_; clear HK K)
        (refine takeC (i := 1) (.slice (some ⟨ba, off, none⟩) acts.length cap0) rfl (by kernel_rfl) (by kernel_rfl) (by kernel_rfl) rfl (fun _ _ _ h => h) (HC.out U0 Hb0.out) rfl (fun U hU => by obtain ⟨⟨k0, k1, k2, k3, _, _, _, _, _⟩, a0, a1, a2⟩ := hU; go_simp) (fun K hK => ?_); have HK := Lib.hid hK; clear hK; go_simp; refine HK.out _ ?_; clear HK K)
        (refine takeC (i := 2) (.int .i64 j) rfl (by kernel_rfl) (by kernel_rfl) (by kernel_rfl) rfl (fun _ _ _ h => h) (HC.out U0 Hb0.out) rfl (fun U hU => by obtain ⟨⟨k0, k1, k2, k3, _, _, _, _, _⟩, a0, a1, a2⟩ := hU; go_simp) (fun K hK => ?_); have HK := Lib.hid hK; clear hK; go_simp; refine HK.out _ ?_; clear HK K)
        (refine takeC (i := 3) (.pointer (some ⟨ba, off + j * 3, none⟩)) rfl (by kernel_rfl) (by kernel_rfl) (by kernel_rfl) rfl (fun _ _ _ h => h) (HC.out U0 Hb0.out) rfl (fun U hU => by obtain ⟨⟨k0, k1, k2, k3, _, _, _, _, _⟩, a0, a1, a2⟩ := hU; go_simp) (fun K hK => ?_); have HK := Lib.hid hK; clear hK; go_simp; refine HK.out _ ?_; clear HK K)
        (refine takeC (i := 4) (.agg #[.int .i64 a.kind, .int .i64 a.who, .int .i64 a.claim]) rfl (by kernel_rfl) (by kernel_rfl) (by kernel_rfl) rfl (fun _ _ _ h => h) (HC.out U0 Hb0.out) rfl (fun U hU => by obtain ⟨⟨k0, k1, k2, k3, _, _, _, _, _⟩, a0, a1, a2⟩ := hU; go_simp) (fun K hK => ?_); have HK := Lib.hid hK; clear hK; go_simp; refine HK.out _ ?_; clear HK K)
        refine twoC (i := 5) (j := 9) (by kernel_rfl) rfl rfl rfl rfl rfl rfl (fun K hK => ?_) (fun K hK => ?_)
        · --
          have HK := Lib.hid hK; clear hK; go_simp
          have hs := Hs0.out
          have d2 := do_any U0 (fun b => b ≠ w.heap.size ∧ b < M) A Q ac qc x a (by omega) (by omega) (fun b hb => by omega) Hm0.out
          rw [Hdo.out] at d2
          refine d2.mono ?_
          clear d2 hs
          rintro e U1 ⟨A2, ac2, Q2, qc2, rfl, hm2, hq⟩
          have Hq1 := Lib.hid hq; have Hmr1 := Lib.hid hm2
          have Hb1 := Lib.hid (show Below M wr U1 by have := Hs0.out; exact Hb0.out.trans (hq.mono (by omega)))
          have Hs1 := Lib.hid hq.size
          clear hm2 hq
          simp only
          refine HK.out _ _ (HC.out _ Hb1.out) ?_
          clear HK K
          (refine takeC (i := 6) (.tuple #[.agg #[.int .i64 r.frames, .int .i64 r.budget, .slice A2 r.cs.length ac2, .slice Q2 r.q.length qc2], .int .i64 en]) rfl (by kernel_rfl) (by kernel_rfl) (by kernel_rfl) rfl (fun _ _ _ h => h) (HC.out U1 Hb1.out) rfl (fun U hU => by obtain ⟨⟨k0, k1, k2, k3, _, _, _, _, _⟩, a0, a1, a2⟩ := hU; go_simp) (fun K hK => ?_); have HK := Lib.hid hK; clear hK; go_simp; refine HK.out _ ?_; clear HK K)
          (refine takeC (i := 7) (.agg #[.int .i64 r.frames, .int .i64 r.budget, .slice A2 r.cs.length ac2, .slice Q2 r.q.length qc2]) rfl (by kernel_rfl) (by kernel_rfl) (by kernel_rfl) rfl (fun _ _ _ h => h) (HC.out U1 Hb1.out) rfl (fun U hU => by obtain ⟨⟨k0, k1, k2, k3, _, _, _, _, _⟩, a0, a1, a2⟩ := hU; go_simp) (fun K hK => ?_); have HK := Lib.hid hK; clear hK; go_simp; refine HK.out _ ?_; clear HK K)
          (refine takeC (i := 8) (.int .i64 en) rfl (by kernel_rfl) (by kernel_rfl) (by kernel_rfl) rfl (fun _ _ _ h => h) (HC.out U1 Hb1.out) rfl (fun U hU => by obtain ⟨⟨k0, k1, k2, k3, _, _, _, _, _⟩, a0, a1, a2⟩ := hU; go_simp) (fun K hK => ?_); have HK := Lib.hid hK; clear hK; go_simp; refine HK.out _ ?_; clear HK K)
          refine oneC (i := 9) (by kernel_rfl) rfl rfl rfl (fun K hK => ?_)
          have HK := Lib.hid hK; clear hK; go_simp
          obtain ⟨p, hp⟩ : ∃ p, p = U1.heap.size := ⟨_, rfl⟩
          obtain ⟨U2, hU⟩ : ∃ U, U = U1.alloc (.cells #[.int .i64 0, .int .i64 0, .slice none 0 0, .slice none 0 0] 25) := ⟨_, rfl⟩
          have hq : Below U1.heap.size U1 U2 := by rw [hU]; exact (Below.refl _ _).alloc (Nat.le_refl _) _
          have hz : ZB p U2 := (HB.of (h := ⟨0, 0, [], []⟩) (t := 25) (by rw [hU, hp, heap_alloc_new]; rfl)).zb
          have hs : U2.heap.size = p + 1 := by rw [hU, hp]; simp
          rw [← hU, ← hp]
          have Hq2 := Lib.hid hq; have Hz := Lib.hid hz; have Hp := Lib.hid hp; have Hs2 := Lib.hid hs
          have hs1 := Hs1.out; have hs0 := Hs0.out
          have Hb2 := Lib.hid (Hb1.out.trans (hq.mono (by skip; omega)))
          clear hU hq hz hp hs
          refine HK.out _ _ (HC.out _ Hb2.out) ?_
          clear HK K
          have HzE := Hz
          have hp2 := Hp.out; have hs2 := Hs2.out
          have HmE := Lib.hid ((Hmr1.out.below Hq2.out (fun b hb => by omega)).imp (ok' := fun b => b ≠ w.heap.size ∧ b ≠ p ∧ b < U2.heap.size) fun b hb => by omega)
          have Hpm := Lib.hid (show M ≤ p ∧ p < U2.heap.size by omega)
          clear hs0 hs1 hp2 hs2
          obtain ⟨z0, z1, z2, z3, y0, y1, y2, y3, ltz⟩ := HzE.out
          obtain ⟨⟨c0, c1, c2, c3, f0, f1, f2, f3, lt⟩, a0, a1, a2⟩ := HC.out _ Hb2.out
          refine oneC (i := 10) (by kernel_rfl) rfl rfl rfl (fun K hK => ?_)
          have HK := Lib.hid hK; clear hK; go_simp
          obtain ⟨U4, hU4⟩ : ∃ U4, U4 = fill4 U2 p r A2 ac2 Q2 qc2 := ⟨_, rfl⟩
          have hk : ∀ b, b ≠ p → U4.heap[b]? = U2.heap[b]? := fun b h => by rw [hU4]; exact fill4_keep h
          have hB4 : HB p r A2 ac2 Q2 qc2 U4 := by rw [hU4]; exact HzE.out.hb.fill
          have hs4 : U4.heap.size = U2.heap.size := by rw [hU4]; exact fill4_size
          have hb4 : Below M wr U4 := by rw [hU4]; exact fill4_below Hb2.out Hpm.out.1
          rw [fill4] at hU4
          rw [← hU4]
          have HB4 := Lib.hid hB4
          have Hb4 := Lib.hid hb4
          have hpm := Hpm.out
          have Hm4 := Lib.hid ((HmE.out.keep (w' := U4) fun b hb => hk b hb.2.1).imp (ok' := fun b => b ≠ w.heap.size ∧ b ≠ p ∧ b < U4.heap.size) fun b hb => ⟨hb.1, hb.2.1, by omega⟩)
          clear hU4 hk hB4 hs4 hb4 z0 z1 z2 z3 y0 y1 y2 y3 ltz c0 c1 c2 c3 f0 f1 f2 f3 lt a0 a1 a2 hpm
          refine HK.out _ _ (HC.out _ Hb4.out) ?_
          clear HK K
          (refine oneC (i := 11) (by kernel_rfl) rfl rfl rfl (fun K hK => ?_); have HK := Lib.hid hK; clear hK; go_simp; refine HK.out _ _ (HC.out _ Hb4.out) ?_; clear HK K)
          refine doneC (by kernel_rfl) ?_
          go_wp2_with fail
          go_meet
          refine ⟨p, A2, ac2, Q2, qc2, rfl, by rw [Hdo.out], (HC.out _ Hb4.out).1, by rw [Hdo.out]; exact HB4.out, Nat.lt_of_lt_of_le hNM Hpm.out.1, by rw [Hdo.out]; exact Hm4.out, Hb.out.trans (Hb4.out.mono (by omega))⟩
        · --
          have HK := Lib.hid hK; clear hK; go_simp
          obtain ⟨p, hp⟩ : ∃ p, p = U0.heap.size := ⟨_, rfl⟩
          obtain ⟨U1, hU⟩ : ∃ U, U = U0.alloc (.cells #[.int .i64 0, .int .i64 0, .slice none 0 0, .slice none 0 0] 25) := ⟨_, rfl⟩
          have hq : Below U0.heap.size U0 U1 := by rw [hU]; exact (Below.refl _ _).alloc (Nat.le_refl _) _
          have hz : ZB p U1 := (HB.of (h := ⟨0, 0, [], []⟩) (t := 25) (by rw [hU, hp, heap_alloc_new]; rfl)).zb
          have hs : U1.heap.size = p + 1 := by rw [hU, hp]; simp
          rw [← hU, ← hp]
          have Hq1 := Lib.hid hq; have Hz := Lib.hid hz; have Hp := Lib.hid hp; have Hs1 := Lib.hid hs
          have hs0 := Hs0.out
          have Hb1 := Lib.hid (Hb0.out.trans (hq.mono (by skip; omega)))
          clear hU hq hz hp hs
          refine HK.out _ _ (HC.out _ Hb1.out) ?_
          clear HK K
          have hp2 := Hp.out; have hs1 := Hs1.out
          have Hm1 := Lib.hid (Hm0.out.below Hq1.out (fun b hb => by omega))
          have hs1' : M + 1 = U1.heap.size := by omega
          have Hs1' := Lib.hid hs1'
          have hHs1 := Hs1
          clear hs0 hp2 hs1 hs1'
          refine oneC (i := 5) (by kernel_rfl) rfl rfl rfl (fun K hK => ?_)
          have HK := Lib.hid hK; clear hK; go_simp
          have hs := Hs1.out; have hp0 := Hp.out; have hsz := Hs0.out
          have d2 := do_any U1 (fun b => b ≠ w.heap.size ∧ b < M) A Q ac qc x a (by omega) (by omega) (fun b hb => by omega) Hm1.out
          rw [Hdo.out] at d2
          refine d2.mono ?_
          clear d2 hs hp0 hsz
          rintro e U2 ⟨A2, ac2, Q2, qc2, rfl, hm2, hq⟩
          have Hq2 := Lib.hid hq; have Hmr2 := Lib.hid hm2
          have Hb2 := Lib.hid (show Below M wr U2 by have := Hs1.out; have hp0 := Hp.out; have hsz := Hs0.out; exact Hb1.out.trans (hq.mono (by omega)))
          have Hs2 := Lib.hid hq.size
          clear hm2 hq
          simp only
          refine HK.out _ _ (HC.out _ Hb2.out) ?_
          clear HK K
          (refine takeC (i := 6) (.tuple #[.agg #[.int .i64 r.frames, .int .i64 r.budget, .slice A2 r.cs.length ac2, .slice Q2 r.q.length qc2], .int .i64 en]) rfl (by kernel_rfl) (by kernel_rfl) (by kernel_rfl) rfl (fun _ _ _ h => h) (HC.out U2 Hb2.out) rfl (fun U hU => by obtain ⟨⟨k0, k1, k2, k3, _, _, _, _, _⟩, a0, a1, a2⟩ := hU; go_simp) (fun K hK => ?_); have HK := Lib.hid hK; clear hK; go_simp; refine HK.out _ ?_; clear HK K)
          (refine takeC (i := 7) (.agg #[.int .i64 r.frames, .int .i64 r.budget, .slice A2 r.cs.length ac2, .slice Q2 r.q.length qc2]) rfl (by kernel_rfl) (by kernel_rfl) (by kernel_rfl) rfl (fun _ _ _ h => h) (HC.out U2 Hb2.out) rfl (fun U hU => by obtain ⟨⟨k0, k1, k2, k3, _, _, _, _, _⟩, a0, a1, a2⟩ := hU; go_simp) (fun K hK => ?_); have HK := Lib.hid hK; clear hK; go_simp; refine HK.out _ ?_; clear HK K)
          (refine takeC (i := 8) (.int .i64 en) rfl (by kernel_rfl) (by kernel_rfl) (by kernel_rfl) rfl (fun _ _ _ h => h) (HC.out U2 Hb2.out) rfl (fun U hU => by obtain ⟨⟨k0, k1, k2, k3, _, _, _, _, _⟩, a0, a1, a2⟩ := hU; go_simp) (fun K hK => ?_); have HK := Lib.hid hK; clear hK; go_simp; refine HK.out _ ?_; clear HK K)
          have hp2 := Hp.out; have hs1 := Hs1.out; have hs0 := Hs0.out; have hs2 := Hs2.out
          have HzE := Lib.hid (Hz.out.up Hq2.out (by omega))
          have HmE := Lib.hid (Hmr2.out.imp (ok' := fun b => b ≠ w.heap.size ∧ b ≠ p ∧ b < U2.heap.size) fun b hb => by omega)
          have Hpm := Lib.hid (show M ≤ p ∧ p < U2.heap.size by omega)
          clear hs0 hs1 hp2 hs2
          obtain ⟨z0, z1, z2, z3, y0, y1, y2, y3, ltz⟩ := HzE.out
          obtain ⟨⟨c0, c1, c2, c3, f0, f1, f2, f3, lt⟩, a0, a1, a2⟩ := HC.out _ Hb2.out
          refine oneC (i := 10) (by kernel_rfl) rfl rfl rfl (fun K hK => ?_)
          have HK := Lib.hid hK; clear hK; go_simp
          obtain ⟨U4, hU4⟩ : ∃ U4, U4 = fill4 U2 p r A2 ac2 Q2 qc2 := ⟨_, rfl⟩
          have hk : ∀ b, b ≠ p → U4.heap[b]? = U2.heap[b]? := fun b h => by rw [hU4]; exact fill4_keep h
          have hB4 : HB p r A2 ac2 Q2 qc2 U4 := by rw [hU4]; exact HzE.out.hb.fill
          have hs4 : U4.heap.size = U2.heap.size := by rw [hU4]; exact fill4_size
          have hb4 : Below M wr U4 := by rw [hU4]; exact fill4_below Hb2.out Hpm.out.1
          rw [fill4] at hU4
          rw [← hU4]
          have HB4 := Lib.hid hB4
          have Hb4 := Lib.hid hb4
          have hpm := Hpm.out
          have Hm4 := Lib.hid ((HmE.out.keep (w' := U4) fun b hb => hk b hb.2.1).imp (ok' := fun b => b ≠ w.heap.size ∧ b ≠ p ∧ b < U4.heap.size) fun b hb => ⟨hb.1, hb.2.1, by omega⟩)
          clear hU4 hk hB4 hs4 hb4 z0 z1 z2 z3 y0 y1 y2 y3 ltz c0 c1 c2 c3 f0 f1 f2 f3 lt a0 a1 a2 hpm
          refine HK.out _ _ (HC.out _ Hb4.out) ?_
          clear HK K
          (refine oneC (i := 11) (by kernel_rfl) rfl rfl rfl (fun K hK => ?_); have HK := Lib.hid hK; clear hK; go_simp; refine HK.out _ _ (HC.out _ Hb4.out) ?_; clear HK K)
          refine doneC (by kernel_rfl) ?_
          go_wp2_with fail
          go_meet
          refine ⟨p, A2, ac2, Q2, qc2, rfl, by rw [Hdo.out], (HC.out _ Hb4.out).1, by rw [Hdo.out]; exact HB4.out, Nat.lt_of_lt_of_le hNM Hpm.out.1, by rw [Hdo.out]; exact Hm4.out, Hb.out.trans (Hb4.out.mono (by omega))⟩
      case rest =>
        obtain ⟨p, A2, ac2, Q2, qc2, rfl, rfl, hH1, hH2, hpN, hM2, hb2⟩ := hcut
        obtain ⟨r, hr⟩ : ∃ r, r = (doA x a).1 := ⟨_, rfl⟩
        obtain ⟨en, hen⟩ : ∃ en, en = (doA x a).2 := ⟨_, rfl⟩
        rw [← hr] at hH2 hM2
        rw [← hen]
        have hrr : r.right = true := by rw [hr]; exact doA_right Hxr.out a
        obtain ⟨hrf, hrb⟩ := doA_fb x a
        rw [← hr] at hrf hrb
        have H11 := Lib.hid (show a.kind = 0 → decide (en = 11) = (decide (0 ≤ a.who) && decide (a.who ≤ 2147483647) && (decide (a.claim < 1) || decide (r.least < a.claim))) from fun hk => by
          have := begin_11 Hxr.out a.who a.claim
          rw [hen, doA, if_pos hk, Hall.least, hrf, hrb]; exact this)
        have HrF := Lib.hid (show r.frames = F by rw [hrf]; exact HxF.out)
        have HrB := Lib.hid (show r.budget = B by rw [hrb]; exact HxB.out)
        have Hrr := Lib.hid hrr
        obtain ⟨U4, hU4⟩ : ∃ U4, U4 = fill4 wc w.heap.size r A2 ac2 Q2 qc2 := ⟨_, rfl⟩
        have HB4 := Lib.hid (show HB w.heap.size r A2 ac2 Q2 qc2 U4 by rw [hU4]; exact hH1.fill)
        have Hb4 := Lib.hid (show Below w.heap.size w U4 by rw [hU4]; exact fill4_below hb2 (Nat.le_refl _))
        have HM4 := Lib.hid (show HM U4 (fun b => b ≠ w.heap.size ∧ b < U4.heap.size) r A2 ac2 Q2 qc2 by rw [hU4]; exact (hM2.keep fun b hb => fill4_keep hb.1).imp fun b hb => ⟨hb.1, by rw [fill4_size]; exact hb.2.2⟩)
        rw [fill4] at hU4
        have HU4 := Lib.hid hU4.symm
        clear c0 c1 c2 c3 f0 f1 f2 f3 lt a0 a1 a2 hbar hU4 hr hen hrr hrf hrb hM2 hb2
        obtain ⟨c0, c1, c2, c3, f0, f1, f2, f3, lt⟩ := hH1
        obtain ⟨y0, y1, y2, y3, _, _, _, _, ltp⟩ := hH2
        go_upto_region 7 with fail
        rw [HU4.out]
        clear c0 c1 c2 c3 f0 f1 f2 f3 lt y0 y1 y2 y3 ltp HU4
        obtain ⟨c0, c1, c2, c3, f0, f1, f2, f3, lt⟩ := HB4.out
        obtain ⟨a0, a1, a2⟩ := Hcell.out U4 Hb4.out
        have hbar : ba < U4.heap.size := by have := Hb4.out.size; omega
        go_cut [92] (fun s92 wx => s92 = .bool false ∧ HB w.heap.size r A2 ac2 Q2 qc2 wx ∧ HM wx (fun b => b ≠ w.heap.size ∧ b < wx.heap.size) r A2 ac2 Q2 qc2 ∧ Below w.heap.size w wx)
        case first =>
          have hfin : ∀ n, HB w.heap.size r A2 ac2 Q2 qc2 (U4.drewN n) ∧ HM (U4.drewN n) (fun b => b ≠ w.heap.size ∧ b < (U4.drewN n).heap.size) r A2 ac2 Q2 qc2 ∧ Below w.heap.size w (U4.drewN n) := fun n => ⟨HB4.out.keep rfl, HM4.out.keep fun b _ => rfl, below_drewN Hb4.out n⟩
          have Hfin := Lib.hid hfin
          clear hfin c2 c3 f0 f1 f2 f3
          by_cases hk : a.kind = 0
          · have hkb : (a.kind == 0) = true := by simpa using hk
            have h11 := H11.out hk
            rw [← show (en == 11) = decide (en = 11) from rfl, Hall.least] at h11
            clear hk
            rcases Int.lt_or_le a.who 0 with h1 | h1
            · rw [decide_eq_false (show ¬ 0 ≤ a.who by omega)] at h11
              simp only [Bool.false_and] at h11
              have h1' : ¬ 0 ≤ a.who := by omega
              go_quiet (fail)
              go_wp2_with fail
              go_meet
              exact ⟨rfl, Hfin.out _⟩
            rw [decide_eq_true h1] at h11
            rcases Int.lt_or_le 2147483647 a.who with h2 | h2
            · rw [decide_eq_false (show ¬ a.who ≤ 2147483647 by omega)] at h11
              simp only [Bool.true_and, Bool.false_and] at h11
              have h2' : ¬ a.who ≤ 2147483647 := by omega
              go_quiet (fail)
              go_wp2_with fail
              go_meet
              exact ⟨rfl, Hfin.out _⟩
            rw [decide_eq_true h2] at h11
            rcases Int.lt_or_le a.claim 1 with h3 | h3
            · rw [decide_eq_true h3] at h11
              simp only [Bool.true_and, Bool.true_or] at h11
              skip
              go_quiet (fail)
              go_wp2_with fail
              go_meet
              exact ⟨rfl, Hfin.out _⟩
            have h3' : ¬ a.claim < 1 := by omega
            rw [decide_eq_false h3'] at h11
            simp only [Bool.true_and, Bool.false_or] at h11
            rcases Int.lt_or_le r.budget r.frames with h4 | h4
            · --
              rw [if_neg (by omega)] at h11
              rcases Int.lt_or_le r.budget a.claim with h5 | h5
              · rw [decide_eq_true h5] at h11
                skip
                go_quiet (fail)
                go_wp2_with fail
                go_meet
                exact ⟨rfl, Hfin.out _⟩
              · have h5' : ¬ r.budget < a.claim := by omega
                rw [decide_eq_false h5'] at h11
                skip
                go_quiet (fail)
                go_wp2_with fail
                go_meet
                exact ⟨rfl, Hfin.out _⟩
            · --
              have e4 : (if r.frames < r.budget then r.frames else r.budget) = r.frames := by split <;> omega
              rw [e4] at h11
              clear e4
              rcases Int.lt_or_le r.frames a.claim with h5 | h5
              · rw [decide_eq_true h5] at h11
                skip
                go_quiet (fail)
                go_wp2_with fail
                go_meet
                exact ⟨rfl, Hfin.out _⟩
              · have h5' : ¬ r.frames < a.claim := by omega
                rw [decide_eq_false h5'] at h11
                skip
                go_quiet (fail)
                go_wp2_with fail
                go_meet
                exact ⟨rfl, Hfin.out _⟩
          · have hkb : (a.kind == 0) = false := by simpa using hk
            clear hk
            go_quiet (fail)
            go_wp2_with fail
            go_meet
            exact ⟨rfl, Hfin.out _⟩
        case rest =>
        obtain ⟨rfl, hB5, hM5, hb5⟩ := hcut
        have HB5 := Lib.hid hB5; have HM5 := Lib.hid hM5; have Hb5 := Lib.hid hb5
        obtain ⟨c0, c1, c2, c3, f0, f1, f2, f3, lt⟩ := hB5
        clear hM5 hb5
        go_wp2_with fail
        go_loopg [11, 12, 13, 96] r.cs.length (fun g s11 s12 s13 s96 wy => ∃ k : Nat, k ≤ r.cs.length ∧ g = r.cs.length - k ∧ s96 = .int .i64 k ∧ s11 = .int .i64 (heldS (r.cs.take k)) ∧ s12 = .bool ((r.cs.take k).any (fun c => decide (c.held < c.claim))) ∧ s13 = .bool ((r.cs.take k).any (mayC r)) ∧ Below wc.heap.size wc wy)
        case atStart => exact ⟨0, Nat.zero_le _, rfl, rfl, by simp [heldS], rfl, rfl, Below.refl _ _⟩
        case round =>
          obtain ⟨k, hk, hgk, rfl, rfl, rfl, rfl, hby⟩ := hrel
          have Hgk := Lib.hid hgk; have Hby := Lib.hid hby
          have hcl := heldS_le (smallC_of (right_iff.1 Hrr.out).2.1) k
          have h40 : r.cs.length + r.q.length ≤ 40 := (heads_iff.1 (right_iff.1 Hrr.out).1).2.2.2.2
          obtain ⟨wb, hwb⟩ : ∃ wb, wb = (r.cs.take k).any (fun c => decide (c.held < c.claim)) := ⟨_, rfl⟩
          obtain ⟨mb, hmb⟩ : ∃ mb, mb = (r.cs.take k).any (mayC r) := ⟨_, rfl⟩
          rw [← hwb, ← hmb]
          have Hwb := Lib.hid hwb; have Hmb := Lib.hid hmb
          clear hgk hby hwb hmb c0 c1 c2 c3 f0 f1 f2 f3 lt
          obtain ⟨c0, c1, c2, c3, f0, f1, f2, f3, lt⟩ := HB5.out.up Hby.out HB5.out.lt
          by_cases hlt2 : k < r.cs.length
          · obtain ⟨c, cb, co, hc, rfl, hcb, hcell⟩ := rd_c (HM5.out.rc.to (B := wc.heap.size) fun b hb => hb.2) hlt2
            obtain ⟨g0, g1, g2⟩ := hcell wr Hby.out
            have hcbr : cb < wr.heap.size := by have := Hby.out.size; omega
            have hok := okC_iff.1 (okC_of (right_iff.1 Hrr.out).2.1 hc)
            have hsm := smallC_of (right_iff.1 Hrr.out).2.1 k c hc
            have hsn := heldS_snoc hc
            have ew : IntKind.i64.wrap (heldS (r.cs.take k) + c.held) = heldS (r.cs.take (k + 1)) := by rw [IntWalk.i64_in _ (by omega), hsn]
            have hki : (k : Int) < (r.cs.length : Int) := by omega
            have Hc := Lib.hid hc
            have hn0 : ¬ c.held < 0 := by omega
            have hn1 : ¬ c.claim < c.held := by omega
            clear hc hcell hsn hcl hsm
            obtain ⟨V1, hV1⟩ : ∃ V1, V1 = wr.alloc (.cells #[.int .i64 c.who, .int .i64 c.claim, .int .i64 c.held] 50) := ⟨_, rfl⟩
            have hq1 : Below wc.heap.size wc V1 := by rw [hV1]; exact Hby.out.alloc Hby.out.size _
            have Hq1 := Lib.hid hq1
            have hs1 : V1.heap.size = wr.heap.size + 1 := by rw [hV1]; simp
            have hcb1 : V1.heap[wr.heap.size]? = some (.cells #[.int .i64 c.who, .int .i64 c.claim, .int .i64 c.held] 50 (0, 0)) := by rw [hV1, heap_alloc_new]
            have Hcb1 := Lib.hid hcb1
            have hs := Hby.out.size
            by_cases hw : c.held < c.claim
            · have hne : (c.held == c.claim) = false := by simp; omega
              obtain ⟨r', n', hpin⟩ : ∃ r' n', pinM r c.who = (r', n') := ⟨_, _, rfl⟩
              have Hmay := Lib.hid (show mayC r c = (n' == 0) by rw [mayC, decide_eq_true hw, hpin, decide_eq_false (show ¬ c.held = c.claim by omega), Bool.or_false, Bool.true_and]; rfl)
              have d := pin_any V1 (fun b => b ≠ w.heap.size ∧ b < wc.heap.size) (some ⟨cb, co, none⟩) Q2 ac2 qc2 r c.who (by omega) (by omega) (fun b hb => by omega) (HM5.out.below hq1 (fun b hb => hb.2))
              rw [hpin] at d
              have HV1 := Lib.hid hV1.symm; have Hd := Lib.hid d; have Hs1 := Lib.hid hs1
              clear hV1 hq1 hs1 hcb1 hpin d
              go_wp2_with fail
              rw [HV1.out]
              refine Hd.out.mono ?_
              clear Hd
              rintro e V2 ⟨A3, ac3, Q3, qc3, rfl, _, hb3⟩
              have hcb2 := (hb3.block wr.heap.size (by have := Hs1.out; omega)).trans Hcb1.out
              have v0 : V2.cell? ⟨wr.heap.size, 0, none⟩ = some (.int .i64 c.who) := cells_of hcb2 0
              have v1 : V2.cell? ⟨wr.heap.size, 1, none⟩ = some (.int .i64 c.claim) := cells_of hcb2 1
              have v2 : V2.cell? ⟨wr.heap.size, 2, none⟩ = some (.int .i64 c.held) := cells_of hcb2 2
              have hs2 : wr.heap.size < V2.heap.size := by have := Hs1.out; have := hb3.size; omega
              have hs3 : wr.heap.size < V2.heap.size + 1 := by omega
              have hq2 : Below wc.heap.size wc V2 := Hq1.out.trans (hb3.mono Hq1.out.size)
              have Hq2 := Lib.hid hq2
              clear hq2 hb3 hcb2 HV1 c0 c1 c2 c3 f0 f1 f2 f3 lt g0 g1 g2
              simp only
              cases mb with
              | true =>
                go_wp2_with fail
                go_roundg (r.cs.length - (k + 1))
                case measure => have := Hgk.out; omega
                case rel => exact ⟨k + 1, by omega, rfl, by go_num, rfl, by rw [any_snoc _ Hc.out, ← Hwb.out, decide_eq_true hw, Bool.or_true], by rw [any_snoc _ Hc.out, ← Hmb.out, Bool.true_or], Hq2.out.alloc Hq2.out.size _⟩
              | false =>
                cases hn : n' == 0 with
                | true =>
                  rw [hn] at Hmay
                  go_wp2_with fail
                  go_roundg (r.cs.length - (k + 1))
                  case measure => have := Hgk.out; omega
                  case rel => exact ⟨k + 1, by omega, rfl, by go_num, rfl, by rw [any_snoc _ Hc.out, ← Hwb.out, decide_eq_true hw, Bool.or_true], by rw [any_snoc _ Hc.out, ← Hmb.out, Hmay.out, Bool.false_or], Hq2.out.alloc Hq2.out.size _⟩
                | false =>
                  rw [hn] at Hmay
                  go_wp2_with fail
                  go_roundg (r.cs.length - (k + 1))
                  case measure => have := Hgk.out; omega
                  case rel => exact ⟨k + 1, by omega, rfl, by go_num, rfl, by rw [any_snoc _ Hc.out, ← Hwb.out, decide_eq_true hw, Bool.or_true], by rw [any_snoc _ Hc.out, ← Hmb.out, Hmay.out, Bool.false_or], Hq2.out.alloc Hq2.out.size _⟩
            · have hne : (c.held == c.claim) = true := by simp; omega
              have Hw := Lib.hid (show decide (c.held < c.claim) = false from decide_eq_false hw)
              have Hmay := Lib.hid (show mayC r c = true by rw [mayC, decide_eq_true (show c.held = c.claim by omega), Bool.or_true])
              have Hs1 := Lib.hid hs1
              clear hV1 hq1 hs1 hcb1
              cases mb with
              | true =>
                go_wp2_with fail
                go_roundg (r.cs.length - (k + 1))
                case measure => have := Hgk.out; omega
                case rel => exact ⟨k + 1, by omega, rfl, by go_num, rfl, by rw [any_snoc _ Hc.out, ← Hwb.out, Hw.out, Bool.or_false], by rw [any_snoc _ Hc.out, ← Hmb.out, Bool.true_or], Hby.out.alloc Hby.out.size _⟩
              | false =>
                go_wp2_with fail
                go_roundg (r.cs.length - (k + 1))
                case measure => have := Hgk.out; omega
                case rel => exact ⟨k + 1, by omega, rfl, by go_num, rfl, by rw [any_snoc _ Hc.out, ← Hwb.out, Hw.out, Bool.or_false], by rw [any_snoc _ Hc.out, ← Hmb.out, Hmay.out, Bool.or_true], Hby.out.alloc Hby.out.size _⟩
          · obtain rfl : k = r.cs.length := by omega
            obtain ⟨hd, hhd⟩ : ∃ hd, hd = heldS r.cs := ⟨_, rfl⟩
            have hwb := Hwb.out; have hmb := Hmb.out
            rw [List.take_length] at hwb hmb hcl ⊢
            rw [← hhd] at hcl ⊢
            have hleft := (right_iff.1 Hrr.out).2.2.2.2.1
            have hsafe := (right_iff.1 Hrr.out).2.2.2.2.2.1
            have hlf : r.left = r.frames - hd := by rw [hhd, Hall.left]
            rw [hlf] at hleft hsafe
            have hF := HrF.out
            have hn : ¬ r.frames < hd := by omega
            have ew : IntKind.i64.wrap (r.frames - hd) = r.frames - hd := IntWalk.i64_in _ (by omega)
            have hd1 := safe_any wr A2 ac2 r.cs (r.frames - hd) HM5.out.ca HM5.out.ca2 ((HM5.out.rc.to (B := wc.heap.size) fun b hb => hb.2).up Hby.out)
            rw [hsafe] at hd1
            have Hd1 := Lib.hid hd1
            have Hwm := Lib.hid (show wb = true → mb = true from fun h => by rw [hmb]; exact wants_may Hrr.out (by rw [← hwb, h]))
            clear hd1 hleft hsafe hlf hF hcl hwb hmb hhd
            go_wp2_with fail
            refine Hd1.out.mono ?_
            clear Hd1
            rintro e V1 ⟨rfl, hb1⟩
            have hq1 : Below wc.heap.size wc V1 := Hby.out.trans (hb1.mono Hby.out.size)
            have Hq1 := Lib.hid hq1
            clear hb1 hq1 c0 c1 c2 c3 f0 f1 f2 f3 lt
            obtain ⟨c0, c1, c2, c3, f0, f1, f2, f3, lt⟩ := HB5.out.up Hq1.out HB5.out.lt
            have d2 := hallRight_any V1 A2 Q2 ac2 qc2 r (by omega) (by omega) ((HM5.out.below Hq1.out (fun b hb => hb.2)).imp fun b hb => Nat.lt_of_lt_of_le hb.2 Hq1.out.size)
            rw [Hrr.out] at d2
            have Hd2 := Lib.hid d2
            clear d2
            have hfin : ∀ V2, Below V1.heap.size V1 V2 → HB w.heap.size r A2 ac2 Q2 qc2 V2 ∧ HM V2 (fun b => b ≠ w.heap.size ∧ b < V2.heap.size) r A2 ac2 Q2 qc2 ∧ Below w.heap.size w V2 := fun V2 hV => by
              have hq : Below wc.heap.size wc V2 := Hq1.out.trans (hV.mono Hq1.out.size)
              have hsz := Hb5.out.size
              exact ⟨HB5.out.up hq HB5.out.lt, (HM5.out.below hq (fun b hb => hb.2)).imp fun b hb => ⟨hb.1, Nat.lt_of_lt_of_le hb.2 hq.size⟩, Hb5.out.trans (hq.mono hsz)⟩
            have Hfin := Lib.hid hfin
            clear hfin
            cases wb with
            | false =>
              go_wp2_with fail
              refine Hd2.out.mono ?_
              rintro e V2 ⟨rfl, hb2⟩
              have Hf := Lib.hid (Hfin.out V2 hb2)
              clear hb2
              go_wp2_with fail
              go_roundg (acts.length - (j + 1))
              case measure => have := Hg.out; omega
              case rel => exact ⟨j + 1, r, A2, ac2, Q2, qc2, by omega, by omega, rfl, by go_num, Hrr.out, HrF.out, HrB.out, Hf.out⟩
            | true =>
              obtain rfl := Hwm.out rfl
              go_wp2_with fail
              refine Hd2.out.mono ?_
              rintro e V2 ⟨rfl, hb2⟩
              have Hf := Lib.hid (Hfin.out V2 hb2)
              clear hb2
              go_wp2_with fail
              go_roundg (acts.length - (j + 1))
              case measure => have := Hg.out; omega
              case rel => exact ⟨j + 1, r, A2, ac2, Q2, qc2, by omega, by omega, rfl, by go_num, Hrr.out, HrF.out, HrB.out, Hf.out⟩
    · have Hb' := Lib.hid ((awake_any wr).mono (R' := fun e w' => e = .returned (.bool true) ∧ Below w.heap.size w w') fun e w' h => ⟨h.1, bnext Hb.out h.2⟩)
      clear c0 c1 c2 c3 f0 f1 f2 f3 lt hb
      rcases Nat.lt_or_ge j acts.length with h1 | h1
      · have hji : (j : Int) < (acts.length : Int) := by omega
        have hji100 : ¬ (j : Int) < 100 := by omega
        go_wp2_with fail
        refine Hb'.out.mono ?_
        rintro e V ⟨rfl, hb⟩
        go_wp2_with fail
        go_ret
        exact ⟨rfl, hb⟩
      · have hji : ¬ (j : Int) < (acts.length : Int) := by omega
        go_wp2_with fail
        refine Hb'.out.mono ?_
        rintro e V ⟨rfl, hb⟩
        go_wp2_with fail
        go_ret
        exact ⟨rfl, hb⟩
end Go.Proofs.Ythhfhgkkfaghoaa
