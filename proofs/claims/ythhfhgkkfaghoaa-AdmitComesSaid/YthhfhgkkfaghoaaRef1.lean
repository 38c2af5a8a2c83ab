/- The document's Safe and Right of a hall. -/
import Derived.Test.YthhfhgkkfaghoaaRef0
import Derived.Deep.DeepCutAuto
namespace Go.Proofs.Ythhfhgkkfaghoaa
open Go.RowKit

def refSafeB (x : Hall) : Bool := decide (0 ≤ x.left) && decide ((ordR x.left x.cs).1.length = x.cs.length)
theorem refSafeB_is {x : Hall} (hr : rightB x.cs = true) (h8 : x.left ≤ 8) : refSafeB x = (decide (0 ≤ x.left) && safeB x.left x.cs) := by
  by_cases h0 : 0 ≤ x.left
  · rw [refSafeB, decide_eq_true h0, Bool.true_and, Bool.true_and, safeB, ordB_right hr h0 (by omega)]
    have := (ordR_len (free := x.left) (l := x.cs)).2
    cases h : (ordR x.left x.cs).2 with
    | true => rw [decide_eq_true (this.1 h)]
    | false => rw [decide_eq_false (fun e => by rw [this.2 e] at h; cases h)]
  · rw [refSafeB, decide_eq_false h0, Bool.false_and, Bool.false_and]

set_option maxRecDepth 20000 in
set_option maxHeartbeats 4000000 in
theorem refSafe_any (w : World) (A Q : Option Addr) (ac qc : Nat) (x : Hall) (hf1 : 0 ≤ x.frames) (hf2 : x.frames ≤ 1000) (hl : x.cs.length ≤ 8) (hs : smallC x.cs) (hr : Rd C.cells 3 w w.heap.size A x.cs) :
    Calls Try.prog 43 #[.agg #[.int .i64 x.frames, .int .i64 x.budget, .slice A x.cs.length ac, .slice Q x.q.length qc]] w fun e w' => e = .returned (.bool (refSafeB x)) ∧ Below w.heap.size w w' := by
  obtain ⟨W, hW, hbW, hsW, hB⟩ := hall_box w A Q ac qc x 29
  have Hr := Lib.hid (hr.up hbW)
  have HbW := Lib.hid hbW
  have HB' := Lib.hid hB
  have hW' := hW.symm
  have Hs := Lib.hid hs
  obtain ⟨c0, c1, c2, c3, _, _, _, _, lt⟩ := hB
  have hle := heldS_le hs x.cs.length
  rw [List.take_length] at hle
  have hlf : x.frames - heldS x.cs = x.left := rfl
  have ew : IntKind.i64.wrap (x.frames - heldS x.cs) = x.left := by rw [IntWalk.i64_in _ (by omega)]; rfl
  have Hlf := Lib.hid (show x.left ≤ 1000 by omega)
  clear hW hbW hr hs hle hlf
  have hc1 : ∀ y : BW W, Calls Try.prog 16 #[.agg #[.int .i64 x.frames, .int .i64 x.budget, .slice A x.cs.length ac, .slice Q x.q.length qc]] y.w fun e w' => e = .returned (.int .i64 (heldS x.cs)) ∧ Below y.w.heap.size y.w w' := fun y => refHeld_any y.w A Q ac qc x (by omega) Hs.out (Hr.out.up y.below)
  have Hc1 := Lib.hid hc1
  have n0 := bw_cell c0 lt
  have n1 := bw_cell c1 lt
  have n2 := bw_cell c2 lt
  have n3 := bw_cell c3 lt
  clear hc1
  go_enter Try.func43, Try.ntmps43
  go_wp2_with fail
  refine wp_region_bw (by kernel_rfl) (by kernel_rfl) ?_
  repeat (go_big_quiet_step (exact call_bw (Hc1.out _)))
  refine wpQuiet_nil (bw_nil fun V hV => ?_)
  have HV := Lib.hid hV
  clear hV c0 c1 c2 c3 n0 n1 n2 n3 hW'
  obtain ⟨c0, c1, c2, c3, _, _, _, _, ltV⟩ := HB'.out.up HV.out lt
  by_cases h0 : 0 ≤ x.left
  · go_upto_region 2 with fail
    obtain ⟨M, hM⟩ : ∃ M, M = V.heap.size := ⟨_, rfl⟩
    have HC := Lib.hid (show ∀ U, Below M V U → HB w.heap.size x A ac Q qc U from fun U hU => (HB'.out.up HV.out lt).up hU (by omega))
    refine wp_region_C (fun U => HB w.heap.size x A ac Q qc U) (by kernel_rfl) rfl rfl ?_
    obtain ⟨U0, hU0⟩ : ∃ U0, U0 = V.drew := ⟨_, rfl⟩
    have Hb0 := Lib.hid (show Below M V U0 by rw [hU0, hM]; exact (Below.refl _ _).drew)
    have Hr0 := Lib.hid (show Rd C.cells 3 U0 U0.heap.size A x.cs by rw [hU0]; exact (Hr.out.up HV.out).up (Below.refl _ _).drew)
    have Hs0 := Lib.hid (show U0.heap.size = M by rw [hU0, hM]; rfl)
    rw [← hU0]
    have HMd := Lib.hid hM
    clear hU0 hM c0 c1 c2 c3
    (refine takeC (i := 0) (.int .i64 x.left) rfl (by kernel_rfl) (by kernel_rfl) (by kernel_rfl) rfl (fun _ _ _ h => h) (HC.out _ Hb0.out) rfl (fun U hU => by obtain ⟨k0, k1, k2, k3, _, _, _, _, _⟩ := hU; go_simp) (fun K hK => ?_); have HK := Lib.hid hK; clear hK; go_simp; refine HK.out _ ?_; clear HK K)
    (refine takeC (i := 1) (.bool true) rfl (by kernel_rfl) (by kernel_rfl) (by kernel_rfl) rfl (fun _ _ _ h => h) (HC.out _ Hb0.out) rfl (fun U hU => by obtain ⟨k0, k1, k2, k3, _, _, _, _, _⟩ := hU; go_simp) (fun K hK => ?_); have HK := Lib.hid hK; clear hK; go_simp; refine HK.out _ ?_; clear HK K)
    (refine takeC (i := 2) (.bool true) rfl (by kernel_rfl) (by kernel_rfl) (by kernel_rfl) rfl (fun _ _ _ h => h) (HC.out _ Hb0.out) rfl (fun U hU => by obtain ⟨k0, k1, k2, k3, _, _, _, _, _⟩ := hU; go_simp) (fun K hK => ?_); have HK := Lib.hid hK; clear hK; go_simp; refine HK.out _ ?_; clear HK K)
    (refine takeC (i := 3) (.int .i64 x.left) rfl (by kernel_rfl) (by kernel_rfl) (by kernel_rfl) rfl (fun _ _ _ h => h) (HC.out _ Hb0.out) rfl (fun U hU => by obtain ⟨k0, k1, k2, k3, _, _, _, _, _⟩ := hU; go_simp) (fun K hK => ?_); have HK := Lib.hid hK; clear hK; go_simp; refine HK.out _ ?_; clear HK K)
    (refine takeC (i := 4) (.pointer (some ⟨w.heap.size, 2, none⟩)) rfl (by kernel_rfl) (by kernel_rfl) (by kernel_rfl) rfl (fun _ _ _ h => h) (HC.out _ Hb0.out) rfl (fun U hU => by obtain ⟨k0, k1, k2, k3, _, _, _, _, _⟩ := hU; go_simp) (fun K hK => ?_); have HK := Lib.hid hK; clear hK; go_simp; refine HK.out _ ?_; clear HK K)
    (refine takeC (i := 5) (.slice A x.cs.length ac) rfl (by kernel_rfl) (by kernel_rfl) (by kernel_rfl) rfl (fun _ _ _ h => h) (HC.out _ Hb0.out) rfl (fun U hU => by obtain ⟨k0, k1, k2, k3, _, _, _, _, _⟩ := hU; go_simp) (fun K hK => ?_); have HK := Lib.hid hK; clear hK; go_simp; refine HK.out _ ?_; clear HK K)
    (refine takeC (i := 8) (.pointer (some ⟨w.heap.size, 2, none⟩)) rfl (by kernel_rfl) (by kernel_rfl) (by kernel_rfl) rfl (fun _ _ _ h => h) (HC.out _ Hb0.out) rfl (fun U hU => by obtain ⟨k0, k1, k2, k3, _, _, _, _, _⟩ := hU; go_simp) (fun K hK => ?_); have HK := Lib.hid hK; clear hK; go_simp; refine HK.out _ ?_; clear HK K)
    (refine takeC (i := 9) (.slice A x.cs.length ac) rfl (by kernel_rfl) (by kernel_rfl) (by kernel_rfl) rfl (fun _ _ _ h => h) (HC.out _ Hb0.out) rfl (fun U hU => by obtain ⟨k0, k1, k2, k3, _, _, _, _, _⟩ := hU; go_simp) (fun K hK => ?_); have HK := Lib.hid hK; clear hK; go_simp; refine HK.out _ ?_; clear HK K)
    (refine takeC (i := 10) (.int .i64 x.cs.length) rfl (by kernel_rfl) (by kernel_rfl) (by kernel_rfl) rfl (fun _ _ _ h => h) (HC.out _ Hb0.out) rfl (fun U hU => by obtain ⟨k0, k1, k2, k3, _, _, _, _, _⟩ := hU; go_simp) (fun K hK => ?_); have HK := Lib.hid hK; clear hK; go_simp; refine HK.out _ ?_; clear HK K)
    refine oneC (i := 6) (by kernel_rfl) rfl rfl rfl (fun K hK => ?_)
    have HK := Lib.hid hK; clear hK; go_simp
    refine (refOrder_any U0 A ac x.cs x.left hl Hs.out h0 Hlf.out Hr0.out).mono ?_
    rintro e U1 ⟨O, oc, rfl, _, hb1⟩
    obtain ⟨n, hn⟩ : ∃ n, n = (ordR x.left x.cs).1.length := ⟨_, rfl⟩
    rw [← hn]
    have Hn := Lib.hid hn
    have Hb1 := Lib.hid (Hb0.out.trans (hb1.mono (by have := Hs0.out; omega)))
    clear hb1 hn
    refine HK.out _ _ (HC.out _ Hb1.out) ?_
    clear HK K
    (refine takeC (i := 7) (.int .i64 n) rfl (by kernel_rfl) (by kernel_rfl) (by kernel_rfl) rfl (fun _ _ _ h => h) (HC.out _ Hb1.out) rfl (fun U hU => by obtain ⟨k0, k1, k2, k3, _, _, _, _, _⟩ := hU; go_simp) (fun K hK => ?_); have HK := Lib.hid hK; clear hK; go_simp; refine HK.out _ ?_; clear HK K)
    (refine takeC (i := 11) (.bool ((n : Int) == (x.cs.length : Int))) rfl (by kernel_rfl) (by kernel_rfl) (by kernel_rfl) rfl (fun _ _ _ h => h) (HC.out _ Hb1.out) rfl (fun U hU => by obtain ⟨k0, k1, k2, k3, _, _, _, _, _⟩ := hU; go_simp) (fun K hK => ?_); have HK := Lib.hid hK; clear hK; go_simp; refine HK.out _ ?_; clear HK K)
    (refine takeC (i := 12) (.bool ((n : Int) == (x.cs.length : Int))) rfl (by kernel_rfl) (by kernel_rfl) (by kernel_rfl) rfl (fun _ _ _ h => h) (HC.out _ Hb1.out) rfl (fun U hU => by obtain ⟨k0, k1, k2, k3, _, _, _, _, _⟩ := hU; go_simp) (fun K hK => ?_); have HK := Lib.hid hK; clear hK; go_simp; refine HK.out _ ?_; clear HK K)
    (refine oneC (i := 13) (by kernel_rfl) rfl rfl rfl (fun K hK => ?_); have HK := Lib.hid hK; clear hK; go_simp; refine HK.out _ _ (HC.out _ Hb1.out) ?_; clear HK K)
    refine doneC (by kernel_rfl) ?_
    go_wp2_with fail
    go_ret
    refine ⟨ret_bool ?_, bnext (bnext HbW.out HV.out) (by rw [← HMd.out]; exact Hb1.out)⟩
    rw [refSafeB, decide_eq_true h0, ← Hn.out, Bool.true_and]
    exact decide_eq_decide.2 (by omega)
  · have H0 := Lib.hid h0
    go_wp2_with fail
    have h0' : ¬ 0 ≤ x.left := by have := H0.out; omega
    refine wp_region_bw (by kernel_rfl) (by kernel_rfl) ?_
    repeat (go_big_quiet_step (fail))
    refine wpQuiet_nil (bw_nil fun V2 hV2 => ?_)
    go_wp2_with fail
    go_ret
    refine ⟨ret_bool ?_, bnext (bnext HbW.out HV.out) hV2⟩
    rw [refSafeB, decide_eq_false (by omega)]
    rfl
end Go.Proofs.Ythhfhgkkfaghoaa
