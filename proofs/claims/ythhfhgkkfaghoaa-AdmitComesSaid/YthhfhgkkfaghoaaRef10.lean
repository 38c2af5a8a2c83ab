/- The contract of lockkeeperref11.Begin. -/
import Derived.Test.YthhfhgkkfaghoaaRef9
namespace Go.Proofs.Ythhfhgkkfaghoaa
open Go.RowKit

theorem Rd'.of_own2 {α : Type} {f : α → List Value} {sz : Nat} {w : World} {A : Option Addr} {l : List α} {base : Nat} {e : TypeId} {c : Nat} {n : Nat} (h : w.ownsRow base e sz (.slice A n c) n (l.flatMap f)) (hf : ∀ x, (f x).length = sz) (hsz : 0 < sz) : Rd' f sz w (fun b => (Value.slice A n c).ownBlock = some b ∧ base ≤ b ∧ b < w.heap.size) A l := fun hn => by
  obtain ⟨b, off, e1, hb, hc⟩ := Rd.of_own h hf hsz hn
  have hob : (Value.slice A n c).ownBlock = some b := by subst e1; rfl
  exact ⟨b, off, e1, ⟨hob, (h.lt b hob).1, hb⟩, hc⟩

set_option maxRecDepth 20000 in
set_option maxHeartbeats 8000000 in
theorem refBegin_any (w : World) (ok : Nat → Prop) (A Q : Option Addr) (ac qc : Nat) (x : Hall) (who claim : Int) (hl1 : x.cs.length ≤ 1000) (hl2 : x.q.length ≤ 1000) (hok : ∀ b, ok b → b < w.heap.size) (hm : HM w ok x A ac Q qc) :
    Calls Try.prog 12 #[.agg #[.int .i64 x.frames, .int .i64 x.budget, .slice A x.cs.length ac, .slice Q x.q.length qc], .int .i64 who, .int .i64 claim] w (EndDone ok (beginM x who claim) w) := by
  obtain ⟨W, hW, hbW, hsW, hB, hR⟩ := hall_box2 w A Q ac qc x 29
  have HmW := Lib.hid (hm.below hbW hok)
  have HmW' := Lib.hid ((hm.below hbW hok).imp (ok' := fun b => b < W.heap.size) fun b hb => by have := hok b hb; omega)
  have HbW := Lib.hid hbW
  have Hok := Lib.hid hok
  have HB' := Lib.hid hB
  have HR' := Lib.hid hR
  obtain ⟨c0, c1, c2, c3, f0, f1, f2, f3, lt⟩ := hB
  obtain ⟨r0, r1, r2, r3, k0, k1, k2, k3, ltR⟩ := hR
  have hW' := hW.symm
  clear hW hbW hm hok
  have d1 := refHall_any W A Q ac qc x hl1 hl2 HmW'.out.c HmW'.out.q
  obtain ⟨rt, hrt⟩ : ∃ rt, rt = x.right := ⟨_, rfl⟩
  rw [← hrt] at d1
  have Hd1 := Lib.hid d1
  have Hrt := Lib.hid hrt
  clear hrt d1
  have hsame : ∀ V, Below W.heap.size W V → ∀ n, EndDone ok (x, [], n) w (.returned (.tuple #[.agg #[.int .i64 x.frames, .int .i64 x.budget, .slice A x.cs.length ac, .slice Q x.q.length qc], .slice none 0 0, .int .i64 n])) (fill4 V (w.heap.size + 1) x A ac Q qc) := fun V hV n => by
    refine ⟨A, ac, Q, qc, none, 0, rfl, ?_, Rd'.nil, fill4_below (HbW.out.trans (hV.mono (by omega))) (by omega)⟩
    exact ((HmW.out.below hV (fun b hb => by have := Hok.out b hb; omega)).keep fun b hb => fill4_keep (by have := Hok.out b hb; omega)).imp fun b hb => .inl hb
  have Hsame := Lib.hid hsame
  clear hsame
  cases rt with
  | false =>
    have Hpm := Lib.hid (show beginM x who claim = (x, [], 1) by rw [beginM, if_pos (.inl Hrt.out.symm)])
    go_enter Try.func12, Try.ntmps12
    go_wp2_with fail
    refine Hd1.out.mono ?_
    rintro e V1 ⟨rfl, hb1⟩
    have Hb1 := Lib.hid hb1
    clear c0 c1 c2 c3 f0 f1 f2 f3 r0 r1 r2 r3 k0 k1 k2 k3 hW'
    obtain ⟨c0, c1, c2, c3, f0, f1, f2, f3, ltV⟩ := HB'.out.up hb1 lt
    obtain ⟨r0, r1, r2, r3, k0, k1, k2, k3, ltRV⟩ := HR'.out.up hb1 ltR
    clear hb1
    go_wp2_with fail
    have hbx := (HR'.out.up Hb1.out ltR).hb.fill (r := x) (A' := A) (ac' := ac) (Q' := Q) (qc' := qc)
    unfold fill4 at hbx
    obtain ⟨y0, y1, y2, y3, _, _, _, _, _⟩ := hbx
    refine bodyPost_ret (v := .tuple #[.agg #[.int .i64 x.frames, .int .i64 x.budget, .slice A x.cs.length ac, .slice Q x.q.length qc], .slice none 0 0, .int .i64 1]) (by simp [results, Try.results12, go_sem, y0, y1, y2, y3]) rfl ?_
    rw [Hpm.out]
    have hd := Hsame.out V1 Hb1.out 1
    unfold fill4 at hd
    exact hd
  | true =>
    have h40 : x.cs.length + x.q.length ≤ 40 := (heads_iff.1 (right_iff.1 Hrt.out.symm).1).2.2.2.2
    have hcs : who < 0 ∨ (¬ who < 0 ∧ 2147483647 < who) ∨ (¬ who < 0 ∧ ¬ 2147483647 < who) := by omega
    rcases hcs with h1 | ⟨h1, h2⟩ | ⟨h1, h2⟩
    iterate 2
      · have Hpm := Lib.hid (show beginM x who claim = (x, [], 1) by rw [beginM, if_pos (.inr (by omega))])
        go_enter Try.func12, Try.ntmps12
        go_wp2_with fail
        refine Hd1.out.mono ?_
        rintro e V1 ⟨rfl, hb1⟩
        have Hb1 := Lib.hid hb1
        clear c0 c1 c2 c3 f0 f1 f2 f3 r0 r1 r2 r3 k0 k1 k2 k3 hW'
        obtain ⟨c0, c1, c2, c3, f0, f1, f2, f3, ltV⟩ := HB'.out.up hb1 lt
        obtain ⟨r0, r1, r2, r3, k0, k1, k2, k3, ltRV⟩ := HR'.out.up hb1 ltR
        clear hb1
        go_wp2_with fail
        have hbx := (HR'.out.up Hb1.out ltR).hb.fill (r := x) (A' := A) (ac' := ac) (Q' := Q) (qc' := qc)
        unfold fill4 at hbx
        obtain ⟨y0, y1, y2, y3, _, _, _, _, _⟩ := hbx
        refine bodyPost_ret (v := .tuple #[.agg #[.int .i64 x.frames, .int .i64 x.budget, .slice A x.cs.length ac, .slice Q x.q.length qc], .slice none 0 0, .int .i64 1]) (by simp [results, Try.results12, go_sem, y0, y1, y2, y3]) rfl ?_
        rw [Hpm.out]
        have hd := Hsame.out V1 Hb1.out 1
        unfold fill4 at hd
        exact hd
    have Hbg := Lib.hid (show beginM x who claim = (if okClaim x claim = false then (x, [], 11) else if inC x.cs who = true ∨ inT x.q who = true then (x, [], 4) else if 40 ≤ x.cs.length + x.q.length then (x, [], 7) else ((enterM { x with q := x.q ++ [⟨who, claim⟩] }).1, (enterM { x with q := x.q ++ [⟨who, claim⟩] }).2, 0)) by
      rw [beginM, if_neg (by rintro (h | h | h) <;> first | omega | (rw [← Hrt.out] at h; cases h))])
    go_enter Try.func12, Try.ntmps12
    go_wp2_with fail
    refine Hd1.out.mono ?_
    rintro e V1 ⟨rfl, hb1⟩
    have Hb1 := Lib.hid hb1
    have hsV1 := hb1.size
    clear c0 c1 c2 c3 f0 f1 f2 f3 r0 r1 r2 r3 k0 k1 k2 k3 hW'
    obtain ⟨c0, c1, c2, c3, f0, f1, f2, f3, ltV⟩ := HB'.out.up hb1 lt
    clear hb1
    have hls : Calls Try.prog 33 #[.agg #[.int .i64 x.frames, .int .i64 x.budget, .slice A x.cs.length ac, .slice Q x.q.length qc]] V1 fun e w' => e = .returned (.int .i64 x.least) ∧ Below V1.heap.size V1 w' := refLeast_any V1 A Q ac qc x
    obtain ⟨ls, hlsv⟩ : ∃ ls, ls = x.least := ⟨_, rfl⟩
    rw [← hlsv] at hls
    have Hls := Lib.hid hls; have Hlsv := Lib.hid hlsv
    clear hls hlsv
    rcases Int.lt_or_le claim 1 with h3 | h3
    · have Hpm := Lib.hid (show beginM x who claim = (x, [], 11) by rw [Hbg.out, if_pos]; rw [okClaim, decide_eq_false (by omega), Bool.false_and])
      obtain ⟨r0, r1, r2, r3, k0, k1, k2, k3, ltRV⟩ := HR'.out.up Hb1.out ltR
      go_wp2_with fail
      have hbx := (HR'.out.up Hb1.out ltR).hb.fill (r := x) (A' := A) (ac' := ac) (Q' := Q) (qc' := qc)
      unfold fill4 at hbx
      obtain ⟨y0, y1, y2, y3, _, _, _, _, _⟩ := hbx
      refine bodyPost_ret (v := .tuple #[.agg #[.int .i64 x.frames, .int .i64 x.budget, .slice A x.cs.length ac, .slice Q x.q.length qc], .slice none 0 0, .int .i64 11]) (by simp [results, Try.results12, go_sem, y0, y1, y2, y3]) rfl ?_
      rw [Hpm.out]
      have hd := Hsame.out V1 Hb1.out 11
      unfold fill4 at hd
      exact hd
    have h3' : ¬ claim < 1 := by omega
    go_wp2_with fail
    refine Hls.out.mono ?_
    clear Hls
    rintro e V2 ⟨rfl, hb2⟩
    have Hb2 := Lib.hid (Hb1.out.trans (hb2.mono hsV1))
    have hsV2 := Hb2.out.size
    clear c0 c1 c2 c3 f0 f1 f2 f3 ltV hb2
    obtain ⟨c0, c1, c2, c3, f0, f1, f2, f3, ltV⟩ := HB'.out.up Hb2.out lt
    by_cases h4 : ls < claim
    · have Hpm := Lib.hid (show beginM x who claim = (x, [], 11) by rw [Hbg.out, if_pos]; rw [okClaim, ← Hlsv.out, decide_eq_false (show ¬ claim ≤ ls by omega), Bool.and_false])
      obtain ⟨r0, r1, r2, r3, k0, k1, k2, k3, ltRV⟩ := HR'.out.up Hb2.out ltR
      go_wp2_with fail
      have hbx := (HR'.out.up Hb2.out ltR).hb.fill (r := x) (A' := A) (ac' := ac) (Q' := Q) (qc' := qc)
      unfold fill4 at hbx
      obtain ⟨y0, y1, y2, y3, _, _, _, _, _⟩ := hbx
      refine bodyPost_ret (v := .tuple #[.agg #[.int .i64 x.frames, .int .i64 x.budget, .slice A x.cs.length ac, .slice Q x.q.length qc], .slice none 0 0, .int .i64 11]) (by simp [results, Try.results12, go_sem, y0, y1, y2, y3]) rfl ?_
      rw [Hpm.out]
      have hd := Hsame.out V2 Hb2.out 11
      unfold fill4 at hd
      exact hd
    have Hoc := Lib.hid (show okClaim x claim = true by rw [okClaim, ← Hlsv.out, decide_eq_true h3, decide_eq_true (by omega)]; rfl)
    have d2 := refIn_any V2 A Q ac qc x who hl1 hl2 (HmW'.out.c.up Hb2.out) (HmW'.out.q.up Hb2.out)
    obtain ⟨cn, hcn⟩ : ∃ cn, cn = cntC x.cs who + cntT x.q who := ⟨_, rfl⟩
    rw [← hcn] at d2
    have Hd2 := Lib.hid d2; have Hcn := Lib.hid hcn
    clear d2 hcn
    go_wp2_with fail
    refine Hd2.out.mono ?_
    clear Hd2
    rintro e V ⟨rfl, hb3⟩
    have Hb3 := Lib.hid (Hb2.out.trans (hb3.mono hsV2))
    have hsV3 := Hb3.out.size
    clear c0 c1 c2 c3 f0 f1 f2 f3 ltV hb3
    obtain ⟨c0, c1, c2, c3, f0, f1, f2, f3, ltV⟩ := HB'.out.up Hb3.out lt
    by_cases hz : cn = 0
    case neg =>
      have hzi : (0 : Int) < (cn : Int) := by omega
      have Hpm := Lib.hid (show beginM x who claim = (x, [], 4) by
        rw [Hbg.out, if_neg (by rw [Hoc.out]; simp), if_pos]
        cases e1 : inC x.cs who with
        | true => exact .inl rfl
        | false =>
          cases e2 : inT x.q who with
          | true => exact .inr rfl
          | false => exact absurd ((cnt_in x who).2 ⟨e1, e2⟩) (by rw [← Hcn.out]; exact hz))
      clear hz
      obtain ⟨r0, r1, r2, r3, k0, k1, k2, k3, ltRV⟩ := HR'.out.up Hb3.out ltR
      go_wp2_with fail
      have hbx := (HR'.out.up Hb3.out ltR).hb.fill (r := x) (A' := A) (ac' := ac) (Q' := Q) (qc' := qc)
      unfold fill4 at hbx
      obtain ⟨y0, y1, y2, y3, _, _, _, _, _⟩ := hbx
      refine bodyPost_ret (v := .tuple #[.agg #[.int .i64 x.frames, .int .i64 x.budget, .slice A x.cs.length ac, .slice Q x.q.length qc], .slice none 0 0, .int .i64 4]) (by simp [results, Try.results12, go_sem, y0, y1, y2, y3]) rfl ?_
      rw [Hpm.out]
      have hd := Hsame.out V Hb3.out 4
      unfold fill4 at hd
      exact hd
    have hzi : ¬ (0 : Int) < (cn : Int) := by omega
    have Hbg2 := Lib.hid (show beginM x who claim = (if 40 ≤ x.cs.length + x.q.length then (x, [], 7) else ((enterM { x with q := x.q ++ [⟨who, claim⟩] }).1, (enterM { x with q := x.q ++ [⟨who, claim⟩] }).2, 0)) by
      have hin := (cnt_in x who).1 (by rw [← Hcn.out]; exact hz)
      rw [Hbg.out, if_neg (by rw [Hoc.out]; simp), if_neg (by rw [hin.1, hin.2]; simp)])
    clear hz
    by_cases hf : x.cs.length + x.q.length = 40
    · have hfb : ((x.cs.length : Int) + (x.q.length : Int) == 40) = true := by rw [beq_iff_eq]; omega
      have Hpm := Lib.hid (show beginM x who claim = (x, [], 7) by rw [Hbg2.out, if_pos (by omega)])
      clear hf
      obtain ⟨r0, r1, r2, r3, k0, k1, k2, k3, ltRV⟩ := HR'.out.up Hb3.out ltR
      go_wp2_with fail
      have hbx := (HR'.out.up Hb3.out ltR).hb.fill (r := x) (A' := A) (ac' := ac) (Q' := Q) (qc' := qc)
      unfold fill4 at hbx
      obtain ⟨y0, y1, y2, y3, _, _, _, _, _⟩ := hbx
      refine bodyPost_ret (v := .tuple #[.agg #[.int .i64 x.frames, .int .i64 x.budget, .slice A x.cs.length ac, .slice Q x.q.length qc], .slice none 0 0, .int .i64 7]) (by simp [results, Try.results12, go_sem, y0, y1, y2, y3]) rfl ?_
      rw [Hpm.out]
      have hd := Hsame.out V Hb3.out 7
      unfold fill4 at hd
      exact hd
    have hfb : ((x.cs.length : Int) + (x.q.length : Int) == 40) = false := by rw [beq_eq_false_iff_ne]; omega
    obtain ⟨r, ins, hr⟩ : ∃ r ins, enterM { x with q := x.q ++ [⟨who, claim⟩] } = (r, ins) := ⟨_, _, rfl⟩
    have Hpm := Lib.hid (show beginM x who claim = (r, ins, 0) by rw [Hbg2.out, if_neg (by omega), hr])
    have Hr := Lib.hid hr
    have hok100 : 0 ≤ claim ∧ claim ≤ 100 := by
      have h5 := okClaim_le Hoc.out
      have h6 := heads_iff.1 (right_iff.1 Hrt.out.symm).1
      omega
    have Hsm := Lib.hid (small_put (who := who) (small_right Hrt.out.symm) h40 hok100)
    obtain ⟨k0', hk0, hx0, hx1, hx2⟩ := info_parts Try.infoRefT
    have hrq : Rd T.cells 2 V V.heap.size Q x.q := HmW'.out.q.up Hb3.out
    have Hsrc := Lib.hid (hrq.srcs t_len); have Hnone := Lib.hid hrq.none_len; have Hl2 := Lib.hid (flat_len t_len x.q)
    have hV2 : w.heap.size + 2 ≤ V.heap.size := by omega
    clear hf hr hok100 hrq
    go_wp2_with (at_builtin; refine list_app rfl (.tmp 47) (.tmp 49) 27 rfl (w.heap.size + 2) 52 k0' (.agg #[.int .i64 0, .int .i64 0]) 2 16 Try.underlying27 hk0 hx0 hx1 hx2 rfl (by decide) rfl (World.ownsRow_nil _ _ _ _) (m := x.q.length) (news := x.q.flatMap T.cells) rfl Hl2.out Hnone.out Hsrc.out (flat_one t_one x.q) ?_ ?_ ?_ ?_)
    · unfold maxLen; omega
    · omega
    · omega
    intro v4 w5 ho4 hg4 hv4
    obtain ⟨Aq, cq, rfl, _, _⟩ := own_slice ho4
    try simp only [Nat.zero_add, List.nil_append] at ho4
    try simp only [Nat.zero_add, List.nil_append] at hv4
    try simp only [Nat.zero_add, List.nil_append]
    have hs4 := hg4.size
    have hk4 : ∀ g, g < V.heap.size → w5.heap[g]? = V.heap[g]? := fun g h => hg4.block g h (by simp [Value.ownBlock])
    have HoQ := Lib.hid (show ∀ g, (Value.slice Aq x.q.length cq).ownBlock = some g → w.heap.size + 2 ≤ g ∧ g < w5.heap.size from fun g hg => ho4.lt g hg)
    have HBN := Lib.hid ((HB'.out.up Hb3.out lt).keep (hk4 _ ltV))
    have HRN := Lib.hid ((HR'.out.up Hb3.out ltR).keep (hk4 (w.heap.size + 1) (by omega)))
    have Hmx := Lib.hid ((HmW.out.below Hb3.out (fun b hb => by have := Hok.out b hb; omega)).keep (w' := w5) fun b hb => hk4 b (by have := Hok.out b hb; omega))
    have Hw5 := Lib.hid (((HbW.out.trans (Hb3.out.mono (by omega)))).grown hg4 (by omega) (fun d hd => by simp [Value.ownBlock] at hd))
    have Ho5 := Lib.hid ho4
    have hN5 : w.heap.size + 2 ≤ w5.heap.size := by omega
    clear ho4 hg4 hv4 hk4 c0 c1 c2 c3 f0 f1 f2 f3 ltV hs4
    go_upto_region 11 with fail
    go_cut [10, 11] (fun s10 s11 wx => ∃ (p : Nat) (A2 : Option Addr) (ac2 : Nat) (Q2 : Option Addr) (qc2 : Nat) (I2 : Option Addr) (ic2 : Nat), s10 = .pointer (some ⟨p, 0, none⟩) ∧ s11 = .slice I2 ins.length ic2 ∧ HB p r A2 ac2 Q2 qc2 wx ∧ w5.heap.size ≤ p ∧
      HM wx (fun b => ((ok b ∨ w.heap.size + 2 ≤ b) ∧ b ≠ p) ∧ b < wx.heap.size) r A2 ac2 Q2 qc2 ∧ Rd' icells 1 wx (fun b => (w.heap.size + 2 ≤ b ∧ b ≠ p) ∧ b < wx.heap.size) I2 ins ∧ Below w.heap.size w wx ∧ (∀ g, g < w5.heap.size → (Value.slice Aq x.q.length cq).ownBlock ≠ some g → wx.heap[g]? = w5.heap[g]?))
    case first =>
      have hC : ∀ U : World, (∀ g, g < w5.heap.size → (Value.slice Aq x.q.length cq).ownBlock ≠ some g → U.heap[g]? = w5.heap[g]?) → (fun U => HB w.heap.size x A ac Q qc U) U := fun U hU => HBN.out.keep (hU _ (by omega) (fun e => by have := HoQ.out _ e; omega))
      have HC := Lib.hid hC
      refine wp_region_C (fun U => HB w.heap.size x A ac Q qc U) (by kernel_rfl) rfl rfl ?_
      obtain ⟨U0, hU0⟩ : ∃ U0, U0 = w5.drew := ⟨_, rfl⟩
      have Hb0 := Lib.hid (show ∀ g, g < w5.heap.size → (Value.slice Aq x.q.length cq).ownBlock ≠ some g → U0.heap[g]? = w5.heap[g]? from fun g _ _ => by rw [hU0]; rfl)
      have Hz0 := Lib.hid (show w5.heap.size ≤ U0.heap.size by rw [hU0]; exact Nat.le_refl _)
      have Ho0 := Lib.hid (own_heap Ho5.out (w' := U0) fun g hg => by rw [hU0]; rfl)
      have Hw0 := Lib.hid (show Below w.heap.size w U0 by rw [hU0]; exact Hw5.out.drew)
      rw [← hU0]
      clear hU0 hC hfb hzi
      (refine takeC (i := 0) (.pointer (some ⟨w.heap.size, 0, none⟩)) rfl (by kernel_rfl) (by kernel_rfl) (by kernel_rfl) rfl (fun _ _ _ h => h) (HC.out U0 Hb0.out) rfl (fun U hU => by obtain ⟨h0, h1, h2, h3, _, _, _, _, _⟩ := hU; go_simp) (fun K hK => ?_); have HK := Lib.hid hK; clear hK; go_simp; refine HK.out _ ?_; clear HK K)
      (refine takeC (i := 1) (.int .i64 x.frames) rfl (by kernel_rfl) (by kernel_rfl) (by kernel_rfl) rfl (fun _ _ _ h => h) (HC.out U0 Hb0.out) rfl (fun U hU => by obtain ⟨h0, h1, h2, h3, _, _, _, _, _⟩ := hU; go_simp) (fun K hK => ?_); have HK := Lib.hid hK; clear hK; go_simp; refine HK.out _ ?_; clear HK K)
      (refine takeC (i := 2) (.pointer (some ⟨w.heap.size, 1, none⟩)) rfl (by kernel_rfl) (by kernel_rfl) (by kernel_rfl) rfl (fun _ _ _ h => h) (HC.out U0 Hb0.out) rfl (fun U hU => by obtain ⟨h0, h1, h2, h3, _, _, _, _, _⟩ := hU; go_simp) (fun K hK => ?_); have HK := Lib.hid hK; clear hK; go_simp; refine HK.out _ ?_; clear HK K)
      (refine takeC (i := 3) (.int .i64 x.budget) rfl (by kernel_rfl) (by kernel_rfl) (by kernel_rfl) rfl (fun _ _ _ h => h) (HC.out U0 Hb0.out) rfl (fun U hU => by obtain ⟨h0, h1, h2, h3, _, _, _, _, _⟩ := hU; go_simp) (fun K hK => ?_); have HK := Lib.hid hK; clear hK; go_simp; refine HK.out _ ?_; clear HK K)
      (refine takeC (i := 4) (.pointer (some ⟨w.heap.size, 2, none⟩)) rfl (by kernel_rfl) (by kernel_rfl) (by kernel_rfl) rfl (fun _ _ _ h => h) (HC.out U0 Hb0.out) rfl (fun U hU => by obtain ⟨h0, h1, h2, h3, _, _, _, _, _⟩ := hU; go_simp) (fun K hK => ?_); have HK := Lib.hid hK; clear hK; go_simp; refine HK.out _ ?_; clear HK K)
      (refine takeC (i := 5) (.slice A x.cs.length ac) rfl (by kernel_rfl) (by kernel_rfl) (by kernel_rfl) rfl (fun _ _ _ h => h) (HC.out U0 Hb0.out) rfl (fun U hU => by obtain ⟨h0, h1, h2, h3, _, _, _, _, _⟩ := hU; go_simp) (fun K hK => ?_); have HK := Lib.hid hK; clear hK; go_simp; refine HK.out _ ?_; clear HK K)
      (refine takeC (i := 6) (.slice Aq x.q.length cq) rfl (by kernel_rfl) (by kernel_rfl) (by kernel_rfl) rfl (fun _ _ _ h => h) (HC.out U0 Hb0.out) rfl (fun U hU => by obtain ⟨h0, h1, h2, h3, _, _, _, _, _⟩ := hU; go_simp) (fun K hK => ?_); have HK := Lib.hid hK; clear hK; go_simp; refine HK.out _ ?_; clear HK K)
      (refine takeC (i := 7) (.int .i64 who) rfl (by kernel_rfl) (by kernel_rfl) (by kernel_rfl) rfl (fun _ _ _ h => h) (HC.out U0 Hb0.out) rfl (fun U hU => by obtain ⟨h0, h1, h2, h3, _, _, _, _, _⟩ := hU; go_simp) (fun K hK => ?_); have HK := Lib.hid hK; clear hK; go_simp; refine HK.out _ ?_; clear HK K)
      (refine takeC (i := 8) (.int .i64 claim) rfl (by kernel_rfl) (by kernel_rfl) (by kernel_rfl) rfl (fun _ _ _ h => h) (HC.out U0 Hb0.out) rfl (fun U hU => by obtain ⟨h0, h1, h2, h3, _, _, _, _, _⟩ := hU; go_simp) (fun K hK => ?_); have HK := Lib.hid hK; clear hK; go_simp; refine HK.out _ ?_; clear HK K)
      (refine takeC (i := 9) (.agg #[.int .i64 who, .int .i64 claim]) rfl (by kernel_rfl) (by kernel_rfl) (by kernel_rfl) rfl (fun _ _ _ h => h) (HC.out U0 Hb0.out) rfl (fun U hU => by obtain ⟨h0, h1, h2, h3, _, _, _, _, _⟩ := hU; go_simp) (fun K hK => ?_); have HK := Lib.hid hK; clear hK; go_simp; refine HK.out _ ?_; clear HK K)
      refine twoC (i := 10) (j := 17) (by kernel_rfl) rfl rfl rfl rfl rfl rfl (fun K hK => ?_) (fun K hK => ?_)
      · --
        have HK := Lib.hid hK; clear hK; go_simp
        obtain ⟨m, hm⟩ : ∃ m, m = U0.heap.size := ⟨_, rfl⟩
        obtain ⟨U1, hU⟩ : ∃ U, U = U0.alloc (.cells #[.int .i64 who, .int .i64 claim] 52) := ⟨_, rfl⟩
        have hq : Below U0.heap.size U0 U1 := by rw [hU]; exact (Below.refl _ _).alloc (Nat.le_refl _) _
        have hs : U1.heap.size = U0.heap.size + 1 := by rw [hU]; simp
        have hsrc : U1.heap[m]? = some (.cells #[.int .i64 who, .int .i64 claim] 52 (0, 0)) := by rw [hU, hm, heap_alloc_new]
        rw [← hU, ← hm]
        have Hb1 := Lib.hid (show ∀ g, g < w5.heap.size → (Value.slice Aq x.q.length cq).ownBlock ≠ some g → U1.heap[g]? = w5.heap[g]? from fun g h1 h2 => (hq.block g (by have := Hz0.out; omega)).trans (Hb0.out g h1 h2))
        have Hw1 := Lib.hid (show Below w.heap.size w U1 by have := Hz0.out; exact Hw0.out.trans (hq.mono (by omega)))
        have Ho1 := Lib.hid (own_up Ho0.out hq)
        have Hz1 := Lib.hid (show w5.heap.size ≤ U1.heap.size by have := Hz0.out; omega)
        have Hsrc1 := Lib.hid hsrc
        have Hml := Lib.hid (show w5.heap.size ≤ m by have := Hz0.out; omega)
        clear hU hq hs hsrc hm
        refine HK.out _ _ (HC.out _ Hb1.out) ?_
        clear HK K
        refine twoC (i := 11) (j := 17) (by kernel_rfl) rfl rfl rfl rfl rfl rfl (fun K hK => ?_) (fun K hK => ?_)
        · --
          have HK := Lib.hid hK; clear hK
          refine wp_app (.tmp 58) (.tmp 62) 27 rfl (w.heap.size + 2) 52 k0' (.agg #[.int .i64 0, .int .i64 0]) 2 16 Try.underlying27 hk0 hx0 hx1 hx2 rfl (by decide) (v := .slice Aq x.q.length cq) (by rfl) Ho1.out (A := some ⟨m, 0, none⟩) (m := 1) (c := 1) (news := T.cells ⟨who, claim⟩) (by rfl) rfl (by simp) (fun ad e j u hu => by injection e with e; subst e; rw [Addr.add_lit, Nat.zero_add, cells_of Hsrc1.out]; simpa [T.cells] using hu) (t_one _) ?_ ?_ ?_ ?_
          · unfold maxLen; omega
          · omega
          · have := Hz1.out; omega
          intro v7 U2 ho7 hg7 hv7
          obtain ⟨A7, c7, rfl, _, _⟩ := own_slice ho7
          have hs7 := hg7.size; have hz7 := Hz1.out
          have Hb2 := Lib.hid (show ∀ g, g < w5.heap.size → (Value.slice Aq x.q.length cq).ownBlock ≠ some g → U2.heap[g]? = w5.heap[g]? from fun g h1 h2 => (hg7.block g (by omega) (fun e => h2 e.symm)).trans (Hb1.out g h1 h2))
          have Hw2 := Lib.hid (Hw1.out.grown hg7 (by omega) (fun d hd => by have := (Ho1.out.lt d hd).1; omega))
          have Ho2 := Lib.hid ho7
          have Hz2 := Lib.hid (show w5.heap.size ≤ U2.heap.size by omega)
          clear ho7 hg7 hv7 hs7 hz7
          go_simp
          refine HK.out _ _ (HC.out _ Hb2.out) ?_
          clear HK K
          (refine takeC (i := 12) (.agg #[.int .i64 x.frames, .int .i64 x.budget, .slice A x.cs.length ac, .slice A7 (x.q.length + 1) c7]) rfl (by kernel_rfl) (by kernel_rfl) (by kernel_rfl) rfl (fun _ _ _ h => h) (HC.out U2 Hb2.out) rfl (fun U hU => by obtain ⟨h0, h1, h2, h3, _, _, _, _, _⟩ := hU; go_simp) (fun K hK => ?_); have HK := Lib.hid hK; clear hK; go_simp; refine HK.out _ ?_; clear HK K)
          refine twoC (i := 13) (j := 17) (by kernel_rfl) rfl rfl rfl rfl rfl rfl (fun K hK => ?_) (fun K hK => ?_)
          · --
            have HK := Lib.hid hK; clear hK; go_simp
            have hz := Hz2.out; have hsm := Hsm.out
            obtain ⟨ha1, ha2⟩ := own_cap Ho2.out
            have hmU : HM U2 (fun b => ok b ∨ ((Value.slice A7 (x.q.length + 1) c7).ownBlock = some b ∧ w.heap.size + 2 ≤ b ∧ b < U2.heap.size)) { x with q := x.q ++ [⟨who, claim⟩] } A ac A7 c7 :=
              ⟨(Hmx.out.rc.keep (w' := U2) fun b hb => Hb2.out b (by have := Hok.out b hb; omega) (fun e => by have := Hok.out b hb; have := HoQ.out b e; omega)).imp fun b hb => .inl hb, (Rd'.of_own2 (n := x.q.length + 1) (by have := Ho2.out; rw [List.flatMap_append]; simpa using this) t_len (by decide)).imp fun b hb => .inr hb, Hmx.out.ca, Hmx.out.ca2, by simpa using ha1, ha2⟩
            have d8 := refLet_any U2 (fun b => ok b ∨ ((Value.slice A7 (x.q.length + 1) c7).ownBlock = some b ∧ w.heap.size + 2 ≤ b ∧ b < U2.heap.size)) A A7 ac c7 { x with q := x.q ++ [⟨who, claim⟩] } hsm (fun b hb => by
              rcases hb with h | h
              · have := Hok.out b h; omega
              · exact h.2.2) hmU
            rw [Hr.out] at d8
            simp only [List.length_append, List.length_cons, List.length_nil, Nat.zero_add] at d8
            refine d8.mono ?_
            clear d8 hmU ha1 ha2
            rintro e U3 ⟨A2, ac2, Q2, qc2, I2, ic2, rfl, hm8, hi8, hq⟩
            have hs8 := hq.size
            have Hb3 := Lib.hid (show ∀ g, g < w5.heap.size → (Value.slice Aq x.q.length cq).ownBlock ≠ some g → U3.heap[g]? = w5.heap[g]? from fun g h1 h2 => (hq.block g (by omega)).trans (Hb2.out g h1 h2))
            have Hw3 := Lib.hid (Hw2.out.trans (hq.mono (by omega)))
            have Hm3 := Lib.hid (hm8.imp (ok' := fun b => (ok b ∨ w.heap.size + 2 ≤ b) ∧ b < U3.heap.size) fun b hb => by
              rcases hb with (h | h) | h
              · have := Hok.out b h; exact ⟨.inl h, by omega⟩
              · exact ⟨.inr (by omega), by omega⟩
              · exact ⟨.inr (by omega), by omega⟩)
            have Hi3 := Lib.hid (hi8.imp (ok' := fun b => w.heap.size + 2 ≤ b ∧ b < U3.heap.size) fun b hb => ⟨by omega, by omega⟩)
            have Hz3 := Lib.hid (show w5.heap.size ≤ U3.heap.size by omega)
            clear hm8 hi8 hq hs8 hz hsm
            simp only
            refine HK.out _ _ (HC.out _ Hb3.out) ?_
            clear HK K
            (refine takeC (i := 14) (.tuple #[.agg #[.int .i64 r.frames, .int .i64 r.budget, .slice A2 r.cs.length ac2, .slice Q2 r.q.length qc2], .slice I2 ins.length ic2]) rfl (by kernel_rfl) (by kernel_rfl) (by kernel_rfl) rfl (fun _ _ _ h => h) (HC.out U3 Hb3.out) rfl (fun U hU => by obtain ⟨h0, h1, h2, h3, _, _, _, _, _⟩ := hU; go_simp) (fun K hK => ?_); have HK := Lib.hid hK; clear hK; go_simp; refine HK.out _ ?_; clear HK K)
            (refine takeC (i := 15) (.agg #[.int .i64 r.frames, .int .i64 r.budget, .slice A2 r.cs.length ac2, .slice Q2 r.q.length qc2]) rfl (by kernel_rfl) (by kernel_rfl) (by kernel_rfl) rfl (fun _ _ _ h => h) (HC.out U3 Hb3.out) rfl (fun U hU => by obtain ⟨h0, h1, h2, h3, _, _, _, _, _⟩ := hU; go_simp) (fun K hK => ?_); have HK := Lib.hid hK; clear hK; go_simp; refine HK.out _ ?_; clear HK K)
            (refine takeC (i := 16) (.slice I2 ins.length ic2) rfl (by kernel_rfl) (by kernel_rfl) (by kernel_rfl) rfl (fun _ _ _ h => h) (HC.out U3 Hb3.out) rfl (fun U hU => by obtain ⟨h0, h1, h2, h3, _, _, _, _, _⟩ := hU; go_simp) (fun K hK => ?_); have HK := Lib.hid hK; clear hK; go_simp; refine HK.out _ ?_; clear HK K)
            refine oneC (i := 17) (by kernel_rfl) rfl rfl rfl (fun K hK => ?_)
            have HK := Lib.hid hK; clear hK; go_simp
            obtain ⟨p, hp⟩ : ∃ p, p = U3.heap.size := ⟨_, rfl⟩
            obtain ⟨U4, hU⟩ : ∃ U, U = U3.alloc (.cells #[.int .i64 0, .int .i64 0, .slice none 0 0, .slice none 0 0] 29) := ⟨_, rfl⟩
            have hq : Below U3.heap.size U3 U4 := by rw [hU]; exact (Below.refl _ _).alloc (Nat.le_refl _) _
            have hs : U4.heap.size = U3.heap.size + 1 := by rw [hU]; simp
            have hz : ZB p U4 := (HB.of (h := ⟨0, 0, [], []⟩) (t := 29) (by rw [hU, hp, heap_alloc_new]; rfl)).zb
            rw [← hU, ← hp]
            have Hb4 := Lib.hid (show ∀ g, g < w5.heap.size → (Value.slice Aq x.q.length cq).ownBlock ≠ some g → U4.heap[g]? = w5.heap[g]? from fun g h1 h2 => (hq.block g (by have := Hz3.out; omega)).trans (Hb3.out g h1 h2))
            have Hw4 := Lib.hid (show Below w.heap.size w U4 by have := Hz3.out; exact Hw3.out.trans (hq.mono (by omega)))
            have Hm4 := Lib.hid (Hm3.out.keep (w' := U4) fun b hb => hq.block b hb.2)
            have Hi4 := Lib.hid (Hi3.out.keep (w' := U4) fun b hb => hq.block b hb.2)
            have Hz4 := Lib.hid (show w5.heap.size ≤ U4.heap.size by have := Hz3.out; omega)
            have Hm4' := Lib.hid (Hm4.out.imp (ok' := fun b => ((ok b ∨ w.heap.size + 2 ≤ b) ∧ b ≠ p) ∧ b < U4.heap.size) fun b hb => by have h1 := hb.2; refine ⟨⟨hb.1, by omega⟩, by omega⟩)
            have Hi4' := Lib.hid (Hi4.out.imp (ok' := fun b => (w.heap.size + 2 ≤ b ∧ b ≠ p) ∧ b < U4.heap.size) fun b hb => by have h1 := hb.2; refine ⟨⟨hb.1, by omega⟩, by omega⟩)
            clear Hm4 Hi4
            have Hm4 := Hm4'; have Hi4 := Hi4'; clear Hm4' Hi4'
            have Hx4 := Lib.hid hz
            have Hp := Lib.hid (show w5.heap.size ≤ p by have := Hz3.out; omega)
            clear hU hq hs hz hp
            refine HK.out _ _ (HC.out _ Hb4.out) ?_
            clear HK K
            obtain ⟨z0, z1, z2, z3, y0, y1, y2, y3, ltz⟩ := Hx4.out
            refine oneC (i := 18) (by kernel_rfl) rfl rfl rfl (fun K hK => ?_)
            have HK := Lib.hid hK; clear hK; go_simp
            obtain ⟨U9, hU⟩ : ∃ U9, U9 = fill4 U4 p r A2 ac2 Q2 qc2 := ⟨_, rfl⟩
            have hk : ∀ b, b ≠ p → U9.heap[b]? = U4.heap[b]? := fun b h => by rw [hU]; exact fill4_keep h
            have hs : U9.heap.size = U4.heap.size := by rw [hU]; exact fill4_size
            have HB9 := Lib.hid (show HB p r A2 ac2 Q2 qc2 U9 by rw [hU]; exact Hx4.out.hb.fill)
            have hp := Hp.out; have hz := Hz4.out
            have Hw9 := Lib.hid (show Below w.heap.size w U9 by rw [hU]; exact fill4_below Hw4.out (by omega))
            have Hb9 := Lib.hid (show ∀ g, g < w5.heap.size → (Value.slice Aq x.q.length cq).ownBlock ≠ some g → U9.heap[g]? = w5.heap[g]? from fun g h1 h2 => (hk g (by omega)).trans (Hb4.out g h1 h2))
            have Hm9 := Lib.hid ((Hm4.out.keep (w' := U9) fun b hb => hk b hb.1.2).imp (ok' := fun b => ((ok b ∨ w.heap.size + 2 ≤ b) ∧ b ≠ p) ∧ b < U9.heap.size) fun b hb => by rw [hs]; exact hb)
            have Hi9 := Lib.hid ((Hi4.out.keep (w' := U9) fun b hb => hk b hb.1.2).imp (ok' := fun b => (w.heap.size + 2 ≤ b ∧ b ≠ p) ∧ b < U9.heap.size) fun b hb => by rw [hs]; exact hb)
            rw [fill4] at hU
            rw [← hU]
            clear hU hk hs hp hz z0 z1 z2 z3 y0 y1 y2 y3 ltz
            refine HK.out _ _ (HC.out _ Hb9.out) ?_
            clear HK K
            (refine oneC (i := 19) (by kernel_rfl) rfl rfl rfl (fun K hK => ?_); have HK := Lib.hid hK; clear hK; go_simp; refine HK.out _ _ (HC.out _ Hb9.out) ?_; clear HK K)
            refine doneC (by kernel_rfl) ?_
            go_wp2_with fail
            go_meet
            exact ⟨p, A2, ac2, Q2, qc2, I2, ic2, rfl, rfl, HB9.out, Hp.out, Hm9.out, Hi9.out, Hw9.out, Hb9.out⟩
          · --
            have HK := Lib.hid hK; clear hK; go_simp
            obtain ⟨p, hp⟩ : ∃ p, p = U2.heap.size := ⟨_, rfl⟩
            obtain ⟨U3, hU⟩ : ∃ U, U = U2.alloc (.cells #[.int .i64 0, .int .i64 0, .slice none 0 0, .slice none 0 0] 29) := ⟨_, rfl⟩
            have hq : Below U2.heap.size U2 U3 := by rw [hU]; exact (Below.refl _ _).alloc (Nat.le_refl _) _
            have hs : U3.heap.size = U2.heap.size + 1 := by rw [hU]; simp
            have hz : ZB p U3 := (HB.of (h := ⟨0, 0, [], []⟩) (t := 29) (by rw [hU, hp, heap_alloc_new]; rfl)).zb
            rw [← hU, ← hp]
            have Hb3 := Lib.hid (show ∀ g, g < w5.heap.size → (Value.slice Aq x.q.length cq).ownBlock ≠ some g → U3.heap[g]? = w5.heap[g]? from fun g h1 h2 => (hq.block g (by have := Hz2.out; omega)).trans (Hb2.out g h1 h2))
            have Hw3 := Lib.hid (show Below w.heap.size w U3 by have := Hz2.out; exact Hw2.out.trans (hq.mono (by omega)))
            have Ho3 := Lib.hid (own_up Ho2.out hq)
            have Hz3 := Lib.hid (show w5.heap.size ≤ U3.heap.size by have := Hz2.out; omega)
            have Hrp := Lib.hid (show ∀ g, (Value.slice A7 (x.q.length + 1) c7).ownBlock = some g → g ≠ p from fun g hg => by have := (Ho2.out.lt g hg).2; omega)
            have Hx3 := Lib.hid hz
            have Hp := Lib.hid (show w5.heap.size ≤ p by have := Hz2.out; omega)
            clear hU hq hs hz hp
            refine HK.out _ _ (HC.out _ Hb3.out) ?_
            clear HK K
            refine oneC (i := 13) (by kernel_rfl) rfl rfl rfl (fun K hK => ?_)
            have HK := Lib.hid hK; clear hK; go_simp
            have hz := Hz3.out; have hsm := Hsm.out
            obtain ⟨ha1, ha2⟩ := own_cap Ho3.out
            have hmU : HM U3 (fun b => ok b ∨ ((Value.slice A7 (x.q.length + 1) c7).ownBlock = some b ∧ w.heap.size + 2 ≤ b ∧ b < U3.heap.size)) { x with q := x.q ++ [⟨who, claim⟩] } A ac A7 c7 :=
              ⟨(Hmx.out.rc.keep (w' := U3) fun b hb => Hb3.out b (by have := Hok.out b hb; omega) (fun e => by have := Hok.out b hb; have := HoQ.out b e; omega)).imp fun b hb => .inl hb, (Rd'.of_own2 (n := x.q.length + 1) (by have := Ho3.out; rw [List.flatMap_append]; simpa using this) t_len (by decide)).imp fun b hb => .inr hb, Hmx.out.ca, Hmx.out.ca2, by simpa using ha1, ha2⟩
            have d8 := refLet_any U3 (fun b => ok b ∨ ((Value.slice A7 (x.q.length + 1) c7).ownBlock = some b ∧ w.heap.size + 2 ≤ b ∧ b < U3.heap.size)) A A7 ac c7 { x with q := x.q ++ [⟨who, claim⟩] } hsm (fun b hb => by
              rcases hb with h | h
              · have := Hok.out b h; omega
              · exact h.2.2) hmU
            rw [Hr.out] at d8
            simp only [List.length_append, List.length_cons, List.length_nil, Nat.zero_add] at d8
            refine d8.mono ?_
            clear d8 hmU ha1 ha2
            rintro e U4 ⟨A2, ac2, Q2, qc2, I2, ic2, rfl, hm8, hi8, hq⟩
            have hs8 := hq.size
            have Hb4 := Lib.hid (show ∀ g, g < w5.heap.size → (Value.slice Aq x.q.length cq).ownBlock ≠ some g → U4.heap[g]? = w5.heap[g]? from fun g h1 h2 => (hq.block g (by omega)).trans (Hb3.out g h1 h2))
            have Hw4 := Lib.hid (Hw3.out.trans (hq.mono (by omega)))
            have hxl := Hx3.out.lt
            have Hx4 := Lib.hid (Hx3.out.up hq hxl)
            have Hm4 := Lib.hid (hm8.imp (ok' := fun b => ((ok b ∨ w.heap.size + 2 ≤ b) ∧ b ≠ p) ∧ b < U4.heap.size) fun b hb => by
              have hpz := Hp.out
              rcases hb with (h | h) | h
              · have := Hok.out b h; exact ⟨⟨.inl h, by omega⟩, by omega⟩
              · exact ⟨⟨.inr (by omega), Hrp.out b h.1⟩, by omega⟩
              · exact ⟨⟨.inr (by omega), by omega⟩, by omega⟩)
            have Hi4 := Lib.hid (hi8.imp (ok' := fun b => (w.heap.size + 2 ≤ b ∧ b ≠ p) ∧ b < U4.heap.size) fun b hb => ⟨⟨by omega, by omega⟩, by omega⟩)
            clear hxl
            have Hz4 := Lib.hid (show w5.heap.size ≤ U4.heap.size by omega)
            clear hm8 hi8 hq hs8 hz hsm
            simp only
            refine HK.out _ _ (HC.out _ Hb4.out) ?_
            clear HK K
            (refine takeC (i := 14) (.tuple #[.agg #[.int .i64 r.frames, .int .i64 r.budget, .slice A2 r.cs.length ac2, .slice Q2 r.q.length qc2], .slice I2 ins.length ic2]) rfl (by kernel_rfl) (by kernel_rfl) (by kernel_rfl) rfl (fun _ _ _ h => h) (HC.out U4 Hb4.out) rfl (fun U hU => by obtain ⟨h0, h1, h2, h3, _, _, _, _, _⟩ := hU; go_simp) (fun K hK => ?_); have HK := Lib.hid hK; clear hK; go_simp; refine HK.out _ ?_; clear HK K)
            (refine takeC (i := 15) (.agg #[.int .i64 r.frames, .int .i64 r.budget, .slice A2 r.cs.length ac2, .slice Q2 r.q.length qc2]) rfl (by kernel_rfl) (by kernel_rfl) (by kernel_rfl) rfl (fun _ _ _ h => h) (HC.out U4 Hb4.out) rfl (fun U hU => by obtain ⟨h0, h1, h2, h3, _, _, _, _, _⟩ := hU; go_simp) (fun K hK => ?_); have HK := Lib.hid hK; clear hK; go_simp; refine HK.out _ ?_; clear HK K)
            (refine takeC (i := 16) (.slice I2 ins.length ic2) rfl (by kernel_rfl) (by kernel_rfl) (by kernel_rfl) rfl (fun _ _ _ h => h) (HC.out U4 Hb4.out) rfl (fun U hU => by obtain ⟨h0, h1, h2, h3, _, _, _, _, _⟩ := hU; go_simp) (fun K hK => ?_); have HK := Lib.hid hK; clear hK; go_simp; refine HK.out _ ?_; clear HK K)
            obtain ⟨z0, z1, z2, z3, y0, y1, y2, y3, ltz⟩ := Hx4.out
            refine oneC (i := 18) (by kernel_rfl) rfl rfl rfl (fun K hK => ?_)
            have HK := Lib.hid hK; clear hK; go_simp
            obtain ⟨U9, hU⟩ : ∃ U9, U9 = fill4 U4 p r A2 ac2 Q2 qc2 := ⟨_, rfl⟩
            have hk : ∀ b, b ≠ p → U9.heap[b]? = U4.heap[b]? := fun b h => by rw [hU]; exact fill4_keep h
            have hs : U9.heap.size = U4.heap.size := by rw [hU]; exact fill4_size
            have HB9 := Lib.hid (show HB p r A2 ac2 Q2 qc2 U9 by rw [hU]; exact Hx4.out.hb.fill)
            have hp := Hp.out; have hz := Hz4.out
            have Hw9 := Lib.hid (show Below w.heap.size w U9 by rw [hU]; exact fill4_below Hw4.out (by omega))
            have Hb9 := Lib.hid (show ∀ g, g < w5.heap.size → (Value.slice Aq x.q.length cq).ownBlock ≠ some g → U9.heap[g]? = w5.heap[g]? from fun g h1 h2 => (hk g (by omega)).trans (Hb4.out g h1 h2))
            have Hm9 := Lib.hid ((Hm4.out.keep (w' := U9) fun b hb => hk b hb.1.2).imp (ok' := fun b => ((ok b ∨ w.heap.size + 2 ≤ b) ∧ b ≠ p) ∧ b < U9.heap.size) fun b hb => by rw [hs]; exact hb)
            have Hi9 := Lib.hid ((Hi4.out.keep (w' := U9) fun b hb => hk b hb.1.2).imp (ok' := fun b => (w.heap.size + 2 ≤ b ∧ b ≠ p) ∧ b < U9.heap.size) fun b hb => by rw [hs]; exact hb)
            rw [fill4] at hU
            rw [← hU]
            clear hU hk hs hp hz z0 z1 z2 z3 y0 y1 y2 y3 ltz
            refine HK.out _ _ (HC.out _ Hb9.out) ?_
            clear HK K
            (refine oneC (i := 19) (by kernel_rfl) rfl rfl rfl (fun K hK => ?_); have HK := Lib.hid hK; clear hK; go_simp; refine HK.out _ _ (HC.out _ Hb9.out) ?_; clear HK K)
            refine doneC (by kernel_rfl) ?_
            go_wp2_with fail
            go_meet
            exact ⟨p, A2, ac2, Q2, qc2, I2, ic2, rfl, rfl, HB9.out, Hp.out, Hm9.out, Hi9.out, Hw9.out, Hb9.out⟩
        · --
          have HK := Lib.hid hK; clear hK; go_simp
          obtain ⟨p, hp⟩ : ∃ p, p = U1.heap.size := ⟨_, rfl⟩
          obtain ⟨U2, hU⟩ : ∃ U, U = U1.alloc (.cells #[.int .i64 0, .int .i64 0, .slice none 0 0, .slice none 0 0] 29) := ⟨_, rfl⟩
          have hq : Below U1.heap.size U1 U2 := by rw [hU]; exact (Below.refl _ _).alloc (Nat.le_refl _) _
          have hs : U2.heap.size = U1.heap.size + 1 := by rw [hU]; simp
          have hz : ZB p U2 := (HB.of (h := ⟨0, 0, [], []⟩) (t := 29) (by rw [hU, hp, heap_alloc_new]; rfl)).zb
          rw [← hU, ← hp]
          have Hb2 := Lib.hid (show ∀ g, g < w5.heap.size → (Value.slice Aq x.q.length cq).ownBlock ≠ some g → U2.heap[g]? = w5.heap[g]? from fun g h1 h2 => (hq.block g (by have := Hz1.out; omega)).trans (Hb1.out g h1 h2))
          have Hw2 := Lib.hid (show Below w.heap.size w U2 by have := Hz1.out; exact Hw1.out.trans (hq.mono (by omega)))
          have Ho2 := Lib.hid (own_up Ho1.out hq)
          have Hz2 := Lib.hid (show w5.heap.size ≤ U2.heap.size by have := Hz1.out; omega)
          have Hsrc2 := Lib.hid ((hq.block m (by have := (Array.getElem?_eq_some_iff.1 Hsrc1.out).1; omega)).trans Hsrc1.out)
          have Hrp := Lib.hid (show ∀ g, (Value.slice Aq x.q.length cq).ownBlock = some g → g ≠ p from fun g hg => by have := (Ho1.out.lt g hg).2; omega)
          have Hx2 := Lib.hid hz
          have Hp := Lib.hid (show w5.heap.size ≤ p by have := Hz1.out; omega)
          clear hU hq hs hz hp
          refine HK.out _ _ (HC.out _ Hb2.out) ?_
          clear HK K
          refine oneC (i := 11) (by kernel_rfl) rfl rfl rfl (fun K hK => ?_)
          have HK := Lib.hid hK; clear hK
          refine wp_app (.tmp 58) (.tmp 62) 27 rfl (w.heap.size + 2) 52 k0' (.agg #[.int .i64 0, .int .i64 0]) 2 16 Try.underlying27 hk0 hx0 hx1 hx2 rfl (by decide) (v := .slice Aq x.q.length cq) (by rfl) Ho2.out (A := some ⟨m, 0, none⟩) (m := 1) (c := 1) (news := T.cells ⟨who, claim⟩) (by rfl) rfl (by simp) (fun ad e j u hu => by injection e with e; subst e; rw [Addr.add_lit, Nat.zero_add, cells_of Hsrc2.out]; simpa [T.cells] using hu) (t_one _) ?_ ?_ ?_ ?_
          · unfold maxLen; omega
          · omega
          · have := Hz2.out; omega
          intro v7 U3 ho7 hg7 hv7
          obtain ⟨A7, c7, rfl, _, _⟩ := own_slice ho7
          have hs7 := hg7.size; have hz7 := Hz2.out
          have Hb3 := Lib.hid (show ∀ g, g < w5.heap.size → (Value.slice Aq x.q.length cq).ownBlock ≠ some g → U3.heap[g]? = w5.heap[g]? from fun g h1 h2 => (hg7.block g (by omega) (fun e => h2 e.symm)).trans (Hb2.out g h1 h2))
          have Hw3 := Lib.hid (Hw2.out.grown hg7 (by omega) (fun d hd => by have := (Ho2.out.lt d hd).1; omega))
          have Hx3 := Lib.hid (Hx2.out.keep (hg7.block p Hx2.out.lt (fun e => Hrp.out p e.symm rfl)))
          have Hrp7 := Lib.hid (show ∀ g, (Value.slice A7 (x.q.length + 1) c7).ownBlock = some g → g ≠ p from fun g hg => by
            have hxl := Hx2.out.lt
            rcases hv7 with h | h
            · rw [h] at hg; exact Hrp.out g hg
            · rw [h] at hg; injection hg with hg; omega)
          clear Hrp; have Hrp := Hrp7; clear Hrp7
          have Ho3 := Lib.hid ho7
          have Hz3 := Lib.hid (show w5.heap.size ≤ U3.heap.size by omega)
          clear ho7 hg7 hv7 hs7 hz7
          go_simp
          refine HK.out _ _ (HC.out _ Hb3.out) ?_
          clear HK K
          (refine takeC (i := 12) (.agg #[.int .i64 x.frames, .int .i64 x.budget, .slice A x.cs.length ac, .slice A7 (x.q.length + 1) c7]) rfl (by kernel_rfl) (by kernel_rfl) (by kernel_rfl) rfl (fun _ _ _ h => h) (HC.out U3 Hb3.out) rfl (fun U hU => by obtain ⟨h0, h1, h2, h3, _, _, _, _, _⟩ := hU; go_simp) (fun K hK => ?_); have HK := Lib.hid hK; clear hK; go_simp; refine HK.out _ ?_; clear HK K)
          refine oneC (i := 13) (by kernel_rfl) rfl rfl rfl (fun K hK => ?_)
          have HK := Lib.hid hK; clear hK; go_simp
          have hz := Hz3.out; have hsm := Hsm.out
          obtain ⟨ha1, ha2⟩ := own_cap Ho3.out
          have hmU : HM U3 (fun b => ok b ∨ ((Value.slice A7 (x.q.length + 1) c7).ownBlock = some b ∧ w.heap.size + 2 ≤ b ∧ b < U3.heap.size)) { x with q := x.q ++ [⟨who, claim⟩] } A ac A7 c7 :=
            ⟨(Hmx.out.rc.keep (w' := U3) fun b hb => Hb3.out b (by have := Hok.out b hb; omega) (fun e => by have := Hok.out b hb; have := HoQ.out b e; omega)).imp fun b hb => .inl hb, (Rd'.of_own2 (n := x.q.length + 1) (by have := Ho3.out; rw [List.flatMap_append]; simpa using this) t_len (by decide)).imp fun b hb => .inr hb, Hmx.out.ca, Hmx.out.ca2, by simpa using ha1, ha2⟩
          have d8 := refLet_any U3 (fun b => ok b ∨ ((Value.slice A7 (x.q.length + 1) c7).ownBlock = some b ∧ w.heap.size + 2 ≤ b ∧ b < U3.heap.size)) A A7 ac c7 { x with q := x.q ++ [⟨who, claim⟩] } hsm (fun b hb => by
            rcases hb with h | h
            · have := Hok.out b h; omega
            · exact h.2.2) hmU
          rw [Hr.out] at d8
          simp only [List.length_append, List.length_cons, List.length_nil, Nat.zero_add] at d8
          refine d8.mono ?_
          clear d8 hmU ha1 ha2
          rintro e U4 ⟨A2, ac2, Q2, qc2, I2, ic2, rfl, hm8, hi8, hq⟩
          have hs8 := hq.size
          have Hb4 := Lib.hid (show ∀ g, g < w5.heap.size → (Value.slice Aq x.q.length cq).ownBlock ≠ some g → U4.heap[g]? = w5.heap[g]? from fun g h1 h2 => (hq.block g (by omega)).trans (Hb3.out g h1 h2))
          have Hw4 := Lib.hid (Hw3.out.trans (hq.mono (by omega)))
          have hxl := Hx3.out.lt
          have Hx4 := Lib.hid (Hx3.out.up hq hxl)
          have Hm4 := Lib.hid (hm8.imp (ok' := fun b => ((ok b ∨ w.heap.size + 2 ≤ b) ∧ b ≠ p) ∧ b < U4.heap.size) fun b hb => by
            have hpz := Hp.out
            rcases hb with (h | h) | h
            · have := Hok.out b h; exact ⟨⟨.inl h, by omega⟩, by omega⟩
            · exact ⟨⟨.inr (by omega), Hrp.out b h.1⟩, by omega⟩
            · exact ⟨⟨.inr (by omega), by omega⟩, by omega⟩)
          have Hi4 := Lib.hid (hi8.imp (ok' := fun b => (w.heap.size + 2 ≤ b ∧ b ≠ p) ∧ b < U4.heap.size) fun b hb => ⟨⟨by omega, by omega⟩, by omega⟩)
          clear hxl
          have Hz4 := Lib.hid (show w5.heap.size ≤ U4.heap.size by omega)
          clear hm8 hi8 hq hs8 hz hsm
          simp only
          refine HK.out _ _ (HC.out _ Hb4.out) ?_
          clear HK K
          (refine takeC (i := 14) (.tuple #[.agg #[.int .i64 r.frames, .int .i64 r.budget, .slice A2 r.cs.length ac2, .slice Q2 r.q.length qc2], .slice I2 ins.length ic2]) rfl (by kernel_rfl) (by kernel_rfl) (by kernel_rfl) rfl (fun _ _ _ h => h) (HC.out U4 Hb4.out) rfl (fun U hU => by obtain ⟨h0, h1, h2, h3, _, _, _, _, _⟩ := hU; go_simp) (fun K hK => ?_); have HK := Lib.hid hK; clear hK; go_simp; refine HK.out _ ?_; clear HK K)
          (refine takeC (i := 15) (.agg #[.int .i64 r.frames, .int .i64 r.budget, .slice A2 r.cs.length ac2, .slice Q2 r.q.length qc2]) rfl (by kernel_rfl) (by kernel_rfl) (by kernel_rfl) rfl (fun _ _ _ h => h) (HC.out U4 Hb4.out) rfl (fun U hU => by obtain ⟨h0, h1, h2, h3, _, _, _, _, _⟩ := hU; go_simp) (fun K hK => ?_); have HK := Lib.hid hK; clear hK; go_simp; refine HK.out _ ?_; clear HK K)
          (refine takeC (i := 16) (.slice I2 ins.length ic2) rfl (by kernel_rfl) (by kernel_rfl) (by kernel_rfl) rfl (fun _ _ _ h => h) (HC.out U4 Hb4.out) rfl (fun U hU => by obtain ⟨h0, h1, h2, h3, _, _, _, _, _⟩ := hU; go_simp) (fun K hK => ?_); have HK := Lib.hid hK; clear hK; go_simp; refine HK.out _ ?_; clear HK K)
          obtain ⟨z0, z1, z2, z3, y0, y1, y2, y3, ltz⟩ := Hx4.out
          refine oneC (i := 18) (by kernel_rfl) rfl rfl rfl (fun K hK => ?_)
          have HK := Lib.hid hK; clear hK; go_simp
          obtain ⟨U9, hU⟩ : ∃ U9, U9 = fill4 U4 p r A2 ac2 Q2 qc2 := ⟨_, rfl⟩
          have hk : ∀ b, b ≠ p → U9.heap[b]? = U4.heap[b]? := fun b h => by rw [hU]; exact fill4_keep h
          have hs : U9.heap.size = U4.heap.size := by rw [hU]; exact fill4_size
          have HB9 := Lib.hid (show HB p r A2 ac2 Q2 qc2 U9 by rw [hU]; exact Hx4.out.hb.fill)
          have hp := Hp.out; have hz := Hz4.out
          have Hw9 := Lib.hid (show Below w.heap.size w U9 by rw [hU]; exact fill4_below Hw4.out (by omega))
          have Hb9 := Lib.hid (show ∀ g, g < w5.heap.size → (Value.slice Aq x.q.length cq).ownBlock ≠ some g → U9.heap[g]? = w5.heap[g]? from fun g h1 h2 => (hk g (by omega)).trans (Hb4.out g h1 h2))
          have Hm9 := Lib.hid ((Hm4.out.keep (w' := U9) fun b hb => hk b hb.1.2).imp (ok' := fun b => ((ok b ∨ w.heap.size + 2 ≤ b) ∧ b ≠ p) ∧ b < U9.heap.size) fun b hb => by rw [hs]; exact hb)
          have Hi9 := Lib.hid ((Hi4.out.keep (w' := U9) fun b hb => hk b hb.1.2).imp (ok' := fun b => (w.heap.size + 2 ≤ b ∧ b ≠ p) ∧ b < U9.heap.size) fun b hb => by rw [hs]; exact hb)
          rw [fill4] at hU
          rw [← hU]
          clear hU hk hs hp hz z0 z1 z2 z3 y0 y1 y2 y3 ltz
          refine HK.out _ _ (HC.out _ Hb9.out) ?_
          clear HK K
          (refine oneC (i := 19) (by kernel_rfl) rfl rfl rfl (fun K hK => ?_); have HK := Lib.hid hK; clear hK; go_simp; refine HK.out _ _ (HC.out _ Hb9.out) ?_; clear HK K)
          refine doneC (by kernel_rfl) ?_
          go_wp2_with fail
          go_meet
          exact ⟨p, A2, ac2, Q2, qc2, I2, ic2, rfl, rfl, HB9.out, Hp.out, Hm9.out, Hi9.out, Hw9.out, Hb9.out⟩
      · --
        have HK := Lib.hid hK; clear hK; go_simp
        obtain ⟨p, hp⟩ : ∃ p, p = U0.heap.size := ⟨_, rfl⟩
        obtain ⟨U1, hU⟩ : ∃ U, U = U0.alloc (.cells #[.int .i64 0, .int .i64 0, .slice none 0 0, .slice none 0 0] 29) := ⟨_, rfl⟩
        have hq : Below U0.heap.size U0 U1 := by rw [hU]; exact (Below.refl _ _).alloc (Nat.le_refl _) _
        have hs : U1.heap.size = U0.heap.size + 1 := by rw [hU]; simp
        have hz : ZB p U1 := (HB.of (h := ⟨0, 0, [], []⟩) (t := 29) (by rw [hU, hp, heap_alloc_new]; rfl)).zb
        rw [← hU, ← hp]
        have Hb1 := Lib.hid (show ∀ g, g < w5.heap.size → (Value.slice Aq x.q.length cq).ownBlock ≠ some g → U1.heap[g]? = w5.heap[g]? from fun g h1 h2 => (hq.block g (by have := Hz0.out; omega)).trans (Hb0.out g h1 h2))
        have Hw1 := Lib.hid (show Below w.heap.size w U1 by have := Hz0.out; exact Hw0.out.trans (hq.mono (by omega)))
        have Ho1 := Lib.hid (own_up Ho0.out hq)
        have Hz1 := Lib.hid (show w5.heap.size ≤ U1.heap.size by have := Hz0.out; omega)
        have Hrp := Lib.hid (show ∀ g, (Value.slice Aq x.q.length cq).ownBlock = some g → g ≠ p from fun g hg => by have := (Ho0.out.lt g hg).2; omega)
        have Hx1 := Lib.hid hz
        have Hp := Lib.hid (show w5.heap.size ≤ p by have := Hz0.out; omega)
        clear hU hq hs hz hp
        refine HK.out _ _ (HC.out _ Hb1.out) ?_
        clear HK K
        refine oneC (i := 10) (by kernel_rfl) rfl rfl rfl (fun K hK => ?_)
        have HK := Lib.hid hK; clear hK; go_simp
        obtain ⟨m, hm⟩ : ∃ m, m = U1.heap.size := ⟨_, rfl⟩
        obtain ⟨U2, hU⟩ : ∃ U, U = U1.alloc (.cells #[.int .i64 who, .int .i64 claim] 52) := ⟨_, rfl⟩
        have hq : Below U1.heap.size U1 U2 := by rw [hU]; exact (Below.refl _ _).alloc (Nat.le_refl _) _
        have hs : U2.heap.size = U1.heap.size + 1 := by rw [hU]; simp
        have hsrc : U2.heap[m]? = some (.cells #[.int .i64 who, .int .i64 claim] 52 (0, 0)) := by rw [hU, hm, heap_alloc_new]
        rw [← hU, ← hm]
        have Hb2 := Lib.hid (show ∀ g, g < w5.heap.size → (Value.slice Aq x.q.length cq).ownBlock ≠ some g → U2.heap[g]? = w5.heap[g]? from fun g h1 h2 => (hq.block g (by have := Hz1.out; omega)).trans (Hb1.out g h1 h2))
        have Hw2 := Lib.hid (show Below w.heap.size w U2 by have := Hz1.out; exact Hw1.out.trans (hq.mono (by omega)))
        have Ho2 := Lib.hid (own_up Ho1.out hq)
        have Hx2 := Lib.hid (Hx1.out.up hq (by have := Hp.out; have := Hx1.out.lt; omega))
        have Hz2 := Lib.hid (show w5.heap.size ≤ U2.heap.size by have := Hz1.out; omega)
        have Hsrc2 := Lib.hid hsrc
        have Hml := Lib.hid (show w5.heap.size ≤ m by have := Hz1.out; omega)
        clear hU hq hs hsrc hm
        refine HK.out _ _ (HC.out _ Hb2.out) ?_
        clear HK K
        refine oneC (i := 11) (by kernel_rfl) rfl rfl rfl (fun K hK => ?_)
        have HK := Lib.hid hK; clear hK
        refine wp_app (.tmp 58) (.tmp 62) 27 rfl (w.heap.size + 2) 52 k0' (.agg #[.int .i64 0, .int .i64 0]) 2 16 Try.underlying27 hk0 hx0 hx1 hx2 rfl (by decide) (v := .slice Aq x.q.length cq) (by rfl) Ho2.out (A := some ⟨m, 0, none⟩) (m := 1) (c := 1) (news := T.cells ⟨who, claim⟩) (by rfl) rfl (by simp) (fun ad e j u hu => by injection e with e; subst e; rw [Addr.add_lit, Nat.zero_add, cells_of Hsrc2.out]; simpa [T.cells] using hu) (t_one _) ?_ ?_ ?_ ?_
        · unfold maxLen; omega
        · omega
        · have := Hz2.out; omega
        intro v7 U3 ho7 hg7 hv7
        obtain ⟨A7, c7, rfl, _, _⟩ := own_slice ho7
        have hs7 := hg7.size; have hz7 := Hz2.out
        have Hb3 := Lib.hid (show ∀ g, g < w5.heap.size → (Value.slice Aq x.q.length cq).ownBlock ≠ some g → U3.heap[g]? = w5.heap[g]? from fun g h1 h2 => (hg7.block g (by omega) (fun e => h2 e.symm)).trans (Hb2.out g h1 h2))
        have Hw3 := Lib.hid (Hw2.out.grown hg7 (by omega) (fun d hd => by have := (Ho2.out.lt d hd).1; omega))
        have Hx3 := Lib.hid (Hx2.out.keep (hg7.block p Hx2.out.lt (fun e => Hrp.out p e.symm rfl)))
        have Hrp7 := Lib.hid (show ∀ g, (Value.slice A7 (x.q.length + 1) c7).ownBlock = some g → g ≠ p from fun g hg => by
          have hxl := Hx2.out.lt
          rcases hv7 with h | h
          · rw [h] at hg; exact Hrp.out g hg
          · rw [h] at hg; injection hg with hg; omega)
        clear Hrp; have Hrp := Hrp7; clear Hrp7
        have Ho3 := Lib.hid ho7
        have Hz3 := Lib.hid (show w5.heap.size ≤ U3.heap.size by omega)
        clear ho7 hg7 hv7 hs7 hz7
        go_simp
        refine HK.out _ _ (HC.out _ Hb3.out) ?_
        clear HK K
        (refine takeC (i := 12) (.agg #[.int .i64 x.frames, .int .i64 x.budget, .slice A x.cs.length ac, .slice A7 (x.q.length + 1) c7]) rfl (by kernel_rfl) (by kernel_rfl) (by kernel_rfl) rfl (fun _ _ _ h => h) (HC.out U3 Hb3.out) rfl (fun U hU => by obtain ⟨h0, h1, h2, h3, _, _, _, _, _⟩ := hU; go_simp) (fun K hK => ?_); have HK := Lib.hid hK; clear hK; go_simp; refine HK.out _ ?_; clear HK K)
        refine oneC (i := 13) (by kernel_rfl) rfl rfl rfl (fun K hK => ?_)
        have HK := Lib.hid hK; clear hK; go_simp
        have hz := Hz3.out; have hsm := Hsm.out
        obtain ⟨ha1, ha2⟩ := own_cap Ho3.out
        have hmU : HM U3 (fun b => ok b ∨ ((Value.slice A7 (x.q.length + 1) c7).ownBlock = some b ∧ w.heap.size + 2 ≤ b ∧ b < U3.heap.size)) { x with q := x.q ++ [⟨who, claim⟩] } A ac A7 c7 :=
          ⟨(Hmx.out.rc.keep (w' := U3) fun b hb => Hb3.out b (by have := Hok.out b hb; omega) (fun e => by have := Hok.out b hb; have := HoQ.out b e; omega)).imp fun b hb => .inl hb, (Rd'.of_own2 (n := x.q.length + 1) (by have := Ho3.out; rw [List.flatMap_append]; simpa using this) t_len (by decide)).imp fun b hb => .inr hb, Hmx.out.ca, Hmx.out.ca2, by simpa using ha1, ha2⟩
        have d8 := refLet_any U3 (fun b => ok b ∨ ((Value.slice A7 (x.q.length + 1) c7).ownBlock = some b ∧ w.heap.size + 2 ≤ b ∧ b < U3.heap.size)) A A7 ac c7 { x with q := x.q ++ [⟨who, claim⟩] } hsm (fun b hb => by
          rcases hb with h | h
          · have := Hok.out b h; omega
          · exact h.2.2) hmU
        rw [Hr.out] at d8
        simp only [List.length_append, List.length_cons, List.length_nil, Nat.zero_add] at d8
        refine d8.mono ?_
        clear d8 hmU ha1 ha2
        rintro e U4 ⟨A2, ac2, Q2, qc2, I2, ic2, rfl, hm8, hi8, hq⟩
        have hs8 := hq.size
        have Hb4 := Lib.hid (show ∀ g, g < w5.heap.size → (Value.slice Aq x.q.length cq).ownBlock ≠ some g → U4.heap[g]? = w5.heap[g]? from fun g h1 h2 => (hq.block g (by omega)).trans (Hb3.out g h1 h2))
        have Hw4 := Lib.hid (Hw3.out.trans (hq.mono (by omega)))
        have hxl := Hx3.out.lt
        have Hx4 := Lib.hid (Hx3.out.up hq hxl)
        have Hm4 := Lib.hid (hm8.imp (ok' := fun b => ((ok b ∨ w.heap.size + 2 ≤ b) ∧ b ≠ p) ∧ b < U4.heap.size) fun b hb => by
          have hpz := Hp.out
          rcases hb with (h | h) | h
          · have := Hok.out b h; exact ⟨⟨.inl h, by omega⟩, by omega⟩
          · exact ⟨⟨.inr (by omega), Hrp.out b h.1⟩, by omega⟩
          · exact ⟨⟨.inr (by omega), by omega⟩, by omega⟩)
        have Hi4 := Lib.hid (hi8.imp (ok' := fun b => (w.heap.size + 2 ≤ b ∧ b ≠ p) ∧ b < U4.heap.size) fun b hb => ⟨⟨by omega, by omega⟩, by omega⟩)
        clear hxl
        have Hz4 := Lib.hid (show w5.heap.size ≤ U4.heap.size by omega)
        clear hm8 hi8 hq hs8 hz hsm
        simp only
        refine HK.out _ _ (HC.out _ Hb4.out) ?_
        clear HK K
        (refine takeC (i := 14) (.tuple #[.agg #[.int .i64 r.frames, .int .i64 r.budget, .slice A2 r.cs.length ac2, .slice Q2 r.q.length qc2], .slice I2 ins.length ic2]) rfl (by kernel_rfl) (by kernel_rfl) (by kernel_rfl) rfl (fun _ _ _ h => h) (HC.out U4 Hb4.out) rfl (fun U hU => by obtain ⟨h0, h1, h2, h3, _, _, _, _, _⟩ := hU; go_simp) (fun K hK => ?_); have HK := Lib.hid hK; clear hK; go_simp; refine HK.out _ ?_; clear HK K)
        (refine takeC (i := 15) (.agg #[.int .i64 r.frames, .int .i64 r.budget, .slice A2 r.cs.length ac2, .slice Q2 r.q.length qc2]) rfl (by kernel_rfl) (by kernel_rfl) (by kernel_rfl) rfl (fun _ _ _ h => h) (HC.out U4 Hb4.out) rfl (fun U hU => by obtain ⟨h0, h1, h2, h3, _, _, _, _, _⟩ := hU; go_simp) (fun K hK => ?_); have HK := Lib.hid hK; clear hK; go_simp; refine HK.out _ ?_; clear HK K)
        (refine takeC (i := 16) (.slice I2 ins.length ic2) rfl (by kernel_rfl) (by kernel_rfl) (by kernel_rfl) rfl (fun _ _ _ h => h) (HC.out U4 Hb4.out) rfl (fun U hU => by obtain ⟨h0, h1, h2, h3, _, _, _, _, _⟩ := hU; go_simp) (fun K hK => ?_); have HK := Lib.hid hK; clear hK; go_simp; refine HK.out _ ?_; clear HK K)
        obtain ⟨z0, z1, z2, z3, y0, y1, y2, y3, ltz⟩ := Hx4.out
        refine oneC (i := 18) (by kernel_rfl) rfl rfl rfl (fun K hK => ?_)
        have HK := Lib.hid hK; clear hK; go_simp
        obtain ⟨U9, hU⟩ : ∃ U9, U9 = fill4 U4 p r A2 ac2 Q2 qc2 := ⟨_, rfl⟩
        have hk : ∀ b, b ≠ p → U9.heap[b]? = U4.heap[b]? := fun b h => by rw [hU]; exact fill4_keep h
        have hs : U9.heap.size = U4.heap.size := by rw [hU]; exact fill4_size
        have HB9 := Lib.hid (show HB p r A2 ac2 Q2 qc2 U9 by rw [hU]; exact Hx4.out.hb.fill)
        have hp := Hp.out; have hz := Hz4.out
        have Hw9 := Lib.hid (show Below w.heap.size w U9 by rw [hU]; exact fill4_below Hw4.out (by omega))
        have Hb9 := Lib.hid (show ∀ g, g < w5.heap.size → (Value.slice Aq x.q.length cq).ownBlock ≠ some g → U9.heap[g]? = w5.heap[g]? from fun g h1 h2 => (hk g (by omega)).trans (Hb4.out g h1 h2))
        have Hm9 := Lib.hid ((Hm4.out.keep (w' := U9) fun b hb => hk b hb.1.2).imp (ok' := fun b => ((ok b ∨ w.heap.size + 2 ≤ b) ∧ b ≠ p) ∧ b < U9.heap.size) fun b hb => by rw [hs]; exact hb)
        have Hi9 := Lib.hid ((Hi4.out.keep (w' := U9) fun b hb => hk b hb.1.2).imp (ok' := fun b => (w.heap.size + 2 ≤ b ∧ b ≠ p) ∧ b < U9.heap.size) fun b hb => by rw [hs]; exact hb)
        rw [fill4] at hU
        rw [← hU]
        clear hU hk hs hp hz z0 z1 z2 z3 y0 y1 y2 y3 ltz
        refine HK.out _ _ (HC.out _ Hb9.out) ?_
        clear HK K
        (refine oneC (i := 19) (by kernel_rfl) rfl rfl rfl (fun K hK => ?_); have HK := Lib.hid hK; clear hK; go_simp; refine HK.out _ _ (HC.out _ Hb9.out) ?_; clear HK K)
        refine doneC (by kernel_rfl) ?_
        go_wp2_with fail
        go_meet
        exact ⟨p, A2, ac2, Q2, qc2, I2, ic2, rfl, rfl, HB9.out, Hp.out, Hm9.out, Hi9.out, Hw9.out, Hb9.out⟩
    case rest =>
      obtain ⟨p, A2, ac2, Q2, qc2, I2, ic2, rfl, rfl, hBp, hp, hm2, hi2, hw2, hk2⟩ := hcut
      have HBp := Lib.hid hBp; have Hm2 := Lib.hid hm2; have Hi2 := Lib.hid hi2; have Hw2 := Lib.hid hw2
      have HRc := Lib.hid (HRN.out.keep (hk2 (w.heap.size + 1) (by omega) (fun e => by have := HoQ.out _ e; omega)))
      have hne1 : ¬ w.heap.size + 1 = p := by omega
      have hne2 : ¬ p = w.heap.size + 1 := by omega
      clear hBp hm2 hi2 hw2 hk2
      obtain ⟨c0, c1, c2, c3, f0, f1, f2, f3, lt⟩ := HBp.out
      obtain ⟨r0, r1, r2, r3, k0, k1, k2, k3, ltR5⟩ := HRc.out
      go_wp2_with fail
      have hbx := HRc.out.hb.fill (r := r) (A' := A2) (ac' := ac2) (Q' := Q2) (qc' := qc2)
      unfold fill4 at hbx
      obtain ⟨y0, y1, y2, y3, _, _, _, _, _⟩ := hbx
      refine bodyPost_ret (v := .tuple #[.agg #[.int .i64 r.frames, .int .i64 r.budget, .slice A2 r.cs.length ac2, .slice Q2 r.q.length qc2], .slice I2 ins.length ic2, .int .i64 0]) (by simp [results, Try.results12, go_sem, y0, y1, y2, y3]) rfl ?_
      rw [Hpm.out]
      have hz12 : (fill4 wc (w.heap.size + 1) r A2 ac2 Q2 qc2).heap.size = wc.heap.size := fill4_size
      have hfin : EndDone ok (r, ins, 0) w (.returned (.tuple #[.agg #[.int .i64 r.frames, .int .i64 r.budget, .slice A2 r.cs.length ac2, .slice Q2 r.q.length qc2], .slice I2 ins.length ic2, .int .i64 0])) (fill4 wc (w.heap.size + 1) r A2 ac2 Q2 qc2) := by
        refine ⟨A2, ac2, Q2, qc2, I2, ic2, rfl, ?_, ?_, fill4_below Hw2.out (by omega)⟩
        · refine (Hm2.out.keep fun b hb => fill4_keep ?_).imp fun b hb => ?_
          · rcases hb.1.1 with h | h
            · have := Hok.out b h; omega
            · omega
          · rcases hb.1.1 with h | h
            · exact .inl h
            · exact .inr (by omega)
        · exact (Hi2.out.keep fun b hb => fill4_keep (by omega)).imp fun b hb => by omega
      unfold fill4 at hfin
      exact hfin
end Go.Proofs.Ythhfhgkkfaghoaa
