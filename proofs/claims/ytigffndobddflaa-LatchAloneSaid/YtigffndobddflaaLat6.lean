/- The contract of latch.Ask. -/
import Derived.Test.YtigffndobddflaaLat5
import Derived.Test.YtigffndobddflaaLatP
namespace Go.Proofs.Ytigffndobddflaa
open Go.RowKit

/-- a latch told, with a Bool and an error -/
def AskDone (ok : Nat → Prop) (r : La) (b : Bool) (n : Int) (w : World) (e : Ending) (w' : World) : Prop :=
  ∃ A ac Q qc, e = .returned (.tuple #[.agg #[.slice A r.hs.length ac, .bool r.ex, .slice Q r.q.length qc], .bool b, .int .i64 n]) ∧
    LM w' (fun b => ok b ∨ (w.heap.size ≤ b ∧ b < w'.heap.size)) r A ac Q qc ∧ Below w.heap.size w w'
theorem enterL_ins {l r : La} {ins : List Int} (h : enterL l = (r, ins)) : ins.length ≤ l.q.length := by
  have := (letL_len l.q l.hs l.ex).1
  have : ins = (letL l.hs l.ex l.q).2.2.2 := by rw [enterL] at h; exact (Prod.mk.inj h).2.symm
  rw [this]; omega

set_option maxRecDepth 20000 in
set_option maxHeartbeats 4000000 in
theorem ask_any (w : World) (ok : Nat → Prop) (A Q : Option Addr) (ac qc : Nat) (l : La) (who : Int) (ex : Bool) (hl1 : l.hs.length ≤ 1000) (hl2 : l.q.length ≤ 1000) (hok : ∀ b, ok b → b < w.heap.size) (hm : LM w ok l A ac Q qc) :
    Calls Try.prog 13 #[.agg #[.slice A l.hs.length ac, .bool l.ex, .slice Q l.q.length qc], .int .i64 who, .bool ex] w (AskDone ok (askM l who ex).1 ((askM l who ex).2.1.contains who) (askM l who ex).2.2 w) := by
  obtain ⟨bb, hbb⟩ : ∃ bb, bb = (askM l who ex).2.1.contains who := ⟨_, rfl⟩
  rw [← hbb]
  have Hbb := Lib.hid hbb
  clear hbb
  obtain ⟨W, hW, hbW, hsW, hB, hR⟩ := la_box2 w A Q ac qc l 25
  have HmW := Lib.hid (hm.below hbW hok)
  have HmW' := Lib.hid ((hm.below hbW hok).imp (ok' := fun b => b < W.heap.size) fun b hb => by have := hok b hb; omega)
  have HbW := Lib.hid hbW
  have Hok := Lib.hid hok
  have HB' := Lib.hid hB
  have HR' := Lib.hid hR
  obtain ⟨c0, c1, c2, f0, f1, f2, lt⟩ := hB
  obtain ⟨r0, r1, r2, k0, k1, k2, ltR⟩ := hR
  have hW' := hW.symm
  clear hW hbW hm hok
  have d1 := laRight_any W A Q ac qc l hl1 hl2 HmW'.out
  obtain ⟨rt, hrt⟩ : ∃ rt, rt = l.right := ⟨_, rfl⟩
  rw [← hrt] at d1
  have Hd1 := Lib.hid d1
  have Hrt := Lib.hid hrt
  clear hrt d1
  have hsame : ∀ V, Below W.heap.size W V → ∀ n, AskDone ok l false n w (.returned (.tuple #[.agg #[.slice A l.hs.length ac, .bool l.ex, .slice Q l.q.length qc], .bool false, .int .i64 n])) (fill3 V (w.heap.size + 1) l A ac Q qc) := fun V hV n => by
    refine ⟨A, ac, Q, qc, rfl, ?_, fill3_below (HbW.out.trans (hV.mono (by omega))) (by omega)⟩
    exact ((HmW.out.below hV (fun b hb => by have := Hok.out b hb; omega)).keep fun b hb => fill3_keep (by have := Hok.out b hb; omega)).imp fun b hb => .inl hb
  have Hsame := Lib.hid hsame
  clear hsame
  cases rt with
  | false =>
    have hbg : askM l who ex = (l, [], 1) := by rw [askM, if_pos (.inl Hrt.out.symm)]
    have Hbg := Lib.hid hbg
    clear hbg
    go_enter Try.func13, Try.ntmps13
    go_wp2_with fail
    refine Hd1.out.mono ?_
    rintro e V ⟨rfl, hb1⟩
    have Hb1 := Lib.hid hb1
    clear c0 c1 c2 f0 f1 f2 r0 r1 r2 k0 k1 k2 hW'
    obtain ⟨c0, c1, c2, f0, f1, f2, ltV⟩ := HB'.out.up hb1 lt
    obtain ⟨r0, r1, r2, k0, k1, k2, ltRV⟩ := HR'.out.up hb1 ltR
    clear hb1
    go_wp2_with fail
    refine bodyPost_ret (v := .tuple #[.agg #[.slice A l.hs.length ac, .bool l.ex, .slice Q l.q.length qc], .bool false, .int .i64 1]) (by simp [results, Try.results13, go_sem, r0, r1, r2]) rfl ?_
    have hb0 := Hbb.out
    rw [Hbg.out] at hb0 ⊢
    obtain rfl : bb = false := by simpa using hb0
    exact Hsame.out V Hb1.out 1
  | true =>
    have h64 : l.hs.length + l.q.length ≤ 64 := right_len Hrt.out.symm
    have hcs : who < 0 ∨ (¬ who < 0 ∧ 2147483647 < who) ∨ (¬ who < 0 ∧ ¬ 2147483647 < who) := by omega
    rcases hcs with h1 | ⟨h1, h2⟩ | ⟨h1, h2⟩
    iterate 2
      · have hbg : askM l who ex = (l, [], 1) := by rw [askM, if_pos (.inr (by omega))]
        have Hbg := Lib.hid hbg
        clear hbg
        go_enter Try.func13, Try.ntmps13
        go_wp2_with fail
        refine Hd1.out.mono ?_
        rintro e V ⟨rfl, hb1⟩
        have Hb1 := Lib.hid hb1
        clear c0 c1 c2 f0 f1 f2 r0 r1 r2 k0 k1 k2 hW'
        obtain ⟨c0, c1, c2, f0, f1, f2, ltV⟩ := HB'.out.up hb1 lt
        obtain ⟨r0, r1, r2, k0, k1, k2, ltRV⟩ := HR'.out.up hb1 ltR
        clear hb1
        go_wp2_with fail
        refine bodyPost_ret (v := .tuple #[.agg #[.slice A l.hs.length ac, .bool l.ex, .slice Q l.q.length qc], .bool false, .int .i64 1]) (by simp [results, Try.results13, go_sem, r0, r1, r2]) rfl ?_
        have hb0 := Hbb.out
        rw [Hbg.out] at hb0 ⊢
        obtain rfl : bb = false := by simpa using hb0
        exact Hsame.out V Hb1.out 1
    have hbg : askM l who ex = (if l.hs.contains who = true ∨ inW l.q who = true then (l, [], 4) else if 64 ≤ l.hs.length + l.q.length then (l, [], 7) else ((enterL { l with q := l.q ++ [⟨who, ex⟩] }).1, (enterL { l with q := l.q ++ [⟨who, ex⟩] }).2, 0)) := by
      rw [askM, if_neg (by rintro (h | h | h) <;> first | omega | (rw [← Hrt.out] at h; cases h))]
    obtain ⟨i1, hi1⟩ : ∃ i, i = l.hs.contains who := ⟨_, rfl⟩
    obtain ⟨i2, hi2⟩ : ∃ i, i = inW l.q who := ⟨_, rfl⟩
    rw [← hi1, ← hi2] at hbg
    have Hbg := Lib.hid hbg; have Hi1 := Lib.hid hi1; have Hi2 := Lib.hid hi2
    clear hbg hi1 hi2
    go_enter Try.func13, Try.ntmps13
    go_wp2_with fail
    refine Hd1.out.mono ?_
    rintro e V ⟨rfl, hb1⟩
    have Hb1 := Lib.hid hb1
    clear c0 c1 c2 f0 f1 f2 r0 r1 r2 k0 k1 k2 hW'
    obtain ⟨c0, c1, c2, f0, f1, f2, ltV⟩ := HB'.out.up hb1 lt
    clear hb1
    have d3 := contains_any V A ac l.hs who (by omega) (HmW'.out.c.up Hb1.out)
    rw [← Hi1.out] at d3
    have Hd3 := Lib.hid d3
    clear d3
    go_wp2_with fail
    refine Hd3.out.mono ?_
    clear Hd3
    rintro e V3 ⟨rfl, hb3⟩
    have Hb3 := Lib.hid (Hb1.out.trans (hb3.mono Hb1.out.size))
    clear c0 c1 c2 f0 f1 f2 ltV hb3
    obtain ⟨c0, c1, c2, f0, f1, f2, ltV⟩ := HB'.out.up Hb3.out lt
    obtain ⟨r0, r1, r2, k0, k1, k2, ltRV⟩ := HR'.out.up Hb3.out ltR
    cases i1 with
    | true =>
      go_wp2_with fail
      refine bodyPost_ret (v := .tuple #[.agg #[.slice A l.hs.length ac, .bool l.ex, .slice Q l.q.length qc], .bool false, .int .i64 4]) (by simp [results, Try.results13, go_sem, r0, r1, r2]) rfl ?_
      have hb0 := Hbb.out
      rw [Hbg.out, if_pos (.inl (by first | rfl | trivial))] at hb0 ⊢
      obtain rfl : bb = false := by simpa using hb0
      exact Hsame.out V3 Hb3.out 4
    | false =>
      have d4 := waits_any V3 Q qc l.q who (by omega) (HmW'.out.q.up Hb3.out)
      rw [← Hi2.out] at d4
      have Hd4 := Lib.hid d4
      clear d4
      go_wp2_with fail
      refine Hd4.out.mono ?_
      clear Hd4
      rintro e V4 ⟨rfl, hb4⟩
      have Hb4 := Lib.hid (Hb3.out.trans (hb4.mono Hb3.out.size))
      clear c0 c1 c2 f0 f1 f2 r0 r1 r2 k0 k1 k2 ltV ltRV hb4
      obtain ⟨c0, c1, c2, f0, f1, f2, ltV⟩ := HB'.out.up Hb4.out lt
      obtain ⟨r0, r1, r2, k0, k1, k2, ltRV⟩ := HR'.out.up Hb4.out ltR
      cases i2 with
      | true =>
        go_wp2_with fail
        refine bodyPost_ret (v := .tuple #[.agg #[.slice A l.hs.length ac, .bool l.ex, .slice Q l.q.length qc], .bool false, .int .i64 4]) (by simp [results, Try.results13, go_sem, r0, r1, r2]) rfl ?_
        have hb0 := Hbb.out
        rw [Hbg.out, if_pos (.inr (by first | rfl | trivial))] at hb0 ⊢
        obtain rfl : bb = false := by simpa using hb0
        exact Hsame.out V4 Hb4.out 4
      | false =>
        rw [if_neg (by simp)] at Hbg
        have ew : IntKind.i64.wrap ((l.hs.length : Int) + (l.q.length : Int)) = (l.hs.length : Int) + (l.q.length : Int) := IntWalk.i64_in _ (by omega)
        by_cases hful : (64 : Int) ≤ (l.hs.length : Int) + (l.q.length : Int)
        · have hful' : 64 ≤ l.hs.length + l.q.length := by omega
          rw [if_pos hful'] at Hbg
          clear hful'
          go_wp2_with fail
          refine bodyPost_ret (v := .tuple #[.agg #[.slice A l.hs.length ac, .bool l.ex, .slice Q l.q.length qc], .bool false, .int .i64 7]) (by simp [results, Try.results13, go_sem, r0, r1, r2]) rfl ?_
          have hb0 := Hbb.out
          rw [Hbg.out] at hb0 ⊢
          obtain rfl : bb = false := by simpa using hb0
          exact Hsame.out V4 Hb4.out 7
        · rw [if_neg (by omega)] at Hbg
          obtain ⟨i0, hi0, hz0, hz1, hz2⟩ := info_parts Try.infoWt
          go_wp2_with fail
          refine (clone_Wt V4 Q qc l.q (by omega) wt_len wt_one (HmW'.out.q.up Hb4.out)).mono ?_
          rintro e V5 ⟨A5, c5, rfl, ho5, hb5⟩
          have Ho5 := Lib.hid ho5
          have Hb45 := Lib.hid hb5
          have hs5 := hb5.size
          clear c0 c1 c2 f0 f1 f2 r0 r1 r2 k0 k1 k2 ho5 hb5
          have HB5 := Lib.hid (HB'.out.up (Hb4.out.trans (Hb45.out.mono Hb4.out.size)) lt)
          have HR5 := Lib.hid (HR'.out.up (Hb4.out.trans (Hb45.out.mono Hb4.out.size)) ltR)
          go_wp2_with (at_builtin; refine list_app rfl (.tmp 44) (.tmp 48) 23 rfl V4.heap.size 58 i0 (.agg #[.int .i64 0, .bool false]) 2 16 Try.underlying23 hi0 hz0 hz1 hz2 rfl (by decide) rfl (Ho5.out.alloc (.cells #[.int .i64 who, .bool ex] 58)) (m := 1) (news := Wt.cells ⟨who, ex⟩) rfl rfl (by simp) (new_src (cs := (Wt.cells ⟨who, ex⟩).toArray) (by simp)) (wt_one ⟨who, ex⟩) ?_ ?_ ?_ ?_)
          · unfold maxLen; omega
          · omega
          · first | omega | (simp; omega)
          intro v' w6 ho6 hg6 hv6
          obtain ⟨Wf, hWf⟩ : ∃ Wf, Wf = V5.alloc (.cells #[.int .i64 who, .bool ex] 58) := ⟨_, rfl⟩
          rw [← hWf] at hg6
          have hsF : Wf.heap.size = V5.heap.size + 1 := by rw [hWf]; simp
          have hbF : Below V5.heap.size V5 Wf := by rw [hWf]; exact (Below.refl _ _).alloc (Nat.le_refl _) _
          have hV4N : w.heap.size + 2 ≤ V4.heap.size := by have := Hb4.out.size; omega
          have h6 : ∀ g, g < V4.heap.size → w6.heap[g]? = V5.heap[g]? := fun g h => (hg6.block g (by omega) (fun e => by have := (Ho5.out.lt _ e.symm).1; omega)).trans (hbF.block g (by omega))
          have hb46 : Below V4.heap.size V4 w6 := (Hb45.out.trans (hbF.mono hs5)).grown hg6 (by omega) (fun q hq => by have := (Ho5.out.lt q hq).1; omega)
          obtain ⟨A6, c6, rfl, _, _⟩ := own_slice ho6
          have hs6 := hg6.size
          have HB6 := Lib.hid (HB5.out.keep (h6 w.heap.size (by omega)))
          have HR6 := Lib.hid (HR5.out.keep (h6 (w.heap.size + 1) (by omega)))
          have Hb46 := Lib.hid hb46
          have Ho6 := Lib.hid ho6
          have hs46 : V4.heap.size ≤ w6.heap.size := by omega
          obtain ⟨c0, c1, c2, f0, f1, f2, lt6⟩ := HB6.out
          clear hWf hg6 hv6 hsF hbF h6 hb46 ho6 hs6 ltV ltRV
          go_upto_region 8 with fail
          obtain ⟨W7, hW7⟩ : ∃ W7, W7 = w6.setCell ⟨w.heap.size, 2, none⟩ (.slice A6 (l.q.length + 1) c6) := ⟨_, rfl⟩
          have h7 : ∀ g, g ≠ w.heap.size → W7.heap[g]? = w6.heap[g]? := fun g h => by rw [hW7]; exact Below.heap_setCell w6 ⟨w.heap.size, 2, none⟩ _ g h
          have hs7 : W7.heap.size = w6.heap.size := by rw [hW7]; simp
          have hB7 : LB w.heap.size { l with q := l.q ++ [⟨who, ex⟩] } A ac A6 c6 W7 := by
            rw [hW7]
            have := HB6.out.set2 (l.q ++ [⟨who, ex⟩]) A6 c6
            simpa using this
          have hR7 := HR6.out.keep (h7 (w.heap.size + 1) (by omega))
          have hr6 := Rd'.of_own (f := Wt.cells) (l := l.q ++ [⟨who, ex⟩]) (n := l.q.length + 1) (by have := Ho6.out; rw [List.flatMap_append]; simpa using this) wt_len (by decide)
          obtain ⟨hc1, hc2⟩ := own_cap Ho6.out
          have hm7 : LM W7 (fun b => ok b ∨ (V4.heap.size ≤ b ∧ b < w6.heap.size)) { l with q := l.q ++ [⟨who, ex⟩] } A ac A6 c6 := by
            have hm6 := (HmW.out.below Hb4.out (fun b hb => by have := Hok.out b hb; omega)).below Hb46.out (fun b hb => by have := Hok.out b hb; omega)
            refine ⟨(hm6.rc.keep fun b hb => h7 b (by have := Hok.out b hb; omega)).imp fun b hb => .inl hb, (hr6.keep fun b hb => h7 b (by omega)).imp fun b hb => .inr hb, hm6.ca, hm6.ca2, by simpa using hc1, hc2⟩
          have hbw7 : Below w.heap.size w W7 := by
            rw [hW7]
            exact (HbW.out.trans ((Hb4.out.mono (by omega)).trans (Hb46.out.mono (by omega)))).setCell (p := ⟨w.heap.size, 2, none⟩) (Nat.le_refl _) _
          have d8 := enter_any W7 (fun b => ok b ∨ (V4.heap.size ≤ b ∧ b < w6.heap.size)) A A6 ac c6 { l with q := l.q ++ [⟨who, ex⟩] } (show Rising l.hs from right_rising Hrt.out.symm) (by simp; omega) (fun b hb => by
            rcases hb with h | h
            · have := Hok.out b h; omega
            · omega) hm7
          obtain ⟨r, ins, hr⟩ : ∃ r ins, enterL { l with q := l.q ++ [⟨who, ex⟩] } = (r, ins) := ⟨_, _, rfl⟩
          rw [hr] at d8
          simp only [List.length_append, List.length_cons, List.length_nil, Nat.zero_add] at d8
          rw [hr] at Hbg
          have Hil := Lib.hid (show ins.length ≤ 65 by have := enterL_ins hr; simp at this; omega)
          have Hd8 := Lib.hid d8
          have HB7 := Lib.hid hB7
          have HR7 := Lib.hid hR7
          have Hbw7 := Lib.hid hbw7
          rw [← hW7]
          clear hW7 h7 hB7 hR7 hr6 hc1 hc2 hm7 hbw7 d8 hr c0 c1 c2 f0 f1 f2
          obtain ⟨c0, c1, c2, f0, f1, f2, lt7⟩ := HB7.out
          simp only [List.length_append, List.length_cons, List.length_nil, Nat.zero_add] at c0 c1 c2
          go_wp2_with fail
          refine Hd8.out.mono ?_
          clear Hd8 c0 c1 c2 f0 f1 f2
          rintro e V8 ⟨A8, ac8, Q8, qc8, I8, ic8, rfl, hm8, hi8, hb8⟩
          have Hm8 := Lib.hid hm8
          have Hi8 := Lib.hid hi8
          have Hb8 := Lib.hid hb8
          have hs8 := hb8.size
          have HB8 := Lib.hid (HB7.out.up hb8 (by omega))
          have HR8 := Lib.hid (HR7.out.up hb8 (by omega))
          clear hm8 hi8 hb8
          simp only
          obtain ⟨c0, c1, c2, f0, f1, f2, lt8⟩ := HB8.out
          go_upto_region 9 with fail
          obtain ⟨W9, hW9⟩ : ∃ W9, W9 = fill3 V8 w.heap.size r A8 ac8 Q8 qc8 := ⟨_, rfl⟩
          have hB9 : LB w.heap.size r A8 ac8 Q8 qc8 W9 := by rw [hW9]; exact HB8.out.fill
          have hk9 : ∀ g, g ≠ w.heap.size → W9.heap[g]? = V8.heap[g]? := fun g h => by rw [hW9]; exact fill3_keep h
          have hs9 : W9.heap.size = V8.heap.size := by rw [hW9]; exact fill3_size
          have hb9 : Below w.heap.size w W9 := by rw [hW9]; exact fill3_below (Hbw7.out.trans (Hb8.out.mono (by omega))) (Nat.le_refl _)
          have hR9 := HR8.out.keep (hk9 (w.heap.size + 1) (by omega))
          have hm9 := Hm8.out.keep (w' := W9) fun b hb => hk9 b (by
            rcases hb with (h | h) | h
            · have := Hok.out b h; omega
            · omega
            · omega)
          have hi9 := (Hi8.out.keep (w' := W9) fun b hb => hk9 b (by omega)).to (B := W9.heap.size) fun b hb => by omega
          rw [fill3] at hW9
          rw [← hW9]
          have HB9 := Lib.hid hB9
          have HR9 := Lib.hid hR9
          have Hm9 := Lib.hid hm9
          have Hi9 := Lib.hid hi9
          have Hb9 := Lib.hid hb9
          clear hW9 hB9 hk9 hb9 hR9 hm9 hi9 c0 c1 c2 f0 f1 f2 lt8
          refine wp_region_C (fun U => LB w.heap.size r A8 ac8 Q8 qc8 U) (by kernel_rfl) rfl rfl ?_
          obtain ⟨U0, hU0⟩ : ∃ U0, U0 = W9.drew := ⟨_, rfl⟩
          have hbU0 : Below W9.heap.size W9 U0 := by rw [hU0]; exact (Below.refl _ _).drew
          have hsU0 : U0.heap.size = W9.heap.size := by rw [hU0]; rfl
          rw [← hU0]
          have HU0 := Lib.hid (HB9.out.up hbU0 (by omega))
          have HbU0 := Lib.hid hbU0
          clear hU0 hbU0
          (refine takeC (i := 0) (.agg #[.slice A8 r.hs.length ac8, .bool r.ex, .slice Q8 r.q.length qc8]) rfl (by kernel_rfl) (by kernel_rfl) (by kernel_rfl) rfl (fun _ _ _ h => h) HU0.out rfl (fun U hU => by obtain ⟨c0, c1, c2, _, _, _, _⟩ := hU; go_simp) (fun K hK => ?_); have HK := Lib.hid hK; clear hK; go_simp; refine HK.out _ ?_; clear HK K)
          (refine takeC (i := 1) (.slice I8 ins.length ic8) rfl (by kernel_rfl) (by kernel_rfl) (by kernel_rfl) rfl (fun _ _ _ h => h) HU0.out rfl (fun U hU => by obtain ⟨c0, c1, c2, _, _, _, _⟩ := hU; go_simp) (fun K hK => ?_); have HK := Lib.hid hK; clear hK; go_simp; refine HK.out _ ?_; clear HK K)
          (refine takeC (i := 2) (.int .i64 who) rfl (by kernel_rfl) (by kernel_rfl) (by kernel_rfl) rfl (fun _ _ _ h => h) HU0.out rfl (fun U hU => by obtain ⟨c0, c1, c2, _, _, _, _⟩ := hU; go_simp) (fun K hK => ?_); have HK := Lib.hid hK; clear hK; go_simp; refine HK.out _ ?_; clear HK K)
          refine oneC (i := 3) (by kernel_rfl) rfl rfl rfl (fun K hK => ?_)
          have HK := Lib.hid hK; clear hK; go_simp
          have d9 := contains_any U0 I8 ic8 ins who (by have := Hil.out; omega) (Hi9.out.up HbU0.out)
          rw [show ins.contains who = bb from by have := Hbb.out; rw [Hbg.out] at this; exact this.symm] at d9
          refine d9.mono ?_
          clear d9
          rintro e U1 ⟨rfl, hbU1⟩
          have HU1 := Lib.hid (HU0.out.up hbU1 (by omega))
          have HbU1 := Lib.hid (HbU0.out.trans (hbU1.mono (by omega)))
          have HR1 := Lib.hid (HR9.out.up HbU1.out (by omega))
          have hsU1 : W9.heap.size ≤ U1.heap.size := HbU1.out.size
          clear hbU1
          refine HK.out _ _ HU1.out ?_
          clear HK K
          obtain ⟨r0, r1, r2, k0, k1, k2, ltR1⟩ := HR1.out
          refine oneC (i := 4) (by kernel_rfl) rfl rfl rfl (fun K hK => ?_)
          have HK := Lib.hid hK; clear hK; go_simp
          obtain ⟨U2, hU2⟩ : ∃ U2, U2 = fill3 U1 (w.heap.size + 1) r A8 ac8 Q8 qc8 := ⟨_, rfl⟩
          have hB2 : LB w.heap.size r A8 ac8 Q8 qc8 U2 := by rw [hU2]; exact HU1.out.keep (fill3_keep (by omega))
          have hR2 : LB (w.heap.size + 1) r A8 ac8 Q8 qc8 U2 := by rw [hU2]; exact HR1.out.lb.fill
          have hm2 := (Hm9.out.keep (w' := U1) fun b hb => HbU1.out.block b (by
            rcases hb with (h | h) | h
            · have := Hok.out b h; omega
            · omega
            · omega)).keep (w' := U2) fun b hb => by
              rw [hU2]
              refine fill3_keep ?_
              rcases hb with (h | h) | h
              · have := Hok.out b h; omega
              · omega
              · omega
          have hs2 : U2.heap.size = U1.heap.size := by rw [hU2]; exact fill3_size
          have hb2 : Below w.heap.size w U2 := by rw [hU2]; exact fill3_below (Hb9.out.trans (HbU1.out.mono (by omega))) (by omega)
          rw [fill3] at hU2
          rw [← hU2]
          have HB2 := Lib.hid hB2
          have HR2 := Lib.hid hR2
          have Hm2 := Lib.hid hm2
          have Hb2 := Lib.hid hb2
          clear hU2 hB2 hR2 hm2 hb2 r0 r1 r2 k0 k1 k2 ltR1
          refine HK.out _ _ HB2.out ?_
          clear HK K
          (refine oneC (i := 5) (by kernel_rfl) rfl rfl rfl (fun K hK => ?_); have HK := Lib.hid hK; clear hK; go_simp; refine HK.out _ _ HB2.out ?_; clear HK K)
          (refine oneC (i := 6) (by kernel_rfl) rfl rfl rfl (fun K hK => ?_); have HK := Lib.hid hK; clear hK; go_simp; refine HK.out _ _ HB2.out ?_; clear HK K)
          refine doneC (by kernel_rfl) ?_
          obtain ⟨r0, r1, r2, k0, k1, k2, ltR1⟩ := HR2.out
          go_wp2_with fail
          refine bodyPost_ret (v := .tuple #[.agg #[.slice A8 r.hs.length ac8, .bool r.ex, .slice Q8 r.q.length qc8], .bool bb, .int .i64 0]) (by simp [results, Try.results13, go_sem, r0, r1, r2]) rfl ?_
          rw [Hbg.out]
          refine ⟨A8, ac8, Q8, qc8, rfl, Hm2.out.imp fun b hb => ?_, Hb2.out⟩
          rcases hb with (h | h) | h
          · exact .inl h
          · exact .inr (by omega)
          · exact .inr (by omega)
end Go.Proofs.Ytigffndobddflaa
