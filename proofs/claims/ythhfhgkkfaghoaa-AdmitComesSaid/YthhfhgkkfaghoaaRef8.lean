/- The contract of lockkeeperref11.let. -/
import Derived.Test.YthhfhgkkfaghoaaRef7
import Derived.Test.YthhfhgkkfaghoaaRegF
namespace Go.Proofs.Ythhfhgkkfaghoaa
open Go.RowKit

/-- what let has done so far -/
structure LetR (w : World) (ok : Nat → Prop) (x0 : Hall) (wr : World) (cs : List C) (q : List T) (ins : List Int) (A : Option Addr) (ac : Nat) (Q : Option Addr) (qc : Nat) (I : Option Addr) (ic : Nat) : Prop where
  hb : HB w.heap.size ⟨x0.frames, x0.budget, cs, q⟩ A ac Q qc wr
  res : ZB (w.heap.size + 1) wr
  hm : HM wr (fun b => (ok b ∨ (w.heap.size + 2 ≤ b ∧ b < wr.heap.size)) ∧ (Value.slice I ins.length ic).ownBlock ≠ some b) ⟨x0.frames, x0.budget, cs, q⟩ A ac Q qc
  inr : wr.ownsRow (w.heap.size + 2) 3 1 (.slice I ins.length ic) ins.length (ins.flatMap icells)
  below : Below w.heap.size w wr
  size : w.heap.size + 2 ≤ wr.heap.size
  small : Hall.small ⟨x0.frames, x0.budget, cs, q⟩
  inl : ins.length + q.length = x0.q.length
  run : letIn x0.frames x0.cs x0.q = ((letIn x0.frames cs q).1, (letIn x0.frames cs q).2.1, ins ++ (letIn x0.frames cs q).2.2)
theorem own_heap {w w' : World} {base size n : Nat} {e : TypeId} {v : Value} {xs : List Value} (h : w.ownsRow base e size v n xs) (hk : ∀ g, v.ownBlock = some g → w'.heap[g]? = w.heap[g]?) : w'.ownsRow base e size v n xs := by
  refine ⟨h.1, ?_⟩
  rcases h.2 with hn | ⟨g, cap, cur, e1, e2, e3, r⟩
  · exact .inl hn
  · exact .inr ⟨g, cap, cur, e1, e2, by rw [hk g (by rw [e1]; rfl)]; exact e3, r⟩
theorem own_nil {v : Value} {b : Nat} (h : v.ownBlock = none) : v.ownBlock ≠ some b := by rw [h]; simp

set_option maxRecDepth 20000 in
set_option maxHeartbeats 4000000 in
theorem refLet_any (w : World) (ok : Nat → Prop) (A Q : Option Addr) (ac qc : Nat) (x : Hall) (hx : x.small) (hok : ∀ b, ok b → b < w.heap.size) (hm : HM w ok x A ac Q qc) :
    Calls Try.prog 35 #[.agg #[.int .i64 x.frames, .int .i64 x.budget, .slice A x.cs.length ac, .slice Q x.q.length qc]] w (EnterDone ok (enterM x) w) := by
  obtain ⟨W, hW, hbW, hsW, hB, hZ⟩ := hall_box2 w A Q ac qc x 29
  have HB' := Lib.hid hB
  have HZ := Lib.hid hZ
  have Hm := Lib.hid (hm.below hbW hok)
  have HbW := Lib.hid hbW
  have Hx := Lib.hid hx
  have hxq : x.q.length ≤ 41 := by have := hx.len; omega
  have Hok := Lib.hid hok
  have HW := Lib.hid hW.symm
  have HsW := Lib.hid hsW
  obtain ⟨j0, hj0, hy0, hy1, hy2⟩ := info_parts Try.infoInt
  obtain ⟨i0, hi0, hz0, hz1, hz2⟩ := info_parts Try.infoRef
  clear hW hZ hm hbW hok hx hB hsW
  go_enter Try.func35, Try.ntmps35
  go_wp2_with fail
  rw [HW.out]
  go_loopg [4] x.q.length (fun g iv wr => ∃ (cs : List C) (q : List T) (ins : List Int) (A : Option Addr) (ac : Nat) (Q : Option Addr) (qc : Nat) (I : Option Addr) (ic : Nat), g = q.length ∧ iv = .slice I ins.length ic ∧ LetR w ok x wr cs q ins A ac Q qc I ic)
  case atStart => exact ⟨x.cs, x.q, [], A, ac, Q, qc, none, 0, rfl, rfl, HB'.out, HZ.out, Hm.out.imp fun b h => ⟨.inl h, own_nil rfl⟩, World.ownsRow_nil _ _ _ _, HbW.out, by have := HsW.out; omega, Hx.out, by simp, by simp⟩
  case round =>
    obtain ⟨cs, q, ins, A, ac, Q, qc, I, ic, hg, rfl, hE⟩ := hrel
    have HE := Lib.hid hE
    have Hg := Lib.hid hg
    obtain ⟨c0, c1, c2, c3, f0, f1, f2, f3, lt⟩ := hE.hb
    have hsr := hE.size
    simp only at c0 c1 c2 c3
    have hmw := hE.hm.imp (ok' := fun b => b < wr.heap.size) fun b hb => by
      rcases hb.1 with h | h
      · have := Hok.out b h; omega
      · exact h.2
    have d2 := refMay_any wr A Q ac qc ⟨x.frames, x.budget, cs, q⟩ hE.small hmw.c hmw.q
    obtain ⟨op, hop⟩ : ∃ op, op = openQ x.frames cs q := ⟨_, rfl⟩
    have d2' : Calls Try.prog 42 #[.agg #[.int .i64 x.frames, .int .i64 x.budget, .slice A cs.length ac, .slice Q q.length qc]] wr fun e w' => e = .returned (.bool op) ∧ Below wr.heap.size wr w' := by rw [hop]; exact d2
    have Hd2 := Lib.hid d2'
    have Hop := Lib.hid hop
    clear d2 d2' hop hE hg hmw
    go_wp2_with fail
    refine Hd2.out.mono ?_
    clear Hd2
    rintro e V2 ⟨rfl, hb2⟩
    have Hb2 := Lib.hid hb2
    have hs2 := hb2.size
    have HB2 := Lib.hid (HE.out.hb.up hb2 (by omega))
    clear c0 c1 c2 c3 f0 f1 f2 f3 lt hb2
    obtain ⟨c0, c1, c2, c3, f0, f1, f2, f3, lt⟩ := HB2.out
    simp only at c0 c1 c2 c3
    have HZ2 := Lib.hid (HE.out.res.up Hb2.out (by omega))
    cases op with
    | false =>
      obtain ⟨e0, e1, e2, e3, k0, k1, k2, k3, hlt1⟩ := HZ2.out
      go_wp2_with fail
      have HF := HZ2.out.hb.fill (r := ⟨x.frames, x.budget, cs, q⟩) (A' := A) (ac' := ac) (Q' := Q) (qc' := qc)
      unfold fill4 at HF
      obtain ⟨y0, y1, y2, y3, _, _, _, _, _⟩ := HF
      simp only at y0 y1 y2 y3
      refine bodyPost_ret (v := .tuple #[.agg #[.int .i64 x.frames, .int .i64 x.budget, .slice A cs.length ac, .slice Q q.length qc], .slice I ins.length ic]) (by simp [results, Try.results35, go_sem, y0, y1, y2, y3]) rfl ?_
      have hrun := HE.out.run
      rw [letIn_shut Hop.out] at hrun
      simp only [List.append_nil] at hrun
      have hent : enterM x = (⟨x.frames, x.budget, cs, q⟩, ins) := by rw [enterM, hrun]
      rw [hent]
      have hkk : ∀ g, g ≠ w.heap.size + 1 → (fill4 V2 (w.heap.size + 1) ⟨x.frames, x.budget, cs, q⟩ A ac Q qc).heap[g]? = V2.heap[g]? := fun g h => fill4_keep h
      have hzz : (fill4 V2 (w.heap.size + 1) ⟨x.frames, x.budget, cs, q⟩ A ac Q qc).heap.size = V2.heap.size := fill4_size
      have hfin : EnterDone ok (⟨x.frames, x.budget, cs, q⟩, ins) w (.returned (.tuple #[.agg #[.int .i64 x.frames, .int .i64 x.budget, .slice A cs.length ac, .slice Q q.length qc], .slice I ins.length ic])) (fill4 V2 (w.heap.size + 1) ⟨x.frames, x.budget, cs, q⟩ A ac Q qc) := by
        refine ⟨A, ac, Q, qc, I, ic, rfl, ((HE.out.hm.keep (w' := V2) fun d hd => Hb2.out.block d (by rcases hd.1 with h | h; have := Hok.out d h; omega; omega)).keep fun d hd => hkk d (by rcases hd.1 with h | h; have := Hok.out d h; omega; omega)).imp fun d hd => ?_, ((Rd'.of_own (own_up HE.out.inr Hb2.out) (fun _ => rfl) (by decide)).keep (fun b hb => hkk b (by omega))).imp fun b hb => ⟨by omega, by omega⟩, fill4_below (HE.out.below.trans (Hb2.out.mono (by omega))) (by omega)⟩
        rcases hd.1 with h | h
        · exact .inl h
        · exact .inr ⟨by omega, by omega⟩
      unfold fill4 at hfin
      exact hfin
    | true =>
      cases q with
      | nil => have := Hop.out; simp [openQ] at this
      | cons t q =>
      obtain ⟨b, off, rfl, hbb, hcell⟩ := HE.out.hm.rq (by simp)
      have hbr : b < wr.heap.size := by
        rcases hbb.1 with h | h
        · have := Hok.out b h; omega
        · exact h.2
      have hbN : b ≠ w.heap.size := by
        rcases hbb.1 with h | h
        · have := Hok.out b h; omega
        · omega
      have g0 := (Hb2.out.cell (p := ⟨b, off, none⟩) hbr).trans (hcell 0 t rfl 0 _ rfl)
      have g1 := (Hb2.out.cell (p := ⟨b, off + 1, none⟩) hbr).trans (hcell 0 t rfl 1 _ rfl)
      have Hbb := Lib.hid hbb
      have hq1 : (1 : Int) ≤ ((q.length + 1 : Nat) : Int) := by omega
      have hq2' : (1 : Int) ≤ (q.length : Int) + 1 := by omega
      clear hcell hbb
      simp only [List.length_cons] at c3
      have hqa := HE.out.hm.qa; have hqa2 := HE.out.hm.qa2
      simp only [List.length_cons] at hqa
      have hq2 : (1 : Int) ≤ (qc : Int) := by omega
      have hlen := HE.out.small.len
      simp only [List.length_cons] at hlen
      have hilen := HE.out.inl
      simp only [List.length_cons] at hilen
      have hrc : Rd C.cells 3 V2 V2.heap.size A cs := (HE.out.hm.rc.keep (w' := V2) fun d hd => Hb2.out.block d (by rcases hd.1 with h | h; have := Hok.out d h; omega; omega)).to fun d hd => by rcases hd.1 with h | h; have := Hok.out d h; omega; omega
      have HoI := Lib.hid (show ∀ g, (Value.slice I ins.length ic).ownBlock = some g → w.heap.size + 2 ≤ g ∧ g < V2.heap.size from fun g hg => by have := HE.out.inr.lt g hg; omega)
      have Hsrc := Lib.hid (hrc.srcs c_len); have Hnone := Lib.hid hrc.none_len; have Hl3 := Lib.hid (flat_len c_len cs)
      have Hi2 := Lib.hid (own_up HE.out.inr Hb2.out)
      clear hrc
      go_wp2_with (at_builtin; refine list_app rfl (.tmp 8) (.tmp 10) 26 rfl V2.heap.size 65 i0 (.agg #[.int .i64 0, .int .i64 0, .int .i64 0]) 3 24 Try.underlying26 hi0 hz0 hz1 hz2 rfl (by decide) rfl (World.ownsRow_nil _ _ _ _) (m := cs.length) (news := cs.flatMap C.cells) rfl Hl3.out Hnone.out Hsrc.out (flat_one c_one cs) ?_ ?_ (Nat.le_refl _) ?_)
      · unfold maxLen; omega
      · omega
      intro v4 w4 ho4 hg4 hv4
      obtain ⟨A4, c4, rfl, _, _⟩ := own_slice ho4
      try simp only [Nat.zero_add, List.nil_append] at ho4
      try simp only [Nat.zero_add, List.nil_append] at hv4
      try simp only [Nat.zero_add, List.nil_append]
      have hk4 : ∀ g, g < V2.heap.size → w4.heap[g]? = V2.heap[g]? := fun g h => hg4.block g h (by simp [Value.ownBlock])
      have hs4 := hg4.size
      have HoL := Lib.hid (show ∀ g, (Value.slice A4 cs.length c4).ownBlock = some g → g = V2.heap.size ∧ g < w4.heap.size from fun g hg => by
        refine ⟨?_, (ho4.lt g hg).2⟩
        rcases hv4 with h | h
        · rw [h] at hg; simp [Value.ownBlock] at hg
        · rw [h] at hg; injection hg with hg; exact hg.symm)
      have HB4 := Lib.hid (HB2.out.keep (hk4 _ lt))
      have HZ4 := Lib.hid (HZ2.out.keep (hk4 (w.heap.size + 1) (by omega)))
      have hg0 : w4.cell? ⟨b, off, none⟩ = some (.int .i64 t.who) := (World.cell?_of_block (a := ⟨b, off, none⟩) (hk4 b (by omega))).trans g0
      have hg1 : w4.cell? ⟨b, off + 1, none⟩ = some (.int .i64 t.claim) := (World.cell?_of_block (a := ⟨b, off + 1, none⟩) (hk4 b (by omega))).trans g1
      have Ho4 := Lib.hid ho4
      have Hi4 := Lib.hid (own_heap Hi2.out (w' := w4) fun g hg => hk4 g (by have := HoI.out g hg; omega))
      have Hbw4 := Lib.hid ((HE.out.below.trans (Hb2.out.mono (by omega))).grown hg4 (by omega) (fun d hd => by simp [Value.ownBlock] at hd))
      have hrq4 := (HE.out.hm.rq.keep (w' := V2) fun d hd => Hb2.out.block d (by rcases hd.1 with h | h; have := Hok.out d h; omega; omega)).keep (w' := w4) fun d hd => hk4 d (by rcases hd.1 with h | h; have := Hok.out d h; omega; omega)
      have Hrq4 := Lib.hid hrq4
      have hbw4 : b < w4.heap.size := by omega
      clear c0 c1 c2 c3 f0 f1 f2 f3 lt g0 g1 ho4 hg4 hv4 hk4 hrq4
      obtain ⟨c0, c1, c2, c3, f0, f1, f2, f3, lt⟩ := HB4.out
      simp only [List.length_cons] at c0 c1 c2 c3
      obtain ⟨X4, hX4⟩ : ∃ X4, X4 = w4.alloc (.cells #[.int .i64 t.who] 3) := ⟨_, rfl⟩
      have hbX4 : Below w4.heap.size w4 X4 := by rw [hX4]; exact (Below.refl _ _).alloc (Nat.le_refl _) _
      have hsX4 : X4.heap.size = w4.heap.size + 1 := by rw [hX4]; simp
      have HbX4 := Lib.hid hbX4; have HsX4 := Lib.hid hsX4; have HX4 := Lib.hid hX4
      clear hX4 hbX4 hsX4
      go_wp2_with (at_builtin; refine list_app rfl (.tmp 12) (.tmp 18) 36 rfl (w.heap.size + 2) 3 j0 (.int .i64 0) 1 8 Try.underlying36 hj0 hy0 hy1 hy2 rfl (by decide) rfl (Hi4.out.alloc (.cells #[.int .i64 t.who] 3)) (m := 1) (news := icells t.who) rfl rfl (by simp) (new_src (cs := (icells t.who).toArray) (by simp)) (fun u hu => by simp [icells] at hu; subst hu; rfl) ?_ ?_ ?_ ?_)
      · unfold maxLen; omega
      · omega
      · first | omega | (simp; omega)
      intro v5 w5 ho5 hg5 hv5
      rw [← HX4.out] at hg5
      obtain ⟨I5, c5, rfl, _, _⟩ := own_slice ho5
      have hs5 := hg5.size
      have hsx := HsX4.out
      have h5 : ∀ g, g < w4.heap.size → (Value.slice I ins.length ic).ownBlock ≠ some g → w5.heap[g]? = w4.heap[g]? := fun g h1 h2 => (hg5.block g (by omega) (fun e => h2 e.symm)).trans (HbX4.out.block g h1)
      have hneI : ∀ g, g < w.heap.size + 2 ∨ V2.heap.size ≤ g → (Value.slice I ins.length ic).ownBlock ≠ some g := fun g hg e => by have := HoI.out g e; omega
      have HB5 := Lib.hid (HB4.out.keep (h5 _ lt (hneI _ (by omega))))
      have HZ5 := Lib.hid (HZ4.out.keep (h5 (w.heap.size + 1) (by omega) (hneI _ (by omega))))
      have Hg0 := Lib.hid ((World.cell?_of_block (a := ⟨b, off, none⟩) (h5 b (by omega) Hbb.out.2)).trans hg0)
      have Hg1 := Lib.hid ((World.cell?_of_block (a := ⟨b, off + 1, none⟩) (h5 b (by omega) Hbb.out.2)).trans hg1)
      have Ho5L := Lib.hid (own_heap Ho4.out (w' := w5) fun g hg => h5 g (HoL.out g hg).2 (hneI _ (by have := (HoL.out g hg).1; omega)))
      have HoI5 := Lib.hid (show ∀ g, (Value.slice I5 (ins.length + 1) c5).ownBlock = some g → ((Value.slice I ins.length ic).ownBlock = some g ∨ g = w4.heap.size + 1) ∧ w.heap.size + 2 ≤ g ∧ g < w5.heap.size from fun g hg => by
        refine ⟨?_, ho5.lt g hg⟩
        rcases hv5 with h | h
        · rw [h] at hg; exact .inl hg
        · rw [h] at hg; injection hg with hg; exact .inr (by first | omega | (simp at hg; omega)))
      have Hrq5 := Lib.hid (Hrq4.out.keep (w' := w5) fun d hd => h5 d (by rcases hd.1 with h | h; have := Hok.out d h; omega; omega) hd.2)
      have Hbw5 := Lib.hid (((Hbw4.out.trans (HbX4.out.mono (by omega)))).grown hg5 (by omega) (fun d hd => by have := HoI.out d hd; omega))
      have Hi5 := Lib.hid (show w5.ownsRow (w.heap.size + 2) 3 1 (.slice I5 (ins.length + 1) c5) (ins.length + 1) ((ins ++ [t.who]).flatMap icells) by rw [List.flatMap_append]; simpa [icells] using ho5)
      have hbw5 : b < w5.heap.size := by omega
      have hNw5 : w.heap.size < w5.heap.size := by omega
      clear c0 c1 c2 c3 f0 f1 f2 f3 lt hg0 hg1 ho5 hg5 hv5 h5 hneI
      go_upto_region 6 with fail
      obtain ⟨Z, hZ⟩ : ∃ Z, Z = V2.heap.size := ⟨_, rfl⟩
      have HZs := Lib.hid hZ
      have hbZ : b < Z := by omega
      have hNZ : w.heap.size + 2 ≤ Z := by omega
      have hZ5 : Z ≤ w5.heap.size := by omega
      have hC : ∀ U, Below Z w5 U → HB w.heap.size ⟨x.frames, x.budget, cs, t :: q⟩ A ac (some ⟨b, off, none⟩) qc U ∧ U.cell? ⟨b, off, none⟩ = some (.int .i64 t.who) ∧ U.cell? ⟨b, off + 1, none⟩ = some (.int .i64 t.claim) := fun U hU => ⟨HB5.out.up hU (by omega), (hU.cell (p := ⟨b, off, none⟩) hbZ).trans Hg0.out, (hU.cell (p := ⟨b, off + 1, none⟩) hbZ).trans Hg1.out⟩
      have HC0 := Lib.hid hC
      have hC2 : ∀ U, Below Z w5 U → (fun U => HB w.heap.size ⟨x.frames, x.budget, cs, t :: q⟩ A ac (some ⟨b, off, none⟩) qc U ∧ U.cell? ⟨b, off, none⟩ = some (.int .i64 t.who) ∧ U.cell? ⟨b, off + 1, none⟩ = some (.int .i64 t.claim)) U := hC
      have HC := Lib.hid hC2
      obtain ⟨Q', hQ'⟩ : ∃ Q' : Option Addr, (qc = 1 ∧ Q' = some ⟨b, off, none⟩) ∨ (qc ≠ 1 ∧ Q' = some ⟨b, off + 2, none⟩) := by
        by_cases h : qc = 1
        · exact ⟨_, .inl ⟨h, rfl⟩⟩
        · exact ⟨_, .inr ⟨h, rfl⟩⟩
      have HQ := Lib.hid hQ'
      refine wp_region_F 22 (fun U => HB w.heap.size ⟨x.frames, x.budget, cs, t :: q⟩ A ac (some ⟨b, off, none⟩) qc U ∧ U.cell? ⟨b, off, none⟩ = some (.int .i64 t.who) ∧ U.cell? ⟨b, off + 1, none⟩ = some (.int .i64 t.claim)) (by kernel_rfl) rfl rfl ?_
      obtain ⟨U0, hU0⟩ : ∃ U0, U0 = w5.drew := ⟨_, rfl⟩
      have hb0 : Below Z w5 U0 := by rw [hU0]; exact (Below.refl _ _).drew
      have hs0 : U0.heap.size = w5.heap.size := by rw [hU0]; rfl
      have ho0 := own_heap Ho5L.out (w' := U0) fun g hg => by rw [hU0]; rfl
      have Hs0 := Lib.hid hs0; have Hb0 := Lib.hid hb0; have Ho0 := Lib.hid ho0
      have Hk0 := Lib.hid (show ∀ g : Nat, U0.heap[g]? = w5.heap[g]? from fun g => by rw [hU0]; rfl)
      rw [← hU0]
      clear hU0 hs0 ho0 hb0 hC hC2 hQ' hZ hbw5 hNw5 hbw4
      (refine takeF (i := 0) (n := 23) (.pointer (some ⟨w.heap.size, 0, none⟩)) rfl (by kernel_rfl) (by kernel_rfl) (by kernel_rfl) (by kernel_rfl) (by kernel_rfl) rfl (fun _ _ _ h => h) (HC.out U0 Hb0.out) rfl (fun U hU => by obtain ⟨⟨k0, k1, k2, k3, _, _, _, _, _⟩, a0, a1⟩ := hU; go_simp) (fun K hK => ?_); have HK := Lib.hid hK; clear hK; go_simp; refine HK.out _ ?_; clear HK K)
      (refine takeF (i := 1) (n := 23) (.int .i64 x.frames) rfl (by kernel_rfl) (by kernel_rfl) (by kernel_rfl) (by kernel_rfl) (by kernel_rfl) rfl (fun _ _ _ h => h) (HC.out U0 Hb0.out) rfl (fun U hU => by obtain ⟨⟨k0, k1, k2, k3, _, _, _, _, _⟩, a0, a1⟩ := hU; go_simp) (fun K hK => ?_); have HK := Lib.hid hK; clear hK; go_simp; refine HK.out _ ?_; clear HK K)
      (refine takeF (i := 2) (n := 23) (.pointer (some ⟨w.heap.size, 1, none⟩)) rfl (by kernel_rfl) (by kernel_rfl) (by kernel_rfl) (by kernel_rfl) (by kernel_rfl) rfl (fun _ _ _ h => h) (HC.out U0 Hb0.out) rfl (fun U hU => by obtain ⟨⟨k0, k1, k2, k3, _, _, _, _, _⟩, a0, a1⟩ := hU; go_simp) (fun K hK => ?_); have HK := Lib.hid hK; clear hK; go_simp; refine HK.out _ ?_; clear HK K)
      (refine takeF (i := 3) (n := 23) (.int .i64 x.budget) rfl (by kernel_rfl) (by kernel_rfl) (by kernel_rfl) (by kernel_rfl) (by kernel_rfl) rfl (fun _ _ _ h => h) (HC.out U0 Hb0.out) rfl (fun U hU => by obtain ⟨⟨k0, k1, k2, k3, _, _, _, _, _⟩, a0, a1⟩ := hU; go_simp) (fun K hK => ?_); have HK := Lib.hid hK; clear hK; go_simp; refine HK.out _ ?_; clear HK K)
      (refine takeF (i := 4) (n := 23) (.slice A4 cs.length c4) rfl (by kernel_rfl) (by kernel_rfl) (by kernel_rfl) (by kernel_rfl) (by kernel_rfl) rfl (fun _ _ _ h => h) (HC.out U0 Hb0.out) rfl (fun U hU => by obtain ⟨⟨k0, k1, k2, k3, _, _, _, _, _⟩, a0, a1⟩ := hU; go_simp) (fun K hK => ?_); have HK := Lib.hid hK; clear hK; go_simp; refine HK.out _ ?_; clear HK K)
      (refine takeF (i := 5) (n := 23) (.pointer (some ⟨w.heap.size, 3, none⟩)) rfl (by kernel_rfl) (by kernel_rfl) (by kernel_rfl) (by kernel_rfl) (by kernel_rfl) rfl (fun _ _ _ h => h) (HC.out U0 Hb0.out) rfl (fun U hU => by obtain ⟨⟨k0, k1, k2, k3, _, _, _, _, _⟩, a0, a1⟩ := hU; go_simp) (fun K hK => ?_); have HK := Lib.hid hK; clear hK; go_simp; refine HK.out _ ?_; clear HK K)
      (refine takeF (i := 6) (n := 23) (.slice (some ⟨b, off, none⟩) (q.length + 1) qc) rfl (by kernel_rfl) (by kernel_rfl) (by kernel_rfl) (by kernel_rfl) (by kernel_rfl) rfl (fun _ _ _ h => h) (HC.out U0 Hb0.out) rfl (fun U hU => by obtain ⟨⟨k0, k1, k2, k3, _, _, _, _, _⟩, a0, a1⟩ := hU; go_simp) (fun K hK => ?_); have HK := Lib.hid hK; clear hK; go_simp; refine HK.out _ ?_; clear HK K)
      (refine takeF (i := 7) (n := 23) (.pointer (some ⟨b, off, none⟩)) rfl (by kernel_rfl) (by kernel_rfl) (by kernel_rfl) (by kernel_rfl) (by kernel_rfl) rfl (fun _ _ _ h => h) (HC.out U0 Hb0.out) rfl (fun U hU => by obtain ⟨⟨k0, k1, k2, k3, _, _, _, _, _⟩, a0, a1⟩ := hU; go_simp) (fun K hK => ?_); have HK := Lib.hid hK; clear hK; go_simp; refine HK.out _ ?_; clear HK K)
      (refine takeF (i := 8) (n := 23) (.pointer (some ⟨b, off, none⟩)) rfl (by kernel_rfl) (by kernel_rfl) (by kernel_rfl) (by kernel_rfl) (by kernel_rfl) rfl (fun _ _ _ h => h) (HC.out U0 Hb0.out) rfl (fun U hU => by obtain ⟨⟨k0, k1, k2, k3, _, _, _, _, _⟩, a0, a1⟩ := hU; go_simp) (fun K hK => ?_); have HK := Lib.hid hK; clear hK; go_simp; refine HK.out _ ?_; clear HK K)
      (refine takeF (i := 9) (n := 23) (.int .i64 t.who) rfl (by kernel_rfl) (by kernel_rfl) (by kernel_rfl) (by kernel_rfl) (by kernel_rfl) rfl (fun _ _ _ h => h) (HC.out U0 Hb0.out) rfl (fun U hU => by obtain ⟨⟨k0, k1, k2, k3, _, _, _, _, _⟩, a0, a1⟩ := hU; go_simp) (fun K hK => ?_); have HK := Lib.hid hK; clear hK; go_simp; refine HK.out _ ?_; clear HK K)
      (refine takeF (i := 10) (n := 23) (.pointer (some ⟨w.heap.size, 3, none⟩)) rfl (by kernel_rfl) (by kernel_rfl) (by kernel_rfl) (by kernel_rfl) (by kernel_rfl) rfl (fun _ _ _ h => h) (HC.out U0 Hb0.out) rfl (fun U hU => by obtain ⟨⟨k0, k1, k2, k3, _, _, _, _, _⟩, a0, a1⟩ := hU; go_simp) (fun K hK => ?_); have HK := Lib.hid hK; clear hK; go_simp; refine HK.out _ ?_; clear HK K)
      (refine takeF (i := 11) (n := 23) (.slice (some ⟨b, off, none⟩) (q.length + 1) qc) rfl (by kernel_rfl) (by kernel_rfl) (by kernel_rfl) (by kernel_rfl) (by kernel_rfl) rfl (fun _ _ _ h => h) (HC.out U0 Hb0.out) rfl (fun U hU => by obtain ⟨⟨k0, k1, k2, k3, _, _, _, _, _⟩, a0, a1⟩ := hU; go_simp) (fun K hK => ?_); have HK := Lib.hid hK; clear hK; go_simp; refine HK.out _ ?_; clear HK K)
      (refine takeF (i := 12) (n := 23) (.pointer (some ⟨b, off, none⟩)) rfl (by kernel_rfl) (by kernel_rfl) (by kernel_rfl) (by kernel_rfl) (by kernel_rfl) rfl (fun _ _ _ h => h) (HC.out U0 Hb0.out) rfl (fun U hU => by obtain ⟨⟨k0, k1, k2, k3, _, _, _, _, _⟩, a0, a1⟩ := hU; go_simp) (fun K hK => ?_); have HK := Lib.hid hK; clear hK; go_simp; refine HK.out _ ?_; clear HK K)
      (refine takeF (i := 13) (n := 23) (.pointer (some ⟨b, off + 1, none⟩)) rfl (by kernel_rfl) (by kernel_rfl) (by kernel_rfl) (by kernel_rfl) (by kernel_rfl) rfl (fun _ _ _ h => h) (HC.out U0 Hb0.out) rfl (fun U hU => by obtain ⟨⟨k0, k1, k2, k3, _, _, _, _, _⟩, a0, a1⟩ := hU; go_simp) (fun K hK => ?_); have HK := Lib.hid hK; clear hK; go_simp; refine HK.out _ ?_; clear HK K)
      (refine takeF (i := 14) (n := 23) (.int .i64 t.claim) rfl (by kernel_rfl) (by kernel_rfl) (by kernel_rfl) (by kernel_rfl) (by kernel_rfl) rfl (fun _ _ _ h => h) (HC.out U0 Hb0.out) rfl (fun U hU => by obtain ⟨⟨k0, k1, k2, k3, _, _, _, _, _⟩, a0, a1⟩ := hU; go_simp) (fun K hK => ?_); have HK := Lib.hid hK; clear hK; go_simp; refine HK.out _ ?_; clear HK K)
      (refine takeF (i := 15) (n := 23) (.agg #[.int .i64 t.who, .int .i64 t.claim, .int .i64 0]) rfl (by kernel_rfl) (by kernel_rfl) (by kernel_rfl) (by kernel_rfl) (by kernel_rfl) rfl (fun _ _ _ h => h) (HC.out U0 Hb0.out) rfl (fun U hU => by obtain ⟨⟨k0, k1, k2, k3, _, _, _, _, _⟩, a0, a1⟩ := hU; go_simp) (fun K hK => ?_); have HK := Lib.hid hK; clear hK; go_simp; refine HK.out _ ?_; clear HK K)
      (refine takeF (i := 18) (n := 23) (.pointer (some ⟨w.heap.size, 3, none⟩)) rfl (by kernel_rfl) (by kernel_rfl) (by kernel_rfl) (by kernel_rfl) (by kernel_rfl) rfl (fun _ _ _ h => h) (HC.out U0 Hb0.out) rfl (fun U hU => by obtain ⟨⟨k0, k1, k2, k3, _, _, _, _, _⟩, a0, a1⟩ := hU; go_simp) (fun K hK => ?_); have HK := Lib.hid hK; clear hK; go_simp; refine HK.out _ ?_; clear HK K)
      (refine takeF (i := 19) (n := 23) (.slice (some ⟨b, off, none⟩) (q.length + 1) qc) rfl (by kernel_rfl) (by kernel_rfl) (by kernel_rfl) (by kernel_rfl) (by kernel_rfl) rfl (fun _ _ _ h => h) (HC.out U0 Hb0.out) rfl (fun U hU => by obtain ⟨⟨k0, k1, k2, k3, _, _, _, _, _⟩, a0, a1⟩ := hU; go_simp) (fun K hK => ?_); have HK := Lib.hid hK; clear hK; go_simp; refine HK.out _ ?_; clear HK K)
      (refine takeF (i := 20) (n := 23) (.slice Q' q.length (qc - 1)) rfl (by kernel_rfl) (by kernel_rfl) (by kernel_rfl) (by kernel_rfl) (by kernel_rfl) rfl (fun _ _ _ h => h) (HC.out U0 Hb0.out) rfl (fun U hU => by obtain ⟨⟨k0, k1, k2, k3, _, _, _, _, _⟩, a0, a1⟩ := hU; rcases HQ.out with ⟨h1, h2⟩ | ⟨h1, h2⟩ <;> (rw [h2]; clear h2) <;> go_simp) (fun K hK => ?_); have HK := Lib.hid hK; clear hK; go_simp; refine HK.out _ ?_; clear HK K)
      refine oneF (i := 16) (by kernel_rfl) rfl rfl rfl (fun K hK => ?_)
      have HK := Lib.hid hK; clear hK; go_simp
      obtain ⟨U1, hU1⟩ : ∃ U1, U1 = U0.alloc (.cells #[.int .i64 t.who, .int .i64 t.claim, .int .i64 0] 65) := ⟨_, rfl⟩
      have hq1 : Below U0.heap.size U0 U1 := by rw [hU1]; exact (Below.refl _ _).alloc (Nat.le_refl _) _
      have hs1 : U1.heap.size = U0.heap.size + 1 := by rw [hU1]; simp
      have hsrc1 : ∀ (j : Nat) (u : Value), (C.cells ⟨t.who, t.claim, 0⟩)[j]? = some u → U1.cell? ((⟨U0.heap.size, 0, none⟩ : Addr).add j) = some u := by
        rw [hU1]
        exact cells_new (cs := #[.int .i64 t.who, .int .i64 t.claim, .int .i64 0]) rfl
      have ho1 := own_up Ho0.out hq1
      have Hk1 := Lib.hid (show ∀ g, g < w5.heap.size → U1.heap[g]? = w5.heap[g]? from fun g hg => (hq1.block g (by have := Hs0.out; omega)).trans (Hk0.out g))
      rw [← hU1]
      have Hb1 := Lib.hid (show Below Z w5 U1 by have := Hs0.out; exact Hb0.out.trans (hq1.mono (by omega)))
      have Hs1 := Lib.hid hs1; have Ho1 := Lib.hid ho1; have Hsrc1 := Lib.hid hsrc1
      clear hU1 hq1 hs1 hsrc1 ho1
      refine HK.out _ _ (HC.out _ Hb1.out) ?_
      clear HK K
      refine oneF (i := 17) (by kernel_rfl) rfl rfl rfl (fun K hK => ?_)
      have HK := Lib.hid hK; clear hK
      refine wp_app (.tmp 24) (.tmp 36) 26 rfl V2.heap.size 65 i0 (.agg #[.int .i64 0, .int .i64 0, .int .i64 0]) 3 24 Try.underlying26 hi0 hz0 hz1 hz2 rfl (by decide) (v := .slice A4 cs.length c4) (by rfl) Ho1.out (A := some ⟨U0.heap.size, 0, none⟩) (m := 1) (c := 1) (news := C.cells ⟨t.who, t.claim, 0⟩) (by rfl) rfl (by simp) (fun ad e => by injection e with e; subst e; exact Hsrc1.out) (c_one _) ?_ ?_ ?_ ?_
      · unfold maxLen; omega
      · omega
      · have := Hs1.out; have := Hs0.out; have := HZs.out; omega
      intro v7 w7 ho7 hg7 hv7
      obtain ⟨A7, c7, rfl, _, _⟩ := own_slice ho7
      have hs7 := hg7.size
      have hs1 := Hs1.out; have hs0 := Hs0.out; have hzz := HZs.out
      have Hb7 := Lib.hid (show Below Z w5 w7 from Hb1.out.grown hg7 (by omega) (fun d hd => by have := HoL.out d hd; omega))
      have Ho7 := Lib.hid ho7
      have Hk7 := Lib.hid (show ∀ g, g < w5.heap.size → (Value.slice A4 cs.length c4).ownBlock ≠ some g → w7.heap[g]? = w5.heap[g]? from fun g h1 h2 => (hg7.block g (by omega) (fun e => h2 e.symm)).trans (Hk1.out g h1))
      have Hov7 := Lib.hid (show ∀ g, (Value.slice A7 (cs.length + 1) c7).ownBlock = some g → Z ≤ g ∧ g < w7.heap.size ∧ (Value.slice I5 (ins.length + 1) c5).ownBlock ≠ some g from fun g hg => by
        refine ⟨by have := (ho7.lt g hg).1; omega, (ho7.lt g hg).2, fun e => ?_⟩
        have h5 := HoI5.out g e
        rcases hv7 with h | h
        · rw [h] at hg
          have h4 := HoL.out g hg
          rcases h5.1 with h6 | h6
          · have := HoI.out g h6; omega
          · omega
        · rw [h] at hg; injection hg with hg; omega)
      have Hs7 := Lib.hid (show w5.heap.size ≤ w7.heap.size by omega)
      clear ho7 hg7 hv7 hs7 hs1 hs0 hzz
      go_simp
      refine HK.out _ _ (HC.out _ Hb7.out) ?_
      clear HK K
      (refine takeF (i := 21) (n := 23) (.agg #[.int .i64 x.frames, .int .i64 x.budget, .slice A7 (cs.length + 1) c7, .slice Q' q.length (qc - 1)]) rfl (by kernel_rfl) (by kernel_rfl) (by kernel_rfl) (by kernel_rfl) (by kernel_rfl) rfl (fun _ _ _ h => h) (HC.out w7 Hb7.out) rfl (fun U hU => by obtain ⟨⟨k0, k1, k2, k3, _, _, _, _, _⟩, a0, a1⟩ := hU; go_simp) (fun K hK => ?_); have HK := Lib.hid hK; clear hK; go_simp; refine HK.out _ ?_; clear HK K)
      obtain ⟨⟨c0, c1, c2, c3, f0, f1, f2, f3, lt⟩, _, _⟩ := HC0.out w7 Hb7.out
      refine lastF (by kernel_rfl) rfl rfl (by kernel_rfl) rfl (fun K hK => ?_)
      have HK := Lib.hid hK; clear hK; go_simp
      refine HK.out _ _ ?_
      clear HK K
      obtain ⟨W8, hW8⟩ : ∃ W8, W8 = fill4 w7 w.heap.size ⟨x.frames, x.budget, cs ++ [⟨t.who, t.claim, 0⟩], q⟩ A7 c7 Q' (qc - 1) := ⟨_, rfl⟩
      have HE8 : Hid (LetR w ok x W8 (cs ++ [⟨t.who, t.claim, 0⟩]) q (ins ++ [t.who]) A7 c7 Q' (qc - 1) I5 c5) := by
        have hk8 : ∀ g, g ≠ w.heap.size → W8.heap[g]? = w7.heap[g]? := fun g h => by rw [hW8]; exact fill4_keep h
        have hs8 : W8.heap.size = w7.heap.size := by rw [hW8]; exact fill4_size
        have hs7 := Hs7.out
        have hlA : (cs ++ [(⟨t.who, t.claim, 0⟩ : C)]).length = cs.length + 1 := by simp
        have hlI : (ins ++ [t.who]).length = ins.length + 1 := by simp
        obtain ⟨ha1, ha2⟩ := own_cap Ho7.out
        have hrc8 : Rd' C.cells 3 W8 (fun d => (ok d ∨ (w.heap.size + 2 ≤ d ∧ d < W8.heap.size)) ∧ (Value.slice I5 (ins ++ [t.who]).length c5).ownBlock ≠ some d) A7 (cs ++ [⟨t.who, t.claim, 0⟩]) := by
          have hown : w7.ownsRow V2.heap.size 65 3 (.slice A7 (cs.length + 1) c7) (cs.length + 1) ((cs ++ [(⟨t.who, t.claim, 0⟩ : C)]).flatMap C.cells) := by
            rw [List.flatMap_append]; simpa using Ho7.out
          have h1 := Rd'.of_own hown c_len (by decide)
          intro hne
          obtain ⟨d, o, e, hd, hc⟩ := h1 hne
          have hz := HZs.out
          have hov := Hov7.out d (by rw [e]; have := hown.2; rcases this with ⟨h, _⟩ | ⟨g', _, _, h, _⟩ <;> (injection h with h _ _; rw [e] at h; first | (injection h with h; injection h with h _; subst h; rfl) | cases h))
          refine ⟨d, o, e, ⟨.inr ⟨by omega, by omega⟩, by rw [hlI]; exact hov.2.2⟩, fun k y hy j v hv => ?_⟩
          exact (World.cell?_of_block (a := ⟨d, o + k * 3 + j, none⟩) (hk8 d (by omega))).trans (hc k y hy j v hv)
        have hrq8 : Rd' T.cells 2 W8 (fun d => (ok d ∨ (w.heap.size + 2 ≤ d ∧ d < W8.heap.size)) ∧ (Value.slice I5 (ins ++ [t.who]).length c5).ownBlock ≠ some d) Q' q := by
          have hrq7 := (Hrq5.out.keep (w' := w7) fun d hd => Hb7.out.block d (by have := HZs.out; rcases hd.1 with h | h; have := Hok.out d h; omega; omega)).keep (w' := W8) fun d hd => hk8 d (by rcases hd.1 with h | h; have := Hok.out d h; omega; omega)
          have hrq9 := hrq7.imp (ok' := fun d => (ok d ∨ (w.heap.size + 2 ≤ d ∧ d < W8.heap.size)) ∧ (Value.slice I5 (ins ++ [t.who]).length c5).ownBlock ≠ some d) fun d hd => by
            have hd2 : d < wr.heap.size := by rcases hd.1 with h | h; have := Hok.out d h; omega; exact h.2
            refine ⟨by rcases hd.1 with h | h; exact .inl h; exact .inr ⟨h.1, by have := HZs.out; omega⟩, fun e => ?_⟩
            rw [hlI] at e
            rcases (HoI5.out d e).1 with h | h
            · exact hd.2 h
            · have := HZs.out; omega
          rcases HQ.out with ⟨h1, h2⟩ | ⟨h1, h2⟩
          · obtain rfl : q = [] := List.eq_nil_of_length_eq_zero (by omega)
            exact Rd'.nil
          · rw [h2]
            have h3 := Rd'.drop hrq9 1
            simpa only [Nat.one_mul, List.drop_succ_cons, List.drop_zero] using h3
        refine Lib.hid ⟨?_, (HZ5.out.up Hb7.out (by omega)).keep (hk8 _ (by omega)), ⟨hrc8, hrq8, by rw [hlA]; exact ha1, ha2, by show q.length ≤ qc - 1; omega, by omega⟩, ?_, ?_, by omega, small_let HE.out.small, by rw [hlI]; omega, let_run HE.out.run Hop.out⟩
        · rw [hW8]
          exact (HC0.out w7 Hb7.out).1.fill
        · rw [hlI]
          refine own_heap Hi5.out fun g hg => ?_
          have h5 := HoI5.out g hg
          rw [hk8 g (by omega)]
          refine Hk7.out g h5.2.2 (fun e => ?_)
          have h4 := HoL.out g e
          rcases h5.1 with h | h
          · have := HoI.out g h; omega
          · omega
        · rw [hW8]
          exact fill4_below (Hbw5.out.trans (Hb7.out.mono (by omega))) (Nat.le_refl _)
      rw [fill4] at hW8
      simp only [List.length_append, List.length_cons, List.length_nil, Nat.zero_add] at hW8
      rw [← hW8]
      clear hW8 c0 c1 c2 c3 f0 f1 f2 f3 lt
      go_wp2_with fail
      go_roundg q.length
      case measure => have := Hg.out; simp at this; omega
      case rel => exact ⟨cs ++ [⟨t.who, t.claim, 0⟩], q, ins ++ [t.who], A7, c7, Q', qc - 1, I5, c5, rfl, by rw [List.length_append]; rfl, HE8.out⟩
end Go.Proofs.Ythhfhgkkfaghoaa
