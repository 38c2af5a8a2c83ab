/- The contract of lockkeeperref08.let. -/
import Derived.Test.YtigffndobddflaaLR4
namespace Go.Proofs.Ytigffndobddflaa
open Go.RowKit

theorem open_ex {hs : List Int} {ex : Bool} {t : Wt} {q : List Wt} (h : true = openW hs ex (t :: q)) (h0 : hs = [] → ex = false) : ex = false := by
  simp only [openW] at h
  have h' := h.symm
  simp only [Bool.or_eq_true, decide_eq_true_eq, Bool.and_eq_true, Bool.not_eq_true'] at h'
  rcases h' with h1 | h1
  · exact h0 (List.eq_nil_of_length_eq_zero h1)
  · exact h1.1
/-- what let has done so far -/
structure LetL (w : World) (ok : Nat → Prop) (l0 : La) (wr : World) (hs : List Int) (ex : Bool) (q : List Wt) (ins : List Int) (A : Option Addr) (ac : Nat) (Q : Option Addr) (qc : Nat) (I : Option Addr) (ic : Nat) : Prop where
  hb : LB w.heap.size ⟨hs, ex, q⟩ A ac Q qc wr
  res : LZ (w.heap.size + 1) wr
  hm : LM wr (fun b => (ok b ∨ (w.heap.size + 2 ≤ b ∧ b < wr.heap.size)) ∧ (Value.slice I ins.length ic).ownBlock ≠ some b) ⟨hs, ex, q⟩ A ac Q qc
  inr : wr.ownsRow (w.heap.size + 2) 3 1 (.slice I ins.length ic) ins.length (ins.flatMap icells)
  below : Below w.heap.size w wr
  size : w.heap.size + 2 ≤ wr.heap.size
  len : hs.length + q.length = l0.hs.length + l0.q.length
  inl : ins.length + q.length = l0.q.length
  emp : hs = [] → ex = false
  run : letL l0.hs l0.ex l0.q = ((letL hs ex q).1, (letL hs ex q).2.1, (letL hs ex q).2.2.1, ins ++ (letL hs ex q).2.2.2)

set_option maxRecDepth 20000 in
set_option maxHeartbeats 4000000 in
theorem refLet_any (w : World) (ok : Nat → Prop) (A Q : Option Addr) (ac qc : Nat) (l : La) (hemp : l.hs = [] → l.ex = false) (hll : l.hs.length + l.q.length ≤ 900) (hok : ∀ b, ok b → b < w.heap.size) (hm : LM w ok l A ac Q qc) :
    Calls Try.prog 32 #[.agg #[.slice A l.hs.length ac, .bool l.ex, .slice Q l.q.length qc]] w (EnterDone ok (enterL l) w) := by
  obtain ⟨W, hW, hbW, hsW, hB, hZ⟩ := la_box2 w A Q ac qc l 28
  have HB' := Lib.hid hB
  have HZ := Lib.hid hZ
  have Hm := Lib.hid (hm.below hbW hok)
  have HbW := Lib.hid hbW
  have Hok := Lib.hid hok
  have Hemp := Lib.hid hemp
  have HW := Lib.hid hW.symm
  have HsW := Lib.hid hsW
  obtain ⟨j0, hj0, hy0, hy1, hy2⟩ := info_parts Try.infoInt
  clear hW hZ hm hbW hok hB hsW hemp
  go_enter Try.func32, Try.ntmps32
  go_wp2_with fail
  rw [HW.out]
  go_loopg [4] l.q.length (fun g iv wr => ∃ (hs : List Int) (ex : Bool) (q : List Wt) (ins : List Int) (A : Option Addr) (ac : Nat) (Q : Option Addr) (qc : Nat) (I : Option Addr) (ic : Nat), g = q.length ∧ iv = .slice I ins.length ic ∧ LetL w ok l wr hs ex q ins A ac Q qc I ic)
  case atStart => exact ⟨l.hs, l.ex, l.q, [], A, ac, Q, qc, none, 0, rfl, rfl, HB'.out, HZ.out, Hm.out.imp fun b h => ⟨.inl h, own_none rfl⟩, World.ownsRow_nil _ _ _ _, HbW.out, by have := HsW.out; omega, rfl, by simp, Hemp.out, by simp⟩
  case round =>
    obtain ⟨hs, ex, q, ins, A, ac, Q, qc, I, ic, hg, rfl, hE⟩ := hrel
    have HE := Lib.hid hE
    have Hg := Lib.hid hg
    obtain ⟨c0, c1, c2, f0, f1, f2, lt⟩ := hE.hb
    have hsr := hE.size
    simp only at c0 c1 c2
    have hmw := hE.hm.imp (ok' := fun b => b < wr.heap.size) fun b hb => by
      rcases hb.1 with h | h
      · have := Hok.out b h; omega
      · exact h.2
    have d2 := refMay_any wr A Q ac qc ⟨hs, ex, q⟩ hmw.q
    obtain ⟨op, hop⟩ : ∃ op, op = openW hs ex q := ⟨_, rfl⟩
    have d2' : Calls Try.prog 21 #[.agg #[.slice A hs.length ac, .bool ex, .slice Q q.length qc]] wr fun e w' => e = .returned (.bool op) ∧ Below wr.heap.size wr w' := by rw [hop]; exact d2
    have Hd2 := Lib.hid d2'
    have Hop := Lib.hid hop
    clear d2 d2' hop hE hg hmw
    go_wp2_with fail
    refine Hd2.out.mono ?_
    clear Hd2
    rintro e V2 ⟨rfl, hb2⟩
    have Hb2 := Lib.hid hb2
    have hs2 := hb2.size
    have HB2 := Lib.hid (HE.out.hb.up hb2 (by omega))
    clear c0 c1 c2 f0 f1 f2 lt hb2
    obtain ⟨c0, c1, c2, f0, f1, f2, lt⟩ := HB2.out
    simp only at c0 c1 c2
    have HZ2 := Lib.hid (HE.out.res.up Hb2.out (by omega))
    cases op with
    | false =>
      obtain ⟨e0, e1, e2, k0, k1, k2, hlt1⟩ := HZ2.out
      go_wp2_with fail
      have HF := HZ2.out.lb.fill (r := ⟨hs, ex, q⟩) (A' := A) (ac' := ac) (Q' := Q) (qc' := qc)
      unfold fill3 at HF
      obtain ⟨y0, y1, y2, _, _, _, _⟩ := HF
      simp only at y0 y1 y2
      refine bodyPost_ret (v := .tuple #[.agg #[.slice A hs.length ac, .bool ex, .slice Q q.length qc], .slice I ins.length ic]) (by simp [results, Try.results32, go_sem, y0, y1, y2]) rfl ?_
      have hrun := HE.out.run
      rw [letL_shut Hop.out] at hrun
      simp only [List.append_nil] at hrun
      have hent : enterL l = (⟨hs, ex, q⟩, ins) := by rw [enterL, hrun]
      rw [hent]
      have hkk : ∀ g, g ≠ w.heap.size + 1 → (fill3 V2 (w.heap.size + 1) ⟨hs, ex, q⟩ A ac Q qc).heap[g]? = V2.heap[g]? := fun g h => fill3_keep h
      have hzz : (fill3 V2 (w.heap.size + 1) ⟨hs, ex, q⟩ A ac Q qc).heap.size = V2.heap.size := fill3_size
      have hfin : EnterDone ok (⟨hs, ex, q⟩, ins) w (.returned (.tuple #[.agg #[.slice A hs.length ac, .bool ex, .slice Q q.length qc], .slice I ins.length ic])) (fill3 V2 (w.heap.size + 1) ⟨hs, ex, q⟩ A ac Q qc) := by
        refine ⟨A, ac, Q, qc, I, ic, rfl, ((HE.out.hm.keep (w' := V2) fun d hd => Hb2.out.block d (by rcases hd.1 with h | h; have := Hok.out d h; omega; omega)).keep fun d hd => hkk d (by rcases hd.1 with h | h; have := Hok.out d h; omega; omega)).imp fun d hd => ?_, ((Rd'.of_own (own_up HE.out.inr Hb2.out) i_len (by decide)).keep (fun b hb => hkk b (by omega))).imp fun b hb => ⟨by omega, by omega⟩, fill3_below (HE.out.below.trans (Hb2.out.mono (by omega))) (by omega)⟩
        rcases hd.1 with h | h
        · exact .inl h
        · exact .inr ⟨by omega, by omega⟩
      unfold fill3 at hfin
      exact hfin
    | true =>
      cases q with
      | nil => have := Hop.out; simp [openW] at this
      | cons t q =>
      have hexf := open_ex Hop.out HE.out.emp
      obtain ⟨b, off, rfl, hbb, hcell⟩ := HE.out.hm.rq (by simp)
      have hbr : b < wr.heap.size := by
        rcases hbb.1 with h | h
        · have := Hok.out b h; omega
        · exact h.2
      have hbN : b ≠ w.heap.size := by
        rcases hbb.1 with h | h
        · have := Hok.out b h; omega
        · omega
      have g0 := (Hb2.out.cell (p := ⟨b, off, none⟩) hbr).trans (hcell 0 t rfl 0 _ rfl)
      have g1 := (Hb2.out.cell (p := ⟨b, off + 1, none⟩) hbr).trans (hcell 0 t rfl 1 _ rfl)
      have Hbb := Lib.hid hbb; have Hexf := Lib.hid hexf
      have hq1 : (1 : Int) ≤ ((q.length + 1 : Nat) : Int) := by omega
      have hq2' : (1 : Int) ≤ (q.length : Int) + 1 := by omega
      clear hcell hbb hexf
      simp only [List.length_cons] at c2
      have hqa := HE.out.hm.qa; have hqa2 := HE.out.hm.qa2
      simp only [List.length_cons] at hqa
      have hq2 : (1 : Int) ≤ (qc : Int) := by omega
      have hlen := HE.out.len
      simp only [List.length_cons] at hlen
      have hilen := HE.out.inl
      simp only [List.length_cons] at hilen
      have HoI := Lib.hid (show ∀ g, (Value.slice I ins.length ic).ownBlock = some g → w.heap.size + 2 ≤ g ∧ g < V2.heap.size from fun g hg => by have := HE.out.inr.lt g hg; omega)
      obtain ⟨M, hM⟩ : ∃ M, M = V2.heap.size := ⟨_, rfl⟩
      obtain ⟨X3, hX3⟩ : ∃ X3, X3 = V2.alloc (.cells #[.int .i64 t.who, .bool t.ex] 59) := ⟨_, rfl⟩
      have hbX3 : Below M V2 X3 := by rw [hX3, hM]; exact (Below.refl _ _).alloc (Nat.le_refl _) _
      have HMX := Lib.hid (show X3.heap[M]? = some (.cells #[.int .i64 t.who, .bool t.ex] 59 (0, 0)) by rw [hX3, hM, heap_alloc_new])
      have hsX3 : X3.heap.size = M + 1 := by rw [hX3, hM]; simp
      have HB3 := Lib.hid (HB2.out.up hbX3 (by omega)); have HZ3 := Lib.hid (HZ2.out.up hbX3 (by omega))
      have Hi3 := Lib.hid (own_below (own_up HE.out.inr Hb2.out) hbX3 fun g hg => by have := HoI.out g hg; omega)
      have Hm3 := Lib.hid ((HE.out.hm.keep (w' := V2) fun d hd => Hb2.out.block d (by rcases hd.1 with h | h; have := Hok.out d h; omega; omega)).keep (w' := X3) fun d hd => hbX3.block d (by rcases hd.1 with h | h; have := Hok.out d h; omega; omega))
      have Hbw3 := Lib.hid ((HE.out.below.trans (Hb2.out.mono (by omega))).trans (hbX3.mono (by omega)))
      have HX3 := Lib.hid hX3.symm; have HM := Lib.hid hM.symm
      have hMs : V2.heap.size = M := hM.symm
      clear hX3 hM hbX3
      have hMs2 : V2.heap.size ≤ M ∧ M ≤ V2.heap.size := by omega
      clear hMs
      go_upto_region 4 with fail
      rw [HX3.out, HM.out]
      clear HX3 c0 c1 c2 f0 f1 f2 lt g0 g1
      have e0 := cells_of HMX.out 0
      simp only [List.getElem?_toArray, List.getElem?_cons_zero, List.getElem?_cons_succ] at e0
      have hMX : M < X3.heap.size := by omega
      have HsX3 := Lib.hid hsX3
      clear hsX3
      obtain ⟨X4, hX4⟩ : ∃ X4, X4 = X3.alloc (.cells #[.int .i64 t.who] 3) := ⟨_, rfl⟩
      have HbX4 := Lib.hid (show Below X3.heap.size X3 X4 by rw [hX4]; exact (Below.refl _ _).alloc (Nat.le_refl _) _)
      have HsX4 := Lib.hid (show X4.heap.size = X3.heap.size + 1 by rw [hX4]; simp)
      have HX4 := Lib.hid hX4
      clear hX4
      have hX3s : w.heap.size + 2 ≤ X3.heap.size := by have := HsX3.out; omega
      go_wp2_with (at_builtin; refine list_app rfl (.tmp 12) (.tmp 15) 22 rfl (w.heap.size + 2) 3 j0 (.int .i64 0) 1 8 Try.underlying22 hj0 hy0 hy1 hy2 rfl (by decide) rfl (Hi3.out.alloc (.cells #[.int .i64 t.who] 3)) (m := 1) (news := icells t.who) rfl rfl (by simp) (new_src (cs := (icells t.who).toArray) (by simp)) (i_one t.who) ?_ ?_ ?_ ?_)
      · unfold maxLen; omega
      · omega
      · first | omega | (simp; omega)
      intro v5 w5 ho5 hg5 hv5
      rw [← HX4.out] at hg5
      obtain ⟨I5, c5, rfl, _, _⟩ := own_slice ho5
      have hs5 := hg5.size
      have hsx := HsX4.out; have hsx3 := HsX3.out
      have h5 : ∀ g, g < X3.heap.size → (Value.slice I ins.length ic).ownBlock ≠ some g → w5.heap[g]? = X3.heap[g]? := fun g h1 h2 => (hg5.block g (by omega) (fun e => h2 e.symm)).trans (HbX4.out.block g h1)
      have hneI : ∀ g, g < w.heap.size + 2 ∨ M ≤ g → (Value.slice I ins.length ic).ownBlock ≠ some g := fun g hg e => by have := HoI.out g e; omega
      have HB5 := Lib.hid (HB3.out.keep (h5 _ (by omega) (hneI _ (by omega))))
      have HZ5 := Lib.hid (HZ3.out.keep (h5 (w.heap.size + 1) (by omega) (hneI _ (by omega))))
      have HM5 := Lib.hid ((h5 M (by omega) (hneI _ (by omega))).trans HMX.out)
      have HoI5 := Lib.hid (show ∀ g, (Value.slice I5 (ins.length + 1) c5).ownBlock = some g → ((Value.slice I ins.length ic).ownBlock = some g ∨ M < g) ∧ w.heap.size + 2 ≤ g ∧ g < w5.heap.size from fun g hg => by
        refine ⟨?_, ho5.lt g hg⟩
        rcases hv5 with h | h
        · rw [h] at hg; exact .inl hg
        · rw [h] at hg; injection hg with hg; exact .inr (by first | omega | (simp at hg; omega)))
      have Hm5 := Lib.hid (Hm3.out.keep (w' := w5) fun d hd => h5 d (by rcases hd.1 with h | h; have := Hok.out d h; omega; omega) hd.2)
      have Hbw5 := Lib.hid (((Hbw3.out.trans (HbX4.out.mono (by omega)))).grown hg5 (by omega) (fun d hd => by have := HoI.out d hd; omega))
      have Hi5 := Lib.hid (show w5.ownsRow (w.heap.size + 2) 3 1 (.slice I5 (ins.length + 1) c5) (ins.length + 1) ((ins ++ [t.who]).flatMap icells) by rw [List.flatMap_append]; simpa [icells] using ho5)
      have hMw5 : M < w5.heap.size := by omega
      have Hs5 := Lib.hid (show X3.heap.size ≤ w5.heap.size by omega)
      clear ho5 hg5 hv5 h5 hneI e0 hs5 hsx hsx3
      go_upto_region 5 with fail
      have hC2 : ∀ U, Below w5.heap.size w5 U → (fun U => LB w.heap.size ⟨hs, ex, t :: q⟩ A ac (some ⟨b, off, none⟩) qc U ∧ U.cell? ⟨M, 0, none⟩ = some (.int .i64 t.who) ∧ U.cell? ⟨M, 1, none⟩ = some (.bool t.ex)) U := fun U hU => ⟨HB5.out.up hU (by omega), cells_of ((hU.block M hMw5).trans HM5.out) 0, cells_of ((hU.block M hMw5).trans HM5.out) 1⟩
      have HC := Lib.hid hC2
      obtain ⟨Q', hQ'⟩ : ∃ Q' : Option Addr, (qc = 1 ∧ Q' = some ⟨b, off, none⟩) ∨ (qc ≠ 1 ∧ Q' = some ⟨b, off + 2, none⟩) := by
        by_cases h : qc = 1
        · exact ⟨_, .inl ⟨h, rfl⟩⟩
        · exact ⟨_, .inr ⟨h, rfl⟩⟩
      have HQ := Lib.hid hQ'
      refine wp_region_F 11 (fun U => LB w.heap.size ⟨hs, ex, t :: q⟩ A ac (some ⟨b, off, none⟩) qc U ∧ U.cell? ⟨M, 0, none⟩ = some (.int .i64 t.who) ∧ U.cell? ⟨M, 1, none⟩ = some (.bool t.ex)) (by kernel_rfl) rfl rfl ?_
      obtain ⟨U0, hU0⟩ : ∃ U0, U0 = w5.drew := ⟨_, rfl⟩
      have Hb0 := Lib.hid (show Below w5.heap.size w5 U0 by rw [hU0]; exact (Below.refl _ _).drew)
      have Hs0 := Lib.hid (show U0.heap.size = w5.heap.size by rw [hU0]; rfl)
      rw [← hU0]
      clear hU0 hC2 hQ'
      (refine takeF (i := 0) (n := 12) (.pointer (some ⟨w.heap.size, 0, none⟩)) rfl (by kernel_rfl) (by kernel_rfl) (by kernel_rfl) (by kernel_rfl) (by kernel_rfl) rfl (fun _ _ _ h => h) (HC.out U0 Hb0.out) rfl (fun U hU => by obtain ⟨⟨k0, k1, k2, _, _, _, _⟩, a0, a1⟩ := hU; go_simp) (fun K hK => ?_); have HK := Lib.hid hK; clear hK; go_simp; refine HK.out _ ?_; clear HK K)
      (refine takeF (i := 1) (n := 12) (.slice A hs.length ac) rfl (by kernel_rfl) (by kernel_rfl) (by kernel_rfl) (by kernel_rfl) (by kernel_rfl) rfl (fun _ _ _ h => h) (HC.out U0 Hb0.out) rfl (fun U hU => by obtain ⟨⟨k0, k1, k2, _, _, _, _⟩, a0, a1⟩ := hU; go_simp) (fun K hK => ?_); have HK := Lib.hid hK; clear hK; go_simp; refine HK.out _ ?_; clear HK K)
      (refine takeF (i := 2) (n := 12) (.pointer (some ⟨M, 0, none⟩)) rfl (by kernel_rfl) (by kernel_rfl) (by kernel_rfl) (by kernel_rfl) (by kernel_rfl) rfl (fun _ _ _ h => h) (HC.out U0 Hb0.out) rfl (fun U hU => by obtain ⟨⟨k0, k1, k2, _, _, _, _⟩, a0, a1⟩ := hU; go_simp) (fun K hK => ?_); have HK := Lib.hid hK; clear hK; go_simp; refine HK.out _ ?_; clear HK K)
      (refine takeF (i := 3) (n := 12) (.int .i64 t.who) rfl (by kernel_rfl) (by kernel_rfl) (by kernel_rfl) (by kernel_rfl) (by kernel_rfl) rfl (fun _ _ _ h => h) (HC.out U0 Hb0.out) rfl (fun U hU => by obtain ⟨⟨k0, k1, k2, _, _, _, _⟩, a0, a1⟩ := hU; go_simp) (fun K hK => ?_); have HK := Lib.hid hK; clear hK; go_simp; refine HK.out _ ?_; clear HK K)
      (refine takeF (i := 5) (n := 12) (.pointer (some ⟨M, 1, none⟩)) rfl (by kernel_rfl) (by kernel_rfl) (by kernel_rfl) (by kernel_rfl) (by kernel_rfl) rfl (fun _ _ _ h => h) (HC.out U0 Hb0.out) rfl (fun U hU => by obtain ⟨⟨k0, k1, k2, _, _, _, _⟩, a0, a1⟩ := hU; go_simp) (fun K hK => ?_); have HK := Lib.hid hK; clear hK; go_simp; refine HK.out _ ?_; clear HK K)
      (refine takeF (i := 6) (n := 12) (.bool t.ex) rfl (by kernel_rfl) (by kernel_rfl) (by kernel_rfl) (by kernel_rfl) (by kernel_rfl) rfl (fun _ _ _ h => h) (HC.out U0 Hb0.out) rfl (fun U hU => by obtain ⟨⟨k0, k1, k2, _, _, _, _⟩, a0, a1⟩ := hU; go_simp) (fun K hK => ?_); have HK := Lib.hid hK; clear hK; go_simp; refine HK.out _ ?_; clear HK K)
      (refine takeF (i := 7) (n := 12) (.pointer (some ⟨w.heap.size, 2, none⟩)) rfl (by kernel_rfl) (by kernel_rfl) (by kernel_rfl) (by kernel_rfl) (by kernel_rfl) rfl (fun _ _ _ h => h) (HC.out U0 Hb0.out) rfl (fun U hU => by obtain ⟨⟨k0, k1, k2, _, _, _, _⟩, a0, a1⟩ := hU; go_simp) (fun K hK => ?_); have HK := Lib.hid hK; clear hK; go_simp; refine HK.out _ ?_; clear HK K)
      (refine takeF (i := 8) (n := 12) (.slice (some ⟨b, off, none⟩) (q.length + 1) qc) rfl (by kernel_rfl) (by kernel_rfl) (by kernel_rfl) (by kernel_rfl) (by kernel_rfl) rfl (fun _ _ _ h => h) (HC.out U0 Hb0.out) rfl (fun U hU => by obtain ⟨⟨k0, k1, k2, _, _, _, _⟩, a0, a1⟩ := hU; go_simp) (fun K hK => ?_); have HK := Lib.hid hK; clear hK; go_simp; refine HK.out _ ?_; clear HK K)
      (refine takeF (i := 9) (n := 12) (.slice Q' q.length (qc - 1)) rfl (by kernel_rfl) (by kernel_rfl) (by kernel_rfl) (by kernel_rfl) (by kernel_rfl) rfl (fun _ _ _ h => h) (HC.out U0 Hb0.out) rfl (fun U hU => by obtain ⟨⟨k0, k1, k2, _, _, _, _⟩, a0, a1⟩ := hU; rcases HQ.out with ⟨h1, h2⟩ | ⟨h1, h2⟩ <;> (rw [h2]; clear h2) <;> go_simp) (fun K hK => ?_); have HK := Lib.hid hK; clear hK; go_simp; refine HK.out _ ?_; clear HK K)
      refine oneF (i := 4) (by kernel_rfl) rfl rfl rfl (fun K hK => ?_)
      have HK := Lib.hid hK; clear hK; go_simp
      have hrd : Rd icells 1 U0 U0.heap.size A hs := ((Hm5.out.rc.keep (w' := U0) fun d hd => Hb0.out.block d (by have := Hs5.out; rcases hd.1 with h | h; have := Hok.out d h; omega; omega))).to fun d hd => by have := Hs5.out; have := Hs0.out; rcases hd.1 with h | h; have := Hok.out d h; omega; omega
      refine (with_any U0 A ac hs t.who (by omega) hrd).mono ?_
      clear hrd
      rintro e w7 ⟨A7, c7, rfl, ho7, hb7⟩
      have Hb7 := Lib.hid (show Below w5.heap.size w5 w7 by have := Hs0.out; exact Hb0.out.trans (hb7.mono (by omega)))
      have Ho7 := Lib.hid ho7
      have Hs7 := Lib.hid (show w5.heap.size ≤ w7.heap.size by have := Hs0.out; have := hb7.size; omega)
      clear ho7 hb7
      refine HK.out _ _ (HC.out _ Hb7.out) ?_
      clear HK K
      (refine takeF (i := 10) (n := 12) (.agg #[.slice A7 (withL hs t.who).length c7, .bool t.ex, .slice Q' q.length (qc - 1)]) rfl (by kernel_rfl) (by kernel_rfl) (by kernel_rfl) (by kernel_rfl) (by kernel_rfl) rfl (fun _ _ _ h => h) (HC.out w7 Hb7.out) rfl (fun U hU => by obtain ⟨⟨k0, k1, k2, _, _, _, _⟩, a0, a1⟩ := hU; go_simp) (fun K hK => ?_); have HK := Lib.hid hK; clear hK; go_simp; refine HK.out _ ?_; clear HK K)
      obtain ⟨⟨c0, c1, c2, f0, f1, f2, lt⟩, _, _⟩ := HC.out w7 Hb7.out
      refine lastF (by kernel_rfl) rfl rfl (by kernel_rfl) rfl (fun K hK => ?_)
      have HK := Lib.hid hK; clear hK; go_simp
      refine HK.out _ _ ?_
      clear HK K
      obtain ⟨W8, hW8⟩ : ∃ W8, W8 = fill3 w7 w.heap.size ⟨withL hs t.who, t.ex, q⟩ A7 c7 Q' (qc - 1) := ⟨_, rfl⟩
      have HE8 : Hid (LetL w ok l W8 (withL hs t.who) t.ex q (ins ++ [t.who]) A7 c7 Q' (qc - 1) I5 c5) := by
        have hk8 : ∀ g, g ≠ w.heap.size → W8.heap[g]? = w7.heap[g]? := fun g h => by rw [hW8]; exact fill3_keep h
        have hs8 : W8.heap.size = w7.heap.size := by rw [hW8]; exact fill3_size
        have hs7 := Hs7.out; have hs5 := Hs5.out; have hs0 := Hs0.out; have hsx3 := HsX3.out
        have hlI : (ins ++ [t.who]).length = ins.length + 1 := by simp
        obtain ⟨ha1, ha2⟩ := own_cap Ho7.out
        have hrc8 : Rd' icells 1 W8 (fun d => (ok d ∨ (w.heap.size + 2 ≤ d ∧ d < W8.heap.size)) ∧ (Value.slice I5 (ins ++ [t.who]).length c5).ownBlock ≠ some d) A7 (withL hs t.who) :=
          ((Rd'.of_own Ho7.out i_len (by decide)).keep (w' := W8) fun d hd => hk8 d (by omega)).imp fun d hd => ⟨.inr ⟨by omega, by omega⟩, fun e => by rw [hlI] at e; have := HoI5.out d e; omega⟩
        have hrq8 : Rd' Wt.cells 2 W8 (fun d => (ok d ∨ (w.heap.size + 2 ≤ d ∧ d < W8.heap.size)) ∧ (Value.slice I5 (ins ++ [t.who]).length c5).ownBlock ≠ some d) Q' q := by
          have hrq7 := (Hm5.out.rq.keep (w' := w7) fun d hd => Hb7.out.block d (by rcases hd.1 with h | h; have := Hok.out d h; omega; omega)).keep (w' := W8) fun d hd => hk8 d (by rcases hd.1 with h | h; have := Hok.out d h; omega; omega)
          have hrq9 := hrq7.imp (ok' := fun d => (ok d ∨ (w.heap.size + 2 ≤ d ∧ d < W8.heap.size)) ∧ (Value.slice I5 (ins ++ [t.who]).length c5).ownBlock ≠ some d) fun d hd => by
            have hd2 : d < wr.heap.size := by rcases hd.1 with h | h; have := Hok.out d h; omega; exact h.2
            refine ⟨by rcases hd.1 with h | h; exact .inl h; exact .inr ⟨h.1, by omega⟩, fun e => ?_⟩
            rw [hlI] at e
            rcases (HoI5.out d e).1 with h | h
            · exact hd.2 h
            · omega
          rcases HQ.out with ⟨h1, h2⟩ | ⟨h1, h2⟩
          · obtain rfl : q = [] := List.eq_nil_of_length_eq_zero (by omega)
            exact Rd'.nil
          · rw [h2]
            have h3 := Rd'.drop hrq9 1
            simpa only [Nat.one_mul, List.drop_succ_cons, List.drop_zero] using h3
        have hwl := withL_len hs t.who
        have hrun := letL_run HE.out.run Hop.out
        rw [Hexf.out, Bool.false_or] at hrun
        refine Lib.hid ⟨?_, (HZ5.out.up Hb7.out (by omega)).keep (hk8 _ (by omega)), ⟨hrc8, hrq8, ha1, ha2, by show q.length ≤ qc - 1; omega, by omega⟩, ?_, ?_, by omega, by rw [hwl]; omega, by rw [hlI]; omega, fun e => by rw [e] at hwl; simp at hwl, hrun⟩
        · rw [hW8]
          exact (HC.out w7 Hb7.out).1.fill
        · rw [hlI]
          refine own_heap Hi5.out fun g hg => ?_
          have h5 := HoI5.out g hg
          rw [hk8 g (by omega)]
          exact Hb7.out.block g h5.2.2
        · rw [hW8]
          exact fill3_below (Hbw5.out.trans (Hb7.out.mono (by have := Hbw5.out.size; omega))) (Nat.le_refl _)
      rw [fill3] at hW8
      rw [← hW8]
      clear hW8 c0 c1 c2 f0 f1 f2 lt
      go_wp2_with fail
      go_roundg q.length
      case measure => have := Hg.out; simp at this; omega
      case rel => exact ⟨withL hs t.who, t.ex, q, ins ++ [t.who], A7, c7, Q', qc - 1, I5, c5, rfl, by rw [List.length_append]; rfl, HE8.out⟩
end Go.Proofs.Ytigffndobddflaa
