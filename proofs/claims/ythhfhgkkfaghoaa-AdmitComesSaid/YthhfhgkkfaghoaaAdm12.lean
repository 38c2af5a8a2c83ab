/- The contract of lockkeeperlaw11.do. -/
import Derived.Test.YthhfhgkkfaghoaaAdm11
namespace Go.Proofs.Ythhfhgkkfaghoaa
open Go.RowKit

structure Act3 where
  kind : Int
  who : Int
  claim : Int
def Act3.cells (a : Act3) : List Value := [.int .i64 a.kind, .int .i64 a.who, .int .i64 a.claim]
def doA (h : Hall) (a : Act3) : Hall × Int :=
  if a.kind = 0 then ((beginM h a.who a.claim).1, (beginM h a.who a.claim).2.2) else if a.kind = 1 then pinM h a.who else if a.kind = 2 then unpinM h a.who else ((endM h a.who).1, (endM h a.who).2.2)
theorem PinDone.alloc {ok : Nat → Prop} {r : Hall × Int} {w w' : World} {e : Ending} (h : PinDone ok r w e w') (hok : ∀ b, ok b → b < w.heap.size) (t : Obj) : PinDone ok r w e (w'.alloc t) := by
  obtain ⟨A, ac, Q, qc, he, hm, hb⟩ := h
  have hb2 : Below w'.heap.size w' (w'.alloc t) := (Below.refl _ _).alloc (Nat.le_refl _) t
  refine ⟨A, ac, Q, qc, he, (hm.keep fun b hb' => ?_).imp fun b hb' => ?_, bnext hb hb2⟩
  · have := hb.size
    exact hb2.block b (by rcases hb' with h | h; exact Nat.lt_of_lt_of_le (hok b h) this; exact h.2)
  · rcases hb' with h | h
    · exact .inl h
    · exact .inr ⟨h.1, by simp; omega⟩
theorem do_boxes (w : World) (A Q : Option Addr) (ac qc : Nat) (x : Hall) (a : Act3) (t u : TypeId) : ∃ W, W = ((w.alloc (.cells #[.int .i64 x.frames, .int .i64 x.budget, .slice A x.cs.length ac, .slice Q x.q.length qc] t)).alloc (.cells #[.int .i64 a.kind, .int .i64 a.who, .int .i64 a.claim] u)).alloc (.cells #[.int .i64 0, .int .i64 0, .slice none 0 0, .slice none 0 0] t) ∧
    Below w.heap.size w W ∧ W.heap.size = w.heap.size + 3 ∧ HB w.heap.size x A ac Q qc W ∧ W.heap[w.heap.size + 1]? = some (.cells #[.int .i64 a.kind, .int .i64 a.who, .int .i64 a.claim] u (0, 0)) ∧ ZB (w.heap.size + 2) W := by
  obtain ⟨W1, h1⟩ : ∃ W1, W1 = w.alloc (.cells #[.int .i64 x.frames, .int .i64 x.budget, .slice A x.cs.length ac, .slice Q x.q.length qc] t) := ⟨_, rfl⟩
  obtain ⟨W2, h2⟩ : ∃ W2, W2 = W1.alloc (.cells #[.int .i64 a.kind, .int .i64 a.who, .int .i64 a.claim] u) := ⟨_, rfl⟩
  have s1 : W1.heap.size = w.heap.size + 1 := by rw [h1]; simp
  have s2 : W2.heap.size = w.heap.size + 2 := by rw [h2]; simp [s1]
  refine ⟨_, rfl, (((Below.refl _ _).alloc (Nat.le_refl _) _).alloc (by simp) _).alloc (by simp; omega) _, by simp, ?_, ?_, ?_⟩
  · rw [← h1, ← h2]
    exact HB.of (t := t) (by rw [heap_alloc_old _ _ (by omega), h2, heap_alloc_old _ _ (by omega), h1, heap_alloc_new])
  · rw [← h1, ← h2, heap_alloc_old _ _ (by omega), h2, ← s1, heap_alloc_new]
  · rw [← h1, ← h2]
    exact (HB.of (h := ⟨0, 0, [], []⟩) (t := t) (by rw [← s2, heap_alloc_new]; rfl)).zb

set_option maxRecDepth 20000 in
set_option maxHeartbeats 4000000 in
theorem do_any (w : World) (ok : Nat → Prop) (A Q : Option Addr) (ac qc : Nat) (x : Hall) (a : Act3) (hl1 : x.cs.length ≤ 1000) (hl2 : x.q.length ≤ 1000) (hok : ∀ b, ok b → b < w.heap.size) (hm : HM w ok x A ac Q qc) :
    Calls Try.prog 25 #[.agg #[.int .i64 x.frames, .int .i64 x.budget, .slice A x.cs.length ac, .slice Q x.q.length qc], .agg #[.int .i64 a.kind, .int .i64 a.who, .int .i64 a.claim]] w (PinDone ok (doA x a) w) := by
  obtain ⟨W, hW, hbW, hsW, hB, hP, hR⟩ := do_boxes w A Q ac qc x a 25 62
  have HmW := Lib.hid (hm.below hbW hok)
  have HbW := Lib.hid hbW
  have Hok := Lib.hid hok
  have HR' := Lib.hid hR
  obtain ⟨c0, c1, c2, c3, f0, f1, f2, f3, lt⟩ := hB
  obtain ⟨r0, r1, r2, r3, k0, k1, k2, k3, ltR⟩ := hR
  have p0 : W.cell? ⟨w.heap.size + 1, 0, none⟩ = some (.int .i64 a.kind) := cells_of hP 0
  have p1 : W.cell? ⟨w.heap.size + 1, 1, none⟩ = some (.int .i64 a.who) := cells_of hP 1
  have p2 : W.cell? ⟨w.heap.size + 1, 2, none⟩ = some (.int .i64 a.claim) := cells_of hP 2
  have hW' := hW.symm
  have ltP : w.heap.size + 1 < W.heap.size := by omega
  clear hW hbW hm hok hP
  have hokW : ∀ b, ok b → b < W.heap.size := fun b hb => by have := Hok.out b hb; omega
  have hfin : ∀ V (r : Hall) (n : Int) A2 a2 Q2 q2, Below W.heap.size W V → HM V (fun b => ok b ∨ (W.heap.size ≤ b ∧ b < V.heap.size)) r A2 a2 Q2 q2 → PinDone ok (r, n) w (.returned (.tuple #[.agg #[.int .i64 r.frames, .int .i64 r.budget, .slice A2 r.cs.length a2, .slice Q2 r.q.length q2], .int .i64 n])) (fill4 V (w.heap.size + 2) r A2 a2 Q2 q2) := fun V r n A2 a2 Q2 q2 hV hm => by
    refine ⟨A2, a2, Q2, q2, rfl, (hm.keep fun b hb => fill4_keep ?_).imp fun b hb => ?_, fill4_below (HbW.out.trans (hV.mono (by omega))) (by omega)⟩
    · rcases hb with h | h
      · have := Hok.out b h; omega
      · omega
    · rw [fill4_size]
      rcases hb with h | h
      · exact .inl h
      · exact .inr (by omega)
  have Hfin := Lib.hid hfin
  clear hfin
  by_cases hk0 : a.kind = 0
  · have hkb : (a.kind == 0) = true := by simpa using hk0
    have hdo : doA x a = ((beginM x a.who a.claim).1, (beginM x a.who a.claim).2.2) := by rw [doA, if_pos hk0]
    have Hdo := Lib.hid hdo
    have d1 := begin_any W ok A Q ac qc x a.who a.claim hl1 hl2 hokW HmW.out
    have Hd1 := Lib.hid d1
    clear hdo hk0 d1 hokW
    go_enter Try.func25, Try.ntmps25
    go_wp2_with fail
    refine Hd1.out.mono ?_
    rintro e V ⟨A2, a2, Q2, q2, rfl, hm2, hb2⟩
    obtain ⟨r, hr⟩ : ∃ r, r = (beginM x a.who a.claim).1 := ⟨_, rfl⟩
    obtain ⟨n, hn⟩ : ∃ n, n = (beginM x a.who a.claim).2.2 := ⟨_, rfl⟩
    have Hrn := Lib.hid (show doA x a = (r, n) by rw [Hdo.out, hr, hn])
    obtain ⟨bb, hbb⟩ : ∃ bb, bb = (beginM x a.who a.claim).2.1.contains a.who := ⟨_, rfl⟩
    rw [← hr] at hm2 ⊢
    rw [← hn, ← hbb]
    clear hbb
    have Hm2 := Lib.hid hm2
    have Hb2 := Lib.hid hb2
    have hs2 := hb2.size
    have HRV := HR'.out.up hb2 (by omega)
    have HRV2 := Lib.hid (show ZB (w.heap.size + 1 + 1) V from HRV)
    clear c0 c1 c2 c3 f0 f1 f2 f3 r0 r1 r2 r3 k0 k1 k2 k3 p0 p1 p2 hW' hm2 hb2 hr hn Hdo
    obtain ⟨r0, r1, r2, r3, k0, k1, k2, k3, ltRV⟩ := HRV
    try simp only
    go_wp2_with fail
    have hbx : HB (w.heap.size + 1 + 1) r A2 a2 Q2 q2 ((fill4 V (w.heap.size + 1 + 1) r A2 a2 Q2 q2).alloc (.cells #[.int .i64 r.frames, .int .i64 r.budget, .slice A2 r.cs.length a2, .slice Q2 r.q.length q2] 25)) := (HRV2.out.hb.fill).up ((Below.refl _ _).alloc (Nat.le_refl _) _) (by rw [fill4_size]; exact HRV2.out.lt)
    unfold fill4 at hbx
    obtain ⟨y0, y1, y2, y3, _, _, _, _, _⟩ := hbx
    refine bodyPost_ret (v := .tuple #[.agg #[.int .i64 r.frames, .int .i64 r.budget, .slice A2 r.cs.length a2, .slice Q2 r.q.length q2], .int .i64 n]) (by simp [results, Try.results25, go_sem, y0, y1, y2, y3]) rfl ?_
    rw [Hrn.out]
    have hd := (Hfin.out V r n A2 a2 Q2 q2 Hb2.out Hm2.out).alloc Hok.out (.cells #[.int .i64 r.frames, .int .i64 r.budget, .slice A2 r.cs.length a2, .slice Q2 r.q.length q2] 25)
    unfold fill4 at hd
    exact hd
  have hkb0 : (a.kind == 0) = false := by simpa using hk0
  by_cases hk1 : a.kind = 1
  · have hkb : (a.kind == 1) = true := by simpa using hk1
    have hdo : doA x a = ((pinM x a.who).1, (pinM x a.who).2) := by rw [doA, if_neg hk0, if_pos hk1]
    have Hdo := Lib.hid hdo
    have d1 := pin_any W ok A Q ac qc x a.who hl1 hl2 hokW HmW.out
    have Hd1 := Lib.hid d1
    clear hdo hk0 hk1 d1 hokW
    go_enter Try.func25, Try.ntmps25
    go_wp2_with fail
    refine Hd1.out.mono ?_
    rintro e V ⟨A2, a2, Q2, q2, rfl, hm2, hb2⟩
    obtain ⟨r, hr⟩ : ∃ r, r = (pinM x a.who).1 := ⟨_, rfl⟩
    obtain ⟨n, hn⟩ : ∃ n, n = (pinM x a.who).2 := ⟨_, rfl⟩
    have Hrn := Lib.hid (show doA x a = (r, n) by rw [Hdo.out, hr, hn])
    rw [← hr] at hm2 ⊢
    rw [← hn]
    have Hm2 := Lib.hid hm2
    have Hb2 := Lib.hid hb2
    have hs2 := hb2.size
    have HRV := HR'.out.up hb2 (by omega)
    have HRV2 := Lib.hid (show ZB (w.heap.size + 1 + 1) V from HRV)
    clear c0 c1 c2 c3 f0 f1 f2 f3 r0 r1 r2 r3 k0 k1 k2 k3 p0 p1 p2 hW' hm2 hb2 hr hn Hdo
    obtain ⟨r0, r1, r2, r3, k0, k1, k2, k3, ltRV⟩ := HRV
    try simp only
    go_wp2_with fail
    have hbx : HB (w.heap.size + 1 + 1) r A2 a2 Q2 q2 (fill4 V (w.heap.size + 1 + 1) r A2 a2 Q2 q2) := HRV2.out.hb.fill
    unfold fill4 at hbx
    obtain ⟨y0, y1, y2, y3, _, _, _, _, _⟩ := hbx
    refine bodyPost_ret (v := .tuple #[.agg #[.int .i64 r.frames, .int .i64 r.budget, .slice A2 r.cs.length a2, .slice Q2 r.q.length q2], .int .i64 n]) (by simp [results, Try.results25, go_sem, y0, y1, y2, y3]) rfl ?_
    rw [Hrn.out]
    have hd := Hfin.out V r n A2 a2 Q2 q2 Hb2.out Hm2.out
    unfold fill4 at hd
    exact hd
  have hkb1 : (a.kind == 1) = false := by simpa using hk1
  by_cases hk2 : a.kind = 2
  · have hkb : (a.kind == 2) = true := by simpa using hk2
    have hdo : doA x a = ((unpinM x a.who).1, (unpinM x a.who).2) := by rw [doA, if_neg hk0, if_neg hk1, if_pos hk2]
    have Hdo := Lib.hid hdo
    have d1 := unpin_any W ok A Q ac qc x a.who hl1 hl2 hokW HmW.out
    have Hd1 := Lib.hid d1
    clear hdo hk0 hk1 hk2 d1 hokW
    go_enter Try.func25, Try.ntmps25
    go_wp2_with fail
    refine Hd1.out.mono ?_
    rintro e V ⟨A2, a2, Q2, q2, rfl, hm2, hb2⟩
    obtain ⟨r, hr⟩ : ∃ r, r = (unpinM x a.who).1 := ⟨_, rfl⟩
    obtain ⟨n, hn⟩ : ∃ n, n = (unpinM x a.who).2 := ⟨_, rfl⟩
    have Hrn := Lib.hid (show doA x a = (r, n) by rw [Hdo.out, hr, hn])
    rw [← hr] at hm2 ⊢
    rw [← hn]
    have Hm2 := Lib.hid hm2
    have Hb2 := Lib.hid hb2
    have hs2 := hb2.size
    have HRV := HR'.out.up hb2 (by omega)
    have HRV2 := Lib.hid (show ZB (w.heap.size + 1 + 1) V from HRV)
    clear c0 c1 c2 c3 f0 f1 f2 f3 r0 r1 r2 r3 k0 k1 k2 k3 p0 p1 p2 hW' hm2 hb2 hr hn Hdo
    obtain ⟨r0, r1, r2, r3, k0, k1, k2, k3, ltRV⟩ := HRV
    try simp only
    go_wp2_with fail
    have hbx : HB (w.heap.size + 1 + 1) r A2 a2 Q2 q2 (fill4 V (w.heap.size + 1 + 1) r A2 a2 Q2 q2) := HRV2.out.hb.fill
    unfold fill4 at hbx
    obtain ⟨y0, y1, y2, y3, _, _, _, _, _⟩ := hbx
    refine bodyPost_ret (v := .tuple #[.agg #[.int .i64 r.frames, .int .i64 r.budget, .slice A2 r.cs.length a2, .slice Q2 r.q.length q2], .int .i64 n]) (by simp [results, Try.results25, go_sem, y0, y1, y2, y3]) rfl ?_
    rw [Hrn.out]
    have hd := Hfin.out V r n A2 a2 Q2 q2 Hb2.out Hm2.out
    unfold fill4 at hd
    exact hd
  have hkb2 : (a.kind == 2) = false := by simpa using hk2
  have hdo : doA x a = ((endM x a.who).1, (endM x a.who).2.2) := by rw [doA, if_neg hk0, if_neg hk1, if_neg hk2]
  have Hdo := Lib.hid hdo
  have d1 := end_any W ok A Q ac qc x a.who hl1 hl2 hokW HmW.out
  have Hd1 := Lib.hid d1
  clear hdo hk0 hk1 hk2 d1 hokW
  go_enter Try.func25, Try.ntmps25
  go_wp2_with fail
  refine Hd1.out.mono ?_
  rintro e V ⟨A2, a2, Q2, q2, I2, i2, rfl, hm2, hi2, hb2⟩
  obtain ⟨r, hr⟩ : ∃ r, r = (endM x a.who).1 := ⟨_, rfl⟩
  obtain ⟨n, hn⟩ : ∃ n, n = (endM x a.who).2.2 := ⟨_, rfl⟩
  have Hrn := Lib.hid (show doA x a = (r, n) by rw [Hdo.out, hr, hn])
  rw [← hr] at hm2 ⊢
  rw [← hn]
  obtain ⟨ins, hins⟩ : ∃ ins, ins = (endM x a.who).2.1 := ⟨_, rfl⟩
  rw [← hins]
  clear hins hi2
  have Hm2 := Lib.hid hm2
  have Hb2 := Lib.hid hb2
  have hs2 := hb2.size
  have HRV := HR'.out.up hb2 (by omega)
  have HRV2 := Lib.hid (show ZB (w.heap.size + 1 + 1) V from HRV)
  clear c0 c1 c2 c3 f0 f1 f2 f3 r0 r1 r2 r3 k0 k1 k2 k3 p0 p1 p2 hW' hm2 hb2 hr hn Hdo
  obtain ⟨r0, r1, r2, r3, k0, k1, k2, k3, ltRV⟩ := HRV
  try simp only
  go_wp2_with fail
  have hbx : HB (w.heap.size + 1 + 1) r A2 a2 Q2 q2 ((fill4 V (w.heap.size + 1 + 1) r A2 a2 Q2 q2).alloc (.cells #[.int .i64 r.frames, .int .i64 r.budget, .slice A2 r.cs.length a2, .slice Q2 r.q.length q2] 25)) := (HRV2.out.hb.fill).up ((Below.refl _ _).alloc (Nat.le_refl _) _) (by rw [fill4_size]; exact HRV2.out.lt)
  unfold fill4 at hbx
  obtain ⟨y0, y1, y2, y3, _, _, _, _, _⟩ := hbx
  refine bodyPost_ret (v := .tuple #[.agg #[.int .i64 r.frames, .int .i64 r.budget, .slice A2 r.cs.length a2, .slice Q2 r.q.length q2], .int .i64 n]) (by simp [results, Try.results25, go_sem, y0, y1, y2, y3]) rfl ?_
  rw [Hrn.out]
  have hd := (Hfin.out V r n A2 a2 Q2 q2 Hb2.out Hm2.out).alloc Hok.out (.cells #[.int .i64 r.frames, .int .i64 r.budget, .slice A2 r.cs.length a2, .slice Q2 r.q.length q2] 25)
  unfold fill4 at hd
  exact hd
end Go.Proofs.Ythhfhgkkfaghoaa
