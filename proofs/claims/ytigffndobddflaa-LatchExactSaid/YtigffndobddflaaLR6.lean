/- The contract of lockkeeperref08.Ask. -/
import Derived.Test.YtigffndobddflaaLR5
import Derived.Lib.AppendZerosOnto
namespace Go.Proofs.Ytigffndobddflaa
open Go.RowKit

theorem Rd'.of_own2 {α : Type} {f : α → List Value} {sz : Nat} {w : World} {A : Option Addr} {l : List α} {base : Nat} {e : TypeId} {c : Nat} {n : Nat} (h : w.ownsRow base e sz (.slice A n c) n (l.flatMap f)) (hf : ∀ x, (f x).length = sz) (hsz : 0 < sz) : Rd' f sz w (fun b => (Value.slice A n c).ownBlock = some b ∧ base ≤ b ∧ b < w.heap.size) A l := fun hn => by
  obtain ⟨b, off, e1, hb, hc⟩ := Rd.of_own h hf hsz hn
  have hob : (Value.slice A n c).ownBlock = some b := by subst e1; rfl
  exact ⟨b, off, e1, ⟨hob, (h.lt b hob).1, hb⟩, hc⟩

set_option maxRecDepth 20000 in
set_option maxHeartbeats 4000000 in
theorem refAsk_any (w : World) (ok : Nat → Prop) (A Q : Option Addr) (ac qc : Nat) (l : La) (who : Int) (ex : Bool) (hemp : l.hs = [] → l.ex = false) (hll : l.hs.length + l.q.length ≤ 800) (hok : ∀ b, ok b → b < w.heap.size) (hm : LM w ok l A ac Q qc) :
    Calls Try.prog 17 #[.agg #[.slice A l.hs.length ac, .bool l.ex, .slice Q l.q.length qc], .int .i64 who, .bool ex] w (EnterDone ok (enterL { l with q := l.q ++ [⟨who, ex⟩] }) w) := by
  obtain ⟨W, hW, hbW, hsW, hB, hZ⟩ := la_box2 w A Q ac qc l 28
  obtain ⟨r, ins, hr⟩ : ∃ r ins, enterL { l with q := l.q ++ [⟨who, ex⟩] } = (r, ins) := ⟨_, _, rfl⟩
  have Hr := Lib.hid hr
  have HB' := Lib.hid hB
  have HZ := Lib.hid hZ
  have HmW := Lib.hid (hm.below hbW hok)
  have HmW' := Lib.hid ((hm.below hbW hok).imp (ok' := fun b => b < W.heap.size) fun b hb => by have := hok b hb; omega)
  have HbW := Lib.hid hbW
  have Hok := Lib.hid hok
  have Hemp := Lib.hid hemp
  have HW := Lib.hid hW.symm
  have hV2 : w.heap.size + 2 ≤ W.heap.size := by omega
  obtain ⟨j0, hj0, hy0, hy1, hy2⟩ := info_parts Try.infoRefW
  have Hsrc := Lib.hid (HmW'.out.q.srcs wt_len); have Hnone := Lib.hid HmW'.out.q.none_len; have Hl2 := Lib.hid (flat_len wt_len l.q)
  obtain ⟨c0, c1, c2, f0, f1, f2, lt⟩ := hB
  clear hW hZ hm hbW hok hsW hemp hr
  go_enter Try.func17, Try.ntmps17
  go_upto_region 2 with fail
  rw [HW.out]
  go_wp2_with (at_builtin; refine list_app rfl (.tmp 9) (.tmp 11) 26 rfl (w.heap.size + 2) 59 j0 (.agg #[.int .i64 0, .bool false]) 2 16 Try.underlying26 hj0 hy0 hy1 hy2 rfl (by decide) rfl (World.ownsRow_nil _ _ _ _) (m := l.q.length) (news := l.q.flatMap Wt.cells) rfl Hl2.out Hnone.out Hsrc.out (flat_one wt_one l.q) ?_ ?_ ?_ ?_)
  · unfold maxLen; omega
  · omega
  · omega
  intro v4 w5 ho4 hg4 hv4
  obtain ⟨Aq, cq, rfl, _, _⟩ := own_slice ho4
  try simp only [Nat.zero_add, List.nil_append] at ho4
  try simp only [Nat.zero_add, List.nil_append] at hv4
  try simp only [Nat.zero_add, List.nil_append]
  have hs4 := hg4.size
  have hk4 : ∀ g, g < W.heap.size → w5.heap[g]? = W.heap[g]? := fun g h => hg4.block g h (by simp [Value.ownBlock])
  have HoQ := Lib.hid (show ∀ g, (Value.slice Aq l.q.length cq).ownBlock = some g → w.heap.size + 2 ≤ g ∧ g < w5.heap.size from fun g hg => ho4.lt g hg)
  have HBN := Lib.hid (HB'.out.keep (hk4 _ (by omega)))
  have HZN := Lib.hid (HZ.out.keep (hk4 (w.heap.size + 1) (by omega)))
  have Hmx := Lib.hid (HmW.out.keep (w' := w5) fun b hb => hk4 b (by have := Hok.out b hb; omega))
  have Hw5 := Lib.hid (HbW.out.grown hg4 (by omega) (fun d hd => by simp [Value.ownBlock] at hd))
  have Ho5 := Lib.hid ho4
  have hN5 : w.heap.size + 2 ≤ w5.heap.size := by omega
  clear ho4 hg4 hv4 hk4 c0 c1 c2 f0 f1 f2 lt hs4
  go_upto_region 3 with fail
  have hC : ∀ U : World, (∀ g, g < w5.heap.size → (Value.slice Aq l.q.length cq).ownBlock ≠ some g → U.heap[g]? = w5.heap[g]?) → (fun U => LB w.heap.size l A ac Q qc U) U := fun U hU => HBN.out.keep (hU _ (by omega) (fun e => by have := HoQ.out _ e; omega))
  have HC := Lib.hid hC
  refine wp_region_C (fun U => LB w.heap.size l A ac Q qc U) (by kernel_rfl) rfl rfl ?_
  obtain ⟨U0, hU0⟩ : ∃ U0, U0 = w5.drew := ⟨_, rfl⟩
  have Hb0 := Lib.hid (show ∀ g, g < w5.heap.size → (Value.slice Aq l.q.length cq).ownBlock ≠ some g → U0.heap[g]? = w5.heap[g]? from fun g _ _ => by rw [hU0]; rfl)
  have Hz0 := Lib.hid (show w5.heap.size ≤ U0.heap.size by rw [hU0]; exact Nat.le_refl _)
  have Ho0 := Lib.hid (own_heap Ho5.out (w' := U0) fun g hg => by rw [hU0]; rfl)
  have Hw0 := Lib.hid (show Below w.heap.size w U0 by rw [hU0]; exact Hw5.out.drew)
  rw [← hU0]
  clear hU0 hC
  · --
    (refine takeC (i := 0) (.pointer (some ⟨w.heap.size, 0, none⟩)) rfl (by kernel_rfl) (by kernel_rfl) (by kernel_rfl) rfl (fun _ _ _ h => h) (HC.out U0 Hb0.out) rfl (fun U hU => by obtain ⟨h0, h1, h2, _, _, _, _⟩ := hU; go_simp) (fun K hK => ?_); have HK := Lib.hid hK; clear hK; go_simp; refine HK.out _ ?_; clear HK K)
    (refine takeC (i := 1) (.slice A l.hs.length ac) rfl (by kernel_rfl) (by kernel_rfl) (by kernel_rfl) rfl (fun _ _ _ h => h) (HC.out U0 Hb0.out) rfl (fun U hU => by obtain ⟨h0, h1, h2, _, _, _, _⟩ := hU; go_simp) (fun K hK => ?_); have HK := Lib.hid hK; clear hK; go_simp; refine HK.out _ ?_; clear HK K)
    (refine takeC (i := 2) (.pointer (some ⟨w.heap.size, 1, none⟩)) rfl (by kernel_rfl) (by kernel_rfl) (by kernel_rfl) rfl (fun _ _ _ h => h) (HC.out U0 Hb0.out) rfl (fun U hU => by obtain ⟨h0, h1, h2, _, _, _, _⟩ := hU; go_simp) (fun K hK => ?_); have HK := Lib.hid hK; clear hK; go_simp; refine HK.out _ ?_; clear HK K)
    (refine takeC (i := 3) (.bool l.ex) rfl (by kernel_rfl) (by kernel_rfl) (by kernel_rfl) rfl (fun _ _ _ h => h) (HC.out U0 Hb0.out) rfl (fun U hU => by obtain ⟨h0, h1, h2, _, _, _, _⟩ := hU; go_simp) (fun K hK => ?_); have HK := Lib.hid hK; clear hK; go_simp; refine HK.out _ ?_; clear HK K)
    (refine takeC (i := 4) (.slice Aq l.q.length cq) rfl (by kernel_rfl) (by kernel_rfl) (by kernel_rfl) rfl (fun _ _ _ h => h) (HC.out U0 Hb0.out) rfl (fun U hU => by obtain ⟨h0, h1, h2, _, _, _, _⟩ := hU; go_simp) (fun K hK => ?_); have HK := Lib.hid hK; clear hK; go_simp; refine HK.out _ ?_; clear HK K)
    (refine takeC (i := 5) (.int .i64 who) rfl (by kernel_rfl) (by kernel_rfl) (by kernel_rfl) rfl (fun _ _ _ h => h) (HC.out U0 Hb0.out) rfl (fun U hU => by obtain ⟨h0, h1, h2, _, _, _, _⟩ := hU; go_simp) (fun K hK => ?_); have HK := Lib.hid hK; clear hK; go_simp; refine HK.out _ ?_; clear HK K)
    (refine takeC (i := 6) (.bool ex) rfl (by kernel_rfl) (by kernel_rfl) (by kernel_rfl) rfl (fun _ _ _ h => h) (HC.out U0 Hb0.out) rfl (fun U hU => by obtain ⟨h0, h1, h2, _, _, _, _⟩ := hU; go_simp) (fun K hK => ?_); have HK := Lib.hid hK; clear hK; go_simp; refine HK.out _ ?_; clear HK K)
    (refine takeC (i := 7) (.agg #[.int .i64 who, .bool ex]) rfl (by kernel_rfl) (by kernel_rfl) (by kernel_rfl) rfl (fun _ _ _ h => h) (HC.out U0 Hb0.out) rfl (fun U hU => by obtain ⟨h0, h1, h2, _, _, _, _⟩ := hU; go_simp) (fun K hK => ?_); have HK := Lib.hid hK; clear hK; go_simp; refine HK.out _ ?_; clear HK K)
    refine oneC (i := 8) (by kernel_rfl) rfl rfl rfl (fun K hK => ?_)
    have HK := Lib.hid hK; clear hK; go_simp
    obtain ⟨m, hm⟩ : ∃ m, m = U0.heap.size := ⟨_, rfl⟩
    obtain ⟨U1, hU⟩ : ∃ U, U = U0.alloc (.cells #[.int .i64 who, .bool ex] 59) := ⟨_, rfl⟩
    have hq : Below U0.heap.size U0 U1 := by rw [hU]; exact (Below.refl _ _).alloc (Nat.le_refl _) _
    have hs : U1.heap.size = U0.heap.size + 1 := by rw [hU]; simp
    have hsrc : U1.heap[m]? = some (.cells #[.int .i64 who, .bool ex] 59 (0, 0)) := by rw [hU, hm, heap_alloc_new]
    rw [← hU, ← hm]
    have Hb1 := Lib.hid (show ∀ g, g < w5.heap.size → (Value.slice Aq l.q.length cq).ownBlock ≠ some g → U1.heap[g]? = w5.heap[g]? from fun g h1 h2 => (hq.block g (by have := Hz0.out; omega)).trans (Hb0.out g h1 h2))
    have Hw1 := Lib.hid (show Below w.heap.size w U1 by have := Hz0.out; exact Hw0.out.trans (hq.mono (by omega)))
    have Ho1 := Lib.hid (own_up Ho0.out hq)
    have Hz1 := Lib.hid (show w5.heap.size ≤ U1.heap.size by have := Hz0.out; omega)
    have Hsrc1 := Lib.hid hsrc
    clear hU hq hs hsrc hm
    refine HK.out _ _ (HC.out _ Hb1.out) ?_
    clear HK K
    refine oneC (i := 9) (by kernel_rfl) rfl rfl rfl (fun K hK => ?_)
    have HK := Lib.hid hK; clear hK
    refine wp_app (.tmp 17) (.tmp 21) 26 rfl (w.heap.size + 2) 59 j0 (.agg #[.int .i64 0, .bool false]) 2 16 Try.underlying26 hj0 hy0 hy1 hy2 rfl (by decide) (v := .slice Aq l.q.length cq) (by rfl) Ho1.out (A := some ⟨m, 0, none⟩) (m := 1) (c := 1) (news := Wt.cells ⟨who, ex⟩) (by rfl) rfl (by simp) (fun ad e j u hu => by injection e with e; subst e; rw [Addr.add_lit, Nat.zero_add, cells_of Hsrc1.out]; simpa [Wt.cells] using hu) (wt_one _) ?_ ?_ ?_ ?_
    · unfold maxLen; omega
    · omega
    · have := Hz1.out; omega
    intro v7 U2 ho7 hg7 hv7
    obtain ⟨A7, c7, rfl, _, _⟩ := own_slice ho7
    have hs7 := hg7.size; have hz7 := Hz1.out
    have Hb2 := Lib.hid (show ∀ g, g < w5.heap.size → (Value.slice Aq l.q.length cq).ownBlock ≠ some g → U2.heap[g]? = w5.heap[g]? from fun g h1 h2 => (hg7.block g (by omega) (fun e => h2 e.symm)).trans (Hb1.out g h1 h2))
    have Hw2 := Lib.hid (Hw1.out.grown hg7 (by omega) (fun d hd => by have := (Ho1.out.lt d hd).1; omega))
    have Ho2 := Lib.hid ho7
    have Hz2 := Lib.hid (show w5.heap.size ≤ U2.heap.size by omega)
    clear ho7 hg7 hv7 hs7 hz7
    go_simp
    refine HK.out _ _ (HC.out _ Hb2.out) ?_
    clear HK K
    (refine takeC (i := 10) (.agg #[.slice A l.hs.length ac, .bool l.ex, .slice A7 (l.q.length + 1) c7]) rfl (by kernel_rfl) (by kernel_rfl) (by kernel_rfl) rfl (fun _ _ _ h => h) (HC.out U2 Hb2.out) rfl (fun U hU => by obtain ⟨h0, h1, h2, _, _, _, _⟩ := hU; go_simp) (fun K hK => ?_); have HK := Lib.hid hK; clear hK; go_simp; refine HK.out _ ?_; clear HK K)
    refine oneC (i := 11) (by kernel_rfl) rfl rfl rfl (fun K hK => ?_)
    have HK := Lib.hid hK; clear hK; go_simp
    have hz := Hz2.out
    obtain ⟨ha1, ha2⟩ := own_cap Ho2.out
    have hmU : LM U2 (fun b => ok b ∨ ((Value.slice A7 (l.q.length + 1) c7).ownBlock = some b ∧ w.heap.size + 2 ≤ b ∧ b < U2.heap.size)) { l with q := l.q ++ [⟨who, ex⟩] } A ac A7 c7 :=
      ⟨(Hmx.out.rc.keep (w' := U2) fun b hb => Hb2.out b (by have := Hok.out b hb; omega) (fun e => by have := Hok.out b hb; have := HoQ.out b e; omega)).imp fun b hb => .inl hb, (Rd'.of_own2 (n := l.q.length + 1) (by have := Ho2.out; rw [List.flatMap_append]; simpa using this) wt_len (by decide)).imp fun b hb => .inr hb, Hmx.out.ca, Hmx.out.ca2, by simpa using ha1, ha2⟩
    have d8 := refLet_any U2 (fun b => ok b ∨ ((Value.slice A7 (l.q.length + 1) c7).ownBlock = some b ∧ w.heap.size + 2 ≤ b ∧ b < U2.heap.size)) A A7 ac c7 { l with q := l.q ++ [⟨who, ex⟩] } Hemp.out (by simp; omega) (fun b hb => by
      rcases hb with h | h
      · have := Hok.out b h; omega
      · exact h.2.2) hmU
    rw [Hr.out] at d8
    simp only [List.length_append, List.length_cons, List.length_nil, Nat.zero_add] at d8
    refine d8.mono ?_
    clear d8 hmU ha1 ha2
    rintro e U3 ⟨A2, ac2, Q2, qc2, I2, ic2, rfl, hm8, hi8, hq⟩
    have hs8 := hq.size
    have Hb3 := Lib.hid (show ∀ g, g < w5.heap.size → (Value.slice Aq l.q.length cq).ownBlock ≠ some g → U3.heap[g]? = w5.heap[g]? from fun g h1 h2 => (hq.block g (by omega)).trans (Hb2.out g h1 h2))
    have Hw3 := Lib.hid (Hw2.out.trans (hq.mono (by omega)))
    have Hm3 := Lib.hid (hm8.imp (ok' := fun b => (ok b ∨ w.heap.size + 2 ≤ b) ∧ b < U3.heap.size) fun b hb => by
      rcases hb with (h | h) | h
      · have := Hok.out b h; exact ⟨.inl h, by omega⟩
      · exact ⟨.inr (by omega), by omega⟩
      · exact ⟨.inr (by omega), by omega⟩)
    have Hi3 := Lib.hid (hi8.imp (ok' := fun b => w.heap.size + 2 ≤ b ∧ b < U3.heap.size) fun b hb => ⟨by omega, by omega⟩)
    have HZ3 := Lib.hid (HZN.out.keep (Hb3.out (w.heap.size + 1) (by omega) (fun e => by have := HoQ.out _ e; omega)))
    clear hm8 hi8 hq hs8 hz
    simp only
    refine HK.out _ _ (HC.out _ Hb3.out) ?_
    clear HK K
    (refine takeC (i := 12) (.agg #[.slice A2 r.hs.length ac2, .bool r.ex, .slice Q2 r.q.length qc2]) rfl (by kernel_rfl) (by kernel_rfl) (by kernel_rfl) rfl (fun _ _ _ h => h) (HC.out U3 Hb3.out) rfl (fun U hU => by obtain ⟨h0, h1, h2, _, _, _, _⟩ := hU; go_simp) (fun K hK => ?_); have HK := Lib.hid hK; clear hK; go_simp; refine HK.out _ ?_; clear HK K)
    (refine takeC (i := 13) (.slice I2 ins.length ic2) rfl (by kernel_rfl) (by kernel_rfl) (by kernel_rfl) rfl (fun _ _ _ h => h) (HC.out U3 Hb3.out) rfl (fun U hU => by obtain ⟨h0, h1, h2, _, _, _, _⟩ := hU; go_simp) (fun K hK => ?_); have HK := Lib.hid hK; clear hK; go_simp; refine HK.out _ ?_; clear HK K)
    obtain ⟨e0, e1, e2, k0, k1, k2, ltz⟩ := HZ3.out
    refine oneC (i := 14) (by kernel_rfl) rfl rfl rfl (fun K hK => ?_)
    have HK := Lib.hid hK; clear hK; go_simp
    obtain ⟨U9, hU⟩ : ∃ U9, U9 = fill3 U3 (w.heap.size + 1) r A2 ac2 Q2 qc2 := ⟨_, rfl⟩
    have hk : ∀ b, b ≠ w.heap.size + 1 → U9.heap[b]? = U3.heap[b]? := fun b h => by rw [hU]; exact fill3_keep h
    have hs : U9.heap.size = U3.heap.size := by rw [hU]; exact fill3_size
    have HB9 := Lib.hid (show LB (w.heap.size + 1) r A2 ac2 Q2 qc2 U9 by rw [hU]; exact HZ3.out.lb.fill)
    have HC9 := Lib.hid (show LB w.heap.size l A ac Q qc U9 from (HC.out _ Hb3.out).keep (hk _ (by omega)))
    have Hw9 := Lib.hid (show Below w.heap.size w U9 by rw [hU]; exact fill3_below Hw3.out (by omega))
    have Hm9 := Lib.hid ((Hm3.out.keep (w' := U9) fun b hb => hk b (by rcases hb.1 with h | h; have := Hok.out b h; omega; omega)).imp (ok' := fun b => (ok b ∨ w.heap.size + 2 ≤ b) ∧ b < U9.heap.size) fun b hb => by rw [hs]; exact hb)
    have Hi9 := Lib.hid ((Hi3.out.keep (w' := U9) fun b hb => hk b (by omega)).imp (ok' := fun b => w.heap.size + 2 ≤ b ∧ b < U9.heap.size) fun b hb => by rw [hs]; exact hb)
    rw [fill3] at hU
    rw [← hU]
    clear hU hk hs e0 e1 e2 k0 k1 k2 ltz
    refine HK.out _ _ HC9.out ?_
    clear HK K
    (refine oneC (i := 15) (by kernel_rfl) rfl rfl rfl (fun K hK => ?_); have HK := Lib.hid hK; clear hK; go_simp; refine HK.out _ _ HC9.out ?_; clear HK K)
    refine doneC (by kernel_rfl) ?_
    go_wp2_with fail
    obtain ⟨y0, y1, y2, _, _, _, _⟩ := HB9.out
    refine bodyPost_ret (v := .tuple #[.agg #[.slice A2 r.hs.length ac2, .bool r.ex, .slice Q2 r.q.length qc2], .slice I2 ins.length ic2]) (by simp [results, Try.results17, go_sem, y0, y1, y2]) rfl ?_
    rw [Hr.out]
    exact ⟨A2, ac2, Q2, qc2, I2, ic2, rfl, Hm9.out.imp fun b hb => by rcases hb.1 with h | h; exact .inl h; exact .inr (by omega), Hi9.out.imp fun b hb => by omega, Hw9.out⟩
end Go.Proofs.Ytigffndobddflaa
