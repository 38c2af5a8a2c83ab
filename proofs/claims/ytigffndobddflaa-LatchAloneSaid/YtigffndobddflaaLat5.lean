/- The contract of latch.enter. -/
import Derived.Test.YtigffndobddflaaLat4
import Derived.Test.YtigffndobddflaaInIns
import Derived.Test.YtigffndobddflaaWtClone
namespace Go.Proofs.Ytigffndobddflaa
open Go.RowKit

theorem la_box2 (w : World) (A Q : Option Addr) (ac qc : Nat) (l : La) (t : TypeId) : ∃ W, W = (w.alloc (.cells #[.slice A l.hs.length ac, .bool l.ex, .slice Q l.q.length qc] t)).alloc (.cells #[.slice none 0 0, .bool false, .slice none 0 0] t) ∧ Below w.heap.size w W ∧ W.heap.size = w.heap.size + 2 ∧ LB w.heap.size l A ac Q qc W ∧ LZ (w.heap.size + 1) W := by
  obtain ⟨W1, h1⟩ : ∃ W1, W1 = w.alloc (.cells #[.slice A l.hs.length ac, .bool l.ex, .slice Q l.q.length qc] t) := ⟨_, rfl⟩
  have s1 : W1.heap.size = w.heap.size + 1 := by rw [h1]; simp
  refine ⟨_, rfl, ((Below.refl _ _).alloc (Nat.le_refl _) _).alloc (by simp) _, by simp, ?_, ?_⟩
  · rw [← h1]
    exact LB.of (t := t) (by rw [heap_alloc_old _ _ (by omega), h1, heap_alloc_new])
  · rw [← h1]
    exact (LB.of (l := ⟨[], false, []⟩) (t := t) (by rw [← s1, heap_alloc_new]; rfl)).lz
/-- what enter has done so far -/
structure Ent (w : World) (ok : Nat → Prop) (l0 : La) (wr : World) (hs : List Int) (ex : Bool) (q : List Wt) (ins : List Int) (A : Option Addr) (ac : Nat) (Q : Option Addr) (qc : Nat) (I : Option Addr) (ic : Nat) : Prop where
  hb : LB w.heap.size ⟨hs, ex, q⟩ A ac Q qc wr
  res : LZ (w.heap.size + 1) wr
  own : wr.ownsRow (w.heap.size + 2) 3 1 (.slice A hs.length ac) hs.length (hs.flatMap icells)
  rq : Rd' Wt.cells 2 wr ok Q q
  qa : q.length ≤ qc ∧ qc ≤ 9223372036854775807
  inr : wr.ownsRow (w.heap.size + 2) 3 1 (.slice I ins.length ic) ins.length (ins.flatMap icells)
  apart : ∀ g, (Value.slice A hs.length ac).ownBlock = some g → (Value.slice I ins.length ic).ownBlock ≠ some g
  below : Below w.heap.size w wr
  size : w.heap.size + 2 ≤ wr.heap.size
  rising : Rising hs
  len : hs.length + q.length = l0.hs.length + l0.q.length
  inl : ins.length + q.length = l0.q.length
  run : letL l0.hs l0.ex l0.q = ((letL hs ex q).1, (letL hs ex q).2.1, (letL hs ex q).2.2.1, ins ++ (letL hs ex q).2.2.2)
/-- what enter tells -/
def EnterDone (ok : Nat → Prop) (r : La × List Int) (w : World) (e : Ending) (w' : World) : Prop :=
  ∃ A ac Q qc I ic, e = .returned (.tuple #[.agg #[.slice A r.1.hs.length ac, .bool r.1.ex, .slice Q r.1.q.length qc], .slice I r.2.length ic]) ∧
    LM w' (fun b => ok b ∨ (w.heap.size ≤ b ∧ b < w'.heap.size)) r.1 A ac Q qc ∧ Rd' icells 1 w' (fun b => w.heap.size ≤ b ∧ b < w'.heap.size) I r.2 ∧ Below w.heap.size w w'

set_option maxRecDepth 20000 in
set_option maxHeartbeats 4000000 in
theorem enter_any (w : World) (ok : Nat → Prop) (A Q : Option Addr) (ac qc : Nat) (l : La) (hri : Rising l.hs) (hll : l.hs.length + l.q.length ≤ 1000) (hok : ∀ b, ok b → b < w.heap.size) (hm : LM w ok l A ac Q qc) :
    Calls Try.prog 25 #[.agg #[.slice A l.hs.length ac, .bool l.ex, .slice Q l.q.length qc]] w (EnterDone ok (enterL l) w) := by
  obtain ⟨W, hW, hbW, hsW, hB, hZ⟩ := la_box2 w A Q ac qc l 25
  have HB' := Lib.hid hB
  have HZ := Lib.hid hZ
  have Hm := Lib.hid (hm.below hbW hok)
  have HbW := Lib.hid hbW
  have Hok := Lib.hid hok
  have Hri := Lib.hid hri
  have hW' := hW.symm
  obtain ⟨c0, c1, c2, f0, f1, f2, lt⟩ := hB
  have d1 := clone_In W A ac l.hs (by omega) i_len i_one (Hm.out.rc.to fun b hb => by have := hok b hb; omega)
  have Hd1 := Lib.hid d1
  obtain ⟨j0, hj0, hy0, hy1, hy2⟩ := info_parts Try.infoInt
  clear hW hZ hm d1 hbW hok hri
  go_enter Try.func25, Try.ntmps25
  go_wp2_with fail
  refine Hd1.out.mono ?_
  clear Hd1
  rintro e V ⟨A1, c1', rfl, ho1, hb1⟩
  have hs1 := hb1.size
  have HBV := HB'.out.up hb1 (by omega)
  have HB1 := Lib.hid (HBV.set0 l.hs A1 c1')
  have hne1 : (Value.slice A1 l.hs.length c1').ownBlock ≠ some w.heap.size := fun e => by have := (ho1.lt _ e).1; omega
  have Ho1 := Lib.hid (own_le (base' := w.heap.size + 2) (own_setCell (j := 0) ho1 hne1 (.slice A1 l.hs.length c1')) (by omega))
  have hV1 : LZ (w.heap.size + 1) (V.setCell ⟨w.heap.size, 0, none⟩ (.slice A1 l.hs.length c1')) := (HZ.out.up hb1 (by omega)).keep (Below.heap_setCell V ⟨w.heap.size, 0, none⟩ _ (w.heap.size + 1) (by simp))
  have HV1 := Lib.hid hV1
  have hmV := Hm.out.rq.keep (w' := V.setCell ⟨w.heap.size, 0, none⟩ (.slice A1 l.hs.length c1')) fun b hb => (Below.heap_setCell V ⟨w.heap.size, 0, none⟩ _ b (by have := Hok.out b hb; show b ≠ w.heap.size; omega)).trans (hb1.block b (by have := Hok.out b hb; omega))
  have HmV := Lib.hid hmV
  have HbV := Lib.hid ((bnext HbW.out hb1).setCell (p := ⟨w.heap.size, 0, none⟩) (Nat.le_refl _) (.slice A1 l.hs.length c1'))
  obtain ⟨c0', c1'', c2', f0', f1', f2', lt'⟩ := HBV
  clear c0 c1 c2 f0 f1 f2 lt ho1 hb1 hne1 hV1 hmV hW'
  have hs1' : w.heap.size + 2 ≤ V.heap.size := by omega
  go_wp2_with fail
  clear c0' c1'' c2' f0' f1' f2' lt'
  obtain ⟨X, hX⟩ : ∃ X, X = V.setCell ⟨w.heap.size, 0, none⟩ (.slice A1 l.hs.length c1') := ⟨_, rfl⟩
  rw [← hX] at HB1 Ho1 HV1 HmV HbV ⊢
  have hsX : w.heap.size + 2 ≤ X.heap.size := by rw [hX]; simpa using hs1'
  clear hX
  go_loopg [4] l.q.length (fun g iv wr => ∃ (hs : List Int) (ex : Bool) (q : List Wt) (ins : List Int) (A : Option Addr) (ac : Nat) (Q : Option Addr) (qc : Nat) (I : Option Addr) (ic : Nat), g = q.length ∧ iv = .slice I ins.length ic ∧ Ent w ok l wr hs ex q ins A ac Q qc I ic)
  case atStart => exact ⟨l.hs, l.ex, l.q, [], A1, c1', Q, qc, none, 0, rfl, rfl, HB1.out, HV1.out, Ho1.out, HmV.out, ⟨Hm.out.qa, Hm.out.qa2⟩, World.ownsRow_nil _ _ _ _, fun g _ => own_none rfl, HbV.out, hsX, Hri.out, rfl, by simp, by simp⟩
  case round =>
    obtain ⟨hs, ex, q, ins, A, ac, Q, qc, I, ic, hg, rfl, hE⟩ := hrel
    have HE := Lib.hid hE
    have Hg := Lib.hid hg
    obtain ⟨c0, c1, c2, f0, f1, f2, lt⟩ := hE.hb
    have hsr := hE.size
    simp only at c0 c1 c2
    have d2 := open_any wr A Q ac qc ⟨hs, ex, q⟩ (hE.rq.to fun b hb => by have := Hok.out b hb; omega)
    obtain ⟨op, hop⟩ : ∃ op, op = openW hs ex q := ⟨_, rfl⟩
    have d2' : Calls Try.prog 31 #[.agg #[.slice A hs.length ac, .bool ex, .slice Q q.length qc]] wr fun e w' => e = .returned (.bool op) ∧ Below wr.heap.size wr w' := by rw [hop]; exact d2
    have Hd2 := Lib.hid d2'
    have Hop := Lib.hid hop
    clear d2 d2' hop hE hg
    go_wp2_with fail
    refine Hd2.out.mono ?_
    clear Hd2
    rintro e V2 ⟨rfl, hb2⟩
    have Hb2 := Lib.hid hb2
    have hs2 := hb2.size
    have HB2 := Lib.hid (HE.out.hb.up hb2 (by omega))
    clear c0 c1 c2 f0 f1 f2 lt hb2
    obtain ⟨c0, c1, c2, f0, f1, f2, lt⟩ := HB2.out
    simp only at c0 c1 c2
    have HZ2 := Lib.hid (HE.out.res.up Hb2.out (by omega))
    cases op with
    | false =>
      obtain ⟨e0, e1, e2, k0, k1, k2, hlt1⟩ := HZ2.out
      go_wp2_with fail
      have HF := HZ2.out.lb.fill (r := ⟨hs, ex, q⟩) (A' := A) (ac' := ac) (Q' := Q) (qc' := qc)
      unfold fill3 at HF
      obtain ⟨y0, y1, y2, _, _, _, _⟩ := HF
      simp only at y0 y1 y2
      refine bodyPost_ret (v := .tuple #[.agg #[.slice A hs.length ac, .bool ex, .slice Q q.length qc], .slice I ins.length ic]) (by simp [results, Try.results25, go_sem, y0, y1, y2]) rfl ?_
      have hrun := HE.out.run
      rw [letL_shut Hop.out] at hrun
      simp only [List.append_nil] at hrun
      have hent : enterL l = (⟨hs, ex, q⟩, ins) := by rw [enterL, hrun]
      rw [hent]
      have hkk : ∀ g, g ≠ w.heap.size + 1 → (fill3 V2 (w.heap.size + 1) ⟨hs, ex, q⟩ A ac Q qc).heap[g]? = V2.heap[g]? := fun g h => fill3_keep h
      have hzz : (fill3 V2 (w.heap.size + 1) ⟨hs, ex, q⟩ A ac Q qc).heap.size = V2.heap.size := fill3_size
      have hfin : EnterDone ok (⟨hs, ex, q⟩, ins) w (.returned (.tuple #[.agg #[.slice A hs.length ac, .bool ex, .slice Q q.length qc], .slice I ins.length ic])) (fill3 V2 (w.heap.size + 1) ⟨hs, ex, q⟩ A ac Q qc) := by
        have hrc := (Rd'.of_own (own_up HE.out.own Hb2.out) i_len (by decide)).keep (fun b hb => hkk b (by omega))
        have hri := (Rd'.of_own (own_up HE.out.inr Hb2.out) i_len (by decide)).keep (fun b hb => hkk b (by omega))
        have hrq := (HE.out.rq.keep (w' := V2) fun b hb => Hb2.out.block b (by have := Hok.out b hb; omega)).keep (fun b hb => hkk b (by have := Hok.out b hb; omega))
        obtain ⟨hc1, hc2⟩ := own_cap HE.out.own
        refine ⟨A, ac, Q, qc, I, ic, rfl, ⟨hrc.imp fun b hb => .inr ⟨by omega, by omega⟩, hrq.imp fun b hb => .inl hb, hc1, hc2, HE.out.qa.1, HE.out.qa.2⟩, hri.imp fun b hb => ⟨by omega, by omega⟩, ?_⟩
        exact fill3_below (HE.out.below.trans (Hb2.out.mono (by omega))) (by omega)
      unfold fill3 at hfin
      exact hfin
    | true =>
      cases q with
      | nil => have := Hop.out; simp [openW] at this
      | cons t q =>
      obtain ⟨b, off, rfl, hbb, hcell⟩ := HE.out.rq (by simp)
      have g0 := (Hb2.out.cell (p := ⟨b, off, none⟩) (by show b < wr.heap.size; have := Hok.out b hbb; omega)).trans (hcell 0 t rfl 0 _ rfl)
      have g1 := (Hb2.out.cell (p := ⟨b, off + 1, none⟩) (by show b < wr.heap.size; have := Hok.out b hbb; omega)).trans (hcell 0 t rfl 1 _ rfl)
      obtain ⟨tx, htx⟩ : ∃ tx, tx = t.ex := ⟨_, rfl⟩
      rw [← htx] at g1
      have Htx := Lib.hid htx
      have hbw := Hok.out b hbb
      have hq1 : (1 : Int) ≤ ((q.length + 1 : Nat) : Int) := by omega
      have Hbb := Lib.hid hbb
      clear hcell htx hbb
      simp only [List.length_cons] at c2
      have hlen := HE.out.len
      have hinl := HE.out.inl
      simp only [List.length_cons] at hlen hinl
      obtain ⟨M, hM⟩ : ∃ M, M = V2.heap.size := ⟨_, rfl⟩
      have hM' := hM.symm
      have hbM : b < M := by omega
      have hNM : w.heap.size + 2 ≤ M := by omega
      have hNM0 : w.heap.size < M := by omega
      have hqa := HE.out.qa
      simp only [List.length_cons] at hqa
      obtain ⟨hqa1, hqa2⟩ := hqa
      have hq2 : (1 : Int) ≤ (qc : Int) := by omega
      obtain ⟨X1, hX1⟩ : ∃ X1, X1 = V2.alloc (.cells #[.int .i64 t.who, .bool tx] 58) := ⟨_, rfl⟩
      have hbX1 : Below M V2 X1 := by rw [hX1, hM]; exact (Below.refl _ _).alloc (Nat.le_refl _) _
      have hsX1 : X1.heap.size = M + 1 := by rw [hX1]; simp [hM']
      have hMX1 : X1.heap[M]? = some (.cells #[.int .i64 t.who, .bool tx] 58 (0, 0)) := by rw [hX1, ← hM', heap_alloc_new]
      have HX1 := Lib.hid hX1.symm
      have HbX1 := Lib.hid hbX1
      have HsX1 := Lib.hid hsX1
      have HMX1 := Lib.hid hMX1
      have HBX1 := Lib.hid (HB2.out.up hbX1 hNM0)
      have Hbw1 := Lib.hid ((HE.out.below.trans (Hb2.out.mono (by omega))).trans (hbX1.mono (by omega)))
      have HM := Lib.hid hM
      have hM2 : V2.heap.size = M := hM'
      clear hX1 hbX1 hsX1 hMX1 hM hM2
      go_upto_region 5 with fail
      rw [HX1.out]
      clear HX1 c0 c1 c2 f0 f1 f2 lt g0 g1 hM'
      obtain ⟨c0, c1, c2, f0, f1, f2, lt⟩ := HBX1.out
      simp only [List.length_cons] at c0 c1 c2
      have HrqX := Lib.hid ((HE.out.rq.keep (w' := V2) fun d hd => Hb2.out.block d (by have := Hok.out d hd; omega)).keep (w' := X1) fun d hd => HbX1.out.block d (by have := Hok.out d hd; omega))
      go_cut [] (fun wx => ∃ (Q' : Option Addr) (qc' : Nat), LB w.heap.size ⟨hs, ex, q⟩ A ac Q' qc' wx ∧ Rd' Wt.cells 2 wx ok Q' q ∧ q.length ≤ qc' ∧ qc' ≤ 9223372036854775807 ∧ (∀ g, g ≠ w.heap.size → wx.heap[g]? = X1.heap[g]?) ∧ wx.heap.size = X1.heap.size ∧ Below w.heap.size w wx)
      case first =>
        have hbX : ∀ (v : Value), Below w.heap.size w (X1.setCell ⟨w.heap.size, 2, none⟩ v) := fun v => Hbw1.out.setCell (p := ⟨w.heap.size, 2, none⟩) (Nat.le_refl _) _
        have hkX : ∀ (v : Value) (g : Nat), g ≠ w.heap.size → (X1.setCell ⟨w.heap.size, 2, none⟩ v).heap[g]? = X1.heap[g]? := fun v g h => Below.heap_setCell X1 ⟨w.heap.size, 2, none⟩ _ g h
        have HbX := Lib.hid hbX; have HkX := Lib.hid hkX
        clear hbX hkX
        by_cases hqc1 : qc = 1
        · have hqc0 : qc - 1 = 0 := by omega
          have HBs := Lib.hid (HBX1.out.set2 q (some ⟨b, off, none⟩) 0)
          have hrq : Rd' Wt.cells 2 (X1.setCell ⟨w.heap.size, 2, none⟩ (.slice (some ⟨b, off, none⟩) q.length 0)) ok (some ⟨b, off, none⟩) q := by
            obtain rfl : q = [] := List.eq_nil_of_length_eq_zero (by omega)
            exact Rd'.nil
          have Hrq := Lib.hid hrq
          clear hrq
          go_wp2_with fail
          go_meet
          exact ⟨_, _, HBs.out, Hrq.out, by omega, by omega, HkX.out _, by simp, HbX.out _⟩
        · have HBs := Lib.hid (HBX1.out.set2 q (some ⟨b, off + 2, none⟩) (qc - 1))
          have hrq : Rd' Wt.cells 2 (X1.setCell ⟨w.heap.size, 2, none⟩ (.slice (some ⟨b, off + 2, none⟩) q.length (qc - 1))) ok (some ⟨b, off + 2, none⟩) q := by
            have h1 := Rd'.drop HrqX.out 1
            simp only [Nat.one_mul, List.drop_succ_cons, List.drop_zero] at h1
            exact h1.keep fun d hd => HkX.out _ _ (by have := Hok.out d hd; omega)
          have Hrq := Lib.hid hrq
          clear hrq
          go_wp2_with fail
          go_meet
          exact ⟨_, _, HBs.out, Hrq.out, by omega, by omega, HkX.out _, by simp, HbX.out _⟩
      case rest =>
        obtain ⟨Q', qc', hB3, hrq3, hq3, hq3', hk3, hs3, hb3⟩ := hcut
        clear c0 c1 c2 f0 f1 f2 lt
        have hsx := HsX1.out
        have hN3 : ∀ g, g < V2.heap.size → g ≠ w.heap.size → wc.heap[g]? = V2.heap[g]? := fun g h1 h2 => (hk3 g h2).trans (HbX1.out.block g (by have := HM.out; omega))
        have ho3 := own_heap (own_up HE.out.own Hb2.out) (w' := wc) fun g hg => hN3 g (by have := (HE.out.own.lt g hg).2; omega) (by have := (HE.out.own.lt g hg).1; omega)
        have hi3 := own_heap (own_up HE.out.inr Hb2.out) (w' := wc) fun g hg => hN3 g (by have := (HE.out.inr.lt g hg).2; omega) (by have := (HE.out.inr.lt g hg).1; omega)
        have HM3 := Lib.hid ((hk3 M (by omega)).trans HMX1.out)
        have HZ3 := Lib.hid (HZ2.out.keep (hN3 (w.heap.size + 1) (by have := HM.out; omega) (by omega)))
        have HB3 := Lib.hid hB3; have Hrq3 := Lib.hid hrq3; have Hb3 := Lib.hid hb3; have Ho3 := Lib.hid ho3; have Hi3 := Lib.hid hi3
        have hMc : M < wc.heap.size := by omega
        have HoM := Lib.hid (show ∀ g, ((Value.slice A hs.length ac).ownBlock = some g ∨ (Value.slice I ins.length ic).ownBlock = some g) → w.heap.size + 2 ≤ g ∧ g < M from fun g hg => by
          have := HM.out
          rcases hg with h | h
          · have := HE.out.own.lt g h; omega
          · have := HE.out.inr.lt g h; omega)
        have Hsx := Lib.hid (show wc.heap.size = M + 1 by omega)
        clear hB3 hrq3 hb3 ho3 hi3 hk3 hN3 hs3 hsx
        obtain ⟨c0, c1, c2, f0, f1, f2, lt⟩ := HB3.out
        simp only at c0 c1 c2
        have e0 := cells_of HM3.out 0; have e1 := cells_of HM3.out 1
        simp only [List.getElem?_toArray, List.getElem?_cons_zero, List.getElem?_cons_succ] at e0 e1
        have d4 := bsearch_any wc A ac hs t.who (by omega) HE.out.rising (Rd.of_own Ho3.out i_len (by decide))
        obtain ⟨k, hk⟩ : ∃ k, k = lessN hs t.who := ⟨_, rfl⟩
        have hkl : k ≤ hs.length := by rw [hk]; exact lessN_le _ _
        rw [← hk] at d4
        have Hk := Lib.hid hk
        have Hd4 := Lib.hid d4
        clear d4 hk
        go_wp2_with fail
        refine Hd4.out.mono ?_
        clear Hd4
        rintro e V3 ⟨bb, rfl, hb4⟩
        have Hb4 := Lib.hid hb4
        have hs4 := hb4.size
        clear c0 c1 c2 f0 f1 f2 lt e0 e1
        have HB4 := Lib.hid (HB3.out.up hb4 (by omega))
        have HM4 := Lib.hid ((hb4.block M (by omega)).trans HM3.out)
        have HZ4 := Lib.hid (HZ3.out.up hb4 (by omega))
        have Hrq4 := Lib.hid (Hrq3.out.keep fun d hd => hb4.block d (by have := Hok.out d hd; omega))
        obtain ⟨X4, hX4⟩ : ∃ X4, X4 = V3.alloc (.cells #[.int .i64 t.who] 3) := ⟨_, rfl⟩
        obtain ⟨M2, hM2⟩ : ∃ M2, M2 = V3.heap.size := ⟨_, rfl⟩
        have hbX4 : Below M2 V3 X4 := by rw [hX4, hM2]; exact (Below.refl _ _).alloc (Nat.le_refl _) _
        have hMX4 : X4.heap[M2]? = some (.cells #[.int .i64 t.who] 3 (0, 0)) := by rw [hX4, hM2, heap_alloc_new]
        have hsX4 : X4.heap.size = M2 + 1 := by rw [hX4, hM2]; simp
        have hMM : M < M2 := by omega
        have ho4 := own_below (own_up Ho3.out hb4) hbX4 fun g hg => by have := HoM.out g (.inl hg); omega
        have hi4 := own_below (own_up Hi3.out hb4) hbX4 fun g hg => by have := HoM.out g (.inr hg); omega
        have d5 := insert_In X4 (w.heap.size + 2) A ac hs k t.who M2 hkl (by omega) (by omega) i_len i_one ho4 (fun e => by have := HoM.out _ (.inl e); omega) hMX4
        rw [Hk.out, withL_at HE.out.rising, ← Hk.out] at d5
        have hwl := withL_len hs t.who
        obtain ⟨hs', hhs'⟩ : ∃ hs', hs' = withL hs t.who := ⟨_, rfl⟩
        rw [← hhs'] at d5 hwl
        have Hhs' := Lib.hid hhs'; have Hwl := Lib.hid hwl
        have Hd5 := Lib.hid d5; have Hi4 := Lib.hid hi4
        have HX4 := Lib.hid hX4.symm
        have HB5 := Lib.hid (HB4.out.up hbX4 (by omega)); have HM5 := Lib.hid ((hbX4.block M (by omega)).trans HM4.out); have HZ5 := Lib.hid (HZ4.out.up hbX4 (by omega))
        have Hrq5 := Lib.hid (Hrq4.out.keep (w' := X4) fun d hd => hbX4.block d (by have := Hok.out d hd; omega))
        have Hbw5 := Lib.hid ((Hb3.out.trans (hb4.mono (by omega))).trans (hbX4.mono (by omega)))
        have hM2' := hM2.symm
        obtain ⟨c0, c1, c2, f0, f1, f2, lt⟩ := HB4.out
        simp only at c0 c1 c2
        have e0 := cells_of HM4.out 0
        simp only [List.getElem?_toArray, List.getElem?_cons_zero, List.getElem?_cons_succ] at e0
        have hMV3 : M < V3.heap.size := by omega
        have hsX4' : X4.heap.size = M2 + 1 := hsX4
        have HsX4 := Lib.hid hsX4
        clear hb4 hX4 hbX4 hMX4 hsX4 hsX4' ho4 hi4 d5 hhs' hM2 hwl
        go_wp2_with fail
        rw [HX4.out]
        refine Hd5.out.mono ?_
        clear Hd5 HX4
        rintro e V5 ⟨A5, c5, rfl, ho5, hb5, hk5, hv5⟩
        have hsX4 := HsX4.out
        have hs5 : M2 + 1 ≤ V5.heap.size := by
          rcases Nat.lt_or_ge M2 V5.heap.size with h | h
          · omega
          · exfalso
            have := hk5 M2 (by omega) (fun e => by have := HoM.out _ (.inl e); omega)
            rw [Array.getElem?_eq_none h, Array.getElem?_eq_getElem (by omega : M2 < X4.heap.size)] at this
            cases this
        have hne : ∀ g, g < w.heap.size + 2 ∨ M ≤ g → (Value.slice A hs.length ac).ownBlock ≠ some g := fun g hg e => by have := HoM.out _ (.inl e); omega
        have HB6 := Lib.hid (HB5.out.keep (hk5 w.heap.size (by omega) (hne _ (by omega))))
        have HM6 := Lib.hid ((hk5 M (by omega) (hne _ (by omega))).trans HM5.out)
        have HZ6 := Lib.hid (HZ5.out.keep (hk5 (w.heap.size + 1) (by omega) (hne _ (by omega))))
        have Hrq6 := Lib.hid (Hrq5.out.keep (w' := V5) fun d hd => hk5 d (by have := Hok.out d hd; omega) (hne _ (by have := Hok.out d hd; omega)))
        have Hi6 := Lib.hid (own_heap Hi4.out (w' := V5) fun g hg => hk5 g (by have := HoM.out g (.inr hg); omega) (fun e => HE.out.apart g e hg))
        have hap : ∀ g, (Value.slice A5 hs'.length c5).ownBlock = some g → (Value.slice I ins.length ic).ownBlock ≠ some g := fun g hg e => by
          rcases hv5 with h | ⟨n, hn, h⟩
          · rw [h] at hg; exact HE.out.apart g hg e
          · rw [h] at hg; injection hg with hg; have := HoM.out g (.inr e); omega
        have Hap := Lib.hid hap
        have Hbw6 := Lib.hid (Hbw5.out.trans (hb5.mono (by omega)))
        have Ho5 := Lib.hid ho5
        have HoA := Lib.hid (show ∀ g, (Value.slice A5 hs'.length c5).ownBlock = some g → w.heap.size + 2 ≤ g ∧ g ≠ M from fun g hg => by
          refine ⟨(ho5.lt g hg).1, ?_⟩
          rcases hv5 with h | ⟨n, hn, h⟩
          · rw [h] at hg; have := HoM.out g (.inl hg); omega
          · rw [h] at hg; injection hg with hg; omega)
        clear c0 c1 c2 f0 f1 f2 lt e0 ho5 hb5 hk5 hv5 hne hap hsX4
        obtain ⟨c0, c1, c2, f0, f1, f2, lt⟩ := HB6.out
        simp only at c0 c1 c2
        go_upto_region 8 with fail
        obtain ⟨X6, hX6⟩ : ∃ X6, X6 = V5.setCell ⟨w.heap.size, 0, none⟩ (.slice A5 hs'.length c5) := ⟨_, rfl⟩
        have hk6 : ∀ g, g ≠ w.heap.size → X6.heap[g]? = V5.heap[g]? := fun g h => by rw [hX6]; exact Below.heap_setCell V5 ⟨w.heap.size, 0, none⟩ _ g h
        have hs6 : X6.heap.size = V5.heap.size := by rw [hX6]; simp
        have HB7 := Lib.hid (show LB w.heap.size ⟨hs', ex, q⟩ A5 c5 Q' qc' X6 by rw [hX6]; exact HB6.out.set0 hs' A5 c5)
        have HM7 := Lib.hid ((hk6 M (by omega)).trans HM6.out)
        have HZ7 := Lib.hid (HZ6.out.keep (hk6 (w.heap.size + 1) (by omega)))
        have Hrq7 := Lib.hid (Hrq6.out.keep (w' := X6) fun d hd => hk6 d (by have := Hok.out d hd; omega))
        have Hi7 := Lib.hid (own_heap Hi6.out (w' := X6) fun g hg => hk6 g (by have := HoM.out g (.inr hg); omega))
        have Ho7 := Lib.hid (own_heap Ho5.out (w' := X6) fun g hg => hk6 g (by have := HoA.out g hg; omega))
        have Hbw7 := Lib.hid (show Below w.heap.size w X6 by rw [hX6]; exact Hbw6.out.setCell (p := ⟨w.heap.size, 0, none⟩) (Nat.le_refl _) _)
        rw [← hX6]
        clear hX6 hk6 c0 c1 c2 f0 f1 f2 lt
        have hMX6 : M < X6.heap.size := by omega
        obtain ⟨c0, c1, c2, f0, f1, f2, lt⟩ := HB7.out
        simp only at c0 c1 c2
        have e1 := cells_of HM7.out 1
        simp only [List.getElem?_toArray, List.getElem?_cons_zero, List.getElem?_cons_succ] at e1
        go_upto_if 39 with fail
        go_cut [] (fun wx => LB w.heap.size ⟨hs', ex || tx, q⟩ A5 c5 Q' qc' wx ∧ (∀ g, g ≠ w.heap.size → wx.heap[g]? = X6.heap[g]?) ∧ wx.heap.size = X6.heap.size ∧ Below w.heap.size w wx)
        case first =>
          cases tx with
          | false =>
            go_wp2_with fail
            go_meet
            rw [Bool.or_false]
            exact ⟨HB7.out, fun g _ => rfl, rfl, Hbw7.out⟩
          | true =>
            have HBs := Lib.hid (HB7.out.set1 true)
            have Hks := Lib.hid (show ∀ g, g ≠ w.heap.size → (X6.setCell ⟨w.heap.size, 1, none⟩ (.bool true)).heap[g]? = X6.heap[g]? from fun g h => Below.heap_setCell X6 ⟨w.heap.size, 1, none⟩ _ g h)
            go_wp2_with fail
            go_meet
            rw [Bool.or_true]
            exact ⟨HBs.out, Hks.out, by simp, Hbw7.out.setCell (p := ⟨w.heap.size, 1, none⟩) (Nat.le_refl _) _⟩
        case rest =>
          obtain ⟨hB8, hk8, hs8, hb8⟩ := hcut
          clear c0 c1 c2 f0 f1 f2 lt e1
          have HB8 := Lib.hid hB8
          have HM8 := Lib.hid ((hk8 M (by omega)).trans HM7.out)
          have HZ8 := Lib.hid (HZ7.out.keep (hk8 (w.heap.size + 1) (by omega)))
          have Hrq8 := Lib.hid (Hrq7.out.keep (w' := wc) fun d hd => hk8 d (by have := Hok.out d hd; omega))
          have Hi8 := Lib.hid (own_heap Hi7.out (w' := wc) fun g hg => hk8 g (by have := HoM.out g (.inr hg); omega))
          have Ho8 := Lib.hid (own_heap Ho7.out (w' := wc) fun g hg => hk8 g (by have := HoA.out g hg; omega))
          have Hbw8 := Lib.hid hb8
          have hMc8 : M < wc.heap.size := by omega
          have Hs8 := Lib.hid hs8
          obtain ⟨M3, hM3⟩ : ∃ M3, M3 = wc.heap.size := ⟨_, rfl⟩
          have hbX8 : Below M3 wc (wc.alloc (.cells #[.int .i64 t.who] 3)) := by rw [hM3]; exact (Below.refl _ _).alloc (Nat.le_refl _) _
          have Hi9 := Lib.hid (own_below Hi8.out hbX8 fun g hg => by have := HoM.out g (.inr hg); omega)
          have HbX8 := Lib.hid hbX8
          have e0 := cells_of HM8.out 0
          simp only [List.getElem?_toArray, List.getElem?_cons_zero, List.getElem?_cons_succ] at e0
          have HM3' := Lib.hid hM3
          have hsA : (wc.alloc (.cells #[.int .i64 t.who] 3)).heap.size = wc.heap.size + 1 := by simp
          have HsA := Lib.hid hsA
          have hN2 : w.heap.size + 2 ≤ wc.heap.size := by omega
          have hlt : ∀ g, (Value.slice A5 hs'.length c5).ownBlock = some g → g < wc.heap.size := fun g hg => (Ho8.out.lt g hg).2
          have Hlt := Lib.hid hlt
          clear hB8 hk8 hs8 hb8 hbX8 hM3 hsA hlt
          go_wp2_with (at_builtin; refine list_app rfl (.tmp 41) (.tmp 44) 22 rfl (w.heap.size + 2) 3 j0 (.int .i64 0) 1 8 Try.underlying22 hj0 hy0 hy1 hy2 rfl (by decide) rfl Hi9.out (m := 1) (news := icells t.who) rfl rfl (by simp) (new_src (cs := (icells t.who).toArray) (by simp)) (i_one t.who) ?_ ?_ ?_ ?_)
          · unfold maxLen; omega
          · omega
          · simp; omega
          intro v' w9 ho9 hg9 hv9
          obtain ⟨I9, c9, rfl, _, _⟩ := own_slice ho9
          have hs9 := hg9.size
          have hM3v := HM3'.out
          have hsAv := HsA.out
          have h9 : ∀ g, g < wc.heap.size → (Value.slice I ins.length ic).ownBlock ≠ some g → w9.heap[g]? = wc.heap[g]? := fun g h1 h2 => (hg9.block g (by omega) (fun e => h2 e.symm)).trans (HbX8.out.block g (by omega))
          have hneI : ∀ g, g < w.heap.size + 2 → (Value.slice I ins.length ic).ownBlock ≠ some g := fun g hg e => by have := HoM.out _ (.inr e); omega
          have HE9 : Hid (Ent w ok l w9 hs' (ex || tx) q (ins ++ [t.who]) A5 c5 Q' qc' I9 c9) := Lib.hid ⟨HB8.out.keep (h9 _ (by omega) (hneI _ (by omega))), HZ8.out.keep (h9 _ (by omega) (hneI _ (by omega))),
            own_heap Ho8.out (w' := w9) fun g hg => h9 g (Hlt.out g hg) (Hap.out g hg),
            Hrq8.out.keep (w' := w9) fun d hd => h9 d (by have := Hok.out d hd; omega) (hneI _ (by have := Hok.out d hd; omega)), ⟨hq3, hq3'⟩,
            by rw [List.length_append, List.flatMap_append]; simpa [icells] using ho9,
            fun g hg e => by
              rw [List.length_append] at e
              have e' : (Value.slice I9 (ins.length + 1) c9).ownBlock = some g := e
              rcases hv9 with h | h
              · rw [h] at e'; exact Hap.out g hg e'
              · rw [h] at e'; injection e' with e'; have := Hlt.out g hg; omega,
            (Hbw8.out.trans (HbX8.out.mono (by omega))).grown hg9 (by omega) (fun d hd => by have := HoM.out d (.inr hd); omega),
            by omega, by rw [Hhs'.out]; exact withL_rising HE.out.rising _, by rw [Hwl.out]; omega, by rw [List.length_append]; simp only [List.length_cons, List.length_nil]; omega,
            by
              have := letL_run HE.out.run Hop.out
              rw [← Hhs'.out, ← Htx.out] at this
              exact this⟩
          clear ho9 hg9 hv9 h9 hneI e0
          go_wp2_with fail
          go_roundg q.length
          case measure => have := Hg.out; simp at this; omega
          case rel => exact ⟨hs', ex || tx, q, ins ++ [t.who], A5, c5, Q', qc', I9, c9, rfl, by rw [List.length_append]; rfl, HE9.out⟩
end Go.Proofs.Ytigffndobddflaa
