/- The contracts of latch.Drop and latch.Holds. -/
import Derived.Test.YtigffndobddflaaLat8
namespace Go.Proofs.Ytigffndobddflaa
open Go.RowKit

/-- a latch told, with who came in, and an error -/
def DropDone (ok : Nat → Prop) (r : La × List Int × Int) (w : World) (e : Ending) (w' : World) : Prop :=
  ∃ A ac Q qc I ic, e = .returned (.tuple #[.agg #[.slice A r.1.hs.length ac, .bool r.1.ex, .slice Q r.1.q.length qc], .slice I r.2.1.length ic, .int .i64 r.2.2]) ∧
    LM w' (fun b => ok b ∨ (w.heap.size ≤ b ∧ b < w'.heap.size)) r.1 A ac Q qc ∧ Rd' icells 1 w' (fun b => w.heap.size ≤ b ∧ b < w'.heap.size) I r.2.1 ∧ Below w.heap.size w w'
theorem la_box3 (w : World) (A Q : Option Addr) (ac qc : Nat) (l : La) (who : Int) (t u : TypeId) : ∃ W, W = ((w.alloc (.cells #[.slice A l.hs.length ac, .bool l.ex, .slice Q l.q.length qc] t)).alloc (.cells #[.int .i64 who] u)).alloc (.cells #[.slice none 0 0, .bool false, .slice none 0 0] t) ∧
    Below w.heap.size w W ∧ W.heap.size = w.heap.size + 3 ∧ LB w.heap.size l A ac Q qc W ∧ W.heap[w.heap.size + 1]? = some (.cells #[.int .i64 who] u (0, 0)) ∧ LZ (w.heap.size + 2) W := by
  obtain ⟨W1, h1⟩ : ∃ W1, W1 = w.alloc (.cells #[.slice A l.hs.length ac, .bool l.ex, .slice Q l.q.length qc] t) := ⟨_, rfl⟩
  obtain ⟨W2, h2⟩ : ∃ W2, W2 = W1.alloc (.cells #[.int .i64 who] u) := ⟨_, rfl⟩
  have s1 : W1.heap.size = w.heap.size + 1 := by rw [h1]; simp
  have s2 : W2.heap.size = w.heap.size + 2 := by rw [h2]; simp [s1]
  refine ⟨_, rfl, (((Below.refl _ _).alloc (Nat.le_refl _) _).alloc (by simp) _).alloc (by simp; omega) _, by simp, ?_, ?_, ?_⟩
  · rw [← h1, ← h2]
    exact LB.of (t := t) (by rw [heap_alloc_old _ _ (by omega), h2, heap_alloc_old _ _ (by omega), h1, heap_alloc_new])
  · rw [← h1, ← h2, heap_alloc_old _ _ (by omega), h2, ← s1, heap_alloc_new]
  · rw [← h1, ← h2]
    exact (LB.of (l := ⟨[], false, []⟩) (t := t) (by rw [← s2, heap_alloc_new]; rfl)).lz

set_option maxRecDepth 20000 in
set_option maxHeartbeats 4000000 in
theorem drop_any (w : World) (ok : Nat → Prop) (A Q : Option Addr) (ac qc : Nat) (l : La) (who : Int) (hl1 : l.hs.length ≤ 1000) (hl2 : l.q.length ≤ 1000) (hok : ∀ b, ok b → b < w.heap.size) (hm : LM w ok l A ac Q qc) :
    Calls Try.prog 14 #[.agg #[.slice A l.hs.length ac, .bool l.ex, .slice Q l.q.length qc], .int .i64 who] w (DropDone ok (dropM l who) w) := by
  obtain ⟨W, hW, hbW, hsW, hB, hP, hR⟩ := la_box3 w A Q ac qc l who 25 3
  have HmW := Lib.hid (hm.below hbW hok)
  have HmW' := Lib.hid ((hm.below hbW hok).imp (ok' := fun b => b < W.heap.size) fun b hb => by have := hok b hb; omega)
  have HbW := Lib.hid hbW
  have Hok := Lib.hid hok
  have HB' := Lib.hid hB
  have HP' := Lib.hid hP
  have HR' := Lib.hid hR
  obtain ⟨c0, c1, c2, f0, f1, f2, lt⟩ := hB
  obtain ⟨r0, r1, r2, k0, k1, k2, ltR⟩ := hR
  have p0 : W.cell? ⟨w.heap.size + 1, 0, none⟩ = some (.int .i64 who) := cells_of hP 0
  have hW' := hW.symm
  clear hW hbW hm hok hP
  have ltP : w.heap.size + 1 < W.heap.size := by omega
  have d1 := laRight_any W A Q ac qc l hl1 hl2 HmW'.out
  obtain ⟨rt, hrt⟩ : ∃ rt, rt = l.right := ⟨_, rfl⟩
  rw [← hrt] at d1
  have Hd1 := Lib.hid d1
  have Hrt := Lib.hid hrt
  clear hrt d1
  have hsame : ∀ V, Below W.heap.size W V → ∀ n, DropDone ok (l, [], n) w (.returned (.tuple #[.agg #[.slice A l.hs.length ac, .bool l.ex, .slice Q l.q.length qc], .slice none 0 0, .int .i64 n])) (fill3 V (w.heap.size + 2) l A ac Q qc) := fun V hV n => by
    refine ⟨A, ac, Q, qc, none, 0, rfl, ?_, Rd'.nil, fill3_below (HbW.out.trans (hV.mono (by omega))) (by omega)⟩
    exact ((HmW.out.below hV (fun b hb => by have := Hok.out b hb; omega)).keep fun b hb => fill3_keep (by have := Hok.out b hb; omega)).imp fun b hb => .inl hb
  have Hsame := Lib.hid hsame
  clear hsame
  cases rt with
  | false =>
    have hpm : dropM l who = (l, [], 1) := by rw [dropM, if_pos Hrt.out.symm]
    have Hpm := Lib.hid hpm
    clear hpm
    go_enter Try.func14, Try.ntmps14
    go_wp2_with fail
    refine Hd1.out.mono ?_
    rintro e V ⟨rfl, hb1⟩
    have Hb1 := Lib.hid hb1
    clear c0 c1 c2 f0 f1 f2 r0 r1 r2 k0 k1 k2 hW' p0
    obtain ⟨c0, c1, c2, f0, f1, f2, ltV⟩ := HB'.out.up hb1 lt
    obtain ⟨r0, r1, r2, k0, k1, k2, ltRV⟩ := HR'.out.up hb1 ltR
    clear hb1
    go_wp2_with fail
    refine bodyPost_ret (v := .tuple #[.agg #[.slice A l.hs.length ac, .bool l.ex, .slice Q l.q.length qc], .slice none 0 0, .int .i64 1]) (by simp [results, Try.results14, go_sem, r0, r1, r2]) rfl ?_
    rw [Hpm.out]
    exact Hsame.out V Hb1.out 1
  | true =>
    have h64 : l.hs.length + l.q.length ≤ 64 := right_len Hrt.out.symm
    obtain ⟨i1, hi1⟩ : ∃ i, i = l.hs.contains who := ⟨_, rfl⟩
    obtain ⟨i2, hi2⟩ : ∃ i, i = inW l.q who := ⟨_, rfl⟩
    have hpm : dropM l who = (if i1 = false ∧ i2 = false then (l, [], 3) else ((enterL (lessL l who)).1, (enterL (lessL l who)).2, 0)) := by
      rw [dropM, if_neg (by rw [← Hrt.out]; simp), hi1, hi2]
    have Hpm := Lib.hid hpm; have Hi1 := Lib.hid hi1; have Hi2 := Lib.hid hi2
    clear hpm hi1 hi2
    go_enter Try.func14, Try.ntmps14
    go_wp2_with fail
    refine Hd1.out.mono ?_
    rintro e V ⟨rfl, hb1⟩
    have Hb1 := Lib.hid hb1
    clear c0 c1 c2 f0 f1 f2 r0 r1 r2 k0 k1 k2 hW' p0
    obtain ⟨c0, c1, c2, f0, f1, f2, ltV⟩ := HB'.out.up hb1 lt
    have p0 : V.cell? ⟨w.heap.size + 1, 0, none⟩ = some (.int .i64 who) := cells_of ((hb1.block (w.heap.size + 1) ltP).trans HP'.out) 0
    have hsV := hb1.size
    have ltPV : w.heap.size + 1 < V.heap.size := by omega
    clear hb1
    go_upto_region 3 with fail
    go_cut [23] (fun s wx => s = .bool (!i1 && !i2) ∧ Below W.heap.size W wx)
    case first =>
      have d2 := contains_any V A ac l.hs who (by omega) (HmW'.out.c.up Hb1.out)
      rw [← Hi1.out] at d2
      have Hd2 := Lib.hid d2
      clear d2
      go_wp2_with fail
      refine Hd2.out.mono ?_
      clear Hd2
      rintro e V2 ⟨rfl, hb2⟩
      have Hb2 := Lib.hid (Hb1.out.trans (hb2.mono Hb1.out.size))
      have hs2 := hb2.size
      clear c0 c1 c2 f0 f1 f2 ltV hb2 p0 ltPV
      obtain ⟨c0, c1, c2, f0, f1, f2, ltV⟩ := HB'.out.up Hb2.out lt
      have p0 : V2.cell? ⟨w.heap.size + 1, 0, none⟩ = some (.int .i64 who) := cells_of ((Hb2.out.block (w.heap.size + 1) ltP).trans HP'.out) 0
      have ltPV : w.heap.size + 1 < V2.heap.size := by omega
      cases i1 with
      | true =>
        go_wp2_with fail
        go_meet
        exact ⟨rfl, Hb2.out⟩
      | false =>
        have d3 := waits_any V2 Q qc l.q who (by omega) (HmW'.out.q.up Hb2.out)
        rw [← Hi2.out] at d3
        have Hd3 := Lib.hid d3
        clear d3
        go_wp2_with fail
        refine Hd3.out.mono ?_
        clear Hd3
        rintro e V3 ⟨rfl, hb3⟩
        have Hb3 := Lib.hid (Hb2.out.trans (hb3.mono Hb2.out.size))
        clear hb3
        go_wp2_with fail
        go_meet
        exact ⟨rfl, Hb3.out⟩
    case rest =>
      obtain ⟨rfl, hb3⟩ := hcut
      obtain ⟨V3, rfl⟩ : ∃ V3, V3 = wc := ⟨_, rfl⟩
      obtain ⟨ni, hni⟩ : ∃ ni, ni = (!i1 && !i2) := ⟨_, rfl⟩
      rw [← hni]
      have Hb3 := Lib.hid hb3
      have hs3 : w.heap.size + 3 ≤ V3.heap.size := by have := hb3.size; omega
      clear c0 c1 c2 f0 f1 f2 ltV hb3 p0 ltPV hsV
      cases ni with
      | true =>
        have hpm : dropM l who = (l, [], 3) := by
          rw [Hpm.out, if_pos]
          simpa using hni.symm
        have Hpm2 := Lib.hid hpm
        clear hpm hni
        obtain ⟨c0, c1, c2, f0, f1, f2, ltV⟩ := HB'.out.up Hb3.out lt
        obtain ⟨r0, r1, r2, k0, k1, k2, ltRV⟩ := HR'.out.up Hb3.out ltR
        go_wp2_with fail
        refine bodyPost_ret (v := .tuple #[.agg #[.slice A l.hs.length ac, .bool l.ex, .slice Q l.q.length qc], .slice none 0 0, .int .i64 3]) (by simp [results, Try.results14, go_sem, r0, r1, r2]) rfl ?_
        rw [Hpm2.out]
        exact Hsame.out V3 Hb3.out 3
      | false =>
        obtain ⟨gh, hgh⟩ : ∃ gh, gh = goneH l.hs who := ⟨_, rfl⟩
        obtain ⟨gt, hgt⟩ : ∃ gt, gt = goneW l.q who := ⟨_, rfl⟩
        obtain ⟨lx, hlx⟩ : ∃ lx, lx = (lessL l who).ex := ⟨_, rfl⟩
        have hle : lessL l who = ⟨gh, lx, gt⟩ := by rw [hgh, hgt, hlx]; rfl
        have hlx2 : lx = if gh.length = 0 then false else l.ex := by rw [hlx, hgh]; rfl
        have hpm : dropM l who = ((enterL ⟨gh, lx, gt⟩).1, (enterL ⟨gh, lx, gt⟩).2, 0) := by
          rw [Hpm.out, if_neg, hle]
          intro h
          rw [h.1, h.2] at hni
          cases hni
        have hghl : gh.length ≤ l.hs.length := by rw [hgh]; exact (goneH_sub _ _).length_le
        have hgtl : gt.length ≤ l.q.length := by rw [hgt]; exact (goneW_sub _ _).length_le
        have Hris := Lib.hid (show Rising gh by rw [hgh]; exact (right_rising Hrt.out.symm).sublist (goneH_sub _ _))
        have Hpm2 := Lib.hid hpm; have Hlx := Lib.hid hlx2; have Hgh := Lib.hid hgh; have Hgt := Lib.hid hgt
        clear hpm hlx2 hgh hgt hle hlx hni Hpm
        obtain ⟨c0, c1, c2, f0, f1, f2, ltV⟩ := HB'.out.up Hb3.out lt
        go_wp2_with fail
        refine (clone_In V3 A ac l.hs (by omega) i_len i_one (HmW'.out.c.up Hb3.out)).mono ?_
        rintro e V4 ⟨A4, c4, rfl, ho4, hb4⟩
        have hs4 := hb4.size
        have Hb4 := Lib.hid hb4
        have Ho4 := Lib.hid ho4
        clear c0 c1 c2 f0 f1 f2 ltV ho4 hb4
        have p0 : V4.cell? ⟨w.heap.size + 1, 0, none⟩ = some (.int .i64 who) := cells_of ((Hb4.out.block (w.heap.size + 1) (by omega)).trans ((Hb3.out.block (w.heap.size + 1) ltP).trans HP'.out)) 0
        have d5 := deleteH_any V4 V3.heap.size A4 c4 l.hs who (w.heap.size + 1) p0 (by omega) hs4 (by omega) Ho4.out
        rw [← Hgh.out] at d5
        have Hd5 := Lib.hid d5
        clear d5 p0
        go_wp2_with fail
        refine Hd5.out.mono ?_
        clear Hd5
        rintro e V5 ⟨A5, c5, rfl, ho5, hb5⟩
        have hb35 : Below V3.heap.size V3 V5 := Hb4.out.trans hb5
        have HB5 := Lib.hid (HB'.out.up (Hb3.out.trans (hb35.mono Hb3.out.size)) lt)
        have HP5 := Lib.hid ((hb35.block (w.heap.size + 1) (by omega)).trans ((Hb3.out.block (w.heap.size + 1) ltP).trans HP'.out))
        have HR5 := Lib.hid (HR'.out.up (Hb3.out.trans (hb35.mono Hb3.out.size)) ltR)
        have Hb35 := Lib.hid hb35
        have hs5 := hb35.size
        obtain ⟨hc51, hc52⟩ := own_cap ho5
        have Ho5 := Lib.hid ho5
        obtain ⟨c0, c1, c2, f0, f1, f2, lt5⟩ := HB5.out
        clear ho5 hb5 hb35
        go_upto_region 6 with fail
        obtain ⟨V6, hV6⟩ : ∃ V6, V6 = V5.setCell ⟨w.heap.size, 0, none⟩ (.slice A5 gh.length c5) := ⟨_, rfl⟩
        have h6 : ∀ b, b ≠ w.heap.size → V6.heap[b]? = V5.heap[b]? := fun b h => by rw [hV6]; exact Below.heap_setCell V5 ⟨w.heap.size, 0, none⟩ _ b h
        have hs6 : V6.heap.size = V5.heap.size := by rw [hV6]; simp
        have hB6 := HB5.out.set0 gh A5 c5
        rw [← hV6] at hB6 ⊢
        have ho6 := own_heap Ho5.out (w' := V6) fun g hg => h6 g (by have := (Ho5.out.lt _ hg).1; omega)
        have hq6 : Rd Wt.cells 2 V6 V6.heap.size Q l.q := by
          have h1 := (HmW.out.below (Hb3.out.trans (Hb35.out.mono Hb3.out.size)) (fun b hb => by have := Hok.out b hb; omega)).rq
          exact (h1.keep fun b hb => h6 b (by have := Hok.out b hb; omega)).to fun b hb => by have := Hok.out b hb; omega
        have hbw6 : Below w.heap.size w V6 := by
          rw [hV6]
          exact (HbW.out.trans ((Hb3.out.mono (by omega)).trans (Hb35.out.mono (by omega)))).setCell (p := ⟨w.heap.size, 0, none⟩) (Nat.le_refl _) _
        have HB6 := Lib.hid hB6
        have Ho6 := Lib.hid ho6
        have Hq6 := Lib.hid hq6
        have Hbw6 := Lib.hid hbw6
        have HP6 := Lib.hid ((h6 (w.heap.size + 1) (by omega)).trans HP5.out)
        have HR6 := Lib.hid (HR5.out.keep (h6 (w.heap.size + 2) (by omega)))
        clear hV6 h6 hB6 ho6 hq6 hbw6 c0 c1 c2 f0 f1 f2 lt5
        obtain ⟨c0, c1, c2, f0, f1, f2, lt6⟩ := HB6.out
        simp only at c0 c1 c2
        go_wp2_with fail
        refine (clone_Wt V6 Q qc l.q (by omega) wt_len wt_one Hq6.out).mono ?_
        rintro e V7 ⟨A7, c7, rfl, ho7, hb7⟩
        clear c0 c1 c2 f0 f1 f2 lt6
        have hs7 := hb7.size
        have Hb7 := Lib.hid hb7
        have Ho7 := Lib.hid ho7
        have p0 : V7.cell? ⟨w.heap.size + 1, 0, none⟩ = some (.int .i64 who) := cells_of ((hb7.block (w.heap.size + 1) (by omega)).trans HP6.out) 0
        have d8 := deleteW_any V7 V6.heap.size A7 c7 l.q who (w.heap.size + 1) p0 (by omega) hs7 (by omega) Ho7.out
        rw [← Hgt.out] at d8
        have Hd8 := Lib.hid d8
        clear d8 p0 hb7 ho7
        go_wp2_with fail
        refine Hd8.out.mono ?_
        clear Hd8
        rintro e V8 ⟨A8, c8, rfl, ho8, hb8⟩
        have hb68 : Below V6.heap.size V6 V8 := Hb7.out.trans hb8
        have HB8 := Lib.hid (HB6.out.up hb68 (by omega))
        have HR8 := Lib.hid (HR6.out.up hb68 (by omega))
        have hs8 := hb68.size
        obtain ⟨hc81, hc82⟩ := own_cap ho8
        have Ho8 := Lib.hid ho8
        have Hoc8 := Lib.hid (own_up Ho6.out hb68)
        have Hbw8 := Lib.hid (Hbw6.out.trans (hb68.mono (by omega)))
        obtain ⟨c0, c1, c2, f0, f1, f2, lt8⟩ := HB8.out
        simp only at c0 c1 c2
        clear ho8 hb8 hb68
        go_upto_region 7 with fail
        obtain ⟨V9, hV9⟩ : ∃ V9, V9 = V8.setCell ⟨w.heap.size, 2, none⟩ (.slice A8 gt.length c8) := ⟨_, rfl⟩
        have h9 : ∀ b, b ≠ w.heap.size → V9.heap[b]? = V8.heap[b]? := fun b h => by rw [hV9]; exact Below.heap_setCell V8 ⟨w.heap.size, 2, none⟩ _ b h
        have hs9 : V9.heap.size = V8.heap.size := by rw [hV9]; simp
        have hB9 := HB8.out.set2 gt A8 c8
        rw [← hV9] at hB9 ⊢
        have Hm9 := Lib.hid (show LM V9 (fun b => V3.heap.size ≤ b ∧ b < V9.heap.size) ⟨gh, lx, gt⟩ A5 c5 A8 c8 from ⟨((Rd'.of_own Hoc8.out i_len (by decide)).keep fun b hb => h9 b (by omega)).imp fun b hb => ⟨hb.1, by rw [hs9]; exact hb.2⟩, ((Rd'.of_own Ho8.out wt_len (by decide)).keep fun b hb => h9 b (by omega)).imp fun b hb => ⟨by omega, by rw [hs9]; exact hb.2⟩, hc51, hc52, hc81, hc82⟩)
        have HB9 := Lib.hid hB9
        have HR9 := Lib.hid (HR8.out.keep (h9 (w.heap.size + 2) (by omega)))
        have Hbw9 := Lib.hid (show Below w.heap.size w V9 by rw [hV9]; exact Hbw8.out.setCell (p := ⟨w.heap.size, 2, none⟩) (Nat.le_refl _) _)
        clear hV9 h9 hB9 c0 c1 c2 f0 f1 f2 lt8
        obtain ⟨c0, c1, c2, f0, f1, f2, lt9⟩ := HB9.out
        simp only at c0 c1 c2
        obtain ⟨zb, hzb⟩ : ∃ zb, ((gh.length : Int) == 0) = zb := ⟨_, rfl⟩
        have Hzb := Lib.hid hzb
        go_upto_if 40 with fail
        clear hzb
        go_cut [] (fun wx => LB w.heap.size ⟨gh, lx, gt⟩ A5 c5 A8 c8 wx ∧ (∀ g, g ≠ w.heap.size → wx.heap[g]? = V9.heap[g]?) ∧ wx.heap.size = V9.heap.size ∧ Below w.heap.size w wx)
        case first =>
          cases zb with
          | false =>
            have h0 : lx = l.ex := by
              have := Hzb.out
              rw [beq_eq_false_iff_ne] at this
              rw [Hlx.out, if_neg (by omega)]
            go_wp2_with fail
            go_meet
            refine ⟨?_, fun g _ => rfl, rfl, Hbw9.out⟩
            have := HB9.out
            rw [h0]; exact this
          | true =>
            have h0 : lx = false := by
              have := Hzb.out
              rw [beq_iff_eq] at this
              rw [Hlx.out, if_pos (by omega)]
            have HBs := Lib.hid (HB9.out.set1 false)
            have Hks := Lib.hid (show ∀ g, g ≠ w.heap.size → (V9.setCell ⟨w.heap.size, 1, none⟩ (.bool false)).heap[g]? = V9.heap[g]? from fun g h => Below.heap_setCell V9 ⟨w.heap.size, 1, none⟩ _ g h)
            have H0 := Lib.hid h0
            clear h0
            go_wp2_with fail
            go_meet
            rw [H0.out]
            exact ⟨HBs.out, Hks.out, by simp, Hbw9.out.setCell (p := ⟨w.heap.size, 1, none⟩) (Nat.le_refl _) _⟩
        case rest =>
          obtain ⟨hBx, hkx, hsx, hbx⟩ := hcut
          have d10 := enter_any wc (fun b => V3.heap.size ≤ b ∧ b < wc.heap.size) A5 A8 c5 c8 ⟨gh, lx, gt⟩ Hris.out (by show gh.length + gt.length ≤ 1000; omega) (fun b hb => hb.2) ((Hm9.out.keep (w' := wc) fun b hb => hkx b (by omega)).imp fun b hb => by omega)
          obtain ⟨r, ins, hr⟩ : ∃ r ins, enterL ⟨gh, lx, gt⟩ = (r, ins) := ⟨_, _, rfl⟩
          rw [hr] at d10 Hpm2
          have HBx := Lib.hid hBx
          have HRx := Lib.hid (HR9.out.keep (hkx (w.heap.size + 2) (by omega)))
          have Hbwx := Lib.hid hbx
          have Hd10 := Lib.hid d10
          clear hBx hkx hbx d10 hr c0 c1 c2 f0 f1 f2 lt9
          obtain ⟨c0, c1, c2, f0, f1, f2, ltx⟩ := HBx.out
          simp only at c0 c1 c2
          go_wp2_with fail
          refine Hd10.out.mono ?_
          clear Hd10 c0 c1 c2 f0 f1 f2 ltx
          rintro e V10 ⟨A10, ac10, Q10, qc10, I10, ic10, rfl, hm10, hi10, hb10⟩
          have hs10 := hb10.size
          have Hm10 := Lib.hid hm10
          have Hi10 := Lib.hid hi10
          have HB10 := Lib.hid (HBx.out.up hb10 (by omega))
          have HR10 := Lib.hid (HRx.out.up hb10 (by omega))
          have Hbw10 := Lib.hid (Hbwx.out.trans (hb10.mono (by omega)))
          clear hm10 hi10 hb10
          simp only
          obtain ⟨c0, c1, c2, f0, f1, f2, lt10⟩ := HB10.out
          obtain ⟨r0, r1, r2, k0, k1, k2, ltR10⟩ := HR10.out
          go_wp2_with fail
          refine bodyPost_ret (v := .tuple #[.agg #[.slice A10 r.hs.length ac10, .bool r.ex, .slice Q10 r.q.length qc10], .slice I10 ins.length ic10, .int .i64 0]) (by simp [results, Try.results14, go_sem, r0, r1, r2]) rfl ?_
          rw [Hpm2.out]
          obtain ⟨V11, hV11⟩ : ∃ V11, V11 = fill3 V10 w.heap.size r A10 ac10 Q10 qc10 := ⟨_, rfl⟩
          obtain ⟨V12, hV12⟩ : ∃ V12, V12 = fill3 V11 (w.heap.size + 2) r A10 ac10 Q10 qc10 := ⟨_, rfl⟩
          have hk : ∀ b, b ≠ w.heap.size → b ≠ w.heap.size + 2 → V12.heap[b]? = V10.heap[b]? := fun b h1 h2 => by rw [hV12, fill3_keep h2, hV11, fill3_keep h1]
          have hs12 : V12.heap.size = V10.heap.size := by rw [hV12, fill3_size, hV11, fill3_size]
          have hfin : DropDone ok (r, ins, 0) w (.returned (.tuple #[.agg #[.slice A10 r.hs.length ac10, .bool r.ex, .slice Q10 r.q.length qc10], .slice I10 ins.length ic10, .int .i64 0])) V12 := by
            refine ⟨A10, ac10, Q10, qc10, I10, ic10, rfl, (Hm10.out.keep (w' := V12) fun b hb => hk b (by omega) (by omega)).imp fun b hb => .inr (by omega), (Hi10.out.keep (w' := V12) fun b hb => hk b (by omega) (by omega)).imp fun b hb => by omega, ?_⟩
            rw [hV12]
            refine fill3_below ?_ (by omega)
            rw [hV11]
            exact fill3_below Hbw10.out (Nat.le_refl _)
          rw [hV12, hV11] at hfin
          simpa only [fill3] using hfin

set_option maxHeartbeats 4000000 in
theorem holds_any (w : World) (A Q : Option Addr) (ac qc : Nat) (l : La) (who : Int) (hl1 : l.hs.length ≤ 1000) (hl2 : l.q.length ≤ 1000) (hm : LM w (fun b => b < w.heap.size) l A ac Q qc) :
    Calls Try.prog 20 #[.agg #[.slice A l.hs.length ac, .bool l.ex, .slice Q l.q.length qc], .int .i64 who] w fun e w' => e = .returned (.tuple #[.bool (holdsM l who), .bool (holdsM l who && l.ex)]) ∧ Below w.heap.size w w' := by
  obtain ⟨W, hW, hbW, hsW, hB⟩ := la_box w A Q ac qc l 25
  have Hm := Lib.hid (hm.up hbW)
  have HbW := Lib.hid hbW
  have HB' := Lib.hid hB
  obtain ⟨c0, c1, c2, _, _, _, lt⟩ := hB
  have hW' := hW.symm
  have d1 := laRight_any W A Q ac qc l hl1 hl2 Hm.out
  obtain ⟨rt, hrt⟩ : ∃ rt, rt = l.right := ⟨_, rfl⟩
  obtain ⟨i1, hi1⟩ : ∃ i, i = l.hs.contains who := ⟨_, rfl⟩
  have hho : holdsM l who = (rt && i1) := by rw [holdsM, hrt, hi1]
  rw [hho]
  rw [← hrt] at d1
  have Hd1 := Lib.hid d1; have Hi1 := Lib.hid hi1
  clear hrt d1 hW hbW hm hi1 hho
  cases rt with
  | false =>
    go_enter Try.func20, Try.ntmps20
    go_wp2_with fail
    refine Hd1.out.mono ?_
    rintro e V ⟨rfl, hb1⟩
    go_wp2_with fail
    go_ret2
    exact ⟨rfl, bnext HbW.out hb1⟩
  | true =>
    go_enter Try.func20, Try.ntmps20
    go_wp2_with fail
    refine Hd1.out.mono ?_
    rintro e V ⟨rfl, hb1⟩
    have Hb1 := Lib.hid hb1
    clear c0 c1 c2 hW'
    obtain ⟨c0, c1, c2, _, _, _, ltV⟩ := HB'.out.up hb1 lt
    clear hb1
    have d2 := contains_any V A ac l.hs who (by omega) (Hm.out.c.up Hb1.out)
    rw [← Hi1.out] at d2
    have Hd2 := Lib.hid d2
    clear d2
    go_wp2_with fail
    refine Hd2.out.mono ?_
    clear Hd2
    rintro e V2 ⟨rfl, hb2⟩
    have Hb2 := Lib.hid (Hb1.out.trans (hb2.mono Hb1.out.size))
    clear c0 c1 c2 ltV
    obtain ⟨c0, c1, c2, _, _, _, ltV⟩ := HB'.out.up Hb2.out lt
    clear hb2
    cases i1 with
    | false =>
      go_wp2_with fail
      go_ret2
      exact ⟨rfl, bnext HbW.out Hb2.out⟩
    | true =>
      go_upto_region 3 with fail
      go_quiet (fail)
      go_wp2_with fail
      go_ret2
      exact ⟨rfl, below_drewN (bnext HbW.out Hb2.out) _⟩
end Go.Proofs.Ytigffndobddflaa
