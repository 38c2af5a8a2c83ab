/- The contract of lockkeeperref08.Drop. -/
import Derived.Test.YtigffndobddflaaLR6
namespace Go.Proofs.Ytigffndobddflaa
open Go.RowKit

def exH (l : La) (who : Int) (k : Nat) : Bool := if (goneH (l.hs.take k) who).length = 0 then false else l.ex
theorem la_boxz (w : World) (A Q : Option Addr) (ac qc : Nat) (l : La) (t : TypeId) : ∃ W, W = ((w.alloc (.cells #[.slice A l.hs.length ac, .bool l.ex, .slice Q l.q.length qc] t)).alloc (.cells #[.slice none 0 0, .bool false, .slice none 0 0] t)).alloc (.cells #[.slice none 0 0, .bool false, .slice none 0 0] t) ∧
    Below w.heap.size w W ∧ W.heap.size = w.heap.size + 3 ∧ LB w.heap.size l A ac Q qc W ∧ LZ (w.heap.size + 1) W ∧ LZ (w.heap.size + 2) W := by
  obtain ⟨W1, h1⟩ : ∃ W1, W1 = w.alloc (.cells #[.slice A l.hs.length ac, .bool l.ex, .slice Q l.q.length qc] t) := ⟨_, rfl⟩
  obtain ⟨W2, h2⟩ : ∃ W2, W2 = W1.alloc (.cells #[.slice none 0 0, .bool false, .slice none 0 0] t) := ⟨_, rfl⟩
  have s1 : W1.heap.size = w.heap.size + 1 := by rw [h1]; simp
  have s2 : W2.heap.size = w.heap.size + 2 := by rw [h2]; simp [s1]
  refine ⟨_, rfl, (((Below.refl _ _).alloc (Nat.le_refl _) _).alloc (by simp) _).alloc (by simp; omega) _, by simp, ?_, ?_, ?_⟩
  · rw [← h1, ← h2]
    exact LB.of (t := t) (by rw [heap_alloc_old _ _ (by omega), h2, heap_alloc_old _ _ (by omega), h1, heap_alloc_new])
  · rw [← h1, ← h2]
    exact (LB.of (l := ⟨[], false, []⟩) (t := t) (by rw [heap_alloc_old _ _ (by omega), h2, ← s1, heap_alloc_new]; rfl)).lz
  · rw [← h1, ← h2]
    exact (LB.of (l := ⟨[], false, []⟩) (t := t) (by rw [← s2, heap_alloc_new]; rfl)).lz

set_option maxRecDepth 20000 in
set_option maxHeartbeats 8000000 in
theorem refDrop_any (w : World) (ok : Nat → Prop) (A Q : Option Addr) (ac qc : Nat) (l : La) (who : Int) (hll : l.hs.length + l.q.length ≤ 800) (hok : ∀ b, ok b → b < w.heap.size) (hm : LM w ok l A ac Q qc) :
    Calls Try.prog 18 #[.agg #[.slice A l.hs.length ac, .bool l.ex, .slice Q l.q.length qc], .int .i64 who] w (EnterDone ok (enterL (lessL l who)) w) := by
  obtain ⟨W, hW, hbW, hsW, hB, hZ, hX⟩ := la_boxz w A Q ac qc l 28
  obtain ⟨M0, hM0⟩ : ∃ M0, M0 = w.heap.size + 2 := ⟨_, rfl⟩
  rw [← hM0] at hX
  have HmW := Lib.hid (hm.below hbW hok)
  have HbW := Lib.hid hbW
  have Hok := Lib.hid hok
  have HR' := Lib.hid hZ
  have HBX := Lib.hid hX.lb
  have HBN := Lib.hid hB
  have Hr2 := Lib.hid (show Rd icells 1 W M0 A l.hs from HmW.out.rc.to fun b hb => by have := hok b hb; omega)
  have Hr3 := Lib.hid (show Rd Wt.cells 2 W M0 Q l.q from HmW.out.rq.to fun b hb => by have := hok b hb; omega)
  have hNM : w.heap.size < M0 := by omega
  have hNM2 : w.heap.size + 2 ≤ M0 := by omega
  have hM0s : M0 ≤ w.heap.size + 2 := by omega
  have HW := Lib.hid hW.symm; have HM0 := Lib.hid hM0.symm
  have HsW := Lib.hid hsW
  have hMW : M0 < W.heap.size := by omega
  obtain ⟨i0, hi0, hz0, hz1, hz2⟩ := info_parts Try.infoInt
  obtain ⟨k0', hk0, hx0, hx1, hx2⟩ := info_parts Try.infoRefW
  clear hW hbW hm hok hB hZ hX hM0 hsW
  go_enter Try.func18, Try.ntmps18
  have Hgl := Lib.hid (show ∀ k, (goneH (l.hs.take k) who).length ≤ 800 from fun k => Nat.le_trans (List.length_filter_le _ _) (by rw [List.length_take]; omega))
  go_upto_region 2 with fail
  rw [HW.out]
  first | rw [HM0.out] | rw [show w.heap.size + 1 + 1 = M0 from HM0.out]
  clear HW HM0
  go_wp2_with fail
  go_loopg [7] l.hs.length (fun g iv wr => ∃ (k : Nat) (O : Option Addr) (oc : Nat), k ≤ l.hs.length ∧ g = l.hs.length - k ∧ iv = .int .i64 k ∧ LB M0 ⟨goneH (l.hs.take k) who, exH l who k, []⟩ O oc none 0 wr ∧ wr.ownsRow (M0 + 1) 3 1 (.slice O (goneH (l.hs.take k) who).length oc) (goneH (l.hs.take k) who).length ((goneH (l.hs.take k) who).flatMap icells) ∧ Below M0 W wr ∧ M0 < wr.heap.size)
  case atStart => exact ⟨0, none, 0, Nat.zero_le _, rfl, rfl, HBX.out, World.ownsRow_nil _ _ _ _, Below.refl _ _, hMW⟩
  case round =>
    obtain ⟨k, O, oc, hk, hg, rfl, hO, hown, hb, hMr⟩ := hrel
    have Hg := Lib.hid hg; clear hg
    have HO := Lib.hid hO; have Hown := Lib.hid hown; have Hb := Lib.hid hb
    obtain ⟨c0, c1, c2, f0, f1, f2, lt⟩ := HBN.out.up hb hNM
    have hgl := Hgl.out k
    clear hO hown hb
    by_cases hlt : k < l.hs.length
    · obtain ⟨c, b, off, hc, rfl, hbM, hcell⟩ := rd_i Hr2.out hlt
      obtain g0 := hcell wr Hb.out
      have hki : (k : Int) < (l.hs.length : Int) := by omega
      have hbw : b < wr.heap.size := by omega
      have Hc := Lib.hid hc
      have hsn := goneH_snoc (who := who) hc
      have Hsn := Lib.hid hsn
      have G0 := Lib.hid g0
      clear hcell hc hsn
      by_cases hcw : c = who
      · have hwb : (c == who) = true := by simpa using hcw
        have hwn : (c != who) = false := by simpa using hcw
        rw [if_pos hcw, List.append_nil] at Hsn
        clear hcw
        go_wp2_with fail
        go_roundg (l.hs.length - (k + 1))
        case measure => have := Hg.out; omega
        case rel => exact ⟨k + 1, _, _, by omega, rfl, by go_num, by rw [exH, Hsn.out]; exact HO.out, by rw [Hsn.out]; exact Hown.out, Hb.out, hMr⟩
      · have hwb : (c == who) = false := by simpa using hcw
        have hwn : (c != who) = true := by simpa using hcw
        rw [if_neg hcw] at Hsn
        clear hcw
        go_upto_region 6 with fail
        have hOB := HO.out
        have hbZ : b < wr.heap.size := hbw
        have hoM : ∀ g, (Value.slice O (goneH (l.hs.take k) who).length oc).ownBlock = some g → M0 + 1 ≤ g ∧ g < wr.heap.size := fun g hg => Hown.out.lt g hg
        have HoM := Lib.hid hoM
        have hC : ∀ U : World, (∀ g, g < wr.heap.size → (Value.slice O (goneH (l.hs.take k) who).length oc).ownBlock ≠ some g → U.heap[g]? = wr.heap[g]?) → LB w.heap.size l (some ⟨b, off, none⟩) ac Q qc U ∧ LB M0 ⟨goneH (l.hs.take k) who, exH l who k, []⟩ O oc none 0 U ∧ U.cell? ⟨b, off + k, none⟩ = some (.int .i64 c) := fun U hU =>
          ⟨(HBN.out.up Hb.out hNM).keep (hU _ (by omega) (fun e => by have := HoM.out _ e; omega)), HO.out.keep (hU _ (by omega) (fun e => by have := HoM.out _ e; omega)), (World.cell?_of_block (a := ⟨b, off + k, none⟩) (hU b hbZ (fun e => by have := HoM.out _ e; omega))).trans G0.out⟩
        have HC0 := Lib.hid hC
    
        have hC2 : ∀ U : World, (∀ g, g < wr.heap.size → (Value.slice O (goneH (l.hs.take k) who).length oc).ownBlock ≠ some g → U.heap[g]? = wr.heap[g]?) → (fun U => LB w.heap.size l (some ⟨b, off, none⟩) ac Q qc U ∧ LB M0 ⟨goneH (l.hs.take k) who, exH l who k, []⟩ O oc none 0 U ∧ U.cell? ⟨b, off + k, none⟩ = some (.int .i64 c)) U := hC
        have HC := Lib.hid hC2
        refine wp_region_F 10 (fun U => LB w.heap.size l (some ⟨b, off, none⟩) ac Q qc U ∧ LB M0 ⟨goneH (l.hs.take k) who, exH l who k, []⟩ O oc none 0 U ∧ U.cell? ⟨b, off + k, none⟩ = some (.int .i64 c)) (by kernel_rfl) rfl rfl ?_
        obtain ⟨U0, hU0⟩ : ∃ U0, U0 = wr.drew := ⟨_, rfl⟩
        have Hk0 := Lib.hid (show ∀ g : Nat, U0.heap[g]? = wr.heap[g]? from fun g => by rw [hU0]; rfl)
        have Hb0 := Lib.hid (show ∀ g, g < wr.heap.size → (Value.slice O (goneH (l.hs.take k) who).length oc).ownBlock ≠ some g → U0.heap[g]? = wr.heap[g]? from fun g _ _ => by rw [hU0]; rfl)
        have Hs0 := Lib.hid (show U0.heap.size = wr.heap.size by rw [hU0]; rfl)
        have Ho0 := Lib.hid (own_heap Hown.out (w' := U0) fun g hg => by rw [hU0]; rfl)
        have Hw0 := Lib.hid (show Below M0 W U0 by rw [hU0]; exact Hb.out.drew)
        rw [← hU0]
        clear hU0 hC hC2 c0 c1 c2 f0 f1 f2 lt g0 hOB hbw hwb hwn
        (refine takeF (i := 0) (s := 10) (n := 11) (.pointer (some ⟨M0, 0, none⟩)) rfl (by kernel_rfl) (by kernel_rfl) (by kernel_rfl) (by kernel_rfl) (by kernel_rfl) rfl (fun _ _ _ h => h) (HC.out U0 Hb0.out) rfl (fun U hU => by obtain ⟨⟨h0, h1, h2, _, _, _, _⟩, ⟨k0, k1, k2, _, _, _, _⟩, a0⟩ := hU; go_simp) (fun K hK => ?_); have HK := Lib.hid hK; clear hK; go_simp; refine HK.out _ ?_; clear HK K)
        (refine takeF (i := 1) (s := 10) (n := 11) (.slice O (goneH (l.hs.take k) who).length oc) rfl (by kernel_rfl) (by kernel_rfl) (by kernel_rfl) (by kernel_rfl) (by kernel_rfl) rfl (fun _ _ _ h => h) (HC.out U0 Hb0.out) rfl (fun U hU => by obtain ⟨⟨h0, h1, h2, _, _, _, _⟩, ⟨k0, k1, k2, _, _, _, _⟩, a0⟩ := hU; go_simp) (fun K hK => ?_); have HK := Lib.hid hK; clear hK; go_simp; refine HK.out _ ?_; clear HK K)
        (refine takeF (i := 2) (s := 10) (n := 11) (.pointer (some ⟨w.heap.size, 0, none⟩)) rfl (by kernel_rfl) (by kernel_rfl) (by kernel_rfl) (by kernel_rfl) (by kernel_rfl) rfl (fun _ _ _ h => h) (HC.out U0 Hb0.out) rfl (fun U hU => by obtain ⟨⟨h0, h1, h2, _, _, _, _⟩, ⟨k0, k1, k2, _, _, _, _⟩, a0⟩ := hU; go_simp) (fun K hK => ?_); have HK := Lib.hid hK; clear hK; go_simp; refine HK.out _ ?_; clear HK K)
        (refine takeF (i := 3) (s := 10) (n := 11) (.slice (some ⟨b, off, none⟩) l.hs.length ac) rfl (by kernel_rfl) (by kernel_rfl) (by kernel_rfl) (by kernel_rfl) (by kernel_rfl) rfl (fun _ _ _ h => h) (HC.out U0 Hb0.out) rfl (fun U hU => by obtain ⟨⟨h0, h1, h2, _, _, _, _⟩, ⟨k0, k1, k2, _, _, _, _⟩, a0⟩ := hU; go_simp) (fun K hK => ?_); have HK := Lib.hid hK; clear hK; go_simp; refine HK.out _ ?_; clear HK K)
        (refine takeF (i := 4) (s := 10) (n := 11) (.int .i64 k) rfl (by kernel_rfl) (by kernel_rfl) (by kernel_rfl) (by kernel_rfl) (by kernel_rfl) rfl (fun _ _ _ h => h) (HC.out U0 Hb0.out) rfl (fun U hU => by obtain ⟨⟨h0, h1, h2, _, _, _, _⟩, ⟨k0, k1, k2, _, _, _, _⟩, a0⟩ := hU; go_simp) (fun K hK => ?_); have HK := Lib.hid hK; clear hK; go_simp; refine HK.out _ ?_; clear HK K)
        (refine takeF (i := 5) (s := 10) (n := 11) (.pointer (some ⟨b, off + k, none⟩)) rfl (by kernel_rfl) (by kernel_rfl) (by kernel_rfl) (by kernel_rfl) (by kernel_rfl) rfl (fun _ _ _ h => h) (HC.out U0 Hb0.out) rfl (fun U hU => by obtain ⟨⟨h0, h1, h2, _, _, _, _⟩, ⟨k0, k1, k2, _, _, _, _⟩, a0⟩ := hU; go_simp) (fun K hK => ?_); have HK := Lib.hid hK; clear hK; go_simp; refine HK.out _ ?_; clear HK K)
        (refine takeF (i := 6) (s := 10) (n := 11) (.int .i64 c) rfl (by kernel_rfl) (by kernel_rfl) (by kernel_rfl) (by kernel_rfl) (by kernel_rfl) rfl (fun _ _ _ h => h) (HC.out U0 Hb0.out) rfl (fun U hU => by obtain ⟨⟨h0, h1, h2, _, _, _, _⟩, ⟨k0, k1, k2, _, _, _, _⟩, a0⟩ := hU; go_simp) (fun K hK => ?_); have HK := Lib.hid hK; clear hK; go_simp; refine HK.out _ ?_; clear HK K)
        refine oneF (i := 7) (by kernel_rfl) rfl rfl rfl (fun K hK => ?_)
        have HK := Lib.hid hK; clear hK; go_simp
        obtain ⟨U1, hU1⟩ : ∃ U1, U1 = U0.alloc (.cells #[.int .i64 c] 3) := ⟨_, rfl⟩
        have hq1 : Below U0.heap.size U0 U1 := by rw [hU1]; exact (Below.refl _ _).alloc (Nat.le_refl _) _
        have hs1 : U1.heap.size = U0.heap.size + 1 := by rw [hU1]; simp
        have hsrc1 : ∀ (j : Nat) (u : Value), (icells c)[j]? = some u → U1.cell? ((⟨U0.heap.size, 0, none⟩ : Addr).add j) = some u := by
          rw [hU1]
          exact cells_new (cs := #[.int .i64 c]) rfl
        have ho1 := own_up Ho0.out hq1
        have Hb1 := Lib.hid (show ∀ g, g < wr.heap.size → (Value.slice O (goneH (l.hs.take k) who).length oc).ownBlock ≠ some g → U1.heap[g]? = wr.heap[g]? from fun g h1 h2 => (hq1.block g (by have := Hs0.out; omega)).trans (Hk0.out g))
        have Hk1 := Lib.hid (show ∀ g, g < wr.heap.size → U1.heap[g]? = wr.heap[g]? from fun g h1 => (hq1.block g (by have := Hs0.out; omega)).trans (Hk0.out g))
        have Hw1 := Lib.hid (show Below M0 W U1 by have := Hs0.out; exact Hw0.out.trans (hq1.mono (by omega)))
        rw [← hU1]
        have Hs1 := Lib.hid hs1; have Ho1 := Lib.hid ho1; have Hsrc1 := Lib.hid hsrc1
        clear hU1 hq1 hs1 hsrc1 ho1
        refine HK.out _ _ (HC.out _ Hb1.out) ?_
        clear HK K
        refine oneF (i := 8) (by kernel_rfl) rfl rfl rfl (fun K hK => ?_)
        have HK := Lib.hid hK; clear hK
        refine wp_app (.tmp 24) (.tmp 30) 22 rfl (M0 + 1) 3 i0 (.int .i64 0) 1 8 Try.underlying22 hi0 hz0 hz1 hz2 rfl (by decide) (v := .slice O (goneH (l.hs.take k) who).length oc) (by rfl) Ho1.out (A := some ⟨U0.heap.size, 0, none⟩) (m := 1) (c := 1) (news := icells c) (by rfl) rfl (by simp) (fun ad e => by injection e with e; subst e; exact Hsrc1.out) (i_one _) ?_ ?_ ?_ ?_
        · unfold maxLen; omega
        · omega
        · have := Hs1.out; have := Hs0.out; omega
        intro v7 w7 ho7 hg7 hv7
        obtain ⟨A7, c7, rfl, _, _⟩ := own_slice ho7
        have hs7 := hg7.size
        have hs1 := Hs1.out; have hs0 := Hs0.out
        have Hb7 := Lib.hid (show ∀ g, g < wr.heap.size → (Value.slice O (goneH (l.hs.take k) who).length oc).ownBlock ≠ some g → w7.heap[g]? = wr.heap[g]? from fun g h1 h2 => (hg7.block g (by omega) (fun e => h2 e.symm)).trans (Hk1.out g h1))
        have Hw7 := Lib.hid (Hw1.out.grown hg7 (by omega) (fun d hd => by have := HoM.out d hd; omega))
        have Ho7 := Lib.hid ho7
        have Hs7 := Lib.hid (show wr.heap.size ≤ w7.heap.size by omega)
        clear ho7 hg7 hv7 hs7 hs1 hs0
        go_simp
        refine HK.out _ _ (HC.out _ Hb7.out) ?_
        clear HK K
        (refine takeF (i := 9) (s := 10) (n := 11) (.pointer (some ⟨M0, 0, none⟩)) rfl (by kernel_rfl) (by kernel_rfl) (by kernel_rfl) (by kernel_rfl) (by kernel_rfl) rfl (fun _ _ _ h => h) (HC.out w7 Hb7.out) rfl (fun U hU => by obtain ⟨⟨h0, h1, h2, _, _, _, _⟩, ⟨k0, k1, k2, _, _, _, _⟩, a0⟩ := hU; go_simp) (fun K hK => ?_); have HK := Lib.hid hK; clear hK; go_simp; refine HK.out _ ?_; clear HK K)
        obtain ⟨_, ⟨c0, c1, c2, f0, f1, f2, lt⟩, _⟩ := HC0.out w7 Hb7.out
        refine lastF (by kernel_rfl) rfl rfl (by kernel_rfl) rfl (fun K hK => ?_)
        have HK := Lib.hid hK; clear hK; go_simp
        refine HK.out _ _ ?_
        clear HK K c0 c1 c2 f0 f1 f2 lt
        obtain ⟨w8, hw8⟩ : ∃ w8, w8 = w7.setCell ⟨M0, 0, none⟩ (.slice A7 ((goneH (l.hs.take k) who).length + 1) c7) := ⟨_, rfl⟩
        have hk8 : ∀ g, g ≠ M0 → w8.heap[g]? = w7.heap[g]? := fun g h => by rw [hw8]; exact Below.heap_setCell w7 ⟨M0, 0, none⟩ _ g h
        have hl8 : (goneH (l.hs.take (k + 1)) who).length = (goneH (l.hs.take k) who).length + 1 := by rw [Hsn.out, List.length_append]; rfl
        have HB8 := Lib.hid (show LB M0 ⟨goneH (l.hs.take (k + 1)) who, exH l who k, []⟩ A7 c7 none 0 w8 by
          have := (HC0.out w7 Hb7.out).2.1.set0 (goneH (l.hs.take (k + 1)) who) A7 c7
          rw [hl8] at this
          rw [hw8]; exact this)
        have Ho8 := Lib.hid (show w8.ownsRow (M0 + 1) 3 1 (.slice A7 (goneH (l.hs.take (k + 1)) who).length c7) (goneH (l.hs.take (k + 1)) who).length ((goneH (l.hs.take (k + 1)) who).flatMap icells) by
          rw [hl8, Hsn.out, List.flatMap_append]
          refine own_heap ?_ (w := w7) fun g hg => hk8 g (by have := (Ho7.out.lt g hg).1; omega)
          simpa using Ho7.out)
        have HN8 := Lib.hid (show LB w.heap.size l (some ⟨b, off, none⟩) ac Q qc w8 from (HC0.out w7 Hb7.out).1.keep (hk8 _ (by omega)))
        have Hw8 := Lib.hid (show Below M0 W w8 by rw [hw8]; exact Hw7.out.setCell (p := ⟨M0, 0, none⟩) (Nat.le_refl _) _)
        have hM8 : M0 < w8.heap.size := by have := Hs7.out; rw [hw8]; simp; omega
        rw [← hw8]
        clear hw8 hk8 hl8
        obtain ⟨c0, c1, c2, f0, f1, f2, lt⟩ := HN8.out
        obtain ⟨d0, d1, d2, e0, e1, e2, lt8⟩ := HB8.out
        simp only at d0 d1 d2
        go_wp2_with fail
        go_roundg (l.hs.length - (k + 1))
        case measure => have := Hg.out; omega
        case rel =>
          refine ⟨k + 1, A7, c7, by omega, rfl, by go_num, ?_, own_heap Ho8.out fun g hg => Below.heap_setCell _ ⟨M0, 1, none⟩ _ g (by show g ≠ M0; have := (Ho8.out.lt g hg).1; omega), Hw8.out.setCell (p := ⟨M0, 1, none⟩) (Nat.le_refl _) _, by simpa using hM8⟩
          have h1 := HB8.out.set1 l.ex
          rw [show exH l who (k + 1) = l.ex by rw [exH, if_neg]; rw [Hsn.out, List.length_append]; simp]
          exact h1
    · obtain rfl : k = l.hs.length := by omega
      obtain ⟨gx, hgx⟩ : ∃ gx, gx = exH l who l.hs.length := ⟨_, rfl⟩
      rw [← hgx] at HO
      rw [exH, List.take_length] at hgx
      rw [List.take_length] at HO Hown
      obtain ⟨gc, hgc⟩ : ∃ gc, gc = goneH l.hs who := ⟨_, rfl⟩
      rw [← hgc] at HO Hown hgx
      have Hgc := Lib.hid hgc; have Hgx := Lib.hid hgx
      have Hgl := Lib.hid (show ∀ k, (goneW (l.q.take k) who).length ≤ 800 from fun k => Nat.le_trans (List.length_filter_le _ _) (by rw [List.length_take]; omega))
      obtain ⟨O1, rfl⟩ : ∃ O1, O1 = O := ⟨_, rfl⟩
      obtain ⟨oc1, rfl⟩ : ∃ oc1, oc1 = oc := ⟨_, rfl⟩
      have hgcl : gc.length ≤ 800 := by have := hgl; rw [List.take_length, ← hgc] at this; exact this
      obtain ⟨V0, hV0⟩ : ∃ V0 : World, V0 = wr := ⟨_, rfl⟩
      clear hgc hgl hgx
      go_wp2_with fail
      clear c0 c1 c2 f0 f1 f2 lt
      go_loopg [8] l.q.length (fun g iv wr => ∃ (k : Nat) (O2 : Option Addr) (oc : Nat), k ≤ l.q.length ∧ g = l.q.length - k ∧ iv = .int .i64 k ∧ LB M0 ⟨gc, gx, goneW (l.q.take k) who⟩ O1 oc1 O2 oc wr ∧ wr.ownsRow (M0 + 1) 59 2 (.slice O2 (goneW (l.q.take k) who).length oc) (goneW (l.q.take k) who).length ((goneW (l.q.take k) who).flatMap Wt.cells) ∧ wr.ownsRow (M0 + 1) 3 1 (.slice O1 gc.length oc1) gc.length (gc.flatMap icells) ∧ Below M0 W wr ∧ M0 < wr.heap.size)
      case atStart => exact ⟨0, none, 0, Nat.zero_le _, rfl, rfl, HO.out, World.ownsRow_nil _ _ _ _, Hown.out, Hb.out, hMr⟩
      case round =>
        clear hV0 V0 hMr Hown HO Hb Hg
        obtain ⟨k, O2, oc, hk, hg, rfl, hO, hown, hown1, hb, hMr⟩ := hrel
        have Hown1 := Lib.hid hown1
        clear hown1
        have Hg := Lib.hid hg; clear hg
        have HO := Lib.hid hO; have Hown := Lib.hid hown; have Hb := Lib.hid hb
        obtain ⟨c0, c1, c2, f0, f1, f2, lt⟩ := HBN.out.up hb hNM
        have hgl := Hgl.out k
        clear hO hown hb
        by_cases hlt : k < l.q.length
        · obtain ⟨c, b, off, hc, rfl, hbM, hcell⟩ := rd_w Hr3.out hlt
          obtain ⟨g0, g1⟩ := hcell wr Hb.out
          have hki : (k : Int) < (l.q.length : Int) := by omega
          have hbw : b < wr.heap.size := by omega
          have Hc := Lib.hid hc
          have hsn := goneW_snoc (who := who) hc
          have Hsn := Lib.hid hsn
          have G0 := Lib.hid g0; have G1 := Lib.hid g1
          clear hcell hc hsn
          by_cases hcw : c.who = who
          · have hwb : (c.who == who) = true := by simpa using hcw
            have hwn : (c.who != who) = false := by simpa using hcw
            rw [if_pos hcw, List.append_nil] at Hsn
            clear hcw
            go_wp2_with fail
            go_roundg (l.q.length - (k + 1))
            case measure => have := Hg.out; omega
            case rel => exact ⟨k + 1, _, _, by omega, rfl, by go_num, by rw [Hsn.out]; exact HO.out, by rw [Hsn.out]; exact Hown.out, Hown1.out, Hb.out, hMr⟩
          · have hwb : (c.who == who) = false := by simpa using hcw
            have hwn : (c.who != who) = true := by simpa using hcw
            rw [if_neg hcw] at Hsn
            clear hcw
            go_upto_region 12 with fail
            have hOB := HO.out
            have hbZ : b < wr.heap.size := hbw
            have hoM : ∀ g, (Value.slice O2 (goneW (l.q.take k) who).length oc).ownBlock = some g → M0 + 1 ≤ g ∧ g < wr.heap.size := fun g hg => Hown.out.lt g hg
            have HoM := Lib.hid hoM
            have hC : ∀ U : World, (∀ g, g < wr.heap.size → (Value.slice O2 (goneW (l.q.take k) who).length oc).ownBlock ≠ some g → U.heap[g]? = wr.heap[g]?) → LB w.heap.size l A ac (some ⟨b, off, none⟩) qc U ∧ LB M0 ⟨gc, gx, goneW (l.q.take k) who⟩ O1 oc1 O2 oc U ∧ U.cell? ⟨b, off + k * 2, none⟩ = some (.int .i64 c.who) ∧ U.cell? ⟨b, off + k * 2 + 1, none⟩ = some (.bool c.ex) := fun U hU =>
              ⟨(HBN.out.up Hb.out hNM).keep (hU _ (by omega) (fun e => by have := HoM.out _ e; omega)), HO.out.keep (hU _ (by omega) (fun e => by have := HoM.out _ e; omega)), (World.cell?_of_block (a := ⟨b, off + k * 2, none⟩) (hU b hbZ (fun e => by have := HoM.out _ e; omega))).trans G0.out, (World.cell?_of_block (a := ⟨b, off + k * 2 + 1, none⟩) (hU b hbZ (fun e => by have := HoM.out _ e; omega))).trans G1.out⟩
            have HC0 := Lib.hid hC
            have HAP := Lib.hid (show ∀ g, (Value.slice O1 gc.length oc1).ownBlock = some g → (Value.slice O2 (goneW (l.q.take k) who).length oc).ownBlock ≠ some g from fun g hg e => by rcases own_apart Hown.out Hown1.out (by decide) with h | h; rw [h] at e; cases e; exact h (e.trans hg.symm))
            have hC2 : ∀ U : World, (∀ g, g < wr.heap.size → (Value.slice O2 (goneW (l.q.take k) who).length oc).ownBlock ≠ some g → U.heap[g]? = wr.heap[g]?) → (fun U => LB w.heap.size l A ac (some ⟨b, off, none⟩) qc U ∧ LB M0 ⟨gc, gx, goneW (l.q.take k) who⟩ O1 oc1 O2 oc U ∧ U.cell? ⟨b, off + k * 2, none⟩ = some (.int .i64 c.who) ∧ U.cell? ⟨b, off + k * 2 + 1, none⟩ = some (.bool c.ex)) U := hC
            have HC := Lib.hid hC2
            refine wp_region_F 10 (fun U => LB w.heap.size l A ac (some ⟨b, off, none⟩) qc U ∧ LB M0 ⟨gc, gx, goneW (l.q.take k) who⟩ O1 oc1 O2 oc U ∧ U.cell? ⟨b, off + k * 2, none⟩ = some (.int .i64 c.who) ∧ U.cell? ⟨b, off + k * 2 + 1, none⟩ = some (.bool c.ex)) (by kernel_rfl) rfl rfl ?_
            obtain ⟨U0, hU0⟩ : ∃ U0, U0 = wr.drew := ⟨_, rfl⟩
            have Hk0 := Lib.hid (show ∀ g : Nat, U0.heap[g]? = wr.heap[g]? from fun g => by rw [hU0]; rfl)
            have Hb0 := Lib.hid (show ∀ g, g < wr.heap.size → (Value.slice O2 (goneW (l.q.take k) who).length oc).ownBlock ≠ some g → U0.heap[g]? = wr.heap[g]? from fun g _ _ => by rw [hU0]; rfl)
            have Hs0 := Lib.hid (show U0.heap.size = wr.heap.size by rw [hU0]; rfl)
            have Ho0 := Lib.hid (own_heap Hown.out (w' := U0) fun g hg => by rw [hU0]; rfl)
            have Hw0 := Lib.hid (show Below M0 W U0 by rw [hU0]; exact Hb.out.drew)
            rw [← hU0]
            clear hU0 hC hC2 c0 c1 c2 f0 f1 f2 lt g0 g1 hOB hbw hwb hwn
            (refine takeF (i := 0) (s := 10) (n := 11) (.pointer (some ⟨M0, 2, none⟩)) rfl (by kernel_rfl) (by kernel_rfl) (by kernel_rfl) (by kernel_rfl) (by kernel_rfl) rfl (fun _ _ _ h => h) (HC.out U0 Hb0.out) rfl (fun U hU => by obtain ⟨⟨h0, h1, h2, _, _, _, _⟩, ⟨k0, k1, k2, _, _, _, _⟩, a0, a1⟩ := hU; go_simp) (fun K hK => ?_); have HK := Lib.hid hK; clear hK; go_simp; refine HK.out _ ?_; clear HK K)
            (refine takeF (i := 1) (s := 10) (n := 11) (.slice O2 (goneW (l.q.take k) who).length oc) rfl (by kernel_rfl) (by kernel_rfl) (by kernel_rfl) (by kernel_rfl) (by kernel_rfl) rfl (fun _ _ _ h => h) (HC.out U0 Hb0.out) rfl (fun U hU => by obtain ⟨⟨h0, h1, h2, _, _, _, _⟩, ⟨k0, k1, k2, _, _, _, _⟩, a0, a1⟩ := hU; go_simp) (fun K hK => ?_); have HK := Lib.hid hK; clear hK; go_simp; refine HK.out _ ?_; clear HK K)
            (refine takeF (i := 2) (s := 10) (n := 11) (.pointer (some ⟨w.heap.size, 2, none⟩)) rfl (by kernel_rfl) (by kernel_rfl) (by kernel_rfl) (by kernel_rfl) (by kernel_rfl) rfl (fun _ _ _ h => h) (HC.out U0 Hb0.out) rfl (fun U hU => by obtain ⟨⟨h0, h1, h2, _, _, _, _⟩, ⟨k0, k1, k2, _, _, _, _⟩, a0, a1⟩ := hU; go_simp) (fun K hK => ?_); have HK := Lib.hid hK; clear hK; go_simp; refine HK.out _ ?_; clear HK K)
            (refine takeF (i := 3) (s := 10) (n := 11) (.slice (some ⟨b, off, none⟩) l.q.length qc) rfl (by kernel_rfl) (by kernel_rfl) (by kernel_rfl) (by kernel_rfl) (by kernel_rfl) rfl (fun _ _ _ h => h) (HC.out U0 Hb0.out) rfl (fun U hU => by obtain ⟨⟨h0, h1, h2, _, _, _, _⟩, ⟨k0, k1, k2, _, _, _, _⟩, a0, a1⟩ := hU; go_simp) (fun K hK => ?_); have HK := Lib.hid hK; clear hK; go_simp; refine HK.out _ ?_; clear HK K)
            (refine takeF (i := 4) (s := 10) (n := 11) (.int .i64 k) rfl (by kernel_rfl) (by kernel_rfl) (by kernel_rfl) (by kernel_rfl) (by kernel_rfl) rfl (fun _ _ _ h => h) (HC.out U0 Hb0.out) rfl (fun U hU => by obtain ⟨⟨h0, h1, h2, _, _, _, _⟩, ⟨k0, k1, k2, _, _, _, _⟩, a0, a1⟩ := hU; go_simp) (fun K hK => ?_); have HK := Lib.hid hK; clear hK; go_simp; refine HK.out _ ?_; clear HK K)
            (refine takeF (i := 5) (s := 10) (n := 11) (.pointer (some ⟨b, off + k * 2, none⟩)) rfl (by kernel_rfl) (by kernel_rfl) (by kernel_rfl) (by kernel_rfl) (by kernel_rfl) rfl (fun _ _ _ h => h) (HC.out U0 Hb0.out) rfl (fun U hU => by obtain ⟨⟨h0, h1, h2, _, _, _, _⟩, ⟨k0, k1, k2, _, _, _, _⟩, a0, a1⟩ := hU; go_simp) (fun K hK => ?_); have HK := Lib.hid hK; clear hK; go_simp; refine HK.out _ ?_; clear HK K)
            (refine takeF (i := 6) (s := 10) (n := 11) (.agg #[.int .i64 c.who, .bool c.ex]) rfl (by kernel_rfl) (by kernel_rfl) (by kernel_rfl) (by kernel_rfl) (by kernel_rfl) rfl (fun _ _ _ h => h) (HC.out U0 Hb0.out) rfl (fun U hU => by obtain ⟨⟨h0, h1, h2, _, _, _, _⟩, ⟨k0, k1, k2, _, _, _, _⟩, a0, a1⟩ := hU; go_simp) (fun K hK => ?_); have HK := Lib.hid hK; clear hK; go_simp; refine HK.out _ ?_; clear HK K)
            refine oneF (i := 7) (by kernel_rfl) rfl rfl rfl (fun K hK => ?_)
            have HK := Lib.hid hK; clear hK; go_simp
            obtain ⟨U1, hU1⟩ : ∃ U1, U1 = U0.alloc (.cells #[.int .i64 c.who, .bool c.ex] 59) := ⟨_, rfl⟩
            have hq1 : Below U0.heap.size U0 U1 := by rw [hU1]; exact (Below.refl _ _).alloc (Nat.le_refl _) _
            have hs1 : U1.heap.size = U0.heap.size + 1 := by rw [hU1]; simp
            have hsrc1 : ∀ (j : Nat) (u : Value), (Wt.cells c)[j]? = some u → U1.cell? ((⟨U0.heap.size, 0, none⟩ : Addr).add j) = some u := by
              rw [hU1]
              exact cells_new (cs := #[.int .i64 c.who, .bool c.ex]) rfl
            have ho1 := own_up Ho0.out hq1
            have Hb1 := Lib.hid (show ∀ g, g < wr.heap.size → (Value.slice O2 (goneW (l.q.take k) who).length oc).ownBlock ≠ some g → U1.heap[g]? = wr.heap[g]? from fun g h1 h2 => (hq1.block g (by have := Hs0.out; omega)).trans (Hk0.out g))
            have Hk1 := Lib.hid (show ∀ g, g < wr.heap.size → U1.heap[g]? = wr.heap[g]? from fun g h1 => (hq1.block g (by have := Hs0.out; omega)).trans (Hk0.out g))
            have Hw1 := Lib.hid (show Below M0 W U1 by have := Hs0.out; exact Hw0.out.trans (hq1.mono (by omega)))
            rw [← hU1]
            have Hs1 := Lib.hid hs1; have Ho1 := Lib.hid ho1; have Hsrc1 := Lib.hid hsrc1
            clear hU1 hq1 hs1 hsrc1 ho1
            refine HK.out _ _ (HC.out _ Hb1.out) ?_
            clear HK K
            refine oneF (i := 8) (by kernel_rfl) rfl rfl rfl (fun K hK => ?_)
            have HK := Lib.hid hK; clear hK
            refine wp_app (.tmp 52) (.tmp 58) 26 rfl (M0 + 1) 59 k0' (.agg #[.int .i64 0, .bool false]) 2 16 Try.underlying26 hk0 hx0 hx1 hx2 rfl (by decide) (v := .slice O2 (goneW (l.q.take k) who).length oc) (by rfl) Ho1.out (A := some ⟨U0.heap.size, 0, none⟩) (m := 1) (c := 1) (news := Wt.cells c) (by rfl) rfl (by simp) (fun ad e => by injection e with e; subst e; exact Hsrc1.out) (wt_one _) ?_ ?_ ?_ ?_
            · unfold maxLen; omega
            · omega
            · have := Hs1.out; have := Hs0.out; omega
            intro v7 w7 ho7 hg7 hv7
            obtain ⟨A7, c7, rfl, _, _⟩ := own_slice ho7
            have hs7 := hg7.size
            have hs1 := Hs1.out; have hs0 := Hs0.out
            have Hb7 := Lib.hid (show ∀ g, g < wr.heap.size → (Value.slice O2 (goneW (l.q.take k) who).length oc).ownBlock ≠ some g → w7.heap[g]? = wr.heap[g]? from fun g h1 h2 => (hg7.block g (by omega) (fun e => h2 e.symm)).trans (Hk1.out g h1))
            have Hw7 := Lib.hid (Hw1.out.grown hg7 (by omega) (fun d hd => by have := HoM.out d hd; omega))
            have Ho7 := Lib.hid ho7
            have Hs7 := Lib.hid (show wr.heap.size ≤ w7.heap.size by omega)
            clear ho7 hg7 hv7 hs7 hs1 hs0
            go_simp
            refine HK.out _ _ (HC.out _ Hb7.out) ?_
            clear HK K
            (refine takeF (i := 9) (s := 10) (n := 11) (.pointer (some ⟨M0, 2, none⟩)) rfl (by kernel_rfl) (by kernel_rfl) (by kernel_rfl) (by kernel_rfl) (by kernel_rfl) rfl (fun _ _ _ h => h) (HC.out w7 Hb7.out) rfl (fun U hU => by obtain ⟨⟨h0, h1, h2, _, _, _, _⟩, ⟨k0, k1, k2, _, _, _, _⟩, a0, a1⟩ := hU; go_simp) (fun K hK => ?_); have HK := Lib.hid hK; clear hK; go_simp; refine HK.out _ ?_; clear HK K)
            obtain ⟨_, ⟨c0, c1, c2, f0, f1, f2, lt⟩, _⟩ := HC0.out w7 Hb7.out
            refine lastF (by kernel_rfl) rfl rfl (by kernel_rfl) rfl (fun K hK => ?_)
            have HK := Lib.hid hK; clear hK; go_simp
            refine HK.out _ _ ?_
            clear HK K c0 c1 c2 f0 f1 f2 lt
            obtain ⟨w8, hw8⟩ : ∃ w8, w8 = w7.setCell ⟨M0, 2, none⟩ (.slice A7 ((goneW (l.q.take k) who).length + 1) c7) := ⟨_, rfl⟩
            have hk8 : ∀ g, g ≠ M0 → w8.heap[g]? = w7.heap[g]? := fun g h => by rw [hw8]; exact Below.heap_setCell w7 ⟨M0, 2, none⟩ _ g h
            have hl8 : (goneW (l.q.take (k + 1)) who).length = (goneW (l.q.take k) who).length + 1 := by rw [Hsn.out, List.length_append]; rfl
            have HB8 := Lib.hid (show LB M0 ⟨gc, gx, goneW (l.q.take (k + 1)) who⟩ O1 oc1 A7 c7 w8 by
              have := (HC0.out w7 Hb7.out).2.1.set2 (goneW (l.q.take (k + 1)) who) A7 c7
              rw [hl8] at this
              rw [hw8]; exact this)
            have Ho8 := Lib.hid (show w8.ownsRow (M0 + 1) 59 2 (.slice A7 (goneW (l.q.take (k + 1)) who).length c7) (goneW (l.q.take (k + 1)) who).length ((goneW (l.q.take (k + 1)) who).flatMap Wt.cells) by
              rw [hl8, Hsn.out, List.flatMap_append]
              refine own_heap ?_ (w := w7) fun g hg => hk8 g (by have := (Ho7.out.lt g hg).1; omega)
              simpa using Ho7.out)
            have Hown8 := Lib.hid (show w8.ownsRow (M0 + 1) 3 1 (.slice O1 gc.length oc1) gc.length (gc.flatMap icells) from own_heap Hown1.out (w' := w8) fun g hg => (hk8 g (by have := (Hown1.out.lt g hg).1; omega)).trans (Hb7.out g (Hown1.out.lt g hg).2 (HAP.out g hg)))
            have Hw8 := Lib.hid (show Below M0 W w8 by rw [hw8]; exact Hw7.out.setCell (p := ⟨M0, 2, none⟩) (Nat.le_refl _) _)
            have hM8 : M0 < w8.heap.size := by have := Hs7.out; rw [hw8]; simp; omega
            rw [← hw8]
            clear hw8 hk8 hl8
            go_wp2_with fail
            go_roundg (l.q.length - (k + 1))
            case measure => have := Hg.out; omega
            case rel => exact ⟨k + 1, A7, c7, by omega, rfl, by go_num, HB8.out, Ho8.out, Hown8.out, Hw8.out, hM8⟩
        · obtain rfl : k = l.q.length := by omega
          rw [List.take_length] at HO Hown
          obtain ⟨gt, hgt⟩ : ∃ gt, gt = goneW l.q who := ⟨_, rfl⟩
          have hgtl : gt.length ≤ l.q.length := by rw [hgt]; exact List.length_filter_le _ _
          have hgcl2 : gc.length ≤ l.hs.length := by rw [Hgc.out]; exact List.length_filter_le _ _
          rw [← hgt] at HO Hown
          have Hless := Lib.hid (show lessL l who = ⟨gc, gx, gt⟩ by rw [lessL, ← Hgc.out, ← hgt, Hgx.out])
          have hemp : gc = [] → gx = false := fun e => by rw [Hgx.out, e]; rfl
          clear hgt hgl
          obtain ⟨hc51, hc52⟩ := own_cap Hown1.out
          obtain ⟨hc81, hc82⟩ := own_cap Hown.out
          have hm9 : LM wr (fun b => M0 + 1 ≤ b ∧ b < wr.heap.size) ⟨gc, gx, gt⟩ O1 oc1 O2 oc := ⟨Rd'.of_own Hown1.out i_len (by decide), Rd'.of_own Hown.out wt_len (by decide), hc51, hc52, hc81, hc82⟩
          have d10 := refLet_any wr (fun b => M0 + 1 ≤ b ∧ b < wr.heap.size) O1 O2 oc1 oc ⟨gc, gx, gt⟩ hemp (by simp only; omega) (fun b hb => hb.2) hm9
          obtain ⟨r, ins, hr⟩ : ∃ r ins, enterL ⟨gc, gx, gt⟩ = (r, ins) := ⟨_, _, rfl⟩
          rw [hr] at d10
          have Hd10 := Lib.hid d10; have Hr := Lib.hid hr
          have HR9 := Lib.hid (show LZ (w.heap.size + 1) wr from HR'.out.up Hb.out (by omega))
          clear d10 hr hm9 hemp hgtl hgcl2
          go_upto_region 13 with fail
          clear c0 c1 c2 f0 f1 f2 lt
          obtain ⟨c0, c1, c2, f0, f1, f2, lt⟩ := HO.out
          simp only at c0 c1 c2
          go_wp2_with fail
          refine Hd10.out.mono ?_
          clear Hd10 c0 c1 c2 f0 f1 f2 lt
          rintro e V10 ⟨A10, ac10, Q10, qc10, I10, ic10, rfl, hm10, hi10, hb10⟩
          have hs10 := hb10.size
          have HR5 := Lib.hid (HR9.out.up hb10 (by omega))
          have Hm5 := Lib.hid hm10; have Hi5 := Lib.hid hi10
          have Hbw5 := Lib.hid (show Below w.heap.size w V10 from HbW.out.trans ((Hb.out.mono (by omega)).trans (hb10.mono (by omega))))
          clear hm10 hi10 hb10
          simp only
          obtain ⟨r0, r1, r2, k0, k1, k2, ltR5⟩ := HR5.out
          go_wp2_with fail
          have hbx := HR5.out.lb.fill (r := r) (A' := A10) (ac' := ac10) (Q' := Q10) (qc' := qc10)
          unfold fill3 at hbx
          obtain ⟨y0, y1, y2, _, _, _, _⟩ := hbx
          refine bodyPost_ret (v := .tuple #[.agg #[.slice A10 r.hs.length ac10, .bool r.ex, .slice Q10 r.q.length qc10], .slice I10 ins.length ic10]) (by simp [results, Try.results18, go_sem, y0, y1, y2]) rfl ?_
          rw [Hless.out, Hr.out]
          have hz12 : (fill3 V10 (w.heap.size + 1) r A10 ac10 Q10 qc10).heap.size = V10.heap.size := fill3_size
          have hfin : EnterDone ok (r, ins) w (.returned (.tuple #[.agg #[.slice A10 r.hs.length ac10, .bool r.ex, .slice Q10 r.q.length qc10], .slice I10 ins.length ic10])) (fill3 V10 (w.heap.size + 1) r A10 ac10 Q10 qc10) := by
            refine ⟨A10, ac10, Q10, qc10, I10, ic10, rfl, (Hm5.out.keep fun b hb => fill3_keep (by omega)).imp fun b hb => .inr (by omega), (Hi5.out.keep fun b hb => fill3_keep (by omega)).imp fun b hb => by omega, ?_⟩
            exact fill3_below Hbw5.out (by omega)
          unfold fill3 at hfin
          exact hfin
end Go.Proofs.Ytigffndobddflaa
