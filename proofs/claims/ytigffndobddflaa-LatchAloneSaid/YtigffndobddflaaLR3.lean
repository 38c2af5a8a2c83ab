/- The law's own look at a latch: ref. -/
import Derived.Test.YtigffndobddflaaLR2
namespace Go.Proofs.Ytigffndobddflaa
open Go.RowKit

theorem Try.infoRefW : (Try.prog.info? 59).map (fun i => (i.zero, i.size, i.bytes)) = some (some (.agg #[.int .i64 0, .bool false]), 2, 16) := by kernel_rfl
theorem take_snoc_w {l : List Wt} {k : Nat} {c : Wt} (h : l[k]? = some c) : (l.take (k + 1)).flatMap Wt.cells = (l.take k).flatMap Wt.cells ++ [.int .i64 c.who, .bool c.ex] := by
  have : l.take (k + 1) = l.take k ++ [c] := by rw [List.take_add_one, h]; rfl
  rw [this, List.flatMap_append]; simp [Wt.cells]
theorem la_three (w : World) (A Q : Option Addr) (ac qc : Nat) (l : La) (t u : TypeId) : ∃ W, W = ((w.alloc (.cells #[.slice A l.hs.length ac, .bool l.ex, .slice Q l.q.length qc] t)).alloc (.cells #[.slice none 0 0, .bool false, .slice none 0 0] u)).alloc (.cells #[.slice A l.hs.length ac, .bool l.ex, .slice none 0 0] u) ∧
    Below w.heap.size w W ∧ W.heap.size = w.heap.size + 3 ∧ LB w.heap.size l A ac Q qc W ∧ LZ (w.heap.size + 1) W ∧ LB (w.heap.size + 1 + 1) ⟨l.hs, l.ex, []⟩ A ac none 0 W := by
  obtain ⟨W1, h1⟩ : ∃ W1, W1 = w.alloc (.cells #[.slice A l.hs.length ac, .bool l.ex, .slice Q l.q.length qc] t) := ⟨_, rfl⟩
  obtain ⟨W2, h2⟩ : ∃ W2, W2 = W1.alloc (.cells #[.slice none 0 0, .bool false, .slice none 0 0] u) := ⟨_, rfl⟩
  have s1 : W1.heap.size = w.heap.size + 1 := by rw [h1]; simp
  have s2 : W2.heap.size = w.heap.size + 2 := by rw [h2]; simp [s1]
  refine ⟨_, rfl, (((Below.refl _ _).alloc (Nat.le_refl _) _).alloc (by simp) _).alloc (by simp; omega) _, by simp, ?_, ?_, ?_⟩
  · rw [← h1, ← h2]
    exact LB.of (t := t) (by rw [heap_alloc_old _ _ (by omega), h2, heap_alloc_old _ _ (by omega), h1, heap_alloc_new])
  · rw [← h1, ← h2]
    exact (LB.of (l := ⟨[], false, []⟩) (t := u) (by rw [heap_alloc_old _ _ (by omega), h2, ← s1, heap_alloc_new]; rfl)).lz
  · rw [← h1, ← h2]
    exact LB.of (l := ⟨l.hs, l.ex, []⟩) (t := u) (by rw [show w.heap.size + 1 + 1 = W2.heap.size by omega, heap_alloc_new]; rfl)

set_option maxRecDepth 20000 in
set_option maxHeartbeats 4000000 in
theorem refLong_any (w : World) (A Q : Option Addr) (ac qc : Nat) (l : La) (h : ¬ (l.hs.length ≤ 80 ∧ l.q.length ≤ 80)) :
    Calls Try.prog 9 #[.agg #[.slice A l.hs.length ac, .bool l.ex, .slice Q l.q.length qc]] w fun e w' =>
      e = .returned (.tuple #[.agg #[.slice A l.hs.length ac, .bool l.ex, .slice none 0 0], .bool false]) ∧ Below w.heap.size w w' := by
  obtain ⟨W, hW, hbW, hsW, hB, hZ, hO⟩ := la_three w A Q ac qc l 25 28
  have HW := Lib.hid hW.symm
  have HbW := Lib.hid hbW
  have HZ := Lib.hid hZ
  obtain ⟨c0, c1, c2, _, _, _, lt⟩ := hB
  obtain ⟨o0, o1, o2, _, _, _, ltO⟩ := hO
  obtain ⟨z0, z1, z2, k0, k1, k2, ltZ⟩ := hZ
  simp only [List.length_nil] at o0 o1 o2
  have hc : (80 : Int) < (l.hs.length : Int) ∨ (¬ (80 : Int) < (l.hs.length : Int) ∧ (80 : Int) < (l.q.length : Int)) := by omega
  clear hW hbW h
  rcases hc with h1 | ⟨h1, h2⟩
  all_goals
    go_enter Try.func9, Try.ntmps9
    go_upto_region 2 with fail
    rw [HW.out]
    go_wp2_with fail
    have hbx := HZ.out.lb.fill (r := ⟨l.hs, l.ex, []⟩) (A' := A) (ac' := ac) (Q' := none) (qc' := 0)
    unfold fill3 at hbx
    obtain ⟨y0, y1, y2, _, _, _, _⟩ := hbx
    simp only [List.length_nil] at y0 y1 y2
    refine bodyPost_ret (v := .tuple #[.agg #[.slice A l.hs.length ac, .bool l.ex, .slice none 0 0], .bool false]) (by simp [results, Try.results9, go_sem, y0, y1, y2]) rfl ?_
    refine ⟨rfl, ?_⟩
    have := fill3_below (N := w.heap.size + 1) (l := ⟨l.hs, l.ex, []⟩) (A := A) (ac := ac) (Q := none) (qc := 0) HbW.out (by omega)
    unfold fill3 at this
    exact this

set_option maxRecDepth 20000 in
set_option maxHeartbeats 4000000 in
theorem refHere_any (w : World) (ok : Nat → Prop) (A Q : Option Addr) (ac qc : Nat) (l : La) (hl1 : l.hs.length ≤ 80) (hl2 : l.q.length ≤ 80) (hok : ∀ b, ok b → b < w.heap.size) (hm : LM w ok l A ac Q qc) :
    Calls Try.prog 9 #[.agg #[.slice A l.hs.length ac, .bool l.ex, .slice Q l.q.length qc]] w fun e w' =>
      ∃ Q2 q2, e = .returned (.tuple #[.agg #[.slice A l.hs.length ac, .bool l.ex, .slice Q2 l.q.length q2], .bool true]) ∧ LM w' (fun b => ok b ∨ (w.heap.size ≤ b ∧ b < w'.heap.size)) l A ac Q2 q2 ∧ Below w.heap.size w w' := by
  obtain ⟨W, hW, hbW, hsW, hB, hZ, hO⟩ := la_three w A Q ac qc l 25 28
  obtain ⟨j0, hj, hy0, hy1, hy2⟩ := info_parts Try.infoRefW
  have HW := Lib.hid hW.symm
  have HbW := Lib.hid hbW
  have HZ := Lib.hid hZ
  have HO := Lib.hid hO
  have HB' := Lib.hid hB
  have Hm := Lib.hid hm
  have Hok := Lib.hid hok
  have Hq := Lib.hid ((hm.rq.keep fun b hb => hbW.block b (hok b hb)).to (B := W.heap.size) fun b hb => by have := hok b hb; omega)
  have HsW := Lib.hid hsW
  have lt := hB.lt
  obtain ⟨c0, c1, c2, _, _, _, _⟩ := hB
  have h1 : ¬ (80 : Int) < (l.hs.length : Int) := by omega
  have h2 : ¬ (80 : Int) < (l.q.length : Int) := by omega
  clear hW hbW hm hok hZ hO hsW
  go_enter Try.func9, Try.ntmps9
  go_upto_region 2 with fail
  rw [HW.out]
  go_wp2_with fail
  clear h1 h2
  go_loopg [5, 27] l.q.length (fun g v i wr => ∃ (k : Nat) (O : Option Addr) (oc : Nat), k ≤ l.q.length ∧ g = l.q.length - k ∧ i = .int .i64 k ∧ v = .slice O k oc ∧
     wr.ownsRow W.heap.size 59 2 (.slice O k oc) k ((l.q.take k).flatMap Wt.cells) ∧ Below W.heap.size W wr)
  case atStart => exact ⟨0, none, 0, Nat.zero_le _, rfl, rfl, rfl, World.ownsRow_nil _ _ _ _, Below.refl _ _⟩
  case round =>
    obtain ⟨k, O, oc, hk, hg, rfl, rfl, hown, hb⟩ := hrel
    have Hg := Lib.hid hg; clear hg
    by_cases hlt : k < l.q.length
    · obtain ⟨c, b, off, hc, rfl, hbb, hcell⟩ := rd_w Hq.out hlt
      obtain ⟨g0, g1⟩ := hcell wr hb
      have hbw : b < wr.heap.size := by have := hb.size; omega
      have Hc := Lib.hid hc; clear hc
      clear hcell c0 c1 c2
      go_wp2_with (at_builtin; refine wpList_append_own _ rfl (.tmp 31) (.tmp 33) 26 rfl W.heap.size 59 j0 (.agg #[.int .i64 0, .bool false]) 2 16 Try.underlying26 hj hy0 hy1 hy2 rfl (by decide) _ _ _ rfl ((hown.alloc _).alloc _) ⟨wr.heap.size + 1, 0, none⟩ 1 1 [.int .i64 c.who, .bool c.ex] rfl rfl ?_ ?_ ?_ ?_ ?_ ?_)
      · exact cells_new (cs := #[.int .i64 c.who, .bool c.ex]) (by simp)
      · intro u hu; simp at hu; rcases hu with rfl | rfl <;> rfl
      · unfold maxLen; omega
      · omega
      · have := hb.size; simp; omega
      intro v' w5 hown5 hg5 _
      have hb2 : Below W.heap.size W ((wr.alloc (.cells #[.int .i64 c.who, .bool c.ex] 58)).alloc (.cells #[.int .i64 c.who, .bool c.ex] 59)) :=
        (hb.alloc hb.size _).alloc (by have := hb.size; simp; omega) _
      have hb5 : Below W.heap.size W w5 := hb2.grown hg5 hb2.size (fun k hk => (hown.lt k hk).1)
      obtain ⟨A', c', rfl, _, _⟩ := own_slice hown5
      clear hown hg5
      go_wp2_with fail
      go_roundg (l.q.length - (k + 1))
      case measure => have := Hg.out; omega
      case rel => exact ⟨k + 1, A', c', by omega, rfl, by go_num, rfl, by rw [take_snoc_w Hc.out]; exact hown5, hb5⟩
    · obtain rfl : k = l.q.length := by omega
      rw [List.take_length] at hown
      have hsW := HsW.out
      obtain ⟨hqa, hqa2⟩ := own_cap hown
      have hsr := hb.size
      have hO := HO.out.up hb (by omega)
      have hZ := HZ.out.up hb (by omega)
      obtain ⟨U, hU⟩ : ∃ U, U = wr.setCell ⟨w.heap.size + 1 + 1, 2, none⟩ (.slice O l.q.length oc) := ⟨_, rfl⟩
      have hkU : ∀ g, g ≠ w.heap.size + 1 + 1 → U.heap[g]? = wr.heap[g]? := fun g h => by rw [hU, Below.heap_setCell _ _ _ _ h]
      have hsU : U.heap.size = wr.heap.size := by rw [hU]; simp
      have hOU : LB (w.heap.size + 1 + 1) l A ac O oc U := by rw [hU]; exact hO.set2 l.q O oc
      have hZU : LZ (w.heap.size + 1) U := hZ.keep (hkU _ (by omega))
      have hbU : Below w.heap.size w U := by rw [hU]; exact (HbW.out.trans (hb.mono (by omega))).setCell (p := ⟨w.heap.size + 1 + 1, 2, none⟩) (by show w.heap.size ≤ w.heap.size + 1 + 1; omega) _
      have hfin : LM (fill3 U (w.heap.size + 1) l A ac O oc) (fun b => ok b ∨ (w.heap.size ≤ b ∧ b < (fill3 U (w.heap.size + 1) l A ac O oc).heap.size)) l A ac O oc ∧ Below w.heap.size w (fill3 U (w.heap.size + 1) l A ac O oc) := by
        refine ⟨⟨(Hm.out.rc.keep fun b h => ?_).imp fun b h => .inl h, ((Rd'.of_own hown wt_len (by decide)).keep fun b h => ?_).imp fun b h => ?_, Hm.out.ca, Hm.out.ca2, hqa, hqa2⟩, fill3_below hbU (by omega)⟩
        · have := Hok.out b h
          rw [fill3_keep (by omega), hkU _ (by omega), hb.block b (by omega), HbW.out.block b this]
        · rw [fill3_keep (by omega), hkU _ (by omega)]
        · rw [fill3_size, hsU]; exact .inr (by omega)
      have Hfin := Lib.hid hfin; have HOU := Lib.hid hOU; have HZU := Lib.hid hZU; have HU := Lib.hid hU.symm
      obtain ⟨o0, o1, o2, p0, p1, p2, ltO⟩ := hO
      simp only [List.length_nil] at o0 o1 o2
      clear hfin hOU hZU hU hkU hsU hbU hZ hown hb hqa hqa2 hsW hsr c0 c1 c2
      go_upto_region 11 with fail
      rw [HU.out]
      clear o0 o1 o2 p0 p1 p2 ltO
      obtain ⟨o0, o1, o2, p0, p1, p2, ltO⟩ := HOU.out
      obtain ⟨z0, z1, z2, k0, k1, k2, ltZ⟩ := HZU.out
      go_wp2_with fail
      have hbx := HZU.out.lb.fill (r := l) (A' := A) (ac' := ac) (Q' := O) (qc' := oc)
      unfold fill3 at hbx
      obtain ⟨y0, y1, y2, _, _, _, _⟩ := hbx
      refine bodyPost_ret (v := .tuple #[.agg #[.slice A l.hs.length ac, .bool l.ex, .slice O l.q.length oc], .bool true]) (by simp [results, Try.results9, go_sem, y0, y1, y2]) rfl ?_
      have hd := Hfin.out
      unfold fill3 at hd
      exact ⟨O, oc, rfl, hd⟩
end Go.Proofs.Ytigffndobddflaa
