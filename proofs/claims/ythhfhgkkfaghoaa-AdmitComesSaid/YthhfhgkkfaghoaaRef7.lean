/- The contract of lockkeeperlaw11.ref: a hall as the document's, in memory of its own. -/
import Derived.Test.YthhfhgkkfaghoaaRef6
namespace Go.Proofs.Ythhfhgkkfaghoaa
open Go.RowKit

theorem Try.infoRefT : (Try.prog.info? 52).map (fun i => (i.zero, i.size, i.bytes)) = some (some (.agg #[.int .i64 0, .int .i64 0]), 2, 16) := by kernel_rfl
theorem take_snoc_t {l : List T} {k : Nat} {c : T} (h : l[k]? = some c) : (l.take (k + 1)).flatMap T.cells = (l.take k).flatMap T.cells ++ [.int .i64 c.who, .int .i64 c.claim] := by
  rw [List.take_add_one, h]; simp [T.cells]
/-- the boxes of a hall, of the result, and of what is built -/
theorem hall_three2 (w : World) (A Q : Option Addr) (ac qc : Nat) (x : Hall) (t u : TypeId) : ∃ W, W = ((w.alloc (.cells #[.int .i64 x.frames, .int .i64 x.budget, .slice A x.cs.length ac, .slice Q x.q.length qc] t)).alloc (.cells #[.int .i64 0, .int .i64 0, .slice none 0 0, .slice none 0 0] u)).alloc (.cells #[.int .i64 x.frames, .int .i64 x.budget, .slice none 0 0, .slice none 0 0] u) ∧
    Below w.heap.size w W ∧ W.heap.size = w.heap.size + 3 ∧ HB w.heap.size x A ac Q qc W ∧ ZB (w.heap.size + 1) W ∧ HB (w.heap.size + 1 + 1) ⟨x.frames, x.budget, [], []⟩ none 0 none 0 W := by
  obtain ⟨W1, h1⟩ : ∃ W1, W1 = w.alloc (.cells #[.int .i64 x.frames, .int .i64 x.budget, .slice A x.cs.length ac, .slice Q x.q.length qc] t) := ⟨_, rfl⟩
  obtain ⟨W2, h2⟩ : ∃ W2, W2 = W1.alloc (.cells #[.int .i64 0, .int .i64 0, .slice none 0 0, .slice none 0 0] u) := ⟨_, rfl⟩
  have s1 : W1.heap.size = w.heap.size + 1 := by rw [h1]; simp
  have s2 : W2.heap.size = w.heap.size + 1 + 1 := by rw [h2]; simp [s1]
  refine ⟨_, rfl, (((Below.refl _ _).alloc (Nat.le_refl _) _).alloc (by simp) _).alloc (by simp; omega) _, by simp, ?_, ?_, ?_⟩
  · rw [← h1, ← h2]
    exact HB.of (t := t) (by rw [heap_alloc_old _ _ (by omega), h2, heap_alloc_old _ _ (by omega), h1, heap_alloc_new])
  · rw [← h1, ← h2]
    exact (HB.of (h := ⟨0, 0, [], []⟩) (t := u) (by rw [heap_alloc_old _ _ (by omega), h2, ← s1, heap_alloc_new]; rfl)).zb
  · rw [← h1, ← h2]
    exact HB.of (t := u) (by rw [← s2, heap_alloc_new]; rfl)

set_option maxRecDepth 20000 in
set_option maxHeartbeats 4000000 in
theorem refLong_any (w : World) (A Q : Option Addr) (ac qc : Nat) (x : Hall) (h : ¬ (x.cs.length ≤ 40 ∧ x.q.length ≤ 60)) :
    Calls Try.prog 9 #[.agg #[.int .i64 x.frames, .int .i64 x.budget, .slice A x.cs.length ac, .slice Q x.q.length qc]] w fun e w' =>
      e = .returned (.tuple #[.agg #[.int .i64 x.frames, .int .i64 x.budget, .slice none 0 0, .slice none 0 0], .bool false]) ∧ Below w.heap.size w w' := by
  obtain ⟨W, hW, hbW, hsW, hB, hZ, hO⟩ := hall_three2 w A Q ac qc x 25 29
  have HW := Lib.hid hW.symm
  have HbW := Lib.hid hbW
  have HZ := Lib.hid hZ
  obtain ⟨c0, c1, c2, c3, _, _, _, _, lt⟩ := hB
  obtain ⟨o0, o1, o2, o3, _, _, _, _, ltO⟩ := hO
  obtain ⟨z0, z1, z2, z3, k0, k1, k2, k3, ltZ⟩ := hZ
  simp only [List.length_nil] at o2 o3
  have hc : (40 : Int) < (x.cs.length : Int) ∨ (¬ (40 : Int) < (x.cs.length : Int) ∧ (60 : Int) < (x.q.length : Int)) := by omega
  clear hW hbW h
  rcases hc with h1 | ⟨h1, h2⟩
  all_goals
    go_enter Try.func9, Try.ntmps9
    go_upto_region 2 with fail
    rw [HW.out]
    go_wp2_with fail
    have hbx := HZ.out.hb.fill (r := ⟨x.frames, x.budget, [], []⟩) (A' := none) (ac' := 0) (Q' := none) (qc' := 0)
    unfold fill4 at hbx
    obtain ⟨y0, y1, y2, y3, _, _, _, _, _⟩ := hbx
    simp only [List.length_nil] at y0 y1 y2 y3
    refine bodyPost_ret (v := .tuple #[.agg #[.int .i64 x.frames, .int .i64 x.budget, .slice none 0 0, .slice none 0 0], .bool false]) (by simp [results, Try.results9, go_sem, y0, y1, y2, y3]) rfl ?_
    refine ⟨rfl, ?_⟩
    have := fill4_below (N := w.heap.size + 1) (x := ⟨x.frames, x.budget, [], []⟩) (A := none) (ac := 0) (Q := none) (qc := 0) HbW.out (by omega)
    unfold fill4 at this
    exact this

set_option maxRecDepth 20000 in
set_option maxHeartbeats 4000000 in
theorem refHere_any (w : World) (A Q : Option Addr) (ac qc : Nat) (x : Hall) (hl1 : x.cs.length ≤ 40) (hl2 : x.q.length ≤ 60) (hr : Rd C.cells 3 w w.heap.size A x.cs) (hq : Rd T.cells 2 w w.heap.size Q x.q) :
    Calls Try.prog 9 #[.agg #[.int .i64 x.frames, .int .i64 x.budget, .slice A x.cs.length ac, .slice Q x.q.length qc]] w fun e w' =>
      ∃ A2 a2 Q2 q2, e = .returned (.tuple #[.agg #[.int .i64 x.frames, .int .i64 x.budget, .slice A2 x.cs.length a2, .slice Q2 x.q.length q2], .bool true]) ∧ HM w' (fun b => w.heap.size ≤ b ∧ b < w'.heap.size) x A2 a2 Q2 q2 ∧ Below w.heap.size w w' := by
  obtain ⟨W, hW, hbW, hsW, hB, hZ, hO⟩ := hall_three2 w A Q ac qc x 25 29
  obtain ⟨i0, hi, hz0, hz1, hz2⟩ := info_parts Try.infoRef
  obtain ⟨j0, hj, hy0, hy1, hy2⟩ := info_parts Try.infoRefT
  have HW := Lib.hid hW.symm
  have HbW := Lib.hid hbW
  have HZ := Lib.hid hZ
  have HO := Lib.hid hO
  have HB' := Lib.hid hB
  have Hr := Lib.hid (hr.up hbW)
  have Hq := Lib.hid (hq.up hbW)
  have HsW := Lib.hid hsW
  have lt := hB.lt
  obtain ⟨c0, c1, c2, c3, _, _, _, _, _⟩ := hB
  have h1 : ¬ (40 : Int) < (x.cs.length : Int) := by omega
  have h2 : ¬ (60 : Int) < (x.q.length : Int) := by omega
  clear hW hbW hr hq hZ hO hsW
  go_enter Try.func9, Try.ntmps9
  go_upto_region 2 with fail
  rw [HW.out]
  go_wp2_with fail
  clear h1 h2
  go_loopg [5, 30] x.cs.length (fun g v i wr => ∃ (k : Nat) (O : Option Addr) (oc : Nat), k ≤ x.cs.length ∧ g = x.cs.length - k ∧ i = .int .i64 k ∧ v = .slice O k oc ∧
     wr.ownsRow W.heap.size 65 3 (.slice O k oc) k ((x.cs.take k).flatMap C.cells) ∧ Below W.heap.size W wr)
  case atStart => exact ⟨0, none, 0, Nat.zero_le _, rfl, rfl, rfl, World.ownsRow_nil _ _ _ _, Below.refl _ _⟩
  case round =>
    obtain ⟨k, O, oc, hk, hg, rfl, rfl, hown, hb⟩ := hrel
    have Hg := Lib.hid hg; clear hg
    by_cases hlt : k < x.cs.length
    · obtain ⟨c, b, off, hc, rfl, hbb, hcell⟩ := rd_c Hr.out hlt
      obtain ⟨g0, g1, g2⟩ := hcell wr hb
      have hbw : b < wr.heap.size := by have := hb.size; omega
      have Hc := Lib.hid hc; clear hc
      clear hcell c0 c1 c2 c3
      go_wp2_with (at_builtin; refine wpList_append_own _ rfl (.tmp 34) (.tmp 36) 26 rfl W.heap.size 65 i0 (.agg #[.int .i64 0, .int .i64 0, .int .i64 0]) 3 24 Try.underlying26 hi hz0 hz1 hz2 rfl (by decide) _ _ _ rfl ((hown.alloc _).alloc _) ⟨wr.heap.size + 1, 0, none⟩ 1 1 [.int .i64 c.who, .int .i64 c.claim, .int .i64 c.held] rfl rfl ?_ ?_ ?_ ?_ ?_ ?_)
      · exact cells_new (cs := #[.int .i64 c.who, .int .i64 c.claim, .int .i64 c.held]) (by simp)
      · intro u hu; simp at hu; rcases hu with rfl | rfl | rfl <;> rfl
      · unfold maxLen; omega
      · omega
      · have := hb.size; simp; omega
      intro v' w5 hown5 hg5 _
      have hb2 : Below W.heap.size W ((wr.alloc (.cells #[.int .i64 c.who, .int .i64 c.claim, .int .i64 c.held] 50)).alloc (.cells #[.int .i64 c.who, .int .i64 c.claim, .int .i64 c.held] 65)) :=
        (hb.alloc hb.size _).alloc (by have := hb.size; simp; omega) _
      have hb5 : Below W.heap.size W w5 := hb2.grown hg5 hb2.size (fun k hk => (hown.lt k hk).1)
      obtain ⟨A', c', rfl, _, _⟩ := own_slice hown5
      clear hown hg5
      go_wp2_with fail
      go_roundg (x.cs.length - (k + 1))
      case measure => have := Hg.out; omega
      case rel => exact ⟨k + 1, A', c', by omega, rfl, by go_num, rfl, by rw [take_snoc_c Hc.out]; exact hown5, hb5⟩
    · obtain rfl : k = x.cs.length := by omega
      obtain ⟨V0, rfl⟩ : ∃ V0 : World, V0 = wr := ⟨_, rfl⟩
      rw [List.take_length] at hown
      have Hown := Lib.hid hown
      clear c0 c1 c2 c3
      have Hb := Lib.hid hb
      obtain ⟨c0, c1, c2, c3, _, _, _, _, ltr⟩ := HB'.out.up hb lt
      clear hown hb
      have Hsr := Lib.hid (show W.heap.size ≤ V0.heap.size from Hb.out.size)
      go_wp2_with fail
      go_loopg [8, 42] x.q.length (fun g v i wz => ∃ (k : Nat) (O2 : Option Addr) (oc2 : Nat), k ≤ x.q.length ∧ g = x.q.length - k ∧ i = .int .i64 k ∧ v = .slice O2 k oc2 ∧
         wz.ownsRow V0.heap.size 52 2 (.slice O2 k oc2) k ((x.q.take k).flatMap T.cells) ∧ Below V0.heap.size V0 wz)
      case atStart => exact ⟨0, none, 0, Nat.zero_le _, rfl, rfl, rfl, World.ownsRow_nil _ _ _ _, Below.refl _ _⟩
      case round =>
        obtain ⟨k, O2, oc2, hk, hg, rfl, rfl, hown, hb⟩ := hrel
        have Hg := Lib.hid hg; clear hg
        by_cases hlt : k < x.q.length
        · obtain ⟨c, b, off, hc, rfl, hbb, hcell⟩ := rd_t Hq.out hlt
          obtain ⟨g0, g1⟩ := hcell _ (Hb.out.trans (hb.mono Hsr.out))
          have hbw : b < wr.heap.size := by have := hb.size; have := Hsr.out; omega
          have Hc := Lib.hid hc; clear hc
          clear hcell c0 c1 c2 c3
          go_wp2_with (at_builtin; refine wpList_append_own _ rfl (.tmp 46) (.tmp 48) 27 rfl V0.heap.size 52 j0 (.agg #[.int .i64 0, .int .i64 0]) 2 16 Try.underlying27 hj hy0 hy1 hy2 rfl (by decide) _ _ _ rfl ((hown.alloc _).alloc _) ⟨wr.heap.size + 1, 0, none⟩ 1 1 [.int .i64 c.who, .int .i64 c.claim] rfl rfl ?_ ?_ ?_ ?_ ?_ ?_)
          · exact cells_new (cs := #[.int .i64 c.who, .int .i64 c.claim]) (by simp)
          · intro u hu; simp at hu; rcases hu with rfl | rfl <;> rfl
          · unfold maxLen; omega
          · omega
          · have := hb.size; simp; omega
          intro v' w5 hown5 hg5 _
          have hb2 : Below V0.heap.size V0 ((wr.alloc (.cells #[.int .i64 c.who, .int .i64 c.claim] 66)).alloc (.cells #[.int .i64 c.who, .int .i64 c.claim] 52)) :=
            (hb.alloc hb.size _).alloc (by have := hb.size; simp; omega) _
          have hb5 : Below V0.heap.size V0 w5 := hb2.grown hg5 hb2.size (fun k hk => (hown.lt k hk).1)
          obtain ⟨A', c', rfl, _, _⟩ := own_slice hown5
          clear hown hg5
          go_wp2_with fail
          go_roundg (x.q.length - (k + 1))
          case measure => have := Hg.out; omega
          case rel => exact ⟨k + 1, A', c', by omega, rfl, by go_num, rfl, by rw [take_snoc_t Hc.out]; exact hown5, hb5⟩
        · obtain rfl : k = x.q.length := by omega
          rw [List.take_length] at hown
          have hsW := HsW.out
          have hsr := Hsr.out
          obtain ⟨hca, hca2⟩ := own_cap Hown.out
          obtain ⟨hqa, hqa2⟩ := own_cap hown
          have hbz : Below W.heap.size W wr := Hb.out.trans (hb.mono hsr)
          have hO := HO.out.up hbz (by omega)
          have hZ := HZ.out.up hbz (by omega)
          obtain ⟨U, hU⟩ : ∃ U, U = (wr.setCell ⟨w.heap.size + 1 + 1, 2, none⟩ (.slice O x.cs.length oc)).setCell ⟨w.heap.size + 1 + 1, 3, none⟩ (.slice O2 x.q.length oc2) := ⟨_, rfl⟩
          have hkU : ∀ g, g ≠ w.heap.size + 1 + 1 → U.heap[g]? = wr.heap[g]? := fun g h => by rw [hU, Below.heap_setCell _ _ _ _ h, Below.heap_setCell _ _ _ _ h]
          have hsU : U.heap.size = wr.heap.size := by rw [hU]; simp
          have hOU : HB (w.heap.size + 1 + 1) x O oc O2 oc2 U := by rw [hU]; exact (hO.set2 x.cs O oc).set3 x.q O2 oc2
          have hZU : ZB (w.heap.size + 1) U := hZ.keep (hkU _ (by omega))
          have hbU : Below w.heap.size w U := by rw [hU]; exact (((HbW.out.trans (hbz.mono (by omega))).setCell (p := ⟨w.heap.size + 1 + 1, 2, none⟩) (by show w.heap.size ≤ w.heap.size + 1 + 1; omega) _).setCell (p := ⟨w.heap.size + 1 + 1, 3, none⟩) (by show w.heap.size ≤ w.heap.size + 1 + 1; omega) _)
          have hfin : HM (fill4 U (w.heap.size + 1) x O oc O2 oc2) (fun b => w.heap.size ≤ b ∧ b < (fill4 U (w.heap.size + 1) x O oc O2 oc2).heap.size) x O oc O2 oc2 ∧ Below w.heap.size w (fill4 U (w.heap.size + 1) x O oc O2 oc2) := by
            have hb' := hb.size
            refine ⟨⟨((Rd'.of_own Hown.out c_len (by decide)).keep fun b h => ?_).imp fun b h => ?_, ((Rd'.of_own hown t_len (by decide)).keep fun b h => ?_).imp fun b h => ?_, hca, hca2, hqa, hqa2⟩, fill4_below hbU (by omega)⟩
            · rw [fill4_keep (by omega), hkU _ (by omega), hb.block b h.2]
            · rw [fill4_size, hsU]; omega
            · rw [fill4_keep (by omega), hkU _ (by omega)]
            · rw [fill4_size, hsU]; omega
          have Hfin := Lib.hid hfin; have HOU := Lib.hid hOU; have HZU := Lib.hid hZU; have HU := Lib.hid hU.symm
          obtain ⟨o0, o1, o2, o3, p0, p1, p2, p3, ltO⟩ := hO
          simp only [List.length_nil] at o0 o1 o2 o3
          clear hfin hOU hZU hU hkU hsU hbU hbz hZ hown hb hca hca2 hqa hqa2 hsW hsr c0 c1 c2 c3 ltr
          go_upto_region 17 with fail
          rw [HU.out]
          clear o0 o1 o2 o3 p0 p1 p2 p3 ltO
          obtain ⟨o0, o1, o2, o3, p0, p1, p2, p3, ltO⟩ := HOU.out
          obtain ⟨z0, z1, z2, z3, k0, k1, k2, k3, ltZ⟩ := HZU.out
          go_wp2_with fail
          have hbx := HZU.out.hb.fill (r := x) (A' := O) (ac' := oc) (Q' := O2) (qc' := oc2)
          unfold fill4 at hbx
          obtain ⟨y0, y1, y2, y3, _, _, _, _, _⟩ := hbx
          refine bodyPost_ret (v := .tuple #[.agg #[.int .i64 x.frames, .int .i64 x.budget, .slice O x.cs.length oc, .slice O2 x.q.length oc2], .bool true]) (by simp [results, Try.results9, go_sem, y0, y1, y2, y3]) rfl ?_
          have hd := Hfin.out
          unfold fill4 at hd
          exact ⟨O, oc, O2, oc2, rfl, hd⟩
end Go.Proofs.Ythhfhgkkfaghoaa
