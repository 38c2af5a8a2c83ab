/- The contract of disk.Read at good disks. -/
import Derived.Test.YthiblfkmcdnalaaGreatTRead0
namespace Go.Proofs.YthiblfkmcdnalaaGreat
set_option maxRecDepth 1000000
open Go.RowKit Go.Shelf
set_option maxRecDepth 1000000

attribute [local go_sem] Oper.semAt_some

theorem back_stops (F : Fence) (n : Nat) (h1 : F.fn 101) (hro : F.round = none) (hn : 1 ≤ n) (Bs cap : Nat) (A : Option Addr) (zl : List Wr) (hzl : zl.length ≤ 1000) (w : World)
    (hc : w.cell? ⟨Bs, 0, none⟩ = some (.slice A zl.length cap)) (hBn : Bs < w.heap.size) (hr : Rt Wr.cells 2 169 w A zl) :
    SeqStopsK F n Tryz.prog 101 #[.pointer (some ⟨Bs, 0, none⟩)] (fun x : Nat × Wr => #[Value.int .i64 (x.1 : Int), Value.agg #[.int .i64 x.2.pos, .string x.2.data]]) (Below w.heap.size) (fun ys => ys = upto (dn zl) zl.length)
      (fun pre => ∃ k, k ≤ zl.length ∧ pre = upto (dn zl) k) zl.length w := fun l J Jx W hW _ _ hY h0 =>
  back1_in F n h1 hro hn l Bs w.heap.size cap A zl J Jx hY W ((hW.cell (p := ⟨Bs, 0, none⟩) hBn).trans hc) hBn hzl (hr.rd.below hW) h0

theorem upto_snd (l : List Wr) : ∀ k, k ≤ l.length → (upto (dn l) k).map Prod.snd = l.reverse.take k := by
  intro k
  induction k with
  | zero => intro _; rfl
  | succ k ih =>
    intro hk
    rw [upto_succ, List.map_append, ih (by omega), List.take_add_one]
    congr 1
    have h1 : l.length - 1 - k < l.length := by omega
    simp [dn, List.getElem?_reverse (show k < l.length by omega), h1]
/-- what is read from a sector -/
def Dk.read (d : Dk) (k : Nat) : ByteArray := match d.cache.reverse.find? (fun x => x.pos == (k : Int)) with
  | some x => x.data
  | none => d.secs.getD k ⟨#[]⟩
theorem read_none {d : Dk} {k : Nat} (h : ∀ p ∈ upto (dn d.cache) d.cache.length, p.2.pos ≠ (k : Int)) : d.read k = d.secs.getD k ⟨#[]⟩ := by
  have h1 := upto_snd d.cache d.cache.length (Nat.le_refl _)
  rw [List.take_of_length_le (by simp)] at h1
  have : d.cache.reverse.find? (fun x => x.pos == (k : Int)) = none := by
    rw [← h1, List.find?_eq_none]
    intro x hx
    obtain ⟨p, hp, rfl⟩ := List.mem_map.1 hx
    simpa using h p hp
  rw [Dk.read, this]
theorem read_some {d : Dk} {k j : Nat} {ini : List (Nat × Wr)} {last : Nat × Wr} (hj : j ≤ d.cache.length) (he : ini ++ [last] = upto (dn d.cache) j) (h : ∀ p ∈ ini, p.2.pos ≠ (k : Int)) (hl : last.2.pos = (k : Int)) : d.read k = last.2.data := by
  have h1 := upto_snd d.cache j hj
  rw [← he, List.map_append] at h1
  have h2 : d.cache.reverse = (ini.map Prod.snd ++ [last.2]) ++ d.cache.reverse.drop j := by
    conv => lhs; rw [← List.take_append_drop j d.cache.reverse, ← h1]
    rfl
  have : d.cache.reverse.find? (fun x => x.pos == (k : Int)) = some last.2 := by
    rw [h2, List.append_assoc, List.find?_append]
    have : (ini.map Prod.snd).find? (fun x => x.pos == (k : Int)) = none := by
      rw [List.find?_eq_none]
      intro x hx
      obtain ⟨p, hp, rfl⟩ := List.mem_map.1 hx
      simpa using h p hp
    rw [this]
    simp [hl]
  rw [Dk.read, this]

theorem bx_own {β : Type} (N : Nat) (t : TypeId) (cs : Array Value) : Own (fun (_ : β) W => Bx N t cs W) := fun _ X Y row hs hg hrow =>
  (hg.block N hs.lt (fun e' => by obtain ⟨o, ho, hc⟩ := hrow N e'.symm; rw [show X.heap[N]? = _ from hs] at ho; cases ho; cases hc)).trans hs

theorem backward_any (w : World) (A : Option Addr) (n cap : Nat) :
    Calls Tryz.prog 73 #[.slice A n cap] w fun e w' => e = .returned (.func (Fn.func 101) #[] #[.pointer (some ⟨w.heap.size, 0, none⟩)]) ∧ w.alloc (.cells #[.slice A n cap] 25) = w' := by
  go_enter Tryz.func73, Tryz.ntmps73
  go_wp2_with fail
  go_ret
  exact ⟨rfl, rfl⟩

set_option maxHeartbeats 4000000 in
theorem readIn (w : World) (s c : Value) (d : Dk) (k : Nat) (hg : GDk d) (hk : k < 35) (hm : MDk w s c d) :
    CallsIn Fence.wide 6 Tryz.prog 47 #[.agg #[s, c], .int .i64 k] w fun e w' => e = .returned (.tuple #[.string (d.read k), .int .i64 0]) ∧ Below w.heap.size w w' := by
  obtain ⟨⟨A, ac, rfl⟩, ⟨B, bc, rfl⟩⟩ := hm.len
  obtain ⟨W, hW, hbW, hsW, B0, B1, B2, B3⟩ := box4 w #[.slice A d.secs.length ac, .slice B d.cache.length bc] 27 #[.int .i64 k] 3 #[.string ⟨#[]⟩] 9 #[.int .i64 0] 28
  have Hm := Lib.hid hm; have Hg := Lib.hid hg
  have HbW := Lib.hid hbW
  have hsW' := bsz hsW
  have hk35 : (k : Int) < (d.secs.length : Int) := by rw [hg.n35]; omega
  clear hm hg hbW hsW
  refine callsIn_of_wp_marks Tryz.func47 rfl trivial ?_ rfl
  simp only [Tryz.ntmps47, List.size_toArray, List.length_cons, List.length_nil, Nat.reduceAdd, Nat.reduceSub, Array.replicate_succ, Array.replicate_zero, List.push_toArray, List.append_toArray, List.nil_append, List.cons_append]
  obtain ⟨c00, c01, f00, f01, lt0⟩ := B0.c2
  obtain ⟨c10, f10, lt1⟩ := B1.c1
  gi_wp2_with fail
  refine ⟨trivial, ?_⟩
  refine (callsIn_wide.2 (diskRight_any W _ _ d Hg.out (Hm.out.up HbW.out))).mono ?_
  rintro e V1 ⟨rfl, hb1⟩
  clear hW c00 c01 f00 f01 lt0 c10 f10 lt1
  replace B0 := B0.up hb1; replace B1 := B1.up hb1; replace B2 := B2.up hb1; replace B3 := B3.up hb1
  have Hb1 := Lib.hid (HbW.out.trans (hb1.mono hsW'))
  clear hb1
  obtain ⟨c00, c01, f00, f01, lt0⟩ := B0.c2
  obtain ⟨c10, f10, lt1⟩ := B1.c1
  gi_wp2_with fail
  refine ⟨trivial, ?_⟩
  refine (callsIn_wide.2 (backward_any V1 B d.cache.length bc)).mono ?_
  rintro e V2 ⟨rfl, hV2⟩
  have hb2 : Below V1.heap.size V1 V2 := by rw [← hV2]; exact (Below.refl _ _).alloc (Nat.le_refl _) _
  have BS : Bx V1.heap.size 25 #[.slice B d.cache.length bc] V2 := by rw [← hV2]; exact Bx.new _ _ _
  clear hV2 c00 c01 f00 f01 lt0 c10 f10 lt1
  obtain ⟨M, hM⟩ : ∃ M, V1.heap.size = M := ⟨_, rfl⟩
  rw [hM] at BS ⊢
  replace B0 := B0.up hb2; replace B1 := B1.up hb2; replace B2 := B2.up hb2; replace B3 := B3.up hb2
  have Hb2 := Lib.hid (Hb1.out.trans (hb2.mono Hb1.out.size))
  clear hb2 hM
  have hr2 := Hm.out.2.rt.up Hb2.out
  have hlen : d.cache.length ≤ 1000 := by have := Hg.out.c200; omega
  have hst := back_stops Fence.wide 5 trivial rfl (by decide) M bc B d.cache hlen V2 (BS.cell rfl) BS.lt hr2
  have Hst := Lib.hid hst
  have ltB3 := B3.lt
  clear hst hr2
  gi_wp2_with fail
  refine wpIn_rangeFunc_ownH (α := Nat × Wr) rfl (by decide) (gf := 101) (lb := #[.pointer (some ⟨M, 0, none⟩)]) rfl trivial (enters_of Tryz.func101 (by kernel_rfl) rfl)
    Hst.out belowK_t (belowK_b (Nat.le_refl _)) (Below.refl _ _) (fun _ => rfl)
    (fun pre W => ((∀ p ∈ pre, p.2.pos ≠ (k : Int)) ∧ Bx w.heap.size 27 #[.slice A d.secs.length ac, .slice B d.cache.length bc] W ∧ Bx (w.heap.size + 1) 3 #[.int .i64 k] W ∧ Bx (w.heap.size + 1 + 1) 9 #[.string ⟨#[]⟩] W ∧ Bx (w.heap.size + 1 + 1 + 1) 28 #[.int .i64 0] W) ∧ Below w.heap.size w W ∧ Below V2.heap.size V2 W)
    (fun c pre W => (c = .ret ∧ ∃ ini last, ini ++ [last] = pre ∧ (∀ p ∈ ini, p.2.pos ≠ (k : Int)) ∧ last.2.pos = (k : Int) ∧ Bx (w.heap.size + 1 + 1) 9 #[.string last.2.data] W ∧ Bx (w.heap.size + 1 + 1 + 1) 28 #[.int .i64 0] W) ∧ Below w.heap.size w W)
    (OwnFrom.and (Own.from (fun s X Y row hs hg hr => ⟨hs.1, bx_own _ _ _ () X Y row hs.2.1 hg hr, bx_own _ _ _ () X Y row hs.2.2.1 hg hr, bx_own _ _ _ () X Y row hs.2.2.2.1 hg hr, bx_own _ _ _ () X Y row hs.2.2.2.2 hg hr⟩) _) (OwnFrom.and (ownFrom_below (Nat.le_refl _) Hb2.out.size) (ownFrom_below (Nat.le_refl _) (Nat.le_refl _))))
    (fun c => OwnFrom.and (Own.from (fun s X Y row hs hg hr => by obtain ⟨hc, ini, last, e1, e2, e3, e4, e5⟩ := hs; exact ⟨hc, ini, last, e1, e2, e3, bx_own _ _ _ () X Y row e4 hg hr, bx_own _ _ _ () X Y row e5 hg hr⟩) _) (ownFrom_below (Nat.le_refl _) Hb2.out.size))
    ⟨⟨by simp, B0, B1, B2, B3⟩, Hb2.out, Below.refl _ _⟩
    (fun x a' W => ∃ Q, V2.heap.size ≤ Q ∧ Bx Q 169 #[.int .i64 x.2.pos, .string x.2.data] W ∧ a' = { tmps := #[.agg #[.slice A d.secs.length ac, .slice B d.cache.length bc], .int .i64 k, .pointer (some ⟨w.heap.size, 0, none⟩), .pointer (some ⟨w.heap.size + 1, 0, none⟩), .pointer (some ⟨w.heap.size + 1 + 1, 0, none⟩), .pointer (some ⟨w.heap.size + 1 + 1 + 1, 0, none⟩), undef, .pointer (some ⟨Q, 0, none⟩), .agg #[.slice A d.secs.length ac, .slice B d.cache.length bc], .bool true, .bool false, .bool false, .int .i64 k, .bool (decide ((k : Int) < 0)), .bool (decide ((k : Int) < 0)), .bool (decide ((k : Int) < 0)), .int .i64 k, .pointer (some ⟨w.heap.size, 0, none⟩), .slice A d.secs.length ac, .int .i64 d.secs.length, .bool false, .bool (decide ((k : Int) < 0)), .pointer (some ⟨w.heap.size, 1, none⟩), .slice B d.cache.length bc, .func (Fn.func 101) #[] #[.pointer (some ⟨M, 0, none⟩)], .int .i64 (x.1 : Int), .agg #[.int .i64 x.2.pos, .string x.2.data], undef, undef, undef, undef, undef, undef, undef, undef, undef, undef, undef], defers := [] })
    (fun x a' _ X Y row hs hg hr => by obtain ⟨Q, h1, h2, h3⟩ := hs; exact ⟨Q, h1, bx_own _ _ _ () X Y row h2 hg (fun r e => (hr r e).2), h3⟩)
    ?assign ?body ?done ?stop
  case assign =>
    rintro l pre x W' K ⟨⟨hne, b0, b1, b2, b3⟩, hB, hB2⟩ hK
    have Hne := Lib.hid hne; clear hne
    have HK := Lib.hid hK; clear hK
    gi_wp2
    exact HK.out _ _ ((KeepsOthers.alloc _ _).from _) ((Below.refl _ W').alloc hB2.size _) ⟨⟨Hne.out, b0.alloc _, b1.alloc _, b2.alloc _, b3.alloc _⟩, hB.alloc hB.size _, hB2.alloc hB2.size _⟩ ⟨W'.heap.size, hB2.size, Bx.new _ _ _, rfl⟩
  case body =>
    rintro l pre x a' W' hl ⟨r, hr⟩ ⟨⟨hne, b0, b1, b2, b3⟩, hB, hB2⟩ ⟨Q, hQ, bX, rfl⟩ hlt
    have Hne := Lib.hid hne; clear hne
    have Hr := Lib.hid hr; clear hr
    obtain ⟨c10, f10, lt1⟩ := b1.c1
    obtain ⟨cx0, cx1, fx0, fx1, ltx⟩ := bX.c2
    obtain ⟨c20, f20, lt2⟩ := b2.c1
    obtain ⟨c30, f30, lt3⟩ := b3.c1
    have hsz := Hb2.out.size
    by_cases hx : x.2.pos = (k : Int)
    · have hxb : (x.2.pos == (k : Int)) = true := by simpa using hx
      have Hx := Lib.hid hx; clear hx
      gi_wp2
      obtain ⟨U1, hU1, g2, hk1, _, hb1⟩ := st_1_0_1 (.string x.2.data) b2
      rw [hU1]
      obtain ⟨U2, hU2, g3, hk2, _, hb2⟩ := st_1_0_1 (.int .i64 0) (b3.keep (hk1 _ (by omega)))
      rw [hU2]
      refine ⟨?_, ⟨rfl, pre, x, rfl, Hne.out, Hx.out, g2.keep (hk2 _ (by omega)), g3⟩, hb2 _ _ (hb1 _ _ hB (by omega)) (by omega)⟩
      rw [← hU2, ← hU1]
      exact ((KeepsOthers.setCell _ _ _).trans (KeepsOthers.setCell _ _ _)).from _
    · have hxb : (x.2.pos == (k : Int)) = false := by simpa using hx
      have Hx := Lib.hid hx; clear hx
      gi_wp2
      exact ⟨KeepsFrom.refl _ _, Below.refl _ _, ⟨fun p hp' => (List.mem_append.1 hp').elim (Hne.out p) (fun e => by obtain rfl : p = x := (by simpa using e); exact Hx.out), b0, b1, b2, b3⟩, hB, hB2⟩
  case done =>
    rintro D xs W' hD rfl ⟨⟨hne, b0, b1, b2, b3⟩, hB, hB2⟩ hK
    have hrd := read_none hne
    obtain ⟨x, b, off, hx, hA, hbb, hcell⟩ := st_at Hm.out.1.rt (k := k) (by rw [Hg.out.n35]; exact hk)
    have g0 := hcell W' hB
    have hxr : d.secs.getD k ⟨#[]⟩ = x := by simp [List.getD, hx]
    rw [hxr] at hrd
    have Hrd := Lib.hid hrd
    have HK := Lib.hid hK
    obtain ⟨c00, c01, f00, f01, lt0⟩ := b0.c2
    obtain ⟨c10, f10, lt1⟩ := b1.c1
    obtain ⟨c20, f20, lt2⟩ := b2.c1
    obtain ⟨c30, f30, lt3⟩ := b3.c1
    have hbW : b < W'.heap.size := by have := hB.size; omega
    have HB := Lib.hid hB
    subst hA
    clear hne hrd hx hcell hxr hK hB hB2
    gi_wp2
    obtain ⟨U1, hU1, g2, hk1, _, hb1⟩ := st_1_0_1 (.string x) b2
    rw [hU1]
    obtain ⟨U2, hU2, g3, hk2, _, hb2⟩ := st_1_0_1 (.int .i64 0) (b3.keep (hk1 _ (by omega)))
    rw [hU2]
    have g2' := g2.keep (hk2 _ (by omega))
    have hD2 : w.heap.size + 4 ≤ D := by omega
    have hK2 : U2.heap[D]? = some (.deferred (some [])) := by rw [hk2 _ (by omega), hk1 _ (by omega)]; exact HK.out
    refine ⟨by simp, .inl ⟨_, _, rfl, run_takeDeferred hK2, ?_⟩⟩
    have e2 := cell_kept (g2'.cell (j := 0) rfl) (grownBy_putObj' _ D (.deferred none)) (fun r e => by cases e; exact ⟨_, hK2, rfl⟩)
    have e3 := cell_kept (g3.cell (j := 0) rfl) (grownBy_putObj' _ D (.deferred none)) (fun r e => by cases e; exact ⟨_, hK2, rfl⟩)
    refine ⟨.tuple #[.string x, .int .i64 0], ?_, by rw [Hrd.out], (hb2 _ _ (hb1 _ _ HB.out (by omega)) (by omega)).trans (belowK_b (w := w) (Nat.le_refl _) _ D _ _ (by omega) hK2 rfl rfl)⟩
    simp [results, Tryz.f47, go_sem, e2, e3]
  case stop =>
    rintro D c' pre W' hD ⟨j, hj, hpre⟩ ⟨⟨rfl, ini, last, e1, e2, e3, b2, b3⟩, hB⟩ hK
    have hrd := read_some (d := d) (k := k) hj (e1.trans hpre) e2 e3
    have Hrd := Lib.hid hrd
    clear hrd e1 e2 e3 hpre
    gi_wp2
    refine ⟨by simp, .inl ⟨_, _, rfl, run_takeDeferred hK, ?_⟩⟩
    have e2 := cell_kept (b2.cell (j := 0) rfl) (grownBy_putObj' _ D (.deferred none)) (fun r e => by cases e; exact ⟨_, hK, rfl⟩)
    have e3 := cell_kept (b3.cell (j := 0) rfl) (grownBy_putObj' _ D (.deferred none)) (fun r e => by cases e; exact ⟨_, hK, rfl⟩)
    refine ⟨.tuple #[.string last.2.data, .int .i64 0], ?_, by rw [Hrd.out], hB.trans (belowK_b (w := w) (Nat.le_refl _) _ D _ _ (by have := Hb2.out.size; omega) hK rfl rfl)⟩
    simp [results, Tryz.f47, go_sem, e2, e3]
theorem read_any (w : World) (s c : Value) (d : Dk) (k : Nat) (hg : GDk d) (hk : k < 35) (hm : MDk w s c d) :
    Calls Tryz.prog 47 #[.agg #[s, c], .int .i64 k] w fun e w' => e = .returned (.tuple #[.string (d.read k), .int .i64 0]) ∧ Below w.heap.size w w' :=
  callsIn_wide.1 (readIn w s c d k hg hk hm)
end Go.Proofs.YthiblfkmcdnalaaGreat
