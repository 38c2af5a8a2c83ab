/- The contract of lockkeeperref18.Do: what it answers lies where it came from, or in memory of the call's own. -/
import Derived.Test.YtbnegkkjgkignaaOps4
import Derived.Test.YtbnegkkjgkignaaOps6
import Derived.Test.YtbnegkkjgkignaaOpsD
import Derived.Test.YtbnegkkjgkignaaRow
import Derived.Test.YtbnegkkjgkignaaPgClone
import Derived.Laws.OwnMore
namespace Go.Proofs.Ytbnegkkjgkignaa
open Go.RowKit

/-- pages that lie in memory, and what was told -/
def RefDone (A0 : Option Addr) (l0 : List Pg) (r : List Pg × Rs) (w : World) (e : Ending) (w' : World) : Prop :=
  ∃ A cap, e = .returned (.tuple #[.slice A r.1.length cap, rsV r.2]) ∧ ((A = A0 ∧ r.1 = l0) ∨ w'.ownsRow w.heap.size 31 3 (.slice A r.1.length cap) r.1.length (r.1.flatMap Pg.cells)) ∧ Below w.heap.size w w'

theorem refDone_same {l : List Pg} {r : Rs} {w W' : World} {A : Option Addr} {cap : Nat} (_hr : Rd Pg.cells 3 w w.heap.size A l) (hb : Below w.heap.size w W') : RefDone A l (l, r) w (.returned (.tuple #[.slice A l.length cap, rsV r])) W' := ⟨A, cap, rfl, .inl ⟨rfl, rfl⟩, hb⟩
theorem tab_head {l : List Pg} (h : rightM l = true) {n : Nat} (hn : 1 ≤ n) (p : Pg) : (((tab l).set n p).take 1).filter nz = [] := by
  have h0 := tab_get h (n := 0) (by omega)
  rw [getM_none fun q hq => by have := (rightP_iff.1 (mem_right h hq)).1; show q.id ≠ 0; omega] at h0
  have h1 : ((tab l).set n p)[0]? = some pg0 := by rw [List.getElem?_set_ne (by omega)]; exact h0
  have := filter_take (T := (tab l).set n p) (k := 0) h1
  rw [this]
  rfl
/-- what lies in memory where the second loop begins -/
structure Tail (w : World) (N M M8 : Nat) (T : List Pg) (pp : Pg) (W2 : World) : Prop where
  below : Below w.heap.size w W2
  size : W2.heap.size = M8 + 1
  rd : Rd Pg.cells 3 W2 (M8 + 1) (some ⟨M, 0, none⟩) T
  len : T.length = 17
  head : (T.take 1).filter nz = []
  c80 : W2.cell? ⟨M8, 0, none⟩ = some (.int .i64 pp.id)
  c81 : W2.cell? ⟨M8, 1, none⟩ = some (.int .i64 pp.ver)
  c82 : W2.cell? ⟨M8, 2, none⟩ = some (.string pp.body)
  c50 : W2.cell? ⟨N + 1, 0, none⟩ = some (.int .i64 0)
  c51 : W2.cell? ⟨N + 1, 1, none⟩ = some (.int .i64 0)
  c52 : W2.cell? ⟨N + 1, 2, none⟩ = some (.int .i64 0)
  c53 : W2.cell? ⟨N + 1, 3, none⟩ = some (.string ⟨#[]⟩)
  f50 : W2.frozen? ⟨N + 1, 0, none⟩ = false
  f51 : W2.frozen? ⟨N + 1, 1, none⟩ = false
  f52 : W2.frozen? ⟨N + 1, 2, none⟩ = false
  f53 : W2.frozen? ⟨N + 1, 3, none⟩ = false
theorem tail_go {l : List Pg} {o : Op} {P : Program} {w W : World} {N M M8 : Nat} {T : List Pg} {pp : Pg} {code : Code} {Q : Exit → Act → World → Prop} {a : Act} (ht : Tail w N M M8 T pp W) (hd1 : (doM l o).1 = T.filter nz) (hd2 : (doM l o).2 = ⟨0, pp⟩)
    (h : ∀ (pp : Pg) (T : List Pg) (W2 : World), Tail w N M M8 T pp W2 → (doM l o).1 = T.filter nz → (doM l o).2 = ⟨0, pp⟩ → code.wp P Q a W2) : code.wp P Q a W := h pp T W ht hd1 hd2
theorem tail_of {w wr : World} {N M M8 n : Nat} {l : List Pg} (pp : Pg) (hrl : rightM l = true) (hn1 : 1 ≤ n) (hn : n < 17) (hb : Below w.heap.size w wr) (hNw : w.heap.size ≤ M) (hs : wr.heap.size = M8) (hNM : N + 1 < M) (hM : M < M8) (hown : wr.ownsRow N 63 3 (.slice (some ⟨M, 0, none⟩) 17 17) 17 ((tab l).flatMap Pg.cells))
    (c50 : wr.cell? ⟨N + 1, 0, none⟩ = some (.int .i64 0)) (c51 : wr.cell? ⟨N + 1, 1, none⟩ = some (.int .i64 0)) (c52 : wr.cell? ⟨N + 1, 2, none⟩ = some (.int .i64 0)) (c53 : wr.cell? ⟨N + 1, 3, none⟩ = some (.string ⟨#[]⟩))
    (f50 : wr.frozen? ⟨N + 1, 0, none⟩ = false) (f51 : wr.frozen? ⟨N + 1, 1, none⟩ = false) (f52 : wr.frozen? ⟨N + 1, 2, none⟩ = false) (f53 : wr.frozen? ⟨N + 1, 3, none⟩ = false) :
    Tail w N M M8 ((tab l).set n pp) pp ((((wr.setCell ⟨M, n * 3, none⟩ (.int .i64 pp.id)).setCell ⟨M, n * 3 + 1, none⟩ (.int .i64 pp.ver)).setCell ⟨M, n * 3 + 2, none⟩ (.string pp.body)).alloc (.cells #[.int .i64 pp.id, .int .i64 pp.ver, .string pp.body] 31)) := by
  have hown2 := own_set3 (i := n) pp hown (by rw [tab_len]; exact hn)
  obtain ⟨Wl, hWl⟩ : ∃ Wl, Wl = ((wr.setCell ⟨M, n * 3, none⟩ (.int .i64 pp.id)).setCell ⟨M, n * 3 + 1, none⟩ (.int .i64 pp.ver)).setCell ⟨M, n * 3 + 2, none⟩ (.string pp.body) := ⟨_, rfl⟩
  rw [← hWl] at hown2 ⊢
  have hbl : Below w.heap.size w Wl := by rw [hWl]; exact below_set3 hb hNw
  have hls : Wl.heap.size = M8 := by rw [hWl]; simpa using hs
  have hk : ∀ k, k ≠ M → Wl.heap[k]? = wr.heap[k]? := fun k hk => by rw [hWl, Below.heap_setCell _ _ _ _ hk, Below.heap_setCell _ _ _ _ hk, Below.heap_setCell _ _ _ _ hk]
  have hcell : ∀ j, (Wl.alloc (.cells #[.int .i64 pp.id, .int .i64 pp.ver, .string pp.body] 31)).cell? ⟨N + 1, j, none⟩ = wr.cell? ⟨N + 1, j, none⟩ := fun j => by
    rw [World.cell?_alloc_past _ _ _ (by omega)]
    exact World.cell?_of_block (a := ⟨N + 1, j, none⟩) (hk (N + 1) (by omega))
  have hfro : ∀ j, (Wl.alloc (.cells #[.int .i64 pp.id, .int .i64 pp.ver, .string pp.body] 31)).frozen? ⟨N + 1, j, none⟩ = wr.frozen? ⟨N + 1, j, none⟩ := fun j => by
    rw [World.frozen?_alloc_past _ _ _ (by omega)]
    exact World.frozen?_of_block (a := ⟨N + 1, j, none⟩) (hk (N + 1) (by omega))
  have hnew : ∀ j, (Wl.alloc (.cells #[.int .i64 pp.id, .int .i64 pp.ver, .string pp.body] 31)).cell? ⟨M8, j, none⟩ = (#[.int .i64 pp.id, .int .i64 pp.ver, .string pp.body] : Array Value)[j]? := fun j => by
    rw [← hls]; exact World.cell?_alloc_new Wl _ _ _
  refine ⟨hbl.alloc (by omega) _, by simp [hls], ?_, by simp [tab_len], tab_head hrl hn1 pp, hnew 0, hnew 1, hnew 2, (hcell 0).trans c50, (hcell 1).trans c51, (hcell 2).trans c52, (hcell 3).trans c53, (hfro 0).trans f50, (hfro 1).trans f51, (hfro 2).trans f52, (hfro 3).trans f53⟩
  have := Rd.of_own (hown2.alloc (.cells #[.int .i64 pp.id, .int .i64 pp.ver, .string pp.body] 31)) pg_len (by decide)
  simpa [hls] using this

set_option maxHeartbeats 8000000 in
theorem refDo_any (w : World) (A : Option Addr) (cap : Nat) (l : List Pg) (o : Op)
    (hl : l.length ≤ 1000000) (hr : Rd Pg.cells 3 w w.heap.size A l) :
    Calls Try.prog 13 #[.slice A l.length cap, .agg #[.int .i64 o.kind, .int .i64 o.id, .string o.body]] w (RefDone A l (doM l o) w) := by
  obtain ⟨W, hW⟩ : ∃ W, W = (w.alloc (.cells #[.int .i64 o.kind, .int .i64 o.id, .string o.body] 40)).alloc (.cells #[.int .i64 0, .int .i64 0, .int .i64 0, .string ⟨#[]⟩] 37) := ⟨_, rfl⟩
  have hbW : Below w.heap.size w W := by rw [hW]; exact ((Below.refl _ _).alloc (Nat.le_refl _) _).alloc (by simp) _
  have hsW : W.heap.size = w.heap.size + 2 := by rw [hW]; simp
  obtain ⟨N, hN⟩ : ∃ N, N = w.heap.size := ⟨_, rfl⟩
  have hB3 : W.heap[N]? = some (.cells #[.int .i64 o.kind, .int .i64 o.id, .string o.body] 40 (0, 0)) := by rw [hW, hN, heap_alloc_old _ _ (by simp), heap_alloc_new]
  have hB5 : W.heap[N + 1]? = some (.cells #[.int .i64 0, .int .i64 0, .int .i64 0, .string ⟨#[]⟩] 37 (0, 0)) := by
    have := heap_alloc_new (w.alloc (.cells #[.int .i64 o.kind, .int .i64 o.id, .string o.body] 40)) (.cells #[.int .i64 0, .int .i64 0, .int .i64 0, .string ⟨#[]⟩] 37)
    rw [hW, hN]
    simpa using this
  have hW' := hW.symm
  have hN' := hN.symm
  clear hW
  have hrW := hr.up hbW
  have HrW := Lib.hid hrW; clear hrW
  have Hr := Lib.hid hr; clear hr
  rw [← hN] at hsW
  have HbW := Lib.hid hbW; clear hbW
  have HB3 := Lib.hid hB3; clear hB3
  have HB5 := Lib.hid hB5; clear hB5
  have HN := Lib.hid hN; clear hN
  go_enter Try.func13, Try.ntmps13
  go_wp2_with fail
  refine (refMap_any W A cap l hl HrW.out).mono ?_
  rintro e V ⟨rfl, hb1⟩
  clear hW'
  have hsV := hb1.size
  have HbV := Lib.hid (bnext HbW.out (hb1.mono (by have := HbW.out.size; omega)))
  have hB3 : V.heap[N]? = _ := (hb1.block N (by omega)).trans HB3.out
  have hB5 : V.heap[N + 1]? = _ := (hb1.block (N + 1) (by omega)).trans HB5.out
  have c30 : V.cell? ⟨N, 0, none⟩ = some (.int .i64 o.kind) := cells_of hB3 0
  have c31 : V.cell? ⟨N, 1, none⟩ = some (.int .i64 o.id) := cells_of hB3 1
  have c32 : V.cell? ⟨N, 2, none⟩ = some (.string o.body) := cells_of hB3 2
  have c50 : V.cell? ⟨N + 1, 0, none⟩ = some (.int .i64 0) := cells_of hB5 0
  have c51 : V.cell? ⟨N + 1, 1, none⟩ = some (.int .i64 0) := cells_of hB5 1
  have c52 : V.cell? ⟨N + 1, 2, none⟩ = some (.int .i64 0) := cells_of hB5 2
  have c53 : V.cell? ⟨N + 1, 3, none⟩ = some (.string ⟨#[]⟩) := cells_of hB5 3
  have f50 := frozen_of hB5 0
  have f51 := frozen_of hB5 1
  have f52 := frozen_of hB5 2
  have f53 := frozen_of hB5 3
  clear HB3 HB5 hB3 hB5 hb1
  cases hrl : rightM l with
  | false =>
    have Hrl := Lib.hid hrl; clear hrl
    go_wp2_with fail
    refine bodyPost_ret (v := .tuple #[.slice A l.length cap, rsV ⟨1, pg0⟩]) (by simp [results, Try.results13, go_sem, rsV, pg0, c50, c51, c52, c53]) rfl ?_
    rw [doM_bad Hrl.out]
    exact refDone_same Hr.out (below_set4 HbV.out (by have := HN.out; omega))
  | true =>
    have Hrl := Lib.hid hrl; clear hrl
    cases hor : o.right with
    | false =>
      have hd : doM l o = (l, ⟨1, pg0⟩) := doM_eq Hrl.out (by simp [stepF, hor])
      have Hd := Lib.hid hd; clear hd
      have hcs : o.kind < 1 ∨ (1 ≤ o.kind ∧ 4 < o.kind) ∨ (1 ≤ o.kind ∧ o.kind ≤ 4 ∧ o.id < 1) ∨ (1 ≤ o.kind ∧ o.kind ≤ 4 ∧ 1 ≤ o.id ∧ 16 < o.id) := by
        have : ¬ o.right = true := by simp [hor]
        rw [opRight_iff] at this
        omega
      clear hor
      rcases hcs with h1 | ⟨h1, h2⟩ | ⟨h1, h2, h3⟩ | ⟨h1, h2, h3, h4⟩
      all_goals
        go_wp2_with fail
        refine bodyPost_ret (v := .tuple #[.slice A l.length cap, rsV ⟨1, pg0⟩]) (by simp [results, Try.results13, go_sem, rsV, pg0, c50, c51, c52, c53]) rfl ?_
        rw [Hd.out]
        exact refDone_same Hr.out (below_set4 HbV.out (by have := HN.out; omega))
    | true =>
      obtain ⟨o1, o2, o3, o4⟩ := opRight_iff.1 hor
      have Hor := Lib.hid hor; clear hor
      obtain ⟨M, hM⟩ : ∃ M, M = V.heap.size := ⟨_, rfl⟩
      have hM' := hM.symm
      have HM := Lib.hid hM; clear hM
      have ho6 := World.ownsRow_lit (base := N) (e := 63) (size := 3) V (List.replicate 17 pg0 |>.flatMap Pg.cells).toArray 17 (by omega) (by decide) (by rfl)
      go_wp2_with fail
      have Ho6 := Lib.hid ho6; clear ho6
      have hbx : ∀ U, Below M V U → U.cell? ⟨N, 0, none⟩ = some (.int .i64 o.kind) ∧ U.cell? ⟨N, 1, none⟩ = some (.int .i64 o.id) ∧ U.cell? ⟨N, 2, none⟩ = some (.string o.body) ∧ U.cell? ⟨N + 1, 0, none⟩ = some (.int .i64 0) ∧ U.cell? ⟨N + 1, 1, none⟩ = some (.int .i64 0) ∧ U.cell? ⟨N + 1, 2, none⟩ = some (.int .i64 0) ∧ U.cell? ⟨N + 1, 3, none⟩ = some (.string ⟨#[]⟩) ∧
          U.frozen? ⟨N + 1, 0, none⟩ = false ∧ U.frozen? ⟨N + 1, 1, none⟩ = false ∧ U.frozen? ⟨N + 1, 2, none⟩ = false ∧ U.frozen? ⟨N + 1, 3, none⟩ = false := fun U hU => by
        have h1 : N < M := by omega
        have h2 : N + 1 < M := by omega
        refine ⟨(hU.cell (p := ⟨N, 0, none⟩) h1).trans c30, (hU.cell (p := ⟨N, 1, none⟩) h1).trans c31, (hU.cell (p := ⟨N, 2, none⟩) h1).trans c32, (hU.cell (p := ⟨N + 1, 0, none⟩) h2).trans c50, (hU.cell (p := ⟨N + 1, 1, none⟩) h2).trans c51, (hU.cell (p := ⟨N + 1, 2, none⟩) h2).trans c52, (hU.cell (p := ⟨N + 1, 3, none⟩) h2).trans c53,
          (hU.frozen (p := ⟨N + 1, 0, none⟩) h2).trans f50, (hU.frozen (p := ⟨N + 1, 1, none⟩) h2).trans f51, (hU.frozen (p := ⟨N + 1, 2, none⟩) h2).trans f52, (hU.frozen (p := ⟨N + 1, 3, none⟩) h2).trans f53⟩
      have Hbx := Lib.hid hbx; clear hbx
      go_loopg [7] l.length (fun g i wr => ∃ k : Nat, k ≤ l.length ∧ g = l.length - k ∧ i = .int .i64 k ∧ wr.ownsRow N 63 3 (.slice (some ⟨M, 0, none⟩) 17 17) 17 ((tab (l.take k)).flatMap Pg.cells) ∧ Below M V wr)
      case atStart => exact ⟨0, Nat.zero_le _, rfl, rfl, by have := Ho6.out; rw [hM'] at this; exact this, (Below.refl _ _).alloc (by omega) _⟩
      case round =>
        obtain ⟨k, hk, hg, rfl, hown, hb⟩ := hrel
        have hsw : M ≤ wr.heap.size := by have := hb.size; omega
        have hbw : Below w.heap.size w wr := HbV.out.trans (hb.mono (by omega))
        have Hg := Lib.hid hg; clear hg
        have Hown := Lib.hid hown; clear hown
        clear c30 c31 c32 c50 c51 c52 c53 f50 f51 f52 f53
        by_cases hlt : k < l.length
        · obtain ⟨p, b, off, hp, rfl, hbb, hcell⟩ := rd_p Hr.out hlt
          obtain ⟨g0, g1, g2⟩ := hcell wr hbw
          obtain ⟨q1, q2, _, _, _⟩ := rightP_iff.1 (rightP_of Hrl.out hp)
          obtain ⟨n, hn⟩ : ∃ n : Nat, p.id = n := ⟨p.id.toNat, by omega⟩
          have hn17 : n < 17 := by omega
          have hn17i : (n : Int) < 17 := by omega
          obtain ⟨u0, x0⟩ := own_some Hown.out (j := n * 3) (by omega)
          obtain ⟨u1, x1⟩ := own_some Hown.out (j := n * 3 + 1) (by omega)
          obtain ⟨u2, x2⟩ := own_some Hown.out (j := n * 3 + 2) (by omega)
          have y0 := Hown.out.frozenAt (n * 3)
          have y1 := Hown.out.frozenAt (n * 3 + 1)
          have y2 := Hown.out.frozenAt (n * 3 + 2)
          have Hn := Lib.hid hn
          rw [hn] at g0
          have Hp := Lib.hid hp; clear hp
          clear hcell hn
          have hki : (k : Int) < (l.length : Int) := by omega
          go_wp2_with fail
          go_region
          go_wp2_with fail
          go_roundg (l.length - (k + 1))
          case measure => have := Hg.out; omega
          case rel =>
            refine ⟨k + 1, by omega, rfl, by go_num, ?_, (below_set3 hb (Nat.le_refl _)).drew⟩
            have e := own_set3 (w := wr) (i := n) p (T := tab (l.take k)) Hown.out (by rw [tab_len]; exact hn17)
            rw [Hn.out] at e
            rw [tab_take Hp.out, Hn.out, Int.toNat_natCast]
            exact e
        · have hkl : k = l.length := by omega
          subst hkl
          obtain ⟨c30, c31, c32, c50, c51, c52, c53, f50, f51, f52, f53⟩ := Hbx.out wr hb
          have hown := Hown.out
          rw [List.take_length] at hown
          clear Hown
          obtain ⟨n, hn⟩ : ∃ n : Nat, o.id = n := ⟨o.id.toNat, by omega⟩
          have hn17 : n < 17 := by omega
          have hn17i : (n : Int) < 17 := by omega
          have hn1i : 1 ≤ (n : Int) := by omega
          have hT := tab_get Hrl.out hn17
          rw [← hn] at hT
          obtain ⟨q, b', off', hq, hA', _, hcell⟩ := rd_p (Rd.of_own hown pg_len (by decide)) (k := n) (by rw [tab_len]; exact hn17)
          obtain ⟨rfl, rfl⟩ : M = b' ∧ 0 = off' := by simpa using hA'
          obtain ⟨g0, g1, g2⟩ := hcell wr (Below.refl _ _)
          simp only [Nat.zero_add] at g0 g1 g2
          obtain rfl : q = (getM l o.id).getD pg0 := by rw [hq] at hT; exact Option.some.inj hT
          have y0 := hown.frozenAt (n * 3)
          have y1 := hown.frozenAt (n * 3 + 1)
          have y2 := hown.frozenAt (n * 3 + 2)
          have Hown := Lib.hid hown; clear hown
          have Hn := Lib.hid hn
          rw [hn] at c31
          clear hn hT hq hA' hcell o3 o4
          have hMw : M < wr.heap.size := (Hown.out.lt M rfl).2
          obtain ⟨M8, hM8⟩ : ∃ M8, M8 = wr.heap.size := ⟨_, rfl⟩
          rw [← hM8] at hMw
          have HM8 := Lib.hid hM8
          have hM8' := hM8.symm
          clear hM8
          have hn1 : N < M8 := by omega
          have hn2 : N + 1 < M8 := by omega
          have hn3 : ¬ N = M8 := by omega
          have hn4 : ¬ N + 1 = M8 := by omega
          have hn5 : ¬ M = M8 := by omega
          have hn6 : ¬ M8 = M := by omega
          have hn7 : ¬ M = N := by omega
          have hn8 : ¬ M = N + 1 := by omega
          have hn9 : ¬ M8 = N := by omega
          have hn10 : ¬ M8 = N + 1 := by omega
          have hn11 : ¬ N = M := by omega
          have hn12 : ¬ N + 1 = M := by omega
          cases hgm : getM l o.id with
          | none =>
            rw [hgm] at g0 g1 g2
            simp only [Option.getD_none, pg0] at g0 g1 g2
            have Hgm := Lib.hid hgm; clear hgm
            by_cases hk1 : o.kind = 1
            · have hk1b : (o.kind == 1) = true := by simpa using hk1
              have hst : stepF (getM l o.id) o = (some (pgNew o.id), ⟨0, pgNew o.id⟩) := by rw [Hgm.out]; simp [stepF, Hor.out, hk1]
              have hd1 : (doM l o).1 = ((tab l).set n (pgNew n)).filter nz := by
                have e := out_do (p := pgNew n) Hrl.out Hor.out (by rw [hst]; first | done | (rw [Hn.out]; done) | (rw [Hn.out]; rfl))
                rw [← e, Hn.out, Int.toNat_natCast]
              have hd2 : (doM l o).2 = ⟨0, pgNew n⟩ := by rw [(doM_did (o := o) Hrl.out).told, hst]; first | done | (rw [Hn.out]; done) | (rw [Hn.out]; rfl)
              have Hd1 := Lib.hid hd1; have Hd2 := Lib.hid hd2; clear hd1 hd2 hst
              go_wp2_with fail
              refine tail_go (l := l) (o := o) (tail_of (pgNew n) Hrl.out (by omega) hn17 hbw (by omega) hM8' (by omega) hMw Hown.out c50 c51 c52 c53 f50 f51 f52 f53) Hd1.out Hd2.out ?_
              clear hk1 hk1b o1 o2
              intro pp T W2 ht hd1 hd2
              have Hd1 := Lib.hid hd1
              have Hd2 := Lib.hid hd2
              have Ht := Lib.hid ht
              have hs2 := ht.size
              obtain ⟨i0, hi0, hz0, hz1, hz2⟩ := info_parts Try.infoPg
              clear ht hd1 hd2 c30 c31 c32 c50 c51 c52 c53 f50 f51 f52 f53 g0 g1 g2 y0 y1 y2
              obtain ⟨wo, rfl⟩ : ∃ wo : World, wo = wr := ⟨_, rfl⟩
              go_loopg [9, 10] 16 (fun g out i wr2 => ∃ (k : Nat) (A2 : Option Addr) (c2 m : Nat), 1 ≤ k ∧ k ≤ 17 ∧ g = 17 - k ∧ i = .int .i64 k ∧ out = .slice A2 m c2 ∧ m = ((T.take k).filter nz).length ∧ wr2.ownsRow (M8 + 1) 31 3 (.slice A2 m c2) m (((T.take k).filter nz).flatMap Pg.cells) ∧ Below (M8 + 1) W2 wr2)
              case atStart =>
                have := Ht.out.head
                exact ⟨1, none, 0, 0, Nat.le_refl _, by omega, rfl, rfl, rfl, by rw [this]; rfl, by rw [this]; exact World.ownsRow_nil _ _ _ _, Below.refl _ _⟩
              case round =>
                obtain ⟨k, A2, c2, m, hk1', hk17, hg, rfl, rfl, hm, hown2, hb2⟩ := hrel
                have Hg := Lib.hid hg; clear hg
                have Hown2 := Lib.hid hown2; clear hown2
                have Hm := Lib.hid hm; clear hm
                have hs3 : M8 + 1 ≤ wr.heap.size := by have := hb2.size; omega
                by_cases hlt2 : k < 17
                · obtain ⟨x, b8, off8, hx, hA8, hb8, hcell8⟩ := rd_p Ht.out.rd (k := k) (by rw [Ht.out.len]; exact hlt2)
                  obtain ⟨rfl, rfl⟩ : M = b8 ∧ 0 = off8 := by simpa using hA8
                  obtain ⟨x0, x1, x2⟩ := hcell8 wr hb2
                  simp only [Nat.zero_add] at x0 x1 x2
                  have hki : (k : Int) < 17 := by omega
                  have hft := filter_take hx
                  have Hft := Lib.hid hft; clear hft hA8 hcell8 hx
                  by_cases hx0 : x.id = 0
                  · have hxb : (x.id == 0) = true := by simpa using hx0
                    go_wp2_with fail
                    go_roundg (17 - (k + 1))
                    case measure => have := Hg.out; omega
                    case rel =>
                      rw [if_pos hx0, List.append_nil] at Hft
                      exact ⟨k + 1, A2, c2, m, by omega, by omega, rfl, by go_num, rfl, by rw [Hft.out]; exact Hm.out, by rw [Hft.out]; exact Hown2.out, hb2⟩
                  · have hxb : (x.id == 0) = false := by simpa using hx0
                    have hm17 : m ≤ 17 := by rw [Hm.out]; exact Nat.le_trans (List.length_filter_le _ _) (by simp; omega)
                    go_wp2_with (at_builtin; refine list_app rfl (.tmp 119) (.tmp 123) 22 rfl (M8 + 1) 31 i0 (.agg #[.int .i64 0, .int .i64 0, .string .empty]) 3 32 Try.underlying22 hi0 hz0 hz1 hz2 rfl (by decide) rfl (Hown2.out.alloc _) (m := 1) (news := Pg.cells x) rfl rfl (by simp) (new_src (cs := (Pg.cells x).toArray) rfl) (pg_one x) ?_ ?_ ?_ ?_)
                    · unfold maxLen; omega
                    · omega
                    · simp; omega
                    intro v' w5 ho5 hg5 _
                    have hb5 : Below (M8 + 1) W2 w5 := (hb2.alloc hs3 _).grown hg5 (by simp; omega) (fun q hq => (Hown2.out.lt q hq).1)
                    obtain ⟨A', c', rfl, _, _⟩ := own_slice ho5
                    have Ho5 := Lib.hid ho5; clear ho5 hg5
                    go_wp2_with fail
                    go_roundg (17 - (k + 1))
                    case measure => have := Hg.out; omega
                    case rel =>
                      rw [if_neg hx0] at Hft
                      exact ⟨k + 1, A', c', m + 1, by omega, by omega, rfl, by go_num, rfl, by rw [Hft.out, List.length_append, ← Hm.out]; rfl, by rw [Hft.out, List.flatMap_append]; simpa using Ho5.out, hb5⟩
                · obtain rfl : k = 17 := by omega
                  have hT17 : T.take 17 = T := List.take_of_length_le (by rw [Ht.out.len]; exact Nat.le_refl _)
                  rw [hT17] at Hm Hown2
                  have c80 := (hb2.cell (p := ⟨M8, 0, none⟩) (Nat.lt_succ_self _)).trans Ht.out.c80
                  have c81 := (hb2.cell (p := ⟨M8, 1, none⟩) (Nat.lt_succ_self _)).trans Ht.out.c81
                  have c82 := (hb2.cell (p := ⟨M8, 2, none⟩) (Nat.lt_succ_self _)).trans Ht.out.c82
                  have hn2' : N + 1 < M8 + 1 := by omega
                  have c50 := (hb2.cell (p := ⟨N + 1, 0, none⟩) hn2').trans Ht.out.c50
                  have c51 := (hb2.cell (p := ⟨N + 1, 1, none⟩) hn2').trans Ht.out.c51
                  have c52 := (hb2.cell (p := ⟨N + 1, 2, none⟩) hn2').trans Ht.out.c52
                  have c53 := (hb2.cell (p := ⟨N + 1, 3, none⟩) hn2').trans Ht.out.c53
                  have f50 := (hb2.frozen (p := ⟨N + 1, 0, none⟩) hn2').trans Ht.out.f50
                  have f51 := (hb2.frozen (p := ⟨N + 1, 1, none⟩) hn2').trans Ht.out.f51
                  have f52 := (hb2.frozen (p := ⟨N + 1, 2, none⟩) hn2').trans Ht.out.f52
                  have f53 := (hb2.frozen (p := ⟨N + 1, 3, none⟩) hn2').trans Ht.out.f53
                  have hbw2 : Below w.heap.size w wr := Ht.out.below.trans (hb2.mono (by omega))
                  clear hT17 hn2'
                  go_wp2_with fail
                  go_region
                  go_wp2_with fail
                  refine bodyPost_ret (v := .tuple #[.slice A2 m c2, rsV ⟨0, pp⟩]) (by simp [results, Try.results13, go_sem, rsV, c50, c51, c52, c53]) rfl ?_
                  have hne : (Value.slice A2 m c2).ownBlock ≠ some (N + 1) := fun e => by have := (Hown2.out.lt _ e).1; omega
                  show RefDone _ _ ((doM l o).1, (doM l o).2) w _ _
                  rw [Hd1.out, Hd2.out]
                  refine ⟨A2, c2, by rw [← Hm.out], ?_, (below_set4 hbw2 (by omega)).drew⟩
                  refine .inr (own_drew (own_le (base := M8 + 1) ?_ (by omega)))
                  show World.ownsRow _ _ _ _ (.slice A2 (T.filter nz).length c2) (T.filter nz).length ((T.filter nz).flatMap Pg.cells)
                  rw [← Hm.out]
                  exact own_setCell (own_setCell (own_setCell (own_setCell Hown2.out hne _) hne _) hne _) hne _
            · have hk2 : 1 < o.kind := by omega
              have hk1b : (o.kind == 1) = false := by simpa using hk1
              have hd : doM l o = (l, ⟨3, pg0⟩) := doM_eq Hrl.out (by rw [Hgm.out]; simp [stepF, Hor.out, hk1])
              have Hd := Lib.hid hd; clear hd
              go_wp2_with fail
              refine bodyPost_ret (v := .tuple #[.slice A l.length cap, rsV ⟨3, pg0⟩]) (by simp [results, Try.results13, go_sem, rsV, pg0, c50, c51, c52, c53, hn2, hM8']) rfl ?_
              rw [Hd.out]
              exact refDone_same Hr.out (by repeat' (first | exact hbw | refine Below.alloc ?_ (by first | omega | (simp; omega)) _ | refine Below.setCell ?_ (by first | omega | (simp; omega)) _ | refine Below.drew ?_))
          | some p =>
            rw [hgm] at g0 g1 g2
            simp only [Option.getD_some] at g0 g1 g2
            obtain ⟨pm, pid⟩ := getM_some hgm
            obtain ⟨q1, q2, q3, q4, q5⟩ := rightP_iff.1 (mem_right Hrl.out pm)
            have hp0 : ¬ p.id = 0 := by omega
            have hp0b : (p.id == 0) = false := by simpa using hp0
            have Hgm := Lib.hid hgm; clear hgm
            have Hpid := Lib.hid pid; clear pid pm
            by_cases hk1 : o.kind = 1
            · have hk1b : (o.kind == 1) = true := by simpa using hk1
              have hd : doM l o = (l, ⟨4, pg0⟩) := doM_eq Hrl.out (by rw [Hgm.out]; simp [stepF, Hor.out, hk1])
              have Hd := Lib.hid hd; clear hd
              go_wp2_with fail
              refine bodyPost_ret (v := .tuple #[.slice A l.length cap, rsV ⟨4, pg0⟩]) (by simp [results, Try.results13, go_sem, rsV, pg0, c50, c51, c52, c53, hn2, hM8']) rfl ?_
              rw [Hd.out]
              exact refDone_same Hr.out (by repeat' (first | exact hbw | refine Below.alloc ?_ (by first | omega | (simp; omega)) _ | refine Below.setCell ?_ (by first | omega | (simp; omega)) _ | refine Below.drew ?_))
            have hk1b : (o.kind == 1) = false := by simpa using hk1
            have hk1g : 1 < o.kind := by omega
            by_cases hk2 : o.kind = 2
            · have hk2b : (o.kind == 3) = false := by simp [hk2]
              have hk2c : (o.kind == 4) = false := by simp [hk2]
              have hst : stepF (getM l o.id) o = (some p, ⟨0, p⟩) := by rw [Hgm.out]; simp [stepF, Hor.out, hk2]
              have hd1 : (doM l o).1 = ((tab l).set n (p)).filter nz := by
                have e := out_do (p := p) Hrl.out Hor.out (by rw [hst]; try rfl)
                rw [← e, Hn.out, Int.toNat_natCast]
              have hd2 : (doM l o).2 = ⟨0, p⟩ := by rw [(doM_did (o := o) Hrl.out).told, hst]; try rfl
              have Hd1 := Lib.hid hd1; have Hd2 := Lib.hid hd2; clear hd1 hd2 hst
              go_wp2_with fail
              refine tail_go (l := l) (o := o) (tail_of (p) Hrl.out (by omega) hn17 hbw (by omega) hM8' (by omega) hMw Hown.out c50 c51 c52 c53 f50 f51 f52 f53) Hd1.out Hd2.out ?_
              clear hk1 hk1b hk1g hk2 hk2b hk2c hp0 hp0b o1 o2
              intro pp T W2 ht hd1 hd2
              have Hd1 := Lib.hid hd1
              have Hd2 := Lib.hid hd2
              have Ht := Lib.hid ht
              have hs2 := ht.size
              obtain ⟨i0, hi0, hz0, hz1, hz2⟩ := info_parts Try.infoPg
              clear ht hd1 hd2 c30 c31 c32 c50 c51 c52 c53 f50 f51 f52 f53 g0 g1 g2 y0 y1 y2
              obtain ⟨wo, rfl⟩ : ∃ wo : World, wo = wr := ⟨_, rfl⟩
              go_loopg [9, 10] 16 (fun g out i wr2 => ∃ (k : Nat) (A2 : Option Addr) (c2 m : Nat), 1 ≤ k ∧ k ≤ 17 ∧ g = 17 - k ∧ i = .int .i64 k ∧ out = .slice A2 m c2 ∧ m = ((T.take k).filter nz).length ∧ wr2.ownsRow (M8 + 1) 31 3 (.slice A2 m c2) m (((T.take k).filter nz).flatMap Pg.cells) ∧ Below (M8 + 1) W2 wr2)
              case atStart =>
                have := Ht.out.head
                exact ⟨1, none, 0, 0, Nat.le_refl _, by omega, rfl, rfl, rfl, by rw [this]; rfl, by rw [this]; exact World.ownsRow_nil _ _ _ _, Below.refl _ _⟩
              case round =>
                obtain ⟨k, A2, c2, m, hk1', hk17, hg, rfl, rfl, hm, hown2, hb2⟩ := hrel
                have Hg := Lib.hid hg; clear hg
                have Hown2 := Lib.hid hown2; clear hown2
                have Hm := Lib.hid hm; clear hm
                have hs3 : M8 + 1 ≤ wr.heap.size := by have := hb2.size; omega
                by_cases hlt2 : k < 17
                · obtain ⟨x, b8, off8, hx, hA8, hb8, hcell8⟩ := rd_p Ht.out.rd (k := k) (by rw [Ht.out.len]; exact hlt2)
                  obtain ⟨rfl, rfl⟩ : M = b8 ∧ 0 = off8 := by simpa using hA8
                  obtain ⟨x0, x1, x2⟩ := hcell8 wr hb2
                  simp only [Nat.zero_add] at x0 x1 x2
                  have hki : (k : Int) < 17 := by omega
                  have hft := filter_take hx
                  have Hft := Lib.hid hft; clear hft hA8 hcell8 hx
                  by_cases hx0 : x.id = 0
                  · have hxb : (x.id == 0) = true := by simpa using hx0
                    go_wp2_with fail
                    go_roundg (17 - (k + 1))
                    case measure => have := Hg.out; omega
                    case rel =>
                      rw [if_pos hx0, List.append_nil] at Hft
                      exact ⟨k + 1, A2, c2, m, by omega, by omega, rfl, by go_num, rfl, by rw [Hft.out]; exact Hm.out, by rw [Hft.out]; exact Hown2.out, hb2⟩
                  · have hxb : (x.id == 0) = false := by simpa using hx0
                    have hm17 : m ≤ 17 := by rw [Hm.out]; exact Nat.le_trans (List.length_filter_le _ _) (by simp; omega)
                    go_wp2_with (at_builtin; refine list_app rfl (.tmp 119) (.tmp 123) 22 rfl (M8 + 1) 31 i0 (.agg #[.int .i64 0, .int .i64 0, .string .empty]) 3 32 Try.underlying22 hi0 hz0 hz1 hz2 rfl (by decide) rfl (Hown2.out.alloc _) (m := 1) (news := Pg.cells x) rfl rfl (by simp) (new_src (cs := (Pg.cells x).toArray) rfl) (pg_one x) ?_ ?_ ?_ ?_)
                    · unfold maxLen; omega
                    · omega
                    · simp; omega
                    intro v' w5 ho5 hg5 _
                    have hb5 : Below (M8 + 1) W2 w5 := (hb2.alloc hs3 _).grown hg5 (by simp; omega) (fun q hq => (Hown2.out.lt q hq).1)
                    obtain ⟨A', c', rfl, _, _⟩ := own_slice ho5
                    have Ho5 := Lib.hid ho5; clear ho5 hg5
                    go_wp2_with fail
                    go_roundg (17 - (k + 1))
                    case measure => have := Hg.out; omega
                    case rel =>
                      rw [if_neg hx0] at Hft
                      exact ⟨k + 1, A', c', m + 1, by omega, by omega, rfl, by go_num, rfl, by rw [Hft.out, List.length_append, ← Hm.out]; rfl, by rw [Hft.out, List.flatMap_append]; simpa using Ho5.out, hb5⟩
                · obtain rfl : k = 17 := by omega
                  have hT17 : T.take 17 = T := List.take_of_length_le (by rw [Ht.out.len]; exact Nat.le_refl _)
                  rw [hT17] at Hm Hown2
                  have c80 := (hb2.cell (p := ⟨M8, 0, none⟩) (Nat.lt_succ_self _)).trans Ht.out.c80
                  have c81 := (hb2.cell (p := ⟨M8, 1, none⟩) (Nat.lt_succ_self _)).trans Ht.out.c81
                  have c82 := (hb2.cell (p := ⟨M8, 2, none⟩) (Nat.lt_succ_self _)).trans Ht.out.c82
                  have hn2' : N + 1 < M8 + 1 := by omega
                  have c50 := (hb2.cell (p := ⟨N + 1, 0, none⟩) hn2').trans Ht.out.c50
                  have c51 := (hb2.cell (p := ⟨N + 1, 1, none⟩) hn2').trans Ht.out.c51
                  have c52 := (hb2.cell (p := ⟨N + 1, 2, none⟩) hn2').trans Ht.out.c52
                  have c53 := (hb2.cell (p := ⟨N + 1, 3, none⟩) hn2').trans Ht.out.c53
                  have f50 := (hb2.frozen (p := ⟨N + 1, 0, none⟩) hn2').trans Ht.out.f50
                  have f51 := (hb2.frozen (p := ⟨N + 1, 1, none⟩) hn2').trans Ht.out.f51
                  have f52 := (hb2.frozen (p := ⟨N + 1, 2, none⟩) hn2').trans Ht.out.f52
                  have f53 := (hb2.frozen (p := ⟨N + 1, 3, none⟩) hn2').trans Ht.out.f53
                  have hbw2 : Below w.heap.size w wr := Ht.out.below.trans (hb2.mono (by omega))
                  clear hT17 hn2'
                  go_wp2_with fail
                  go_region
                  go_wp2_with fail
                  refine bodyPost_ret (v := .tuple #[.slice A2 m c2, rsV ⟨0, pp⟩]) (by simp [results, Try.results13, go_sem, rsV, c50, c51, c52, c53]) rfl ?_
                  have hne : (Value.slice A2 m c2).ownBlock ≠ some (N + 1) := fun e => by have := (Hown2.out.lt _ e).1; omega
                  show RefDone _ _ ((doM l o).1, (doM l o).2) w _ _
                  rw [Hd1.out, Hd2.out]
                  refine ⟨A2, c2, by rw [← Hm.out], ?_, (below_set4 hbw2 (by omega)).drew⟩
                  refine .inr (own_drew (own_le (base := M8 + 1) ?_ (by omega)))
                  show World.ownsRow _ _ _ _ (.slice A2 (T.filter nz).length c2) (T.filter nz).length ((T.filter nz).flatMap Pg.cells)
                  rw [← Hm.out]
                  exact own_setCell (own_setCell (own_setCell (own_setCell Hown2.out hne _) hne _) hne _) hne _
            by_cases hk4 : o.kind = 4
            · have hk2b : (o.kind == 3) = false := by simp [hk4]
              have hk2c : (o.kind == 4) = true := by simp [hk4]
              have hst : stepF (getM l o.id) o = (none, ⟨0, pg0⟩) := by rw [Hgm.out]; simp [stepF, Hor.out, hk4]
              have hd1 : (doM l o).1 = ((tab l).set n (pg0)).filter nz := by
                have e := out_do (p := pg0) Hrl.out Hor.out (by rw [hst]; try rfl)
                rw [← e, Hn.out, Int.toNat_natCast]
              have hd2 : (doM l o).2 = ⟨0, pg0⟩ := by rw [(doM_did (o := o) Hrl.out).told, hst]; try rfl
              have Hd1 := Lib.hid hd1; have Hd2 := Lib.hid hd2; clear hd1 hd2 hst
              go_wp2_with fail
              refine tail_go (l := l) (o := o) (tail_of (pg0) Hrl.out (by omega) hn17 hbw (by omega) hM8' (by omega) hMw Hown.out c50 c51 c52 c53 f50 f51 f52 f53) Hd1.out Hd2.out ?_
              clear hk1 hk1b hk1g hk2 hk4 hk2b hk2c hp0 hp0b o1 o2
              intro pp T W2 ht hd1 hd2
              have Hd1 := Lib.hid hd1
              have Hd2 := Lib.hid hd2
              have Ht := Lib.hid ht
              have hs2 := ht.size
              obtain ⟨i0, hi0, hz0, hz1, hz2⟩ := info_parts Try.infoPg
              clear ht hd1 hd2 c30 c31 c32 c50 c51 c52 c53 f50 f51 f52 f53 g0 g1 g2 y0 y1 y2
              obtain ⟨wo, rfl⟩ : ∃ wo : World, wo = wr := ⟨_, rfl⟩
              go_loopg [9, 10] 16 (fun g out i wr2 => ∃ (k : Nat) (A2 : Option Addr) (c2 m : Nat), 1 ≤ k ∧ k ≤ 17 ∧ g = 17 - k ∧ i = .int .i64 k ∧ out = .slice A2 m c2 ∧ m = ((T.take k).filter nz).length ∧ wr2.ownsRow (M8 + 1) 31 3 (.slice A2 m c2) m (((T.take k).filter nz).flatMap Pg.cells) ∧ Below (M8 + 1) W2 wr2)
              case atStart =>
                have := Ht.out.head
                exact ⟨1, none, 0, 0, Nat.le_refl _, by omega, rfl, rfl, rfl, by rw [this]; rfl, by rw [this]; exact World.ownsRow_nil _ _ _ _, Below.refl _ _⟩
              case round =>
                obtain ⟨k, A2, c2, m, hk1', hk17, hg, rfl, rfl, hm, hown2, hb2⟩ := hrel
                have Hg := Lib.hid hg; clear hg
                have Hown2 := Lib.hid hown2; clear hown2
                have Hm := Lib.hid hm; clear hm
                have hs3 : M8 + 1 ≤ wr.heap.size := by have := hb2.size; omega
                by_cases hlt2 : k < 17
                · obtain ⟨x, b8, off8, hx, hA8, hb8, hcell8⟩ := rd_p Ht.out.rd (k := k) (by rw [Ht.out.len]; exact hlt2)
                  obtain ⟨rfl, rfl⟩ : M = b8 ∧ 0 = off8 := by simpa using hA8
                  obtain ⟨x0, x1, x2⟩ := hcell8 wr hb2
                  simp only [Nat.zero_add] at x0 x1 x2
                  have hki : (k : Int) < 17 := by omega
                  have hft := filter_take hx
                  have Hft := Lib.hid hft; clear hft hA8 hcell8 hx
                  by_cases hx0 : x.id = 0
                  · have hxb : (x.id == 0) = true := by simpa using hx0
                    go_wp2_with fail
                    go_roundg (17 - (k + 1))
                    case measure => have := Hg.out; omega
                    case rel =>
                      rw [if_pos hx0, List.append_nil] at Hft
                      exact ⟨k + 1, A2, c2, m, by omega, by omega, rfl, by go_num, rfl, by rw [Hft.out]; exact Hm.out, by rw [Hft.out]; exact Hown2.out, hb2⟩
                  · have hxb : (x.id == 0) = false := by simpa using hx0
                    have hm17 : m ≤ 17 := by rw [Hm.out]; exact Nat.le_trans (List.length_filter_le _ _) (by simp; omega)
                    go_wp2_with (at_builtin; refine list_app rfl (.tmp 119) (.tmp 123) 22 rfl (M8 + 1) 31 i0 (.agg #[.int .i64 0, .int .i64 0, .string .empty]) 3 32 Try.underlying22 hi0 hz0 hz1 hz2 rfl (by decide) rfl (Hown2.out.alloc _) (m := 1) (news := Pg.cells x) rfl rfl (by simp) (new_src (cs := (Pg.cells x).toArray) rfl) (pg_one x) ?_ ?_ ?_ ?_)
                    · unfold maxLen; omega
                    · omega
                    · simp; omega
                    intro v' w5 ho5 hg5 _
                    have hb5 : Below (M8 + 1) W2 w5 := (hb2.alloc hs3 _).grown hg5 (by simp; omega) (fun q hq => (Hown2.out.lt q hq).1)
                    obtain ⟨A', c', rfl, _, _⟩ := own_slice ho5
                    have Ho5 := Lib.hid ho5; clear ho5 hg5
                    go_wp2_with fail
                    go_roundg (17 - (k + 1))
                    case measure => have := Hg.out; omega
                    case rel =>
                      rw [if_neg hx0] at Hft
                      exact ⟨k + 1, A', c', m + 1, by omega, by omega, rfl, by go_num, rfl, by rw [Hft.out, List.length_append, ← Hm.out]; rfl, by rw [Hft.out, List.flatMap_append]; simpa using Ho5.out, hb5⟩
                · obtain rfl : k = 17 := by omega
                  have hT17 : T.take 17 = T := List.take_of_length_le (by rw [Ht.out.len]; exact Nat.le_refl _)
                  rw [hT17] at Hm Hown2
                  have c80 := (hb2.cell (p := ⟨M8, 0, none⟩) (Nat.lt_succ_self _)).trans Ht.out.c80
                  have c81 := (hb2.cell (p := ⟨M8, 1, none⟩) (Nat.lt_succ_self _)).trans Ht.out.c81
                  have c82 := (hb2.cell (p := ⟨M8, 2, none⟩) (Nat.lt_succ_self _)).trans Ht.out.c82
                  have hn2' : N + 1 < M8 + 1 := by omega
                  have c50 := (hb2.cell (p := ⟨N + 1, 0, none⟩) hn2').trans Ht.out.c50
                  have c51 := (hb2.cell (p := ⟨N + 1, 1, none⟩) hn2').trans Ht.out.c51
                  have c52 := (hb2.cell (p := ⟨N + 1, 2, none⟩) hn2').trans Ht.out.c52
                  have c53 := (hb2.cell (p := ⟨N + 1, 3, none⟩) hn2').trans Ht.out.c53
                  have f50 := (hb2.frozen (p := ⟨N + 1, 0, none⟩) hn2').trans Ht.out.f50
                  have f51 := (hb2.frozen (p := ⟨N + 1, 1, none⟩) hn2').trans Ht.out.f51
                  have f52 := (hb2.frozen (p := ⟨N + 1, 2, none⟩) hn2').trans Ht.out.f52
                  have f53 := (hb2.frozen (p := ⟨N + 1, 3, none⟩) hn2').trans Ht.out.f53
                  have hbw2 : Below w.heap.size w wr := Ht.out.below.trans (hb2.mono (by omega))
                  clear hT17 hn2'
                  go_wp2_with fail
                  go_region
                  go_wp2_with fail
                  refine bodyPost_ret (v := .tuple #[.slice A2 m c2, rsV ⟨0, pp⟩]) (by simp [results, Try.results13, go_sem, rsV, c50, c51, c52, c53]) rfl ?_
                  have hne : (Value.slice A2 m c2).ownBlock ≠ some (N + 1) := fun e => by have := (Hown2.out.lt _ e).1; omega
                  show RefDone _ _ ((doM l o).1, (doM l o).2) w _ _
                  rw [Hd1.out, Hd2.out]
                  refine ⟨A2, c2, by rw [← Hm.out], ?_, (below_set4 hbw2 (by omega)).drew⟩
                  refine .inr (own_drew (own_le (base := M8 + 1) ?_ (by omega)))
                  show World.ownsRow _ _ _ _ (.slice A2 (T.filter nz).length c2) (T.filter nz).length ((T.filter nz).flatMap Pg.cells)
                  rw [← Hm.out]
                  exact own_setCell (own_setCell (own_setCell (own_setCell Hown2.out hne _) hne _) hne _) hne _
            have hk3 : o.kind = 3 := by omega
            have hk3b : (o.kind == 3) = true := by simp [hk3]
            by_cases hbs : 16 < o.body.size
            · have hbi : (16 : Int) < (o.body.size : Int) := by omega
              have hd : doM l o = (l, ⟨5, pg0⟩) := doM_eq Hrl.out (by rw [Hgm.out]; simp [stepF, Hor.out, hk3, hbs])
              have Hd := Lib.hid hd; clear hd
              go_wp2_with fail
              refine bodyPost_ret (v := .tuple #[.slice A l.length cap, rsV ⟨5, pg0⟩]) (by simp [results, Try.results13, go_sem, rsV, pg0, c50, c51, c52, c53, hn2, hM8']) rfl ?_
              rw [Hd.out]
              exact refDone_same Hr.out (by repeat' (first | exact hbw | refine Below.alloc ?_ (by first | omega | (simp; omega)) _ | refine Below.setCell ?_ (by first | omega | (simp; omega)) _ | refine Below.drew ?_))
            have hbi : ¬ (16 : Int) < (o.body.size : Int) := by omega
            by_cases hv : p.ver = 2147483647
            · have hvb : (p.ver == 2147483647) = true := by simp [hv]
              have hd : doM l o = (l, ⟨7, pg0⟩) := doM_eq Hrl.out (by rw [Hgm.out]; simp [stepF, Hor.out, hk3, hbs, hv])
              have Hd := Lib.hid hd; clear hd
              go_wp2_with fail
              refine bodyPost_ret (v := .tuple #[.slice A l.length cap, rsV ⟨7, pg0⟩]) (by simp [results, Try.results13, go_sem, rsV, pg0, c50, c51, c52, c53, hn2, hM8']) rfl ?_
              rw [Hd.out]
              exact refDone_same Hr.out (by repeat' (first | exact hbw | refine Below.alloc ?_ (by first | omega | (simp; omega)) _ | refine Below.setCell ?_ (by first | omega | (simp; omega)) _ | refine Below.drew ?_))
            have hvb : (p.ver == 2147483647) = false := by simpa using hv
            have hvn : ¬ 2147483647 ≤ p.ver := by omega
            have hvw : IntKind.i64.wrap (p.ver + 1) = p.ver + 1 := IntWalk.i64_in _ (by omega)
            have hst : stepF (getM l o.id) o = (some (pgUp p o.body), ⟨0, pgUp p o.body⟩) := by rw [Hgm.out]; simp [stepF, Hor.out, hk3, hbs, hvn]
            have hd1 : (doM l o).1 = ((tab l).set n (pgUp p o.body)).filter nz := by
              have e := out_do (p := pgUp p o.body) Hrl.out Hor.out (by rw [hst]; try rfl)
              rw [← e, Hn.out, Int.toNat_natCast]
            have hd2 : (doM l o).2 = ⟨0, pgUp p o.body⟩ := by rw [(doM_did (o := o) Hrl.out).told, hst]; try rfl
            have Hd1 := Lib.hid hd1; have Hd2 := Lib.hid hd2; clear hd1 hd2 hst
            go_wp2_with fail
            refine tail_go (l := l) (o := o) (tail_of (pgUp p o.body) Hrl.out (by omega) hn17 hbw (by omega) hM8' (by omega) hMw Hown.out c50 c51 c52 c53 f50 f51 f52 f53) Hd1.out Hd2.out ?_
            clear hk1 hk1b hk1g hk2 hk4 hk3 hk3b hbs hbi hv hvb hvn hvw hp0 hp0b o1 o2
            intro pp T W2 ht hd1 hd2
            have Hd1 := Lib.hid hd1
            have Hd2 := Lib.hid hd2
            have Ht := Lib.hid ht
            have hs2 := ht.size
            obtain ⟨i0, hi0, hz0, hz1, hz2⟩ := info_parts Try.infoPg
            clear ht hd1 hd2 c30 c31 c32 c50 c51 c52 c53 f50 f51 f52 f53 g0 g1 g2 y0 y1 y2
            obtain ⟨wo, rfl⟩ : ∃ wo : World, wo = wr := ⟨_, rfl⟩
            go_loopg [9, 10] 16 (fun g out i wr2 => ∃ (k : Nat) (A2 : Option Addr) (c2 m : Nat), 1 ≤ k ∧ k ≤ 17 ∧ g = 17 - k ∧ i = .int .i64 k ∧ out = .slice A2 m c2 ∧ m = ((T.take k).filter nz).length ∧ wr2.ownsRow (M8 + 1) 31 3 (.slice A2 m c2) m (((T.take k).filter nz).flatMap Pg.cells) ∧ Below (M8 + 1) W2 wr2)
            case atStart =>
              have := Ht.out.head
              exact ⟨1, none, 0, 0, Nat.le_refl _, by omega, rfl, rfl, rfl, by rw [this]; rfl, by rw [this]; exact World.ownsRow_nil _ _ _ _, Below.refl _ _⟩
            case round =>
              obtain ⟨k, A2, c2, m, hk1', hk17, hg, rfl, rfl, hm, hown2, hb2⟩ := hrel
              have Hg := Lib.hid hg; clear hg
              have Hown2 := Lib.hid hown2; clear hown2
              have Hm := Lib.hid hm; clear hm
              have hs3 : M8 + 1 ≤ wr.heap.size := by have := hb2.size; omega
              by_cases hlt2 : k < 17
              · obtain ⟨x, b8, off8, hx, hA8, hb8, hcell8⟩ := rd_p Ht.out.rd (k := k) (by rw [Ht.out.len]; exact hlt2)
                obtain ⟨rfl, rfl⟩ : M = b8 ∧ 0 = off8 := by simpa using hA8
                obtain ⟨x0, x1, x2⟩ := hcell8 wr hb2
                simp only [Nat.zero_add] at x0 x1 x2
                have hki : (k : Int) < 17 := by omega
                have hft := filter_take hx
                have Hft := Lib.hid hft; clear hft hA8 hcell8 hx
                by_cases hx0 : x.id = 0
                · have hxb : (x.id == 0) = true := by simpa using hx0
                  go_wp2_with fail
                  go_roundg (17 - (k + 1))
                  case measure => have := Hg.out; omega
                  case rel =>
                    rw [if_pos hx0, List.append_nil] at Hft
                    exact ⟨k + 1, A2, c2, m, by omega, by omega, rfl, by go_num, rfl, by rw [Hft.out]; exact Hm.out, by rw [Hft.out]; exact Hown2.out, hb2⟩
                · have hxb : (x.id == 0) = false := by simpa using hx0
                  have hm17 : m ≤ 17 := by rw [Hm.out]; exact Nat.le_trans (List.length_filter_le _ _) (by simp; omega)
                  go_wp2_with (at_builtin; refine list_app rfl (.tmp 119) (.tmp 123) 22 rfl (M8 + 1) 31 i0 (.agg #[.int .i64 0, .int .i64 0, .string .empty]) 3 32 Try.underlying22 hi0 hz0 hz1 hz2 rfl (by decide) rfl (Hown2.out.alloc _) (m := 1) (news := Pg.cells x) rfl rfl (by simp) (new_src (cs := (Pg.cells x).toArray) rfl) (pg_one x) ?_ ?_ ?_ ?_)
                  · unfold maxLen; omega
                  · omega
                  · simp; omega
                  intro v' w5 ho5 hg5 _
                  have hb5 : Below (M8 + 1) W2 w5 := (hb2.alloc hs3 _).grown hg5 (by simp; omega) (fun q hq => (Hown2.out.lt q hq).1)
                  obtain ⟨A', c', rfl, _, _⟩ := own_slice ho5
                  have Ho5 := Lib.hid ho5; clear ho5 hg5
                  go_wp2_with fail
                  go_roundg (17 - (k + 1))
                  case measure => have := Hg.out; omega
                  case rel =>
                    rw [if_neg hx0] at Hft
                    exact ⟨k + 1, A', c', m + 1, by omega, by omega, rfl, by go_num, rfl, by rw [Hft.out, List.length_append, ← Hm.out]; rfl, by rw [Hft.out, List.flatMap_append]; simpa using Ho5.out, hb5⟩
              · obtain rfl : k = 17 := by omega
                have hT17 : T.take 17 = T := List.take_of_length_le (by rw [Ht.out.len]; exact Nat.le_refl _)
                rw [hT17] at Hm Hown2
                have c80 := (hb2.cell (p := ⟨M8, 0, none⟩) (Nat.lt_succ_self _)).trans Ht.out.c80
                have c81 := (hb2.cell (p := ⟨M8, 1, none⟩) (Nat.lt_succ_self _)).trans Ht.out.c81
                have c82 := (hb2.cell (p := ⟨M8, 2, none⟩) (Nat.lt_succ_self _)).trans Ht.out.c82
                have hn2' : N + 1 < M8 + 1 := by omega
                have c50 := (hb2.cell (p := ⟨N + 1, 0, none⟩) hn2').trans Ht.out.c50
                have c51 := (hb2.cell (p := ⟨N + 1, 1, none⟩) hn2').trans Ht.out.c51
                have c52 := (hb2.cell (p := ⟨N + 1, 2, none⟩) hn2').trans Ht.out.c52
                have c53 := (hb2.cell (p := ⟨N + 1, 3, none⟩) hn2').trans Ht.out.c53
                have f50 := (hb2.frozen (p := ⟨N + 1, 0, none⟩) hn2').trans Ht.out.f50
                have f51 := (hb2.frozen (p := ⟨N + 1, 1, none⟩) hn2').trans Ht.out.f51
                have f52 := (hb2.frozen (p := ⟨N + 1, 2, none⟩) hn2').trans Ht.out.f52
                have f53 := (hb2.frozen (p := ⟨N + 1, 3, none⟩) hn2').trans Ht.out.f53
                have hbw2 : Below w.heap.size w wr := Ht.out.below.trans (hb2.mono (by omega))
                clear hT17 hn2'
                go_wp2_with fail
                go_region
                go_wp2_with fail
                refine bodyPost_ret (v := .tuple #[.slice A2 m c2, rsV ⟨0, pp⟩]) (by simp [results, Try.results13, go_sem, rsV, c50, c51, c52, c53]) rfl ?_
                have hne : (Value.slice A2 m c2).ownBlock ≠ some (N + 1) := fun e => by have := (Hown2.out.lt _ e).1; omega
                show RefDone _ _ ((doM l o).1, (doM l o).2) w _ _
                rw [Hd1.out, Hd2.out]
                refine ⟨A2, c2, by rw [← Hm.out], ?_, (below_set4 hbw2 (by omega)).drew⟩
                refine .inr (own_drew (own_le (base := M8 + 1) ?_ (by omega)))
                show World.ownsRow _ _ _ _ (.slice A2 (T.filter nz).length c2) (T.filter nz).length ((T.filter nz).flatMap Pg.cells)
                rw [← Hm.out]
                exact own_setCell (own_setCell (own_setCell (own_setCell Hown2.out hne _) hne _) hne _) hne _
end Go.Proofs.Ytbnegkkjgkignaa
