/- The contract of ops.All. -/
import Derived.Test.YtbnegkkjgkignaaOps6
import Derived.Test.YtbnegkkjgkignaaOps7
namespace Go.Proofs.Ytbnegkkjgkignaa
open Go.RowKit

/-- all operations, one behind the other -/
def allM : List Pg → List Op → List Pg × List Rs
  | l, [] => (l, [])
  | l, o :: os => ((allM (doM l o).1 os).1, (doM l o).2 :: (allM (doM l o).1 os).2)
theorem allM_snoc : ∀ (os : List Op) (l : List Pg) (o : Op), allM l (os ++ [o]) = ((doM (allM l os).1 o).1, (allM l os).2 ++ [(doM (allM l os).1 o).2])
  | [], l, o => rfl
  | p :: os, l, o => by
    rw [List.cons_append, allM, allM_snoc os]
    rfl
theorem allM_take {l : List Pg} {os : List Op} {k : Nat} {o : Op} (h : os[k]? = some o) : allM l (os.take (k + 1)) = ((doM (allM l (os.take k)).1 o).1, (allM l (os.take k)).2 ++ [(doM (allM l (os.take k)).1 o).2]) := by
  have : os.take (k + 1) = os.take k ++ [o] := by rw [List.take_add_one, h]; rfl
  rw [this, allM_snoc]
theorem allM_len : ∀ (os : List Op) (l : List Pg), (allM l os).2.length = os.length
  | [], _ => rfl
  | o :: os, l => by rw [allM, List.length_cons, allM_len os, List.length_cons]
theorem allM_len1 : ∀ (os : List Op) (l : List Pg), (allM l os).1.length ≤ l.length + os.length
  | [], _ => Nat.le_refl _
  | o :: os, l => by
    have h1 := allM_len1 os (doM l o).1
    have h2 := doM_len l o
    rw [allM, List.length_cons]
    show (allM (doM l o).1 os).1.length ≤ _
    omega

def Op.cells (o : Op) : List Value := [.int .i64 o.kind, .int .i64 o.id, .string o.body]
def Rs.cells (r : Rs) : List Value := [.int .i64 r.e, .int .i64 r.pg.id, .int .i64 r.pg.ver, .string r.pg.body]
theorem rs_len (r : Rs) : r.cells.length = 4 := rfl
theorem rs_one : ∀ r : Rs, ∀ u ∈ Rs.cells r, u.oneCell' = true := by
  intro x u hu; simp [Rs.cells] at hu; rcases hu with rfl | rfl | rfl | rfl <;> rfl
theorem rd_o {w : World} {B : Nat} {A : Option Addr} {l : List Op} (h : Rd Op.cells 3 w B A l) {k : Nat} (hk : k < l.length) :
    ∃ c b off, l[k]? = some c ∧ A = some ⟨b, off, none⟩ ∧ b < B ∧ ∀ W, Below B w W → W.cell? ⟨b, off + k * 3, none⟩ = some (.int .i64 c.kind) ∧ W.cell? ⟨b, off + k * 3 + 1, none⟩ = some (.int .i64 c.id) ∧ W.cell? ⟨b, off + k * 3 + 2, none⟩ = some (.string c.body) := by
  obtain ⟨c, b, off, hc, hA, hb, hcell⟩ := h.at_ hk
  exact ⟨c, b, off, hc, hA, hb, fun W hW => ⟨hcell W hW 0 _ rfl, hcell W hW 1 _ rfl, hcell W hW 2 _ rfl⟩⟩
theorem Try.infoRs : (Try.prog.info? 33).map (fun i => (i.zero, i.size, i.bytes)) = some (some (.agg #[.int .i64 0, .int .i64 0, .int .i64 0, .string .empty]), 4, 40) := by kernel_rfl

/-- a list that lies in memory, in a block of which something is known -/
def Rd' {α : Type} (f : α → List Value) (sz : Nat) (w : World) (ok : Nat → Prop) (A : Option Addr) (l : List α) : Prop :=
  l ≠ [] → ∃ b off, A = some ⟨b, off, none⟩ ∧ ok b ∧ ∀ k x, l[k]? = some x → ∀ j v, (f x)[j]? = some v → w.cell? ⟨b, off + k * sz + j, none⟩ = some v
section
variable {α : Type} {f : α → List Value} {sz : Nat} {w w' : World} {ok ok' : Nat → Prop} {A : Option Addr} {l : List α} {B : Nat}
theorem Rd'.imp (h : Rd' f sz w ok A l) (hi : ∀ b, ok b → ok' b) : Rd' f sz w ok' A l := fun hn => by
  obtain ⟨b, off, e, hb, hc⟩ := h hn
  exact ⟨b, off, e, hi b hb, hc⟩
theorem Rd'.keep (h : Rd' f sz w ok A l) (hk : ∀ b, ok b → w'.heap[b]? = w.heap[b]?) : Rd' f sz w' ok A l := fun hn => by
  obtain ⟨b, off, e, hb, hc⟩ := h hn
  exact ⟨b, off, e, hb, fun k x hx j v hv => (World.cell?_of_block (a := ⟨b, off + k * sz + j, none⟩) (hk b hb)).trans (hc k x hx j v hv)⟩
theorem Rd.to' (h : Rd f sz w B A l) : Rd' f sz w (fun b => b < B) A l := h
theorem Rd'.to (h : Rd' f sz w ok A l) (hi : ∀ b, ok b → b < B) : Rd f sz w B A l := h.imp hi
theorem Rd'.of_own {base : Nat} {e : TypeId} {c : Nat} {n : Nat} (h : w.ownsRow base e sz (.slice A n c) n (l.flatMap f)) (hf : ∀ x, (f x).length = sz) (hsz : 0 < sz) : Rd' f sz w (fun b => base ≤ b ∧ b < w.heap.size) A l := fun hn => by
  obtain ⟨b, off, e1, hb, hc⟩ := Rd.of_own h hf hsz hn
  exact ⟨b, off, e1, ⟨(h.lt b (by rw [e1]; rfl)).1, hb⟩, hc⟩
end
theorem own_set14 {w : World} {base sz n b c : Nat} {e : TypeId} {v : Value} {xs : List Value} (u0 u1 u2 u3 u4 : Value) (h : w.ownsRow base e sz v n xs) (h1 : v.ownBlock ≠ some b) (h2 : v.ownBlock ≠ some c) :
    (((((w.setCell ⟨b, 0, none⟩ u0).setCell ⟨c, 0, none⟩ u1).setCell ⟨c, 1, none⟩ u2).setCell ⟨c, 2, none⟩ u3).setCell ⟨c, 3, none⟩ u4).ownsRow base e sz v n xs :=
  own_setCell (own_setCell (own_setCell (own_setCell (own_setCell h h1 _) h2 _) h2 _) h2 _) h2 _
/-- a map and what was told, in memory -/
def AllDone (r : List Pg × List Rs) (w : World) (e : Ending) (w' : World) : Prop :=
  ∃ A cap A2 cap2, e = .returned (.tuple #[.agg #[.slice A r.1.length cap], .slice A2 r.2.length cap2]) ∧ Rd Pg.cells 3 w' w'.heap.size A r.1 ∧ Rd Rs.cells 4 w' w'.heap.size A2 r.2 ∧ Below w.heap.size w w'

set_option maxHeartbeats 4000000 in
theorem opsAll_any (w : World) (A : Option Addr) (cap : Nat) (l : List Pg) (A2 : Option Addr) (cap2 : Nat) (os : List Op) (hl : l.length + os.length ≤ 900000) (hr : Rd Pg.cells 3 w w.heap.size A l) (hr2 : Rd Op.cells 3 w w.heap.size A2 os) :
    Calls Try.prog 18 #[.agg #[.slice A l.length cap], .slice A2 os.length cap2] w (AllDone (allM l os) w) := by
  obtain ⟨W, hW⟩ : ∃ W, W = (w.alloc (.cells #[.slice A l.length cap] 24)).alloc (.cells #[.slice none 0 0] 24) := ⟨_, rfl⟩
  obtain ⟨N, hN⟩ : ∃ N, N = w.heap.size := ⟨_, rfl⟩
  have hbW : Below w.heap.size w W := by rw [hW]; exact ((Below.refl _ _).alloc (Nat.le_refl _) _).alloc (by simp) _
  have hsW : W.heap.size = N + 2 := by rw [hW, hN]; simp
  have h0 : W.heap[N]? = some (.cells #[.slice A l.length cap] 24 (0, 0)) := by rw [hW, hN, heap_alloc_old _ _ (by simp), heap_alloc_new]
  have h1 : W.heap[N + 1]? = some (.cells #[.slice none 0 0] 24 (0, 0)) := by
    have := heap_alloc_new (w.alloc (.cells #[.slice A l.length cap] 24)) (.cells #[.slice none 0 0] 24)
    rw [hW, hN]
    simpa using this
  have c0 := cells_of h0 0
  have f0 := frozen_of h0 0
  have c1 := cells_of h1 0
  have f1 := frozen_of h1 0
  have hr' : Rd' Pg.cells 3 W (fun b => b ≠ N ∧ b ≠ N + 1 ∧ b < W.heap.size ∧ (Value.slice none 0 0).ownBlock ≠ some b) A l := ((hr.below hbW).to').imp fun b hb => ⟨by omega, by omega, by omega, by simp [Value.ownBlock]⟩
  have hW' := hW.symm
  have hN' := hN.symm
  have Hr := Lib.hid hr'; clear hr' hr
  have Hr2 := Lib.hid hr2; clear hr2
  have HbW := Lib.hid hbW
  obtain ⟨i0, hi0, hz0, hz1, hz2⟩ := info_parts Try.infoRs
  clear hW hN hbW h0 h1
  go_enter Try.func18, Try.ntmps18
  go_wp2_with fail
  go_loopg [6, 12] os.length (fun g told i wr => ∃ (k : Nat) (A' : Option Addr) (c' : Nat) (A3 : Option Addr) (c3 : Nat), k ≤ os.length ∧ g = os.length - k ∧ i = .int .i64 k ∧ told = .slice A3 k c3 ∧
    wr.cell? ⟨N, 0, none⟩ = some (.slice A' (allM l (os.take k)).1.length c') ∧ wr.frozen? ⟨N, 0, none⟩ = false ∧ wr.cell? ⟨N + 1, 0, none⟩ = some (.slice none 0 0) ∧ wr.frozen? ⟨N + 1, 0, none⟩ = false ∧
    Rd' Pg.cells 3 wr (fun b => b ≠ N ∧ b ≠ N + 1 ∧ b < wr.heap.size ∧ (Value.slice A3 k c3).ownBlock ≠ some b) A' (allM l (os.take k)).1 ∧ wr.ownsRow (N + 2) 33 4 (.slice A3 k c3) k ((allM l (os.take k)).2.flatMap Rs.cells) ∧ Below w.heap.size w wr ∧ N + 2 ≤ wr.heap.size)
  case atStart => exact ⟨0, A, cap, none, 0, Nat.zero_le _, rfl, rfl, rfl, c0, f0, c1, f1, Hr.out, World.ownsRow_nil _ _ _ _, HbW.out, by omega⟩
  case round =>
    obtain ⟨k, A', c', A3, c3, hk, hg, rfl, rfl, e0, e1, e2, e3, hrk, hown, hb, hsr⟩ := hrel
    have Hg := Lib.hid hg; clear hg
    have Hrk := Lib.hid hrk; clear hrk
    have Hown := Lib.hid hown; clear hown
    have hlk : (allM l (os.take k)).1.length ≤ 900000 := by have := allM_len1 (os.take k) l; have := List.length_take_le k os; omega
    have Hlk := Lib.hid hlk; clear hlk
    clear hW' c0 f0 c1 f1
    by_cases hlt : k < os.length
    · obtain ⟨o, b, off, ho, rfl, hbb, hcell⟩ := rd_o Hr2.out hlt
      obtain ⟨g0, g1, g2⟩ := hcell wr hb
      have hki : (k : Int) < (os.length : Int) := by omega
      have hbw : b < wr.heap.size := by omega
      obtain ⟨M8, hM8⟩ : ∃ M8, M8 = wr.heap.size := ⟨_, rfl⟩
      have hM8' := hM8.symm
      have hn0 : N < M8 := by omega
      have hn1 : N + 1 < M8 := by omega
      rw [← hM8] at hbw hsr
      have HM8 := Lib.hid hM8
      have Ho := Lib.hid ho
      clear hM8 hcell ho
      go_wp2_with fail
      generalize hWc : World.alloc (World.alloc wr _) _ = Wc
      have hbc : Below wr.heap.size wr Wc := by rw [← hWc]; exact ((Below.refl _ _).alloc (Nat.le_refl _) _).alloc (by simp) _
      have hsc : Wc.heap.size = M8 + 2 := by rw [← hWc]; simp [hM8']
      have h9 : Wc.heap[M8 + 1]? = some (.cells #[.int .i64 0, .int .i64 0, .int .i64 0, .string ⟨#[]⟩] 33 (0, 0)) := by
        have := heap_alloc_new (wr.alloc (.cells #[.int .i64 o.kind, .int .i64 o.id, .string o.body] 26)) (.cells #[.int .i64 0, .int .i64 0, .int .i64 0, .string ⟨#[]⟩] 33)
        rw [← hWc, ← hM8']
        simpa using this
      refine (opsDo_any Wc A' c' _ o (by have := Hlk.out; omega) ?_).mono ?_
      · exact (Hrk.out.keep (fun b hb => hbc.block b hb.2.2.1)).to (fun b hb => by have := hb.2.2.1; omega)
      rintro e V ⟨A4, c4, rfl, hAB, hbV⟩
      have hrt := allM_take (l := l) Ho.out
      obtain ⟨r, hr⟩ : ∃ r, r = doM (allM l (os.take k)).1 o := ⟨_, rfl⟩
      rw [← hr] at hAB hrt ⊢
      have hsV := hbV.size
      have hrd : Rd' Pg.cells 3 V (fun b => b ≠ N ∧ b ≠ N + 1 ∧ b ≠ M8 + 1 ∧ b < V.heap.size ∧ (Value.slice A3 k c3).ownBlock ≠ some b) A4 r.1 := by
        rcases hAB with ⟨rfl, h2⟩ | h2
        · rw [h2]
          exact ((Hrk.out.imp (ok' := fun b => b ≠ N ∧ b ≠ N + 1 ∧ b < M8 ∧ (Value.slice A3 k c3).ownBlock ≠ some b) fun b hb => ⟨hb.1, hb.2.1, by have := hb.2.2.1; omega, hb.2.2.2⟩).keep (w' := V) fun b hb => (hbV.block b (by have := hb.2.2.1; omega)).trans (hbc.block b (by have := hb.2.2.1; omega))).imp fun b hb => ⟨hb.1, hb.2.1, by have := hb.2.2.1; omega, by have := hb.2.2.1; omega, hb.2.2.2⟩
        · exact (Rd'.of_own h2 pg_len (by decide)).imp fun b hb => ⟨by omega, by omega, by omega, hb.2, fun e => by have := (Hown.out.lt _ e).2; omega⟩
      have hown3 := own_up (own_up Hown.out hbc) hbV
      have hne1 : (Value.slice A3 k c3).ownBlock ≠ some N := fun e => by have := (Hown.out.lt _ e).1; omega
      have hne2 : (Value.slice A3 k c3).ownBlock ≠ some (M8 + 1) := fun e => by have := (Hown.out.lt _ e).2; omega
      have hne3 : (Value.slice A3 k c3).ownBlock ≠ some (N + 1) := fun e => by have := (Hown.out.lt _ e).1; omega
      have hblk : ∀ j, j < M8 → V.heap[j]? = wr.heap[j]? := fun j hj => (hbV.block j (by omega)).trans (hbc.block j (by omega))
      have e0' := (World.cell?_of_block (a := ⟨N, 0, none⟩) (hblk N hn0)).trans e0
      have e1' := (World.frozen?_of_block (a := ⟨N, 0, none⟩) (hblk N hn0)).trans e1
      have e2' := (World.cell?_of_block (a := ⟨N + 1, 0, none⟩) (hblk (N + 1) hn1)).trans e2
      have e3' := (World.frozen?_of_block (a := ⟨N + 1, 0, none⟩) (hblk (N + 1) hn1)).trans e3
      have h9V := (hbV.block (M8 + 1) (by omega)).trans h9
      have d0 := cells_of h9V 0
      have d1 := cells_of h9V 1
      have d2 := cells_of h9V 2
      have d3 := cells_of h9V 3
      have x0 := frozen_of h9V 0
      have x1 := frozen_of h9V 1
      have x2 := frozen_of h9V 2
      have x3 := frozen_of h9V 3
      simp only [List.getElem?_toArray, List.getElem?_cons_zero, List.getElem?_cons_succ] at d0 d1 d2 d3
      have hbV' : Below w.heap.size w V := hb.trans ((hbc.mono (by omega)).trans (hbV.mono (by omega)))
      have Hrd := Lib.hid hrd
      have Hown3 := Lib.hid hown3
      have Hrt := Lib.hid hrt
      have HbV := Lib.hid hbV'
      have hsV2 : M8 + 2 ≤ V.heap.size := by omega
      have hq1 : ¬ N = M8 + 1 := by omega
      have hq2 : ¬ M8 + 1 = N := by omega
      have hq3 : ¬ N = M8 := by omega
      have hq4 : ¬ M8 = N := by omega
      have hq5 : N < V.heap.size := by omega
      have hq6 : N + 1 < V.heap.size := by omega
      have hq7 : M8 + 1 < V.heap.size := by omega
      have hq8 : M8 < V.heap.size := by omega
      clear hWc hbc h9 hAB hr hrd hown3 hblk h9V hbV hbV' hrt e0 e1 e2 e3 g0 g1 g2 hsV hsc hsr
      have hownX := own_set14 (b := N) (c := M8 + 1) (.slice A4 r.1.length c4) (.int .i64 r.2.e) (.int .i64 r.2.pg.id) (.int .i64 r.2.pg.ver) (.string r.2.pg.body) Hown3.out hne1 hne2
      have HownX := Lib.hid hownX; clear hownX
      unfold rsV
      go_wp2_with (at_builtin; refine list_app rfl (.tmp 22) (.tmp 24) 48 rfl (N + 2) 33 i0 (.agg #[.int .i64 0, .int .i64 0, .int .i64 0, .string .empty]) 4 40 Try.underlying48 hi0 hz0 hz1 hz2 rfl (by decide) rfl (HownX.out.alloc (.cells #[.int .i64 r.2.e, .int .i64 r.2.pg.id, .int .i64 r.2.pg.ver, .string r.2.pg.body] 33)) (m := 1) (news := Rs.cells r.2) rfl rfl (by simp) (new_src (cs := (Rs.cells r.2).toArray) (by simp)) (rs_one r.2) ?_ ?_ ?_ ?_)
      · unfold maxLen; omega
      · omega
      · simp; omega
      intro v' w5 ho5 hg5 hv5
      generalize hWf : World.alloc _ _ = Wf at hg5
      have hsF : Wf.heap.size = V.heap.size + 1 := by rw [← hWf]; simp
      have hbF : Below w.heap.size w Wf := by rw [← hWf]; exact (below_end HbV.out (by omega) (by omega)).alloc (by simp; omega) _
      have hkF : ∀ j, j ≠ N → j ≠ M8 + 1 → j < V.heap.size → Wf.heap[j]? = V.heap[j]? := fun j h1 h2 h3 => by
        rw [← hWf, heap_alloc_old _ _ (by simpa using h3), Below.heap_setCell _ _ _ _ h2, Below.heap_setCell _ _ _ _ h2, Below.heap_setCell _ _ _ _ h2, Below.heap_setCell _ _ _ _ h2, Below.heap_setCell _ _ _ _ h1]
      have e0F : Wf.cell? ⟨N, 0, none⟩ = some (.slice A4 r.1.length c4) := by rw [← hWf]; clear hWf; go_simp
      have e1F : Wf.frozen? ⟨N, 0, none⟩ = false := by rw [← hWf]; clear hWf; go_simp
      have e2F : Wf.cell? ⟨N + 1, 0, none⟩ = some (.slice none 0 0) := (World.cell?_of_block (a := ⟨N + 1, 0, none⟩) (hkF (N + 1) (by omega) (by omega) hq6)).trans e2'
      have e3F : Wf.frozen? ⟨N + 1, 0, none⟩ = false := (World.frozen?_of_block (a := ⟨N + 1, 0, none⟩) (hkF (N + 1) (by omega) (by omega) hq6)).trans e3'
      obtain ⟨A5, c5, rfl, _, _⟩ := own_slice ho5
      have hk5 : ∀ j, j < Wf.heap.size → (Value.slice A3 k c3).ownBlock ≠ some j → w5.heap[j]? = Wf.heap[j]? := fun j h1 h2 => hg5.block j h1 (fun e => h2 e.symm)
      have e0 := (World.cell?_of_block (a := ⟨N, 0, none⟩) (hk5 N (by omega) hne1)).trans e0F
      have e1 := (World.frozen?_of_block (a := ⟨N, 0, none⟩) (hk5 N (by omega) hne1)).trans e1F
      have e2 := (World.cell?_of_block (a := ⟨N + 1, 0, none⟩) (hk5 (N + 1) (by omega) hne3)).trans e2F
      have e3 := (World.frozen?_of_block (a := ⟨N + 1, 0, none⟩) (hk5 (N + 1) (by omega) hne3)).trans e3F
      have hs5 := hg5.size
      have hrd5 : Rd' Pg.cells 3 w5 (fun b => b ≠ N ∧ b ≠ N + 1 ∧ b < w5.heap.size ∧ (Value.slice A5 (k + 1) c5).ownBlock ≠ some b) A4 r.1 := by
        refine (Hrd.out.keep (w' := w5) fun b hb => (hk5 b (by have := hb.2.2.2.1; omega) hb.2.2.2.2).trans (hkF b hb.1 hb.2.2.1 hb.2.2.2.1)).imp fun b hb => ⟨hb.1, hb.2.1, by have := hb.2.2.2.1; omega, fun e => ?_⟩
        rcases hv5 with h | h
        · rw [h] at e; exact hb.2.2.2.2 e
        · rw [h] at e
          have := hb.2.2.2.1
          injection e with e
          omega
      have hb5 : Below w.heap.size w w5 := hbF.grown hg5 (by omega) (fun q hq => by have := (Hown.out.lt q hq).1; omega)
      have Hrd5 := Lib.hid hrd5
      have Ho5 := Lib.hid ho5
      have Hb5 := Lib.hid hb5
      have hs6 : N + 2 ≤ w5.heap.size := by omega
      clear hrd5 ho5 hb5 hk5 hkF hg5 hWf e0F e1F e2F e3F e0' e1' e2' e3' d0 d1 d2 d3 x0 x1 x2 x3 hbF hv5
      go_wp2_with fail
      go_roundg (os.length - (k + 1))
      case measure => have := Hg.out; omega
      case rel =>
        refine ⟨k + 1, A4, c4, A5, c5, by omega, rfl, by go_num, rfl, ?_, e1, e2, e3, ?_, ?_, Hb5.out, hs6⟩
        · rw [Hrt.out]; exact e0
        · rw [Hrt.out]; exact Hrd5.out
        · rw [Hrt.out, List.flatMap_append]; simpa using Ho5.out
    · obtain rfl : k = os.length := by omega
      go_wp2_with fail
      refine bodyPost_ret (v := .tuple #[.agg #[.slice A' (allM l os).1.length c'], .slice A3 os.length c3]) (by simp [results, Try.results18, go_sem, e2]) rfl ?_
      have h1 := Hrk.out
      have h2 := Hown.out
      rw [List.take_length] at h1 h2
      have hne3 : (Value.slice A3 os.length c3).ownBlock ≠ some (N + 1) := fun e => by have := (h2.lt _ e).1; omega
      refine ⟨A', c', A3, c3, by rw [allM_len], ?_, ?_, hb.setCell (p := ⟨N + 1, 0, none⟩) (by show w.heap.size ≤ N + 1; omega) _⟩
      · exact (h1.keep fun b hb => Below.heap_setCell _ _ _ _ hb.2.1).to fun b hb => by simpa using hb.2.2.1
      · exact Rd.of_own (own_setCell h2 hne3 _) rs_len (by decide)
end Go.Proofs.Ytbnegkkjgkignaa
