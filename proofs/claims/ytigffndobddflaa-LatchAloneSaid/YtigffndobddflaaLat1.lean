/- Latches in memory; the contract of latch.open. -/
import Derived.Test.YtigffndobddflaaLat0
import Derived.Test.YtigffndobddflaaRegD
namespace Go.Proofs.Ytigffndobddflaa
open Go.RowKit

def Wt.cells (t : Wt) : List Value := [.int .i64 t.who, .bool t.ex]
theorem wt_len (t : Wt) : t.cells.length = 2 := rfl
theorem wt_one : ∀ t : Wt, ∀ u ∈ Wt.cells t, u.oneCell' = true := by
  intro x u hu; simp [Wt.cells] at hu; rcases hu with rfl | rfl <;> rfl
theorem rd_w {w : World} {B : Nat} {A : Option Addr} {l : List Wt} (h : Rd Wt.cells 2 w B A l) {k : Nat} (hk : k < l.length) :
    ∃ c b off, l[k]? = some c ∧ A = some ⟨b, off, none⟩ ∧ b < B ∧ ∀ W, Below B w W → W.cell? ⟨b, off + k * 2, none⟩ = some (.int .i64 c.who) ∧ W.cell? ⟨b, off + k * 2 + 1, none⟩ = some (.bool c.ex) := by
  obtain ⟨c, b, off, hc, hA, hb, hcell⟩ := h.at_ hk
  exact ⟨c, b, off, hc, hA, hb, fun W hW => ⟨hcell W hW 0 _ rfl, hcell W hW 1 _ rfl⟩⟩

/-- a latch's box -/
structure LB (N : Nat) (l : La) (A : Option Addr) (ac : Nat) (Q : Option Addr) (qc : Nat) (U : World) : Prop where
  c0 : U.cell? ⟨N, 0, none⟩ = some (.slice A l.hs.length ac)
  c1 : U.cell? ⟨N, 1, none⟩ = some (.bool l.ex)
  c2 : U.cell? ⟨N, 2, none⟩ = some (.slice Q l.q.length qc)
  f0 : U.frozen? ⟨N, 0, none⟩ = false
  f1 : U.frozen? ⟨N, 1, none⟩ = false
  f2 : U.frozen? ⟨N, 2, none⟩ = false
  lt : N < U.heap.size
theorem lt_of_keep {N : Nat} {U U' : World} (hk : U'.heap[N]? = U.heap[N]?) (h : N < U.heap.size) : N < U'.heap.size := by
  have h1 := Array.getElem?_eq_getElem h
  rw [← hk] at h1
  exact (Array.getElem?_eq_some_iff.1 h1).1
section
variable {N B : Nat} {l r : La} {A Q A' Q' : Option Addr} {ac qc ac' qc' : Nat} {U U' : World} {t : TypeId}
theorem LB.keep (H : LB N l A ac Q qc U) (hk : U'.heap[N]? = U.heap[N]?) : LB N l A ac Q qc U' :=
  ⟨(World.cell?_of_block (a := ⟨N, 0, none⟩) hk).trans H.c0, (World.cell?_of_block (a := ⟨N, 1, none⟩) hk).trans H.c1, (World.cell?_of_block (a := ⟨N, 2, none⟩) hk).trans H.c2,
    (World.frozen?_of_block (a := ⟨N, 0, none⟩) hk).trans H.f0, (World.frozen?_of_block (a := ⟨N, 1, none⟩) hk).trans H.f1, (World.frozen?_of_block (a := ⟨N, 2, none⟩) hk).trans H.f2, lt_of_keep hk H.lt⟩
theorem LB.up (H : LB N l A ac Q qc U) (hb : Below B U U') (hN : N < B) : LB N l A ac Q qc U' := H.keep (hb.block N hN)
theorem LB.of (hU : U.heap[N]? = some (.cells #[.slice A l.hs.length ac, .bool l.ex, .slice Q l.q.length qc] t (0, 0))) : LB N l A ac Q qc U :=
  ⟨cells_of hU 0, cells_of hU 1, cells_of hU 2, frozen_of hU 0, frozen_of hU 1, frozen_of hU 2, (Array.getElem?_eq_some_iff.1 hU).1⟩
theorem LB.set0 (H : LB N l A ac Q qc U) (hs : List Int) (A' : Option Addr) (ac' : Nat) : LB N { l with hs := hs } A' ac' Q qc (U.setCell ⟨N, 0, none⟩ (.slice A' hs.length ac')) := by
  obtain ⟨c0, c1, c2, f0, f1, f2, lt⟩ := H
  constructor <;> (try simp only []) <;> first | go_simp | (simp; omega)
theorem LB.set1 (H : LB N l A ac Q qc U) (b : Bool) : LB N { l with ex := b } A ac Q qc (U.setCell ⟨N, 1, none⟩ (.bool b)) := by
  obtain ⟨c0, c1, c2, f0, f1, f2, lt⟩ := H
  constructor <;> (try simp only []) <;> first | go_simp | (simp; omega)
theorem LB.set2 (H : LB N l A ac Q qc U) (q : List Wt) (Q' : Option Addr) (qc' : Nat) : LB N { l with q := q } A ac Q' qc' (U.setCell ⟨N, 2, none⟩ (.slice Q' q.length qc')) := by
  obtain ⟨c0, c1, c2, f0, f1, f2, lt⟩ := H
  constructor <;> (try simp only []) <;> first | go_simp | (simp; omega)
end
/-- an empty box -/
structure LZ (N : Nat) (U : World) : Prop where
  c0 : U.cell? ⟨N, 0, none⟩ = some (.slice none 0 0)
  c1 : U.cell? ⟨N, 1, none⟩ = some (.bool false)
  c2 : U.cell? ⟨N, 2, none⟩ = some (.slice none 0 0)
  f0 : U.frozen? ⟨N, 0, none⟩ = false
  f1 : U.frozen? ⟨N, 1, none⟩ = false
  f2 : U.frozen? ⟨N, 2, none⟩ = false
  lt : N < U.heap.size
theorem LB.lz {N : Nat} {U : World} (h : LB N ⟨[], false, []⟩ none 0 none 0 U) : LZ N U := ⟨h.c0, h.c1, h.c2, h.f0, h.f1, h.f2, h.lt⟩
theorem LZ.lb {N : Nat} {U : World} (h : LZ N U) : LB N ⟨[], false, []⟩ none 0 none 0 U := ⟨h.c0, h.c1, h.c2, h.f0, h.f1, h.f2, h.lt⟩
theorem LZ.keep {N : Nat} {U U' : World} (h : LZ N U) (hk : U'.heap[N]? = U.heap[N]?) : LZ N U' := (h.lb.keep hk).lz
theorem LZ.up {N B : Nat} {U U' : World} (h : LZ N U) (hb : Below B U U') (hN : N < B) : LZ N U' := h.keep (hb.block N hN)

/-- a latch's lists in memory -/
structure LM (w : World) (ok : Nat → Prop) (l : La) (A : Option Addr) (ac : Nat) (Q : Option Addr) (qc : Nat) : Prop where
  rc : Rd' icells 1 w ok A l.hs
  rq : Rd' Wt.cells 2 w ok Q l.q
  ca : l.hs.length ≤ ac
  ca2 : ac ≤ 9223372036854775807
  qa : l.q.length ≤ qc
  qa2 : qc ≤ 9223372036854775807
section
variable {w w' : World} {ok ok' : Nat → Prop} {l : La} {A Q : Option Addr} {ac qc B : Nat}
theorem LM.imp (h : LM w ok l A ac Q qc) (hi : ∀ b, ok b → ok' b) : LM w ok' l A ac Q qc := ⟨h.rc.imp hi, h.rq.imp hi, h.ca, h.ca2, h.qa, h.qa2⟩
theorem LM.keep (h : LM w ok l A ac Q qc) (hk : ∀ b, ok b → w'.heap[b]? = w.heap[b]?) : LM w' ok l A ac Q qc := ⟨h.rc.keep hk, h.rq.keep hk, h.ca, h.ca2, h.qa, h.qa2⟩
theorem LM.up (h : LM w (fun b => b < w.heap.size) l A ac Q qc) (hb : Below w.heap.size w w') : LM w' (fun b => b < w'.heap.size) l A ac Q qc := (h.keep fun b hb' => hb.block b hb').imp fun b hb' => Nat.lt_of_lt_of_le hb' hb.size
theorem LM.below (h : LM w ok l A ac Q qc) (hb : Below B w w') (ho : ∀ b, ok b → b < B) : LM w' ok l A ac Q qc := h.keep fun b hb' => hb.block b (ho b hb')
theorem LM.c (h : LM w (fun b => b < w.heap.size) l A ac Q qc) : Rd icells 1 w w.heap.size A l.hs := h.rc
theorem LM.q (h : LM w (fun b => b < w.heap.size) l A ac Q qc) : Rd Wt.cells 2 w w.heap.size Q l.q := h.rq
theorem LM.nil {b : Bool} : LM w ok ⟨[], b, []⟩ none 0 none 0 := ⟨Rd'.nil, Rd'.nil, Nat.le_refl _, by decide, Nat.le_refl _, by decide⟩
end

def fill3 (w : World) (N : Nat) (l : La) (A : Option Addr) (ac : Nat) (Q : Option Addr) (qc : Nat) : World := ((w.setCell ⟨N, 0, none⟩ (.slice A l.hs.length ac)).setCell ⟨N, 1, none⟩ (.bool l.ex)).setCell ⟨N, 2, none⟩ (.slice Q l.q.length qc)
section
variable {w : World} {N : Nat} {l r : La} {A Q A' Q' : Option Addr} {ac qc ac' qc' : Nat}
theorem fill3_keep {g : Nat} (h : g ≠ N) : (fill3 w N l A ac Q qc).heap[g]? = w.heap[g]? := by
  rw [fill3, Below.heap_setCell _ _ _ _ h, Below.heap_setCell _ _ _ _ h, Below.heap_setCell _ _ _ _ h]
theorem fill3_size : (fill3 w N l A ac Q qc).heap.size = w.heap.size := by simp [fill3]
theorem fill3_below {B : Nat} {a : World} (h : Below B a w) (hN : B ≤ N) : Below B a (fill3 w N l A ac Q qc) :=
  ((h.setCell (p := ⟨N, 0, none⟩) hN _).setCell (p := ⟨N, 1, none⟩) hN _).setCell (p := ⟨N, 2, none⟩) hN _
theorem LB.fill (H : LB N l A ac Q qc w) : LB N r A' ac' Q' qc' (fill3 w N r A' ac' Q' qc') := ((H.set0 r.hs A' ac').set1 r.ex).set2 r.q Q' qc'
end
/-- what a box is made of, and what comes of it -/
theorem la_box (w : World) (A Q : Option Addr) (ac qc : Nat) (l : La) (t : TypeId) : ∃ W, W = w.alloc (.cells #[.slice A l.hs.length ac, .bool l.ex, .slice Q l.q.length qc] t) ∧ Below w.heap.size w W ∧ W.heap.size = w.heap.size + 1 ∧ LB w.heap.size l A ac Q qc W :=
  ⟨_, rfl, (Below.refl _ _).alloc (Nat.le_refl _) _, by simp, LB.of (heap_alloc_new w _)⟩
theorem new_la {V : World} {r : La} {A Q : Option Addr} {ac qc : Nat} (t : TypeId) (hm : LM V (fun b => b < V.heap.size) r A ac Q qc) : ∃ W, W = V.alloc (.cells #[.slice A r.hs.length ac, .bool r.ex, .slice Q r.q.length qc] t) ∧ Below V.heap.size V W ∧ W.heap.size = V.heap.size + 1 ∧ LB V.heap.size r A ac Q qc W ∧ LM W (fun b => b ≠ V.heap.size ∧ b < W.heap.size) r A ac Q qc := by
  obtain ⟨W, hW, hb, hs, hB⟩ := la_box V A Q ac qc r t
  exact ⟨W, hW, hb, hs, hB, (hm.below hb fun b h => h).imp fun b h => by omega⟩

theorem openW_nil (hs : List Int) (ex : Bool) : openW hs ex [] = false := rfl
theorem openW_at {hs : List Int} {ex : Bool} {q : List Wt} {t : Wt} (ht : q[0]? = some t) : openW hs ex q = (decide (hs.length = 0) || (!ex && !t.ex)) := by
  cases q with
  | nil => simp at ht
  | cons u q => simp at ht; subst ht; rfl
set_option maxHeartbeats 2000000 in
theorem open_any (w : World) (A Q : Option Addr) (ac qc : Nat) (l : La) (hq : Rd Wt.cells 2 w w.heap.size Q l.q) :
    Calls Try.prog 31 #[.agg #[.slice A l.hs.length ac, .bool l.ex, .slice Q l.q.length qc]] w fun e w' => e = .returned (.bool l.open) ∧ Below w.heap.size w w' := by
  obtain ⟨W, hW, hbW, hsW, hB⟩ := la_box w A Q ac qc l 25
  have Hq := Lib.hid (hq.up hbW)
  have HbW := Lib.hid hbW
  obtain ⟨c0, c1, c2, _, _, _, lt⟩ := hB
  have hW' := hW.symm
  clear hW hbW hq
  by_cases hq0 : l.q.length = 0
  · have hqi : ((l.q.length : Int) == 0) = true := by rw [hq0]; rfl
    have hne : l.open = false := by
      have : l.q = [] := List.eq_nil_of_length_eq_zero hq0
      rw [La.open, this]; rfl
    have Hne := Lib.hid hne; clear hne hq0
    go_enter Try.func31, Try.ntmps31
    go_wp2_with fail
    go_ret
    exact ⟨ret_bool Hne.out.symm, HbW.out⟩
  have hqi : ((l.q.length : Int) == 0) = false := by rw [beq_eq_false_iff_ne]; omega
  have hql : (0 : Int) < (l.q.length : Int) := by omega
  have hqn : 0 < l.q.length := by omega
  obtain ⟨t, b, off, ht, rfl, hbb, hcell⟩ := rd_w Hq.out (k := 0) (by omega)
  obtain ⟨g0, g1⟩ := hcell W (Below.refl _ _)
  simp only [Nat.zero_mul, Nat.add_zero] at g0 g1
  have hop := openW_at (hs := l.hs) (ex := l.ex) ht
  rw [show openW l.hs l.ex l.q = l.open from rfl] at hop
  clear hcell ht hq0
  by_cases h0 : l.hs.length = 0
  · have hhi : ((l.hs.length : Int) == 0) = true := by rw [h0]; rfl
    rw [decide_eq_true h0, Bool.true_or] at hop
    have Hop := Lib.hid hop
    clear hop h0
    go_enter Try.func31, Try.ntmps31
    go_wp2_with fail
    go_ret
    exact ⟨ret_bool Hop.out.symm, HbW.out⟩
  have hhi : ((l.hs.length : Int) == 0) = false := by rw [beq_eq_false_iff_ne]; omega
  rw [decide_eq_false h0, Bool.false_or] at hop
  obtain ⟨lx, hlx⟩ : ∃ lx, lx = l.ex := ⟨_, rfl⟩
  obtain ⟨tx, htx⟩ : ∃ tx, tx = t.ex := ⟨_, rfl⟩
  rw [← hlx, ← htx] at hop
  rw [← hlx] at c1 hW' ⊢
  rw [← htx] at g1
  have Hop := Lib.hid hop
  clear hop h0 hlx htx
  cases lx <;> cases tx
  all_goals
    go_enter Try.func31, Try.ntmps31
    go_wp2_with fail
    go_ret
    exact ⟨ret_bool Hop.out.symm, HbW.out⟩
end Go.Proofs.Ytigffndobddflaa
