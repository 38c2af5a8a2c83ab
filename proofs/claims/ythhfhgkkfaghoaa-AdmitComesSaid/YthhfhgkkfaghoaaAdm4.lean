/- The contract of admit.enter. -/
import Derived.Test.YthhfhgkkfaghoaaAdm3
import Derived.Test.YthhfhgkkfaghoaaClClone
import Derived.Test.YthhfhgkkfaghoaaTkClone
namespace Go.Proofs.Ythhfhgkkfaghoaa
open Go.RowKit

theorem own_le {w : World} {base base' size n : Nat} {e : TypeId} {v : Value} {xs : List Value} (h : w.ownsRow base e size v n xs) (hb : base' ≤ base) : w.ownsRow base' e size v n xs := by
  refine ⟨h.1, ?_⟩
  rcases h.2 with hn | ⟨g, cap, cur, h1, h2, r⟩
  · exact .inl hn
  · exact .inr ⟨g, cap, cur, h1, by omega, r⟩
section
variable {N : Nat} {x : Hall} {A Q : Option Addr} {ac qc : Nat} {U : World}
theorem HB.set2 (H : HB N x A ac Q qc U) (cs : List C) (A' : Option Addr) (ac' : Nat) : HB N { x with cs := cs } A' ac' Q qc (U.setCell ⟨N, 2, none⟩ (.slice A' cs.length ac')) := by
  obtain ⟨c0, c1, c2, c3, f0, f1, f2, f3, lt⟩ := H
  constructor <;> (try simp only []) <;> first | go_simp | (simp; omega)
theorem HB.set3 (H : HB N x A ac Q qc U) (q : List T) (Q' : Option Addr) (qc' : Nat) : HB N { x with q := q } A ac Q' qc' (U.setCell ⟨N, 3, none⟩ (.slice Q' q.length qc')) := by
  obtain ⟨c0, c1, c2, c3, f0, f1, f2, f3, lt⟩ := H
  constructor <;> (try simp only []) <;> first | go_simp | (simp; omega)
end
theorem letIn_cons {f : Int} {cs : List C} {t : T} {q : List T} (h : true = openQ f cs (t :: q)) : letIn f cs (t :: q) = ((letIn f (cs ++ [⟨t.who, t.claim, 0⟩]) q).1, (letIn f (cs ++ [⟨t.who, t.claim, 0⟩]) q).2.1, t.who :: (letIn f (cs ++ [⟨t.who, t.claim, 0⟩]) q).2.2) := by
  rw [letIn, if_pos h.symm]
theorem letIn_shut {f : Int} {cs : List C} {q : List T} (h : false = openQ f cs q) : letIn f cs q = (cs, q, []) := by
  cases q with
  | nil => rfl
  | cons t q => rw [letIn, if_neg (by rw [← h]; simp)]
theorem let_run {f : Int} {cs : List C} {t : T} {q : List T} {ins : List Int} {r : List C × List T × List Int} (hr : r = ((letIn f cs (t :: q)).1, (letIn f cs (t :: q)).2.1, ins ++ (letIn f cs (t :: q)).2.2)) (h : true = openQ f cs (t :: q)) :
    r = ((letIn f (cs ++ [⟨t.who, t.claim, 0⟩]) q).1, (letIn f (cs ++ [⟨t.who, t.claim, 0⟩]) q).2.1, (ins ++ [t.who]) ++ (letIn f (cs ++ [⟨t.who, t.claim, 0⟩]) q).2.2) := by
  rw [hr, letIn_cons h]
  simp
theorem small_let {f b : Int} {cs : List C} {t : T} {q : List T} (h : Hall.small ⟨f, b, cs, t :: q⟩) : Hall.small ⟨f, b, cs ++ [⟨t.who, t.claim, 0⟩], q⟩ := by
  obtain ⟨a1, a2, a3, a4, a5, a6, a7⟩ := h
  have ht := a7 0 t rfl
  refine ⟨a1, a2, a3, a4, ?_, ?_, fun k u hu => a7 (k + 1) u hu⟩
  · simp at a5 ⊢; omega
  · intro k c hc
    rcases Nat.lt_or_ge k cs.length with h1 | h1
    · exact a6 k c (by rw [← hc, List.getElem?_append_left h1])
    · have hk : k = cs.length := by
        have := (List.getElem?_eq_some_iff.1 hc).1
        simp at this
        omega
      subst hk
      simp at hc
      subst hc
      exact ⟨ht.1, ht.2, Int.le_refl _, ht.1⟩
/-- what enter has done so far -/
structure Ent (w : World) (ok : Nat → Prop) (x0 : Hall) (wr : World) (cs : List C) (q : List T) (ins : List Int) (A : Option Addr) (ac : Nat) (Q : Option Addr) (qc : Nat) (I : Option Addr) (ic : Nat) : Prop where
  hb : HB w.heap.size ⟨x0.frames, x0.budget, cs, q⟩ A ac Q qc wr
  res : wr.heap[w.heap.size + 1]? = some (.cells #[.int .i64 0, .int .i64 0, .slice none 0 0, .slice none 0 0] 25 (0, 0))
  own : wr.ownsRow (w.heap.size + 2) 50 3 (.slice A cs.length ac) cs.length (cs.flatMap C.cells)
  rq : Rd' T.cells 2 wr ok Q q
  qa : q.length ≤ qc ∧ qc ≤ 9223372036854775807
  inr : wr.ownsRow (w.heap.size + 2) 3 1 (.slice I ins.length ic) ins.length (ins.flatMap icells)
  below : Below w.heap.size w wr
  size : w.heap.size + 2 ≤ wr.heap.size
  small : Hall.small ⟨x0.frames, x0.budget, cs, q⟩
  inl : ins.length + q.length = x0.q.length
  run : letIn x0.frames x0.cs x0.q = ((letIn x0.frames cs q).1, (letIn x0.frames cs q).2.1, ins ++ (letIn x0.frames cs q).2.2)
/-- what enter tells -/
def EnterDone (ok : Nat → Prop) (r : Hall × List Int) (w : World) (e : Ending) (w' : World) : Prop :=
  ∃ A ac Q qc I ic, e = .returned (.tuple #[.agg #[.int .i64 r.1.frames, .int .i64 r.1.budget, .slice A r.1.cs.length ac, .slice Q r.1.q.length qc], .slice I r.2.length ic]) ∧
    HM w' (fun b => ok b ∨ (w.heap.size ≤ b ∧ b < w'.heap.size)) r.1 A ac Q qc ∧ Rd' icells 1 w' (fun b => w.heap.size ≤ b ∧ b < w'.heap.size) I r.2 ∧ Below w.heap.size w w'

set_option maxRecDepth 20000 in
set_option maxHeartbeats 4000000 in
theorem enter_any (w : World) (ok : Nat → Prop) (A Q : Option Addr) (ac qc : Nat) (x : Hall) (hx : x.small) (hok : ∀ b, ok b → b < w.heap.size) (hm : HM w ok x A ac Q qc) :
    Calls Try.prog 31 #[.agg #[.int .i64 x.frames, .int .i64 x.budget, .slice A x.cs.length ac, .slice Q x.q.length qc]] w (EnterDone ok (enterM x) w) := by
  obtain ⟨W, hW⟩ : ∃ W, W = (w.alloc (.cells #[.int .i64 x.frames, .int .i64 x.budget, .slice A x.cs.length ac, .slice Q x.q.length qc] 25)).alloc (.cells #[.int .i64 0, .int .i64 0, .slice none 0 0, .slice none 0 0] 25) := ⟨_, rfl⟩
  have hbW : Below w.heap.size w W := by rw [hW]; exact ((Below.refl _ _).alloc (Nat.le_refl _) _).alloc (by simp) _
  have hsW : W.heap.size = w.heap.size + 2 := by rw [hW]; simp
  have hW0 : W.heap[w.heap.size]? = some (.cells #[.int .i64 x.frames, .int .i64 x.budget, .slice A x.cs.length ac, .slice Q x.q.length qc] 25 (0, 0)) := by rw [hW, heap_alloc_old _ _ (by simp), heap_alloc_new]
  have hW1 : W.heap[w.heap.size + 1]? = some (.cells #[.int .i64 0, .int .i64 0, .slice none 0 0, .slice none 0 0] 25 (0, 0)) := by
    have := heap_alloc_new (w.alloc (.cells #[.int .i64 x.frames, .int .i64 x.budget, .slice A x.cs.length ac, .slice Q x.q.length qc] 25)) (.cells #[.int .i64 0, .int .i64 0, .slice none 0 0, .slice none 0 0] 25)
    rw [hW]
    simpa using this
  have HB' := Lib.hid (HB.of hW0)
  have HW1 := Lib.hid hW1
  have Hm := Lib.hid (hm.below hbW hok)
  have HbW := Lib.hid hbW
  have Hx := Lib.hid hx
  have hxq : x.q.length ≤ 41 := by have := hx.len; omega
  have Hok := Lib.hid hok
  have hW' := hW.symm
  obtain ⟨c0, c1, c2, c3, f0, f1, f2, f3, lt⟩ := HB'.out
  have d1 := clone_Cl W A ac x.cs (by have := hx.len; omega) c_len c_one (Hm.out.rc.to fun b hb => by have := hok b hb; omega)
  have Hd1 := Lib.hid d1
  obtain ⟨i0, hi0, hz0, hz1, hz2⟩ := info_parts Try.infoCl
  obtain ⟨j0, hj0, hy0, hy1, hy2⟩ := info_parts Try.infoInt
  clear hW hW0 hW1 hm hx d1 hbW hok
  go_enter Try.func31, Try.ntmps31
  go_wp2_with fail
  refine Hd1.out.mono ?_
  clear Hd1
  rintro e V ⟨A1, c1', rfl, ho1, hb1⟩
  have hs1 := hb1.size
  have HBV := HB'.out.up hb1 (by omega)
  have HB1 := Lib.hid (HBV.set2 x.cs A1 c1')
  have hne1 : (Value.slice A1 x.cs.length c1').ownBlock ≠ some w.heap.size := fun e => by have := (ho1.lt _ e).1; omega
  have Ho1 := Lib.hid (own_le (base' := w.heap.size + 2) (own_setCell (j := 2) ho1 hne1 (.slice A1 x.cs.length c1')) (by omega))
  have hV1 : (V.setCell ⟨w.heap.size, 2, none⟩ (.slice A1 x.cs.length c1')).heap[w.heap.size + 1]? = _ := (Below.heap_setCell V ⟨w.heap.size, 2, none⟩ _ (w.heap.size + 1) (by simp)).trans ((hb1.block (w.heap.size + 1) (by omega)).trans HW1.out)
  have HV1 := Lib.hid hV1
  have hmV := Hm.out.rq.keep (w' := V.setCell ⟨w.heap.size, 2, none⟩ (.slice A1 x.cs.length c1')) fun b hb => (Below.heap_setCell V ⟨w.heap.size, 2, none⟩ _ b (by have := Hok.out b hb; show b ≠ w.heap.size; omega)).trans (hb1.block b (by have := Hok.out b hb; omega))
  have HmV := Lib.hid hmV
  have HbV := Lib.hid ((bnext HbW.out hb1).setCell (p := ⟨w.heap.size, 2, none⟩) (Nat.le_refl _) (.slice A1 x.cs.length c1'))
  obtain ⟨c0', c1'', c2', c3', f0', f1', f2', f3', lt'⟩ := HBV
  clear c0 c1 c2 c3 f0 f1 f2 f3 lt ho1 hb1 hne1 hV1 hmV hW'
  have hs1' : w.heap.size + 2 ≤ V.heap.size := by omega
  go_wp2_with fail
  clear c0' c1'' c2' c3' f0' f1' f2' f3' lt'
  obtain ⟨X, hX⟩ : ∃ X, X = V.setCell ⟨w.heap.size, 2, none⟩ (.slice A1 x.cs.length c1') := ⟨_, rfl⟩
  rw [← hX] at HB1 Ho1 HV1 HmV HbV ⊢
  have hsX : w.heap.size + 2 ≤ X.heap.size := by rw [hX]; simpa using hs1'
  clear hX
  go_loopg [4] x.q.length (fun g iv wr => ∃ (cs : List C) (q : List T) (ins : List Int) (A : Option Addr) (ac : Nat) (Q : Option Addr) (qc : Nat) (I : Option Addr) (ic : Nat), g = q.length ∧ iv = .slice I ins.length ic ∧ Ent w ok x wr cs q ins A ac Q qc I ic)
  case atStart => exact ⟨x.cs, x.q, [], A1, c1', Q, qc, none, 0, rfl, rfl, HB1.out, HV1.out, Ho1.out, HmV.out, ⟨Hm.out.qa, Hm.out.qa2⟩, World.ownsRow_nil _ _ _ _, HbV.out, hsX, Hx.out, by simp, by simp⟩
  case round =>
    obtain ⟨cs, q, ins, A, ac, Q, qc, I, ic, hg, rfl, hE⟩ := hrel
    have HE := Lib.hid hE
    have Hg := Lib.hid hg
    obtain ⟨c0, c1, c2, c3, f0, f1, f2, f3, lt⟩ := hE.hb
    have hsr := hE.size
    simp only at c0 c1 c2 c3
    have d2 := open_any wr A Q ac qc ⟨x.frames, x.budget, cs, q⟩ hE.small (Rd.of_own hE.own c_len (by decide)) (hE.rq.to fun b hb => by have := Hok.out b hb; omega)
    obtain ⟨op, hop⟩ : ∃ op, op = openQ x.frames cs q := ⟨_, rfl⟩
    have d2' : Calls Try.prog 46 #[.agg #[.int .i64 x.frames, .int .i64 x.budget, .slice A cs.length ac, .slice Q q.length qc]] wr fun e w' => e = .returned (.bool op) ∧ Below wr.heap.size wr w' := by rw [hop]; exact d2
    have Hd2 := Lib.hid d2'
    have Hop := Lib.hid hop
    clear d2 d2' hop hE hg
    go_wp2_with fail
    refine Hd2.out.mono ?_
    clear Hd2
    rintro e V2 ⟨rfl, hb2⟩
    have Hb2 := Lib.hid hb2
    have hs2 := hb2.size
    have HB2 := Lib.hid (HE.out.hb.up hb2 (by omega))
    clear c0 c1 c2 c3 f0 f1 f2 f3 lt hb2
    obtain ⟨c0, c1, c2, c3, f0, f1, f2, f3, lt⟩ := HB2.out
    simp only at c0 c1 c2 c3
    have hV2r := (Hb2.out.block (w.heap.size + 1) (by omega)).trans HE.out.res
    have HV2r := Lib.hid hV2r
    clear hV2r
    cases op with
    | false =>
      have e0 := cells_of HV2r.out 0; have e1 := cells_of HV2r.out 1; have e2 := cells_of HV2r.out 2; have e3 := cells_of HV2r.out 3
      have k0 := frozen_of HV2r.out 0; have k1 := frozen_of HV2r.out 1; have k2 := frozen_of HV2r.out 2; have k3 := frozen_of HV2r.out 3
      simp only [List.getElem?_toArray, List.getElem?_cons_zero, List.getElem?_cons_succ] at e0 e1 e2 e3
      have hlt1 : w.heap.size + 1 < V2.heap.size := by omega
      go_wp2_with fail
      refine bodyPost_ret (v := .tuple #[.agg #[.int .i64 x.frames, .int .i64 x.budget, .slice A cs.length ac, .slice Q q.length qc], .slice I ins.length ic]) (by simp [results, Try.results31, go_sem, e0, e1, e2, e3]) rfl ?_
      have hrun := HE.out.run
      rw [letIn_shut Hop.out] at hrun
      simp only [List.append_nil] at hrun
      have hent : enterM x = (⟨x.frames, x.budget, cs, q⟩, ins) := by rw [enterM, hrun]
      rw [hent]
      have hkk : ∀ g, g ≠ w.heap.size + 1 → ((((V2.setCell ⟨w.heap.size + 1, 0, none⟩ (.int .i64 x.frames)).setCell ⟨w.heap.size + 1, 1, none⟩ (.int .i64 x.budget)).setCell ⟨w.heap.size + 1, 2, none⟩ (.slice A cs.length ac)).setCell ⟨w.heap.size + 1, 3, none⟩ (.slice Q q.length qc)).heap[g]? = V2.heap[g]? := fun g h => by
        rw [Below.heap_setCell _ _ _ _ h, Below.heap_setCell _ _ _ _ h, Below.heap_setCell _ _ _ _ h, Below.heap_setCell _ _ _ _ h]
      have hrc := (Rd'.of_own (own_up HE.out.own Hb2.out) c_len (by decide)).keep (fun b hb => hkk b (by omega))
      have hri := (Rd'.of_own (own_up HE.out.inr Hb2.out) (fun _ => rfl) (by decide)).keep (fun b hb => hkk b (by omega))
      have hrq := (HE.out.rq.keep (w' := V2) fun b hb => Hb2.out.block b (by have := Hok.out b hb; omega)).keep (fun b hb => hkk b (by have := Hok.out b hb; omega))
      have hcap := own_slice HE.out.own
      obtain ⟨_, _, hv, hc1, hc2⟩ := hcap
      injection hv with hv1 hv2 hv3
      refine ⟨A, ac, Q, qc, I, ic, rfl, ⟨hrc.imp fun b hb => .inr ⟨by omega, by simpa using hb.2⟩, hrq.imp fun b hb => .inl hb, by rw [hv3]; exact hc1, by rw [hv3]; exact hc2, HE.out.qa.1, HE.out.qa.2⟩, hri.imp fun b hb => ⟨by omega, by simpa using hb.2⟩, ?_⟩
      exact (((((HE.out.below.trans (Hb2.out.mono (by omega))).setCell (p := ⟨w.heap.size + 1, 0, none⟩) (by show w.heap.size ≤ w.heap.size + 1; omega) _).setCell (p := ⟨w.heap.size + 1, 1, none⟩) (by show w.heap.size ≤ w.heap.size + 1; omega) _).setCell (p := ⟨w.heap.size + 1, 2, none⟩) (by show w.heap.size ≤ w.heap.size + 1; omega) _).setCell (p := ⟨w.heap.size + 1, 3, none⟩) (by show w.heap.size ≤ w.heap.size + 1; omega) _)
    | true =>
      cases q with
      | nil => have := Hop.out; simp [openQ] at this
      | cons t q =>
      obtain ⟨b, off, rfl, hbb, hcell⟩ := HE.out.rq (by simp)
      have g0 := (Hb2.out.cell (p := ⟨b, off, none⟩) (by show b < wr.heap.size; have := Hok.out b hbb; omega)).trans (hcell 0 t rfl 0 _ rfl)
      have g1 := (Hb2.out.cell (p := ⟨b, off + 1, none⟩) (by show b < wr.heap.size; have := Hok.out b hbb; omega)).trans (hcell 0 t rfl 1 _ rfl)
      have hbw := Hok.out b hbb
      have hq1 : (1 : Int) ≤ ((q.length + 1 : Nat) : Int) := by omega
      clear hcell
      simp only [List.length_cons] at c3
      have hlen := HE.out.small.len
      simp only [List.length_cons] at hlen
      obtain ⟨M, hM⟩ : ∃ M, M = V2.heap.size := ⟨_, rfl⟩
      have hM' := hM.symm
      have hbM : b < M := by omega
      have hNM : w.heap.size + 2 ≤ M := by omega
      have hNM0 : w.heap.size < M := by omega
      have hqa := HE.out.qa
      simp only [List.length_cons] at hqa
      obtain ⟨hqa1, hqa2⟩ := hqa
      have hq2 : (1 : Int) ≤ (qc : Int) := by omega
      have hNb : ¬ w.heap.size = b := by omega
      have hbN : ¬ b = w.heap.size := by omega
      have hMN : ¬ M = w.heap.size := by omega
      have hNM1 : ¬ w.heap.size = M := by omega
      clear hM
      by_cases hqc1 : qc = 1
      · have hneN : (Value.slice A cs.length ac).ownBlock ≠ some w.heap.size := fun e => by have := (HE.out.own.lt _ e).1; omega
        have hneI : (Value.slice I ins.length ic).ownBlock ≠ some w.heap.size := fun e => by have := (HE.out.inr.lt _ e).1; omega
        have hneM : (Value.slice A cs.length ac).ownBlock ≠ some M := fun e => by have := (HE.out.own.lt _ e).2; omega
        have hownS := own_setCell (j := 3) (own_up HE.out.own Hb2.out) hneN (.slice (some ⟨b, off, none⟩) q.length 0)
        have hinS := own_setCell (j := 3) (own_up HE.out.inr Hb2.out) hneI (.slice (some ⟨b, off, none⟩) q.length 0)
        have hap := own_apart hownS hinS (by decide)
        have HownS := Lib.hid hownS
        have HinS := Lib.hid hinS
        have Hap := Lib.hid hap
        have HneN := Lib.hid hneN
        have HneM := Lib.hid hneM
        have hqc0 : qc - 1 = 0 := by omega
        have hbS : Below wr.heap.size wr V2 := Hb2.out
        have HBS := HB2.out.set3 q ((some ⟨b, off, none⟩)) 0
        have hbS : Below w.heap.size w (V2.setCell ⟨w.heap.size, 3, none⟩ (.slice (some ⟨b, off, none⟩) q.length 0)) := (HE.out.below.trans (Hb2.out.mono (by omega))).setCell (p := ⟨w.heap.size, 3, none⟩) (Nat.le_refl _) _
        have hrqS : Rd' T.cells 2 (V2.setCell ⟨w.heap.size, 3, none⟩ (.slice (some ⟨b, off, none⟩) q.length 0)) ok ((some ⟨b, off, none⟩)) q := by
          have : q = [] := List.eq_nil_of_length_eq_zero (by omega)
          rw [this]; exact Rd'.nil
        have hrS : (V2.setCell ⟨w.heap.size, 3, none⟩ (.slice (some ⟨b, off, none⟩) q.length 0)).heap[w.heap.size + 1]? = _ := (Below.heap_setCell V2 ⟨w.heap.size, 3, none⟩ _ (w.heap.size + 1) (by simp)).trans HV2r.out
        have hsS : (V2.setCell ⟨w.heap.size, 3, none⟩ (.slice (some ⟨b, off, none⟩) q.length 0)).heap.size = M := by simp [hM']
        have HBS' := Lib.hid HBS
        have HbS := Lib.hid hbS
        have HrqS := Lib.hid hrqS
        have HrS := Lib.hid hrS
        have HsS := Lib.hid hsS
        clear hneN hneI hneM hownS hinS hap HBS hbS hrqS hrS hsS
        go_wp2_with (at_builtin; refine list_app rfl (.tmp 21) (.tmp 27) 22 rfl (w.heap.size + 2) 50 i0 (.agg #[.int .i64 0, .int .i64 0, .int .i64 0]) 3 24 Try.underlying22 hi0 hz0 hz1 hz2 rfl (by decide) rfl ((HownS.out.alloc (.cells #[.int .i64 t.who, .int .i64 t.claim] 66)).alloc (.cells #[.int .i64 t.who, .int .i64 t.claim, .int .i64 0] 50)) (m := 1) (news := C.cells ⟨t.who, t.claim, 0⟩) rfl rfl (by simp) (new_src (cs := (C.cells ⟨t.who, t.claim, 0⟩).toArray) (by simp [hM'])) (c_one ⟨t.who, t.claim, 0⟩) ?_ ?_ ?_ ?_)
        · unfold maxLen; omega
        · omega
        · first | omega | (simp; omega)
        intro v' w5 ho5 hg5 hv5
        obtain ⟨Vs, hVs⟩ : ∃ Vs, Vs = V2.setCell ⟨w.heap.size, 3, none⟩ (.slice (some ⟨b, off, none⟩) q.length 0) := ⟨_, rfl⟩
        rw [← hVs] at hg5 HownS HinS HBS' HbS HrqS HrS HsS
        clear hVs c0 c1 c2 c3 f0 f1 f2 f3 lt g0 g1 hM'
        obtain ⟨Wf, hWf⟩ : ∃ Wf, Wf = (Vs.alloc (.cells #[.int .i64 t.who, .int .i64 t.claim] 66)).alloc (.cells #[.int .i64 t.who, .int .i64 t.claim, .int .i64 0] 50) := ⟨_, rfl⟩
        have hsVs := HsS.out
        have hinF := (HinS.out.alloc (.cells #[.int .i64 t.who, .int .i64 t.claim] 66)).alloc (.cells #[.int .i64 t.who, .int .i64 t.claim, .int .i64 0] 50)
        rw [← hWf] at hg5 hinF
        have hsF : Wf.heap.size = M + 2 := by rw [hWf]; simp [hsVs]
        have hbF : Below M Vs Wf := by rw [hWf, ← hsVs]; exact ((Below.refl _ _).alloc (Nat.le_refl _) _).alloc (by simp) _
        have hFM : Wf.heap[M]? = some (.cells #[.int .i64 t.who, .int .i64 t.claim] 66 (0, 0)) := by rw [hWf, ← hsVs, heap_alloc_old _ _ (by simp), heap_alloc_new]
        have h5 : ∀ g, g < M → (Value.slice A cs.length ac).ownBlock ≠ some g → w5.heap[g]? = Vs.heap[g]? := fun g h1 h2 => (hg5.block g (by omega) (fun e => h2 e.symm)).trans (hbF.block g h1)
        have hlow : ∀ g, g < w.heap.size + 2 → (Value.slice A cs.length ac).ownBlock ≠ some g := fun g h e => by have := (HownS.out.lt _ e).1; omega
        have hB5 := HBS'.out.keep (h5 w.heap.size hNM0 HneN.out)
        have h5M := (hg5.block M (by omega) (fun e => HneM.out e.symm)).trans hFM
        have h5r := (h5 (w.heap.size + 1) (by omega) (hlow _ (by omega))).trans HrS.out
        have hrq5 := HrqS.out.keep (w' := w5) fun b' hb' => h5 b' (by have := Hok.out b' hb'; omega) (hlow b' (by have := Hok.out b' hb'; omega))
        have hin5 := hinF.kept hg5 (apart_symm Hap.out)
        have hb5 : Below w.heap.size w w5 := (HbS.out.trans (hbF.mono (by omega))).grown hg5 (by omega) (fun q hq => by have := (HownS.out.lt q hq).1; omega)
        obtain ⟨A5, c5, rfl, _, _⟩ := own_slice ho5
        have hs5 := hg5.size
        have hne5 : (Value.slice A5 (cs.length + 1) c5).ownBlock ≠ some w.heap.size := fun e => by have := (ho5.lt _ e).1; omega
        have hneI : (Value.slice I ins.length ic).ownBlock ≠ some w.heap.size := fun e => by have := (hin5.lt _ e).1; omega
        have HB5 := Lib.hid hB5
        obtain ⟨c0, c1, c2, c3, f0, f1, f2, f3, lt⟩ := hB5
        have e0 := cells_of h5M 0
        have e1 := cells_of h5M 1
        simp only [List.getElem?_toArray, List.getElem?_cons_zero, List.getElem?_cons_succ] at e0 e1 c0 c1 c2 c3
        have H5r := Lib.hid h5r
        have Hrq5 := Lib.hid hrq5
        have Hin6 := Lib.hid (own_setCell (j := 2) hin5 hneI (.slice A5 (cs.length + 1) c5))
        have Ho6 := Lib.hid (own_setCell (j := 2) ho5 hne5 (.slice A5 (cs.length + 1) c5))
        have Hb5 := Lib.hid hb5
        have hM5 : M < w5.heap.size := by omega
        have hM52 : M + 2 ≤ w5.heap.size := by omega
        clear ho5 hg5 hv5 hWf hsVs hinF hsF hbF hFM h5 hlow h5M h5r hrq5 hin5 hb5 hs5 hne5 hneI
        have hins : ins.length ≤ 41 := by have := HE.out.inl; omega
        go_wp2_with (at_builtin; refine list_app rfl (.tmp 30) (.tmp 33) 36 rfl (w.heap.size + 2) 3 j0 (.int .i64 0) 1 8 Try.underlying36 hj0 hy0 hy1 hy2 rfl (by decide) rfl (Hin6.out.alloc (.cells #[.int .i64 t.who] 3)) (m := 1) (news := icells t.who) rfl rfl (by simp) (new_src (cs := (icells t.who).toArray) (by simp)) (by intro u hu; simp [icells] at hu; subst hu; rfl) ?_ ?_ ?_ ?_)
        · unfold maxLen; omega
        · omega
        · first | omega | (simp; omega)
        intro v' w7 ho7 hg7 hv7
        obtain ⟨W6, hW6⟩ : ∃ W6, W6 = w5.setCell ⟨w.heap.size, 2, none⟩ (.slice A5 (cs.length + 1) c5) := ⟨_, rfl⟩
        rw [← hW6] at Hin6 Ho6 hg7
        have hs6 : W6.heap.size = w5.heap.size := by rw [hW6]; simp
        have h6 : ∀ g, g ≠ w.heap.size → W6.heap[g]? = w5.heap[g]? := fun g h => by rw [hW6]; exact Below.heap_setCell w5 ⟨w.heap.size, 2, none⟩ _ g h
        have HB6 : HB w.heap.size ⟨x.frames, x.budget, cs ++ [⟨t.who, t.claim, 0⟩], q⟩ A5 c5 (some ⟨b, off, none⟩) 0 W6 := by
          rw [hW6]
          have := HB5.out.set2 (cs ++ [⟨t.who, t.claim, 0⟩]) A5 c5
          simpa using this
        have hb6 : Below w.heap.size w W6 := by rw [hW6]; exact Hb5.out.setCell (p := ⟨w.heap.size, 2, none⟩) (Nat.le_refl _) _
        have hap6 := own_apart Ho6.out Hin6.out (by decide)
        obtain ⟨Wg, hWg⟩ : ∃ Wg, Wg = W6.alloc (.cells #[.int .i64 t.who] 3) := ⟨_, rfl⟩
        have hoG := Ho6.out.alloc (.cells #[.int .i64 t.who] 3)
        rw [← hWg] at hg7 hoG
        have hsG : Wg.heap.size = W6.heap.size + 1 := by rw [hWg]; simp
        have hbG : Below W6.heap.size W6 Wg := by rw [hWg]; exact (Below.refl _ _).alloc (Nat.le_refl _) _
        have h7 : ∀ g, g < w.heap.size + 2 → w7.heap[g]? = W6.heap[g]? := fun g h => (hg7.block g (by omega) (fun e => by have := (Hin6.out.lt _ e.symm).1; omega)).trans (hbG.block g (by omega))
        have hB7 := HB6.keep (h7 w.heap.size (by omega))
        have h7r := (h7 (w.heap.size + 1) (by omega)).trans ((h6 (w.heap.size + 1) (by omega)).trans H5r.out)
        have hrq7 := Hrq5.out.keep (w' := w7) fun b' hb' => (h7 b' (by have := Hok.out b' hb'; omega)).trans (h6 b' (by have := Hok.out b' hb'; omega))
        have ho7c := hoG.kept hg7 hap6
        have hb7 : Below w.heap.size w w7 := (hb6.trans (hbG.mono (by omega))).grown hg7 (by omega) (fun q hq => by have := (Hin6.out.lt q hq).1; omega)
        obtain ⟨I7, ic7, rfl, _, _⟩ := own_slice ho7
        have hs7 := hg7.size
        have hsm7 : Hall.small ⟨x.frames, x.budget, cs ++ [⟨t.who, t.claim, 0⟩], q⟩ := small_let HE.out.small
        have hrun7 := let_run HE.out.run Hop.out
        have hinl := HE.out.inl
        have hE7 : Ent w ok x w7 (cs ++ [⟨t.who, t.claim, 0⟩]) q (ins ++ [t.who]) A5 c5 (some ⟨b, off, none⟩) 0 I7 ic7 :=
          ⟨hB7, h7r, by simpa [C.cells] using ho7c, hrq7, ⟨by omega, by omega⟩, by simpa [icells] using ho7, hb7, by omega, hsm7, by simp at hinl ⊢; omega, hrun7⟩
        have HE7 := Lib.hid hE7
        clear ho7 hg7 hv7 hW6 hs6 h6 HB6 hb6 hap6 hWg hoG hsG hbG h7 hB7 h7r hrq7 ho7c hb7 hs7 hsm7 hrun7 hinl hE7
        go_wp2_with fail
        go_roundg q.length
        case measure => have := Hg.out; simp at this; omega
        case rel => exact ⟨cs ++ [⟨t.who, t.claim, 0⟩], q, ins ++ [t.who], A5, c5, (some ⟨b, off, none⟩), 0, I7, ic7, rfl, by simp, HE7.out⟩
      · have hneN : (Value.slice A cs.length ac).ownBlock ≠ some w.heap.size := fun e => by have := (HE.out.own.lt _ e).1; omega
        have hneI : (Value.slice I ins.length ic).ownBlock ≠ some w.heap.size := fun e => by have := (HE.out.inr.lt _ e).1; omega
        have hneM : (Value.slice A cs.length ac).ownBlock ≠ some M := fun e => by have := (HE.out.own.lt _ e).2; omega
        have hownS := own_setCell (j := 3) (own_up HE.out.own Hb2.out) hneN (.slice (some ⟨b, off + 2, none⟩) q.length (qc - 1))
        have hinS := own_setCell (j := 3) (own_up HE.out.inr Hb2.out) hneI (.slice (some ⟨b, off + 2, none⟩) q.length (qc - 1))
        have hap := own_apart hownS hinS (by decide)
        have HownS := Lib.hid hownS
        have HinS := Lib.hid hinS
        have Hap := Lib.hid hap
        have HneN := Lib.hid hneN
        have HneM := Lib.hid hneM
        have hqc0 : ¬ qc - 1 = 0 := by omega
        have hbS : Below wr.heap.size wr V2 := Hb2.out
        have HBS := HB2.out.set3 q ((some ⟨b, off + 2, none⟩)) (qc - 1)
        have hbS : Below w.heap.size w (V2.setCell ⟨w.heap.size, 3, none⟩ (.slice (some ⟨b, off + 2, none⟩) q.length (qc - 1))) := (HE.out.below.trans (Hb2.out.mono (by omega))).setCell (p := ⟨w.heap.size, 3, none⟩) (Nat.le_refl _) _
        have hrqS : Rd' T.cells 2 (V2.setCell ⟨w.heap.size, 3, none⟩ (.slice (some ⟨b, off + 2, none⟩) q.length (qc - 1))) ok ((some ⟨b, off + 2, none⟩)) q := by
          have := (HE.out.rq.drop 1).keep (w' := V2.setCell ⟨w.heap.size, 3, none⟩ (.slice (some ⟨b, off + 2, none⟩) q.length (qc - 1))) fun b' hb' => (Below.heap_setCell V2 ⟨w.heap.size, 3, none⟩ _ b' (by have := Hok.out b' hb'; show b' ≠ w.heap.size; omega)).trans (Hb2.out.block b' (by have := Hok.out b' hb'; omega))
          simpa using this
        have hrS : (V2.setCell ⟨w.heap.size, 3, none⟩ (.slice (some ⟨b, off + 2, none⟩) q.length (qc - 1))).heap[w.heap.size + 1]? = _ := (Below.heap_setCell V2 ⟨w.heap.size, 3, none⟩ _ (w.heap.size + 1) (by simp)).trans HV2r.out
        have hsS : (V2.setCell ⟨w.heap.size, 3, none⟩ (.slice (some ⟨b, off + 2, none⟩) q.length (qc - 1))).heap.size = M := by simp [hM']
        have HBS' := Lib.hid HBS
        have HbS := Lib.hid hbS
        have HrqS := Lib.hid hrqS
        have HrS := Lib.hid hrS
        have HsS := Lib.hid hsS
        clear hneN hneI hneM hownS hinS hap HBS hbS hrqS hrS hsS
        go_wp2_with (at_builtin; refine list_app rfl (.tmp 21) (.tmp 27) 22 rfl (w.heap.size + 2) 50 i0 (.agg #[.int .i64 0, .int .i64 0, .int .i64 0]) 3 24 Try.underlying22 hi0 hz0 hz1 hz2 rfl (by decide) rfl ((HownS.out.alloc (.cells #[.int .i64 t.who, .int .i64 t.claim] 66)).alloc (.cells #[.int .i64 t.who, .int .i64 t.claim, .int .i64 0] 50)) (m := 1) (news := C.cells ⟨t.who, t.claim, 0⟩) rfl rfl (by simp) (new_src (cs := (C.cells ⟨t.who, t.claim, 0⟩).toArray) (by simp [hM'])) (c_one ⟨t.who, t.claim, 0⟩) ?_ ?_ ?_ ?_)
        · unfold maxLen; omega
        · omega
        · first | omega | (simp; omega)
        intro v' w5 ho5 hg5 hv5
        obtain ⟨Vs, hVs⟩ : ∃ Vs, Vs = V2.setCell ⟨w.heap.size, 3, none⟩ (.slice (some ⟨b, off + 2, none⟩) q.length (qc - 1)) := ⟨_, rfl⟩
        rw [← hVs] at hg5 HownS HinS HBS' HbS HrqS HrS HsS
        clear hVs c0 c1 c2 c3 f0 f1 f2 f3 lt g0 g1 hM'
        obtain ⟨Wf, hWf⟩ : ∃ Wf, Wf = (Vs.alloc (.cells #[.int .i64 t.who, .int .i64 t.claim] 66)).alloc (.cells #[.int .i64 t.who, .int .i64 t.claim, .int .i64 0] 50) := ⟨_, rfl⟩
        have hsVs := HsS.out
        have hinF := (HinS.out.alloc (.cells #[.int .i64 t.who, .int .i64 t.claim] 66)).alloc (.cells #[.int .i64 t.who, .int .i64 t.claim, .int .i64 0] 50)
        rw [← hWf] at hg5 hinF
        have hsF : Wf.heap.size = M + 2 := by rw [hWf]; simp [hsVs]
        have hbF : Below M Vs Wf := by rw [hWf, ← hsVs]; exact ((Below.refl _ _).alloc (Nat.le_refl _) _).alloc (by simp) _
        have hFM : Wf.heap[M]? = some (.cells #[.int .i64 t.who, .int .i64 t.claim] 66 (0, 0)) := by rw [hWf, ← hsVs, heap_alloc_old _ _ (by simp), heap_alloc_new]
        have h5 : ∀ g, g < M → (Value.slice A cs.length ac).ownBlock ≠ some g → w5.heap[g]? = Vs.heap[g]? := fun g h1 h2 => (hg5.block g (by omega) (fun e => h2 e.symm)).trans (hbF.block g h1)
        have hlow : ∀ g, g < w.heap.size + 2 → (Value.slice A cs.length ac).ownBlock ≠ some g := fun g h e => by have := (HownS.out.lt _ e).1; omega
        have hB5 := HBS'.out.keep (h5 w.heap.size hNM0 HneN.out)
        have h5M := (hg5.block M (by omega) (fun e => HneM.out e.symm)).trans hFM
        have h5r := (h5 (w.heap.size + 1) (by omega) (hlow _ (by omega))).trans HrS.out
        have hrq5 := HrqS.out.keep (w' := w5) fun b' hb' => h5 b' (by have := Hok.out b' hb'; omega) (hlow b' (by have := Hok.out b' hb'; omega))
        have hin5 := hinF.kept hg5 (apart_symm Hap.out)
        have hb5 : Below w.heap.size w w5 := (HbS.out.trans (hbF.mono (by omega))).grown hg5 (by omega) (fun q hq => by have := (HownS.out.lt q hq).1; omega)
        obtain ⟨A5, c5, rfl, _, _⟩ := own_slice ho5
        have hs5 := hg5.size
        have hne5 : (Value.slice A5 (cs.length + 1) c5).ownBlock ≠ some w.heap.size := fun e => by have := (ho5.lt _ e).1; omega
        have hneI : (Value.slice I ins.length ic).ownBlock ≠ some w.heap.size := fun e => by have := (hin5.lt _ e).1; omega
        have HB5 := Lib.hid hB5
        obtain ⟨c0, c1, c2, c3, f0, f1, f2, f3, lt⟩ := hB5
        have e0 := cells_of h5M 0
        have e1 := cells_of h5M 1
        simp only [List.getElem?_toArray, List.getElem?_cons_zero, List.getElem?_cons_succ] at e0 e1 c0 c1 c2 c3
        have H5r := Lib.hid h5r
        have Hrq5 := Lib.hid hrq5
        have Hin6 := Lib.hid (own_setCell (j := 2) hin5 hneI (.slice A5 (cs.length + 1) c5))
        have Ho6 := Lib.hid (own_setCell (j := 2) ho5 hne5 (.slice A5 (cs.length + 1) c5))
        have Hb5 := Lib.hid hb5
        have hM5 : M < w5.heap.size := by omega
        have hM52 : M + 2 ≤ w5.heap.size := by omega
        clear ho5 hg5 hv5 hWf hsVs hinF hsF hbF hFM h5 hlow h5M h5r hrq5 hin5 hb5 hs5 hne5 hneI
        have hins : ins.length ≤ 41 := by have := HE.out.inl; omega
        go_wp2_with (at_builtin; refine list_app rfl (.tmp 30) (.tmp 33) 36 rfl (w.heap.size + 2) 3 j0 (.int .i64 0) 1 8 Try.underlying36 hj0 hy0 hy1 hy2 rfl (by decide) rfl (Hin6.out.alloc (.cells #[.int .i64 t.who] 3)) (m := 1) (news := icells t.who) rfl rfl (by simp) (new_src (cs := (icells t.who).toArray) (by simp)) (by intro u hu; simp [icells] at hu; subst hu; rfl) ?_ ?_ ?_ ?_)
        · unfold maxLen; omega
        · omega
        · first | omega | (simp; omega)
        intro v' w7 ho7 hg7 hv7
        obtain ⟨W6, hW6⟩ : ∃ W6, W6 = w5.setCell ⟨w.heap.size, 2, none⟩ (.slice A5 (cs.length + 1) c5) := ⟨_, rfl⟩
        rw [← hW6] at Hin6 Ho6 hg7
        have hs6 : W6.heap.size = w5.heap.size := by rw [hW6]; simp
        have h6 : ∀ g, g ≠ w.heap.size → W6.heap[g]? = w5.heap[g]? := fun g h => by rw [hW6]; exact Below.heap_setCell w5 ⟨w.heap.size, 2, none⟩ _ g h
        have HB6 : HB w.heap.size ⟨x.frames, x.budget, cs ++ [⟨t.who, t.claim, 0⟩], q⟩ A5 c5 (some ⟨b, off + 2, none⟩) (qc - 1) W6 := by
          rw [hW6]
          have := HB5.out.set2 (cs ++ [⟨t.who, t.claim, 0⟩]) A5 c5
          simpa using this
        have hb6 : Below w.heap.size w W6 := by rw [hW6]; exact Hb5.out.setCell (p := ⟨w.heap.size, 2, none⟩) (Nat.le_refl _) _
        have hap6 := own_apart Ho6.out Hin6.out (by decide)
        obtain ⟨Wg, hWg⟩ : ∃ Wg, Wg = W6.alloc (.cells #[.int .i64 t.who] 3) := ⟨_, rfl⟩
        have hoG := Ho6.out.alloc (.cells #[.int .i64 t.who] 3)
        rw [← hWg] at hg7 hoG
        have hsG : Wg.heap.size = W6.heap.size + 1 := by rw [hWg]; simp
        have hbG : Below W6.heap.size W6 Wg := by rw [hWg]; exact (Below.refl _ _).alloc (Nat.le_refl _) _
        have h7 : ∀ g, g < w.heap.size + 2 → w7.heap[g]? = W6.heap[g]? := fun g h => (hg7.block g (by omega) (fun e => by have := (Hin6.out.lt _ e.symm).1; omega)).trans (hbG.block g (by omega))
        have hB7 := HB6.keep (h7 w.heap.size (by omega))
        have h7r := (h7 (w.heap.size + 1) (by omega)).trans ((h6 (w.heap.size + 1) (by omega)).trans H5r.out)
        have hrq7 := Hrq5.out.keep (w' := w7) fun b' hb' => (h7 b' (by have := Hok.out b' hb'; omega)).trans (h6 b' (by have := Hok.out b' hb'; omega))
        have ho7c := hoG.kept hg7 hap6
        have hb7 : Below w.heap.size w w7 := (hb6.trans (hbG.mono (by omega))).grown hg7 (by omega) (fun q hq => by have := (Hin6.out.lt q hq).1; omega)
        obtain ⟨I7, ic7, rfl, _, _⟩ := own_slice ho7
        have hs7 := hg7.size
        have hsm7 : Hall.small ⟨x.frames, x.budget, cs ++ [⟨t.who, t.claim, 0⟩], q⟩ := small_let HE.out.small
        have hrun7 := let_run HE.out.run Hop.out
        have hinl := HE.out.inl
        have hE7 : Ent w ok x w7 (cs ++ [⟨t.who, t.claim, 0⟩]) q (ins ++ [t.who]) A5 c5 (some ⟨b, off + 2, none⟩) (qc - 1) I7 ic7 :=
          ⟨hB7, h7r, by simpa [C.cells] using ho7c, hrq7, ⟨by omega, by omega⟩, by simpa [icells] using ho7, hb7, by omega, hsm7, by simp at hinl ⊢; omega, hrun7⟩
        have HE7 := Lib.hid hE7
        clear ho7 hg7 hv7 hW6 hs6 h6 HB6 hb6 hap6 hWg hoG hsG hbG h7 hB7 h7r hrq7 ho7c hb7 hs7 hsm7 hrun7 hinl hE7
        go_wp2_with fail
        go_roundg q.length
        case measure => have := Hg.out; simp at this; omega
        case rel => exact ⟨cs ++ [⟨t.who, t.claim, 0⟩], q, ins ++ [t.who], A5, c5, (some ⟨b, off + 2, none⟩), (qc - 1), I7, ic7, rfl, by simp, HE7.out⟩
end Go.Proofs.Ythhfhgkkfaghoaa
