/- The contract of admit.Begin. -/
import Derived.Test.YthhfhgkkfaghoaaAdm5
namespace Go.Proofs.Ythhfhgkkfaghoaa
open Go.RowKit

/-- a hall's box, empty -/
structure ZB (N : Nat) (U : World) : Prop where
  c0 : U.cell? ⟨N, 0, none⟩ = some (.int .i64 0)
  c1 : U.cell? ⟨N, 1, none⟩ = some (.int .i64 0)
  c2 : U.cell? ⟨N, 2, none⟩ = some (.slice none 0 0)
  c3 : U.cell? ⟨N, 3, none⟩ = some (.slice none 0 0)
  f0 : U.frozen? ⟨N, 0, none⟩ = false
  f1 : U.frozen? ⟨N, 1, none⟩ = false
  f2 : U.frozen? ⟨N, 2, none⟩ = false
  f3 : U.frozen? ⟨N, 3, none⟩ = false
  lt : N < U.heap.size
theorem HB.zb {N : Nat} {U : World} (h : HB N ⟨0, 0, [], []⟩ none 0 none 0 U) : ZB N U := ⟨h.c0, h.c1, h.c2, h.c3, h.f0, h.f1, h.f2, h.f3, h.lt⟩
theorem ZB.hb {N : Nat} {U : World} (h : ZB N U) : HB N ⟨0, 0, [], []⟩ none 0 none 0 U := ⟨h.c0, h.c1, h.c2, h.c3, h.f0, h.f1, h.f2, h.f3, h.lt⟩
theorem ZB.keep {N : Nat} {U U' : World} (h : ZB N U) (hk : U'.heap[N]? = U.heap[N]?) : ZB N U' := (h.hb.keep hk).zb
theorem ZB.up {N B : Nat} {U U' : World} (h : ZB N U) (hb : Below B U U') (hN : N < B) : ZB N U' := h.keep (hb.block N hN)
/-- a hall told, with a Bool and an error -/
def BeginDone (ok : Nat → Prop) (r : Hall) (b : Bool) (n : Int) (w : World) (e : Ending) (w' : World) : Prop :=
  ∃ A ac Q qc, e = .returned (.tuple #[.agg #[.int .i64 r.frames, .int .i64 r.budget, .slice A r.cs.length ac, .slice Q r.q.length qc], .bool b, .int .i64 n]) ∧
    HM w' (fun b => ok b ∨ (w.heap.size ≤ b ∧ b < w'.heap.size)) r A ac Q qc ∧ Below w.heap.size w w'
theorem hall_box2 (w : World) (A Q : Option Addr) (ac qc : Nat) (x : Hall) (t : TypeId) : ∃ W, W = (w.alloc (.cells #[.int .i64 x.frames, .int .i64 x.budget, .slice A x.cs.length ac, .slice Q x.q.length qc] t)).alloc (.cells #[.int .i64 0, .int .i64 0, .slice none 0 0, .slice none 0 0] t) ∧ Below w.heap.size w W ∧ W.heap.size = w.heap.size + 2 ∧ HB w.heap.size x A ac Q qc W ∧ ZB (w.heap.size + 1) W := by
  refine ⟨_, rfl, ((Below.refl _ _).alloc (Nat.le_refl _) _).alloc (by simp) _, by simp, HB.of (t := t) (by rw [heap_alloc_old _ _ (by simp), heap_alloc_new]), (HB.of (h := ⟨0, 0, [], []⟩) (t := t) ?_).zb⟩
  have := heap_alloc_new (w.alloc (.cells #[.int .i64 x.frames, .int .i64 x.budget, .slice A x.cs.length ac, .slice Q x.q.length qc] t)) (.cells #[.int .i64 0, .int .i64 0, .slice none 0 0, .slice none 0 0] t)
  simpa using this
/-- the world behind the result's box is filled -/
def fill4 (w : World) (N : Nat) (x : Hall) (A : Option Addr) (ac : Nat) (Q : Option Addr) (qc : Nat) : World := (((w.setCell ⟨N, 0, none⟩ (.int .i64 x.frames)).setCell ⟨N, 1, none⟩ (.int .i64 x.budget)).setCell ⟨N, 2, none⟩ (.slice A x.cs.length ac)).setCell ⟨N, 3, none⟩ (.slice Q x.q.length qc)
section
variable {w : World} {N : Nat} {x : Hall} {A Q : Option Addr} {ac qc : Nat}
theorem fill4_keep {g : Nat} (h : g ≠ N) : (fill4 w N x A ac Q qc).heap[g]? = w.heap[g]? := by
  rw [fill4, Below.heap_setCell _ _ _ _ h, Below.heap_setCell _ _ _ _ h, Below.heap_setCell _ _ _ _ h, Below.heap_setCell _ _ _ _ h]
theorem fill4_size : (fill4 w N x A ac Q qc).heap.size = w.heap.size := by simp [fill4]
theorem fill4_below {B : Nat} {a : World} (h : Below B a w) (hN : B ≤ N) : Below B a (fill4 w N x A ac Q qc) :=
  (((h.setCell (p := ⟨N, 0, none⟩) hN _).setCell (p := ⟨N, 1, none⟩) hN _).setCell (p := ⟨N, 2, none⟩) hN _).setCell (p := ⟨N, 3, none⟩) hN _
end

theorem letIn_len (f : Int) : ∀ (q : List T) (cs : List C), (letIn f cs q).2.2.length + (letIn f cs q).2.1.length = q.length ∧ (letIn f cs q).1.length + (letIn f cs q).2.1.length = cs.length + q.length
  | [], cs => by simp [letIn]
  | t :: q, cs => by
    rw [letIn]
    split
    · obtain ⟨h1, h2⟩ := letIn_len f q (cs ++ [⟨t.who, t.claim, 0⟩])
      simp at h2 ⊢
      omega
    · simp
theorem enterM_ins {x r : Hall} {ins : List Int} (h : enterM x = (r, ins)) : ins.length ≤ x.q.length := by
  have h1 := (letIn_len x.frames x.q x.cs).1
  have : ins = (letIn x.frames x.cs x.q).2.2 := by rw [enterM] at h; exact (Prod.mk.inj h).2.symm
  rw [this]; omega
theorem HB.fill {N : Nat} {x r : Hall} {A Q A' Q' : Option Addr} {ac qc ac' qc' : Nat} {U : World} (H : HB N x A ac Q qc U) : HB N r A' ac' Q' qc' (fill4 U N r A' ac' Q' qc') := by
  obtain ⟨c0, c1, c2, c3, f0, f1, f2, f3, lt⟩ := H
  unfold fill4
  constructor <;> (try simp only []) <;> first | go_simp | (simp; omega)
theorem small_put {x : Hall} {who claim : Int} (h : x.small) (hl : x.cs.length + x.q.length ≤ 40) (hc : 0 ≤ claim ∧ claim ≤ 100) : Hall.small { x with q := x.q ++ [⟨who, claim⟩] } := by
  obtain ⟨a1, a2, a3, a4, a5, a6, a7⟩ := h
  refine ⟨a1, a2, a3, a4, by simp; omega, a6, fun k t ht => ?_⟩
  rcases Nat.lt_or_ge k x.q.length with h1 | h1
  · exact a7 k t (by rw [← ht]; exact (List.getElem?_append_left h1).symm)
  · have hk : k = x.q.length := by
      have := (List.getElem?_eq_some_iff.1 ht).1
      simp at this
      omega
    subst hk
    simp at ht
    subst ht
    exact hc
set_option maxRecDepth 20000 in
set_option maxHeartbeats 4000000 in
theorem begin_any (w : World) (ok : Nat → Prop) (A Q : Option Addr) (ac qc : Nat) (x : Hall) (who claim : Int) (hl1 : x.cs.length ≤ 1000) (hl2 : x.q.length ≤ 1000) (hok : ∀ b, ok b → b < w.heap.size) (hm : HM w ok x A ac Q qc) :
    Calls Try.prog 11 #[.agg #[.int .i64 x.frames, .int .i64 x.budget, .slice A x.cs.length ac, .slice Q x.q.length qc], .int .i64 who, .int .i64 claim] w (BeginDone ok (beginM x who claim).1 ((beginM x who claim).2.1.contains who) (beginM x who claim).2.2 w) := by
  obtain ⟨bb, hbb⟩ : ∃ bb, bb = (beginM x who claim).2.1.contains who := ⟨_, rfl⟩
  rw [← hbb]
  have Hbb := Lib.hid hbb
  clear hbb
  obtain ⟨W, hW, hbW, hsW, hB, hR⟩ := hall_box2 w A Q ac qc x 25
  have HmW := Lib.hid (hm.below hbW hok)
  have HmW' := Lib.hid ((hm.below hbW hok).imp (ok' := fun b => b < W.heap.size) fun b hb => by have := hok b hb; omega)
  have HbW := Lib.hid hbW
  have Hok := Lib.hid hok
  have HB' := Lib.hid hB
  have HR' := Lib.hid hR
  obtain ⟨c0, c1, c2, c3, f0, f1, f2, f3, lt⟩ := hB
  obtain ⟨r0, r1, r2, r3, k0, k1, k2, k3, ltR⟩ := hR
  have hW' := hW.symm
  clear hW hbW hm hok
  have d1 := hallRight_any W A Q ac qc x hl1 hl2 HmW'.out
  obtain ⟨rt, hrt⟩ : ∃ rt, rt = x.right := ⟨_, rfl⟩
  rw [← hrt] at d1
  have Hd1 := Lib.hid d1
  have Hrt := Lib.hid hrt
  clear hrt d1
  have hsame : ∀ V, Below W.heap.size W V → ∀ n, BeginDone ok x false n w (.returned (.tuple #[.agg #[.int .i64 x.frames, .int .i64 x.budget, .slice A x.cs.length ac, .slice Q x.q.length qc], .bool false, .int .i64 n])) (fill4 V (w.heap.size + 1) x A ac Q qc) := fun V hV n => by
    refine ⟨A, ac, Q, qc, rfl, ?_, fill4_below (HbW.out.trans (hV.mono (by omega))) (by omega)⟩
    exact ((HmW.out.below hV (fun b hb => by have := Hok.out b hb; omega)).keep fun b hb => fill4_keep (by have := Hok.out b hb; omega)).imp fun b hb => .inl hb
  have Hsame := Lib.hid hsame
  clear hsame
  cases rt with
  | false =>
    have hbg : beginM x who claim = (x, [], 1) := by rw [beginM, if_pos (.inl Hrt.out.symm)]
    have Hbg := Lib.hid hbg
    clear hbg
    go_enter Try.func11, Try.ntmps11
    go_wp2_with fail
    refine Hd1.out.mono ?_
    rintro e V ⟨rfl, hb1⟩
    have Hb1 := Lib.hid hb1
    clear c0 c1 c2 c3 f0 f1 f2 f3 r0 r1 r2 r3 k0 k1 k2 k3 hW'
    obtain ⟨c0, c1, c2, c3, f0, f1, f2, f3, ltV⟩ := HB'.out.up hb1 lt
    obtain ⟨r0, r1, r2, r3, k0, k1, k2, k3, ltRV⟩ := HR'.out.up hb1 ltR
    clear hb1
    go_wp2_with fail
    refine bodyPost_ret (v := .tuple #[.agg #[.int .i64 x.frames, .int .i64 x.budget, .slice A x.cs.length ac, .slice Q x.q.length qc], .bool false, .int .i64 1]) (by simp [results, Try.results11, go_sem, r0, r1, r2, r3]) rfl ?_
    have hb0 := Hbb.out
    rw [Hbg.out] at hb0 ⊢
    obtain rfl : bb = false := by simpa using hb0
    exact Hsame.out V Hb1.out 1
  | true =>
    have h40 : x.cs.length + x.q.length ≤ 40 := (heads_iff.1 (right_iff.1 Hrt.out.symm).1).2.2.2.2
    have hcs : who < 0 ∨ (¬ who < 0 ∧ 2147483647 < who) ∨ (¬ who < 0 ∧ ¬ 2147483647 < who) := by omega
    rcases hcs with h1 | ⟨h1, h2⟩ | ⟨h1, h2⟩
    iterate 2
      · have hbg : beginM x who claim = (x, [], 1) := by rw [beginM, if_pos (.inr (by omega))]
        have Hbg := Lib.hid hbg
        clear hbg
        go_enter Try.func11, Try.ntmps11
        go_wp2_with fail
        refine Hd1.out.mono ?_
        rintro e V ⟨rfl, hb1⟩
        have Hb1 := Lib.hid hb1
        clear c0 c1 c2 c3 f0 f1 f2 f3 r0 r1 r2 r3 k0 k1 k2 k3 hW'
        obtain ⟨c0, c1, c2, c3, f0, f1, f2, f3, ltV⟩ := HB'.out.up hb1 lt
        obtain ⟨r0, r1, r2, r3, k0, k1, k2, k3, ltRV⟩ := HR'.out.up hb1 ltR
        clear hb1
        go_wp2_with fail
        refine bodyPost_ret (v := .tuple #[.agg #[.int .i64 x.frames, .int .i64 x.budget, .slice A x.cs.length ac, .slice Q x.q.length qc], .bool false, .int .i64 1]) (by simp [results, Try.results11, go_sem, r0, r1, r2, r3]) rfl ?_
        have hb0 := Hbb.out
        rw [Hbg.out] at hb0 ⊢
        obtain rfl : bb = false := by simpa using hb0
        exact Hsame.out V Hb1.out 1
    have hbg : beginM x who claim = (if okClaim x claim = false then (x, [], 11) else if inC x.cs who = true ∨ inT x.q who = true then (x, [], 4) else if 40 ≤ x.cs.length + x.q.length then (x, [], 7) else ((enterM { x with q := x.q ++ [⟨who, claim⟩] }).1, (enterM { x with q := x.q ++ [⟨who, claim⟩] }).2, 0)) := by
      rw [beginM, if_neg (by rintro (h | h | h) <;> first | omega | (rw [← Hrt.out] at h; cases h))]
    have Hbg := Lib.hid hbg
    clear hbg
    go_enter Try.func11, Try.ntmps11
    go_wp2_with fail
    refine Hd1.out.mono ?_
    rintro e V ⟨rfl, hb1⟩
    have Hb1 := Lib.hid hb1
    clear c0 c1 c2 c3 f0 f1 f2 f3 r0 r1 r2 r3 k0 k1 k2 k3 hW'
    obtain ⟨c0, c1, c2, c3, f0, f1, f2, f3, ltV⟩ := HB'.out.up hb1 lt
    obtain ⟨r0, r1, r2, r3, k0, k1, k2, k3, ltRV⟩ := HR'.out.up hb1 ltR
    clear hb1
    go_wp2_with fail
    have d2 := claimable_any V A Q ac qc x claim
    obtain ⟨oc, hoc⟩ : ∃ oc, oc = okClaim x claim := ⟨_, rfl⟩
    rw [← hoc] at d2 Hbg
    refine d2.mono ?_
    clear d2
    have Hoc := Lib.hid hoc; clear hoc
    rintro e V2 ⟨rfl, hb2⟩
    have Hb2 := Lib.hid (Hb1.out.trans (hb2.mono Hb1.out.size))
    clear c0 c1 c2 c3 f0 f1 f2 f3 r0 r1 r2 r3 k0 k1 k2 k3 ltV ltRV hb2
    obtain ⟨c0, c1, c2, c3, f0, f1, f2, f3, ltV⟩ := HB'.out.up Hb2.out lt
    obtain ⟨r0, r1, r2, r3, k0, k1, k2, k3, ltRV⟩ := HR'.out.up Hb2.out ltR
    cases oc with
    | false =>
      go_wp2_with fail
      refine bodyPost_ret (v := .tuple #[.agg #[.int .i64 x.frames, .int .i64 x.budget, .slice A x.cs.length ac, .slice Q x.q.length qc], .bool false, .int .i64 11]) (by simp [results, Try.results11, go_sem, r0, r1, r2, r3]) rfl ?_
      have hb0 := Hbb.out
      rw [Hbg.out] at hb0 ⊢
      obtain rfl : bb = false := by simpa using hb0
      exact Hsame.out V2 Hb2.out 11
    | true =>
      go_wp2_with fail
      have d3 := client_any V2 A ac x.cs who (by omega) (HmW'.out.c.up Hb2.out)
      obtain ⟨m1, hm1⟩ : ∃ m, m = nextI (findC x.cs who) := ⟨_, rfl⟩
      obtain ⟨i1, hi1⟩ : ∃ i, i = inC x.cs who := ⟨_, rfl⟩
      have hd1 : decide (0 ≤ m1) = i1 := by rw [hm1, hi1]; exact findC_in
      rw [← hm1] at d3
      rw [if_neg (by simp), ← hi1] at Hbg
      refine d3.mono ?_
      clear d3 hm1
      have Hi1 := Lib.hid hi1; clear hi1
      rintro e V3 ⟨rfl, hb3⟩
      have Hb3 := Lib.hid (Hb2.out.trans (hb3.mono Hb2.out.size))
      clear c0 c1 c2 c3 f0 f1 f2 f3 r0 r1 r2 r3 k0 k1 k2 k3 ltV ltRV hb3
      obtain ⟨c0, c1, c2, c3, f0, f1, f2, f3, ltV⟩ := HB'.out.up Hb3.out lt
      obtain ⟨r0, r1, r2, r3, k0, k1, k2, k3, ltRV⟩ := HR'.out.up Hb3.out ltR
      cases i1 with
      | true =>
        go_wp2_with fail
        refine bodyPost_ret (v := .tuple #[.agg #[.int .i64 x.frames, .int .i64 x.budget, .slice A x.cs.length ac, .slice Q x.q.length qc], .bool false, .int .i64 4]) (by simp [results, Try.results11, go_sem, r0, r1, r2, r3]) rfl ?_
        have hb0 := Hbb.out
        rw [Hbg.out, if_pos (.inl (by first | rfl | trivial))] at hb0 ⊢
        obtain rfl : bb = false := by simpa using hb0
        exact Hsame.out V3 Hb3.out 4
      | false =>
        go_wp2_with fail
        have d4 := ticket_any V3 Q qc x.q who (by omega) (HmW'.out.q.up Hb3.out)
        obtain ⟨m2, hm2⟩ : ∃ m, m = nextI (findT x.q who) := ⟨_, rfl⟩
        obtain ⟨i2, hi2⟩ : ∃ i, i = inT x.q who := ⟨_, rfl⟩
        have hd2 : decide (0 ≤ m2) = i2 := by rw [hm2, hi2]; exact findT_in
        rw [← hm2] at d4
        rw [← hi2] at Hbg
        refine d4.mono ?_
        clear d4 hm2 hd1
        have Hi2 := Lib.hid hi2; clear hi2
        rintro e V4 ⟨rfl, hb4⟩
        have Hb4 := Lib.hid (Hb3.out.trans (hb4.mono Hb3.out.size))
        clear c0 c1 c2 c3 f0 f1 f2 f3 r0 r1 r2 r3 k0 k1 k2 k3 ltV ltRV hb4
        obtain ⟨c0, c1, c2, c3, f0, f1, f2, f3, ltV⟩ := HB'.out.up Hb4.out lt
        obtain ⟨r0, r1, r2, r3, k0, k1, k2, k3, ltRV⟩ := HR'.out.up Hb4.out ltR
        cases i2 with
        | true =>
          go_wp2_with fail
          refine bodyPost_ret (v := .tuple #[.agg #[.int .i64 x.frames, .int .i64 x.budget, .slice A x.cs.length ac, .slice Q x.q.length qc], .bool false, .int .i64 4]) (by simp [results, Try.results11, go_sem, r0, r1, r2, r3]) rfl ?_
          have hb0 := Hbb.out
          rw [Hbg.out, if_pos (.inr (by first | rfl | trivial))] at hb0 ⊢
          obtain rfl : bb = false := by simpa using hb0
          exact Hsame.out V4 Hb4.out 4
        | false =>
          rw [if_neg (by simp)] at Hbg
          have ew : IntKind.i64.wrap ((x.cs.length : Int) + (x.q.length : Int)) = (x.cs.length : Int) + (x.q.length : Int) := IntWalk.i64_in _ (by omega)
          by_cases hful : (40 : Int) ≤ (x.cs.length : Int) + (x.q.length : Int)
          · have hful' : 40 ≤ x.cs.length + x.q.length := by omega
            rw [if_pos hful'] at Hbg
            clear hful'
            go_wp2_with fail
            refine bodyPost_ret (v := .tuple #[.agg #[.int .i64 x.frames, .int .i64 x.budget, .slice A x.cs.length ac, .slice Q x.q.length qc], .bool false, .int .i64 7]) (by simp [results, Try.results11, go_sem, r0, r1, r2, r3]) rfl ?_
            have hb0 := Hbb.out
            rw [Hbg.out] at hb0 ⊢
            obtain rfl : bb = false := by simpa using hb0
            exact Hsame.out V4 Hb4.out 7
          · rw [if_neg (by omega)] at Hbg
            have hok100 : 0 ≤ claim ∧ claim ≤ 100 := by
              have h5 := okClaim_le Hoc.out.symm
              have h6 := heads_iff.1 (right_iff.1 Hrt.out.symm).1
              omega
            have Hsm := Lib.hid (small_put (who := who) (small_right Hrt.out.symm) h40 hok100)
            obtain ⟨i0, hi0, hz0, hz1, hz2⟩ := info_parts Try.infoTk
            clear hok100
            go_wp2_with fail
            refine (clone_Tk V4 Q qc x.q (by omega) t_len t_one (HmW'.out.q.up Hb4.out)).mono ?_
            rintro e V5 ⟨A5, c5, rfl, ho5, hb5⟩
            have Ho5 := Lib.hid ho5
            have Hb45 := Lib.hid hb5
            have hs5 := hb5.size
            clear c0 c1 c2 c3 f0 f1 f2 f3 r0 r1 r2 r3 k0 k1 k2 k3 ho5 hb5
            have HB5 := Lib.hid (HB'.out.up (Hb4.out.trans (Hb45.out.mono Hb4.out.size)) lt)
            have HR5 := Lib.hid (HR'.out.up (Hb4.out.trans (Hb45.out.mono Hb4.out.size)) ltR)
            go_wp2_with (at_builtin; refine list_app rfl (.tmp 51) (.tmp 55) 23 rfl V4.heap.size 66 i0 (.agg #[.int .i64 0, .int .i64 0]) 2 16 Try.underlying23 hi0 hz0 hz1 hz2 rfl (by decide) rfl (Ho5.out.alloc (.cells #[.int .i64 who, .int .i64 claim] 66)) (m := 1) (news := T.cells ⟨who, claim⟩) rfl rfl (by simp) (new_src (cs := (T.cells ⟨who, claim⟩).toArray) (by simp)) (t_one ⟨who, claim⟩) ?_ ?_ ?_ ?_)
            · unfold maxLen; omega
            · omega
            · first | omega | (simp; omega)
            intro v' w6 ho6 hg6 hv6
            obtain ⟨Wf, hWf⟩ : ∃ Wf, Wf = V5.alloc (.cells #[.int .i64 who, .int .i64 claim] 66) := ⟨_, rfl⟩
            rw [← hWf] at hg6
            have hsF : Wf.heap.size = V5.heap.size + 1 := by rw [hWf]; simp
            have hbF : Below V5.heap.size V5 Wf := by rw [hWf]; exact (Below.refl _ _).alloc (Nat.le_refl _) _
            have hV4N : w.heap.size + 2 ≤ V4.heap.size := by have := Hb4.out.size; omega
            have h6 : ∀ g, g < V4.heap.size → w6.heap[g]? = V5.heap[g]? := fun g h => (hg6.block g (by omega) (fun e => by have := (Ho5.out.lt _ e.symm).1; omega)).trans (hbF.block g (by omega))
            have hb46 : Below V4.heap.size V4 w6 := (Hb45.out.trans (hbF.mono hs5)).grown hg6 (by omega) (fun q hq => by have := (Ho5.out.lt q hq).1; omega)
            obtain ⟨A6, c6, rfl, _, _⟩ := own_slice ho6
            have hs6 := hg6.size
            have hne6 : (Value.slice A6 (x.q.length + 1) c6).ownBlock ≠ some w.heap.size := fun e => by have := (ho6.lt _ e).1; omega
            have HB6 := Lib.hid (HB5.out.keep (h6 w.heap.size (by omega)))
            have HR6 := Lib.hid (HR5.out.keep (h6 (w.heap.size + 1) (by omega)))
            have Hb46 := Lib.hid hb46
            have Ho6 := Lib.hid ho6
            have Hne6 := Lib.hid hne6
            have hs46 : V4.heap.size ≤ w6.heap.size := by omega
            obtain ⟨c0, c1, c2, c3, f0, f1, f2, f3, lt6⟩ := HB6.out
            clear hWf hg6 hv6 hsF hbF h6 hb46 hne6 ho6 hs6 ltV ltRV
            go_wp2_with fail
            obtain ⟨W7, hW7⟩ : ∃ W7, W7 = w6.setCell ⟨w.heap.size, 3, none⟩ (.slice A6 (x.q.length + 1) c6) := ⟨_, rfl⟩
            have h7 : ∀ g, g ≠ w.heap.size → W7.heap[g]? = w6.heap[g]? := fun g h => by rw [hW7]; exact Below.heap_setCell w6 ⟨w.heap.size, 3, none⟩ _ g h
            have hs7 : W7.heap.size = w6.heap.size := by rw [hW7]; simp
            have hB7 : HB w.heap.size { x with q := x.q ++ [⟨who, claim⟩] } A ac A6 c6 W7 := by
              rw [hW7]
              have := HB6.out.set3 (x.q ++ [⟨who, claim⟩]) A6 c6
              simpa using this
            have hR7 := HR6.out.keep (h7 (w.heap.size + 1) (by omega))
            have hr6 := Rd'.of_own (f := T.cells) (l := x.q ++ [⟨who, claim⟩]) (n := x.q.length + 1) (by have := Ho6.out; rw [List.flatMap_append]; simpa using this) t_len (by decide)
            obtain ⟨_, _, hv, hc1, hc2⟩ := own_slice Ho6.out
            injection hv with hv1 hv2 hv3
            subst hv3
            have hm7 : HM W7 (fun b => ok b ∨ (V4.heap.size ≤ b ∧ b < w6.heap.size)) { x with q := x.q ++ [⟨who, claim⟩] } A ac A6 c6 := by
              have hm6 := (HmW.out.below Hb4.out (fun b hb => by have := Hok.out b hb; omega)).below Hb46.out (fun b hb => by have := Hok.out b hb; omega)
              refine ⟨(hm6.rc.keep fun b hb => h7 b (by have := Hok.out b hb; omega)).imp fun b hb => .inl hb, (hr6.keep fun b hb => h7 b (by omega)).imp fun b hb => .inr hb, hm6.ca, hm6.ca2, by simpa using hc1, hc2⟩
            have hbw7 : Below w.heap.size w W7 := by
              rw [hW7]
              exact (HbW.out.trans ((Hb4.out.mono (by omega)).trans (Hb46.out.mono (by omega)))).setCell (p := ⟨w.heap.size, 3, none⟩) (Nat.le_refl _) _
            have d8 := enter_any W7 (fun b => ok b ∨ (V4.heap.size ≤ b ∧ b < w6.heap.size)) A A6 ac c6 { x with q := x.q ++ [⟨who, claim⟩] } Hsm.out (fun b hb => by
              rcases hb with h | h
              · have := Hok.out b h; omega
              · omega) hm7
            obtain ⟨r, ins, hr⟩ : ∃ r ins, enterM { x with q := x.q ++ [⟨who, claim⟩] } = (r, ins) := ⟨_, _, rfl⟩
            rw [hr] at d8
            simp only [List.length_append, List.length_cons, List.length_nil, Nat.zero_add] at d8
            rw [hr] at Hbg
            have Hr := Lib.hid hr
            have Hil := Lib.hid (show ins.length ≤ 41 by have := enterM_ins hr; simp at this; omega)
            have Hd8 := Lib.hid d8
            have HB7 := Lib.hid hB7
            have HR7 := Lib.hid hR7
            have Hbw7 := Lib.hid hbw7
            rw [← hW7]
            clear hW7 h7 hB7 hR7 hr6 hv1 hv2 hc1 hc2 hm7 hbw7 d8 hr c0 c1 c2 c3 f0 f1 f2 f3
            refine Hd8.out.mono ?_
            clear Hd8
            rintro e V8 ⟨A8, ac8, Q8, qc8, I8, ic8, rfl, hm8, hi8, hb8⟩
            have Hm8 := Lib.hid hm8
            have Hi8 := Lib.hid hi8
            have Hb8 := Lib.hid hb8
            have hs8 := hb8.size
            have HB8 := Lib.hid (HB7.out.up hb8 (by omega))
            have HR8 := Lib.hid (HR7.out.up hb8 (by omega))
            clear hm8 hi8 hb8
            simp only
            obtain ⟨c0, c1, c2, c3, f0, f1, f2, f3, lt8⟩ := HB8.out
            go_wp2_with fail
            obtain ⟨W9, hW9⟩ : ∃ W9, W9 = fill4 V8 w.heap.size r A8 ac8 Q8 qc8 := ⟨_, rfl⟩
            have hB9 : HB w.heap.size r A8 ac8 Q8 qc8 W9 := by rw [hW9]; exact HB8.out.fill
            have hk9 : ∀ g, g ≠ w.heap.size → W9.heap[g]? = V8.heap[g]? := fun g h => by rw [hW9]; exact fill4_keep h
            have hs9 : W9.heap.size = V8.heap.size := by rw [hW9]; exact fill4_size
            have hb9 : Below w.heap.size w W9 := by rw [hW9]; exact fill4_below (Hbw7.out.trans (Hb8.out.mono (by omega))) (Nat.le_refl _)
            have hR9 := HR8.out.keep (hk9 (w.heap.size + 1) (by omega))
            have hm9 := Hm8.out.keep (w' := W9) fun b hb => hk9 b (by
              rcases hb with (h | h) | h
              · have := Hok.out b h; omega
              · omega
              · omega)
            have hi9 := (Hi8.out.keep (w' := W9) fun b hb => hk9 b (by omega)).to (B := W9.heap.size) fun b hb => by omega
            rw [fill4] at hW9
            rw [← hW9]
            have HB9 := Lib.hid hB9
            have HR9 := Lib.hid hR9
            have Hm9 := Lib.hid hm9
            have Hi9 := Lib.hid hi9
            have Hb9 := Lib.hid hb9
            clear hW9 hB9 hk9 hb9 hR9 hm9 hi9 c0 c1 c2 c3 f0 f1 f2 f3 lt8
            refine wp_region_C (fun U => HB w.heap.size r A8 ac8 Q8 qc8 U) (by kernel_rfl) rfl rfl ?_
            obtain ⟨U0, hU0⟩ : ∃ U0, U0 = W9.drew := ⟨_, rfl⟩
            have hbU0 : Below W9.heap.size W9 U0 := by rw [hU0]; exact (Below.refl _ _).drew
            have hsU0 : U0.heap.size = W9.heap.size := by rw [hU0]; rfl
            rw [← hU0]
            have HU0 := Lib.hid (HB9.out.up hbU0 (by omega))
            have HbU0 := Lib.hid hbU0
            clear hU0 hbU0
            (refine takeC (i := 0) (.agg #[.int .i64 r.frames, .int .i64 r.budget, .slice A8 r.cs.length ac8, .slice Q8 r.q.length qc8]) rfl (by kernel_rfl) (by kernel_rfl) (by kernel_rfl) rfl (fun _ _ _ h => h) HU0.out rfl (fun U hU => by obtain ⟨c0, c1, c2, c3, _, _, _, _, _⟩ := hU; go_simp) (fun K hK => ?_); have HK := Lib.hid hK; clear hK; go_simp; refine HK.out _ ?_; clear HK K)
            (refine takeC (i := 1) (.slice I8 ins.length ic8) rfl (by kernel_rfl) (by kernel_rfl) (by kernel_rfl) rfl (fun _ _ _ h => h) HU0.out rfl (fun U hU => by obtain ⟨c0, c1, c2, c3, _, _, _, _, _⟩ := hU; go_simp) (fun K hK => ?_); have HK := Lib.hid hK; clear hK; go_simp; refine HK.out _ ?_; clear HK K)
            (refine takeC (i := 2) (.int .i64 who) rfl (by kernel_rfl) (by kernel_rfl) (by kernel_rfl) rfl (fun _ _ _ h => h) HU0.out rfl (fun U hU => by obtain ⟨c0, c1, c2, c3, _, _, _, _, _⟩ := hU; go_simp) (fun K hK => ?_); have HK := Lib.hid hK; clear hK; go_simp; refine HK.out _ ?_; clear HK K)
            refine oneC (i := 3) (by kernel_rfl) rfl rfl rfl (fun K hK => ?_)
            have HK := Lib.hid hK; clear hK; go_simp
            have d9 := contains_any U0 I8 ic8 ins who (by have := Hil.out; omega) (Hi9.out.up HbU0.out)
            rw [show ins.contains who = bb from by have := Hbb.out; rw [Hbg.out] at this; exact this.symm] at d9
            refine d9.mono ?_
            clear d9
            rintro e U1 ⟨rfl, hbU1⟩
            have HU1 := Lib.hid (HU0.out.up hbU1 (by omega))
            have HbU1 := Lib.hid (HbU0.out.trans (hbU1.mono (by omega)))
            have HR1 := Lib.hid (HR9.out.up HbU1.out (by omega))
            have hsU1 : W9.heap.size ≤ U1.heap.size := HbU1.out.size
            clear hbU1
            refine HK.out _ _ HU1.out ?_
            clear HK K
            obtain ⟨r0, r1, r2, r3, k0, k1, k2, k3, ltR1⟩ := HR1.out
            refine oneC (i := 4) (by kernel_rfl) rfl rfl rfl (fun K hK => ?_)
            have HK := Lib.hid hK; clear hK; go_simp
            obtain ⟨U2, hU2⟩ : ∃ U2, U2 = fill4 U1 (w.heap.size + 1) r A8 ac8 Q8 qc8 := ⟨_, rfl⟩
            have hB2 : HB w.heap.size r A8 ac8 Q8 qc8 U2 := by rw [hU2]; exact HU1.out.keep (fill4_keep (by omega))
            have hR2 : HB (w.heap.size + 1) r A8 ac8 Q8 qc8 U2 := by rw [hU2]; exact HR1.out.hb.fill
            have hm2 := (Hm9.out.keep (w' := U1) fun b hb => HbU1.out.block b (by
              rcases hb with (h | h) | h
              · have := Hok.out b h; omega
              · omega
              · omega)).keep (w' := U2) fun b hb => by
                rw [hU2]
                refine fill4_keep ?_
                rcases hb with (h | h) | h
                · have := Hok.out b h; omega
                · omega
                · omega
            have hs2 : U2.heap.size = U1.heap.size := by rw [hU2]; exact fill4_size
            have hb2 : Below w.heap.size w U2 := by rw [hU2]; exact fill4_below (Hb9.out.trans (HbU1.out.mono (by omega))) (by omega)
            rw [fill4] at hU2
            rw [← hU2]
            have HB2 := Lib.hid hB2
            have HR2 := Lib.hid hR2
            have Hm2 := Lib.hid hm2
            have Hb2 := Lib.hid hb2
            clear hU2 hB2 hR2 hm2 hb2 r0 r1 r2 r3 k0 k1 k2 k3 ltR1
            refine HK.out _ _ HB2.out ?_
            clear HK K
            (refine oneC (i := 5) (by kernel_rfl) rfl rfl rfl (fun K hK => ?_); have HK := Lib.hid hK; clear hK; go_simp; refine HK.out _ _ HB2.out ?_; clear HK K)
            (refine oneC (i := 6) (by kernel_rfl) rfl rfl rfl (fun K hK => ?_); have HK := Lib.hid hK; clear hK; go_simp; refine HK.out _ _ HB2.out ?_; clear HK K)
            refine doneC (by kernel_rfl) ?_
            obtain ⟨r0, r1, r2, r3, k0, k1, k2, k3, ltR1⟩ := HR2.out
            go_wp2_with fail
            refine bodyPost_ret (v := .tuple #[.agg #[.int .i64 r.frames, .int .i64 r.budget, .slice A8 r.cs.length ac8, .slice Q8 r.q.length qc8], .bool bb, .int .i64 0]) (by simp [results, Try.results11, go_sem, r0, r1, r2, r3]) rfl ?_
            rw [Hbg.out]
            refine ⟨A8, ac8, Q8, qc8, rfl, Hm2.out.imp fun b hb => ?_, Hb2.out⟩
            rcases hb with (h | h) | h
            · exact .inl h
            · exact .inr (by omega)
            · exact .inr (by omega)
end Go.Proofs.Ythhfhgkkfaghoaa
