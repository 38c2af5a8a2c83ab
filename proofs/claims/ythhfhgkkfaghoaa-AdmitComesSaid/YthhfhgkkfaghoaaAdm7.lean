/- The contracts of admit.Pin and admit.Unpin. -/
import Derived.Test.YthhfhgkkfaghoaaAdm6
import Derived.Test.YthhfhgkkfaghoaaRow
namespace Go.Proofs.Ythhfhgkkfaghoaa
open Go.RowKit

/-- a hall told, with an error -/
def PinDone (ok : Nat → Prop) (r : Hall × Int) (w : World) (e : Ending) (w' : World) : Prop :=
  ∃ A ac Q qc, e = .returned (.tuple #[.agg #[.int .i64 r.1.frames, .int .i64 r.1.budget, .slice A r.1.cs.length ac, .slice Q r.1.q.length qc], .int .i64 r.2]) ∧
    HM w' (fun b => ok b ∨ (w.heap.size ≤ b ∧ b < w'.heap.size)) r.1 A ac Q qc ∧ Below w.heap.size w w'
theorem flat_held : ∀ (l : List C) (i : Nat) (c : C) (n : Int), l[i]? = some c → (l.flatMap C.cells).set (i * 3 + 2) (.int .i64 n) = (l.set i ⟨c.who, c.claim, n⟩).flatMap C.cells
  | [], i, c, n, h => by simp at h
  | d :: l, 0, c, n, h => by simp at h; subst h; simp [C.cells]
  | d :: l, i + 1, c, n, h => by
    have e := flat_held l i c n (by simpa using h)
    rw [List.set_cons_succ, List.flatMap_cons, List.flatMap_cons, ← e]
    simp [C.cells, Nat.succ_mul]
theorem own_held {w : World} {B g n cp : Nat} {E : TypeId} {l : List C} {i : Nat} {c : C} (h : w.ownsRow B E 3 (.slice (some ⟨g, 0, none⟩) n cp) n (l.flatMap C.cells)) (hc : l[i]? = some c) (m : Int) :
    (w.setCell ⟨g, i * 3 + 2, none⟩ (.int .i64 m)).ownsRow B E 3 (.slice (some ⟨g, 0, none⟩) n cp) n ((l.set i ⟨c.who, c.claim, m⟩).flatMap C.cells) := by
  rw [← flat_held l i c m hc]
  exact (h.stored _ _).1
theorem findC_some {l : List C} {who : Int} {i : Nat} (h : findC l who = some i) : ∃ c, l[i]? = some c ∧ c.who = who := by
  rw [findC, List.findIdx?_eq_some_iff_getElem] at h
  obtain ⟨h1, h2, _⟩ := h
  exact ⟨l[i], List.getElem?_eq_getElem h1, by simpa using h2⟩
theorem moreAt_len (l : List C) (i : Nat) (n : Int) : (moreAt l i n).length = l.length := by
  unfold moreAt
  split <;> simp
theorem moreAt_of {l : List C} {i : Nat} {c : C} (n : Int) (h : l[i]? = some c) : moreAt l i n = l.set i ⟨c.who, c.claim, c.held + n⟩ := by
  unfold moreAt; rw [h]

set_option maxRecDepth 20000 in
set_option maxHeartbeats 4000000 in
theorem pin_any (w : World) (ok : Nat → Prop) (A Q : Option Addr) (ac qc : Nat) (x : Hall) (who : Int) (hl1 : x.cs.length ≤ 1000) (hl2 : x.q.length ≤ 1000) (hok : ∀ b, ok b → b < w.heap.size) (hm : HM w ok x A ac Q qc) :
    Calls Try.prog 21 #[.agg #[.int .i64 x.frames, .int .i64 x.budget, .slice A x.cs.length ac, .slice Q x.q.length qc], .int .i64 who] w (PinDone ok (pinM x who) w) := by
  obtain ⟨W, hW, hbW, hsW, hB, hR⟩ := hall_box2 w A Q ac qc x 25
  have HmW := Lib.hid (hm.below hbW hok)
  have HmW' := Lib.hid ((hm.below hbW hok).imp (ok' := fun b => b < W.heap.size) fun b hb => by have := hok b hb; omega)
  have HbW := Lib.hid hbW
  have Hok := Lib.hid hok
  have HB' := Lib.hid hB
  have HR' := Lib.hid hR
  obtain ⟨c0, c1, c2, c3, f0, f1, f2, f3, lt⟩ := hB
  obtain ⟨r0, r1, r2, r3, k0, k1, k2, k3, ltR⟩ := hR
  have hW' := hW.symm
  clear hW hbW hm hok
  have d1 := hallRight_any W A Q ac qc x hl1 hl2 HmW'.out
  obtain ⟨rt, hrt⟩ : ∃ rt, rt = x.right := ⟨_, rfl⟩
  rw [← hrt] at d1
  have Hd1 := Lib.hid d1
  have Hrt := Lib.hid hrt
  clear hrt d1
  have hsame : ∀ V, Below W.heap.size W V → ∀ n, PinDone ok (x, n) w (.returned (.tuple #[.agg #[.int .i64 x.frames, .int .i64 x.budget, .slice A x.cs.length ac, .slice Q x.q.length qc], .int .i64 n])) (fill4 V (w.heap.size + 1) x A ac Q qc) := fun V hV n => by
    refine ⟨A, ac, Q, qc, rfl, ?_, fill4_below (HbW.out.trans (hV.mono (by omega))) (by omega)⟩
    exact ((HmW.out.below hV (fun b hb => by have := Hok.out b hb; omega)).keep fun b hb => fill4_keep (by have := Hok.out b hb; omega)).imp fun b hb => .inl hb
  have Hsame := Lib.hid hsame
  clear hsame
  cases rt with
  | false =>
    have hpm : pinM x who = (x, 1) := by rw [pinM, if_pos Hrt.out.symm]
    have Hpm := Lib.hid hpm
    clear hpm
    go_enter Try.func21, Try.ntmps21
    go_wp2_with fail
    refine Hd1.out.mono ?_
    rintro e V ⟨rfl, hb1⟩
    have Hb1 := Lib.hid hb1
    clear c0 c1 c2 c3 f0 f1 f2 f3 r0 r1 r2 r3 k0 k1 k2 k3 hW'
    obtain ⟨c0, c1, c2, c3, f0, f1, f2, f3, ltV⟩ := HB'.out.up hb1 lt
    obtain ⟨r0, r1, r2, r3, k0, k1, k2, k3, ltRV⟩ := HR'.out.up hb1 ltR
    clear hb1
    go_wp2_with fail
    refine bodyPost_ret (v := .tuple #[.agg #[.int .i64 x.frames, .int .i64 x.budget, .slice A x.cs.length ac, .slice Q x.q.length qc], .int .i64 1]) (by simp [results, Try.results21, go_sem, r0, r1, r2, r3]) rfl ?_
    rw [Hpm.out]
    exact Hsame.out V Hb1.out 1
  | true =>
    have h40 : x.cs.length + x.q.length ≤ 40 := (heads_iff.1 (right_iff.1 Hrt.out.symm).1).2.2.2.2
    have hpm : pinM x who = (match findC x.cs who with
      | none => (x, 3)
      | some i => match x.cs[i]? with
        | none => (x, 3)
        | some c => if c.claim ≤ c.held then (x, 10) else if x.left = 0 then (x, 6) else
          if safeB (x.left - 1) (moreAt x.cs i 1) = false then (x, 6) else ({ x with cs := moreAt x.cs i 1 }, 0)) := by
      rw [pinM, if_neg (by rw [← Hrt.out]; simp)]
      rfl
    have Hpm := Lib.hid hpm
    clear hpm
    go_enter Try.func21, Try.ntmps21
    go_wp2_with fail
    refine Hd1.out.mono ?_
    rintro e V ⟨rfl, hb1⟩
    have Hb1 := Lib.hid hb1
    clear c0 c1 c2 c3 f0 f1 f2 f3 r0 r1 r2 r3 k0 k1 k2 k3 hW'
    obtain ⟨c0, c1, c2, c3, f0, f1, f2, f3, ltV⟩ := HB'.out.up hb1 lt
    obtain ⟨r0, r1, r2, r3, k0, k1, k2, k3, ltRV⟩ := HR'.out.up hb1 ltR
    clear hb1
    go_wp2_with fail
    refine (client_any V A ac x.cs who (by omega) (HmW'.out.c.up Hb1.out)).mono ?_
    rintro e V2 ⟨rfl, hb2⟩
    have Hb2 := Lib.hid (Hb1.out.trans (hb2.mono Hb1.out.size))
    clear c0 c1 c2 c3 f0 f1 f2 f3 r0 r1 r2 r3 k0 k1 k2 k3 ltV ltRV hb2
    obtain ⟨c0, c1, c2, c3, f0, f1, f2, f3, ltV⟩ := HB'.out.up Hb2.out lt
    obtain ⟨r0, r1, r2, r3, k0, k1, k2, k3, ltRV⟩ := HR'.out.up Hb2.out ltR
    obtain ⟨fc, hfc⟩ : ∃ fc, fc = findC x.cs who := ⟨_, rfl⟩
    rw [← hfc] at Hpm ⊢
    cases fc with
    | none =>
      clear hfc
      simp only [nextI]
      go_wp2_with fail
      refine bodyPost_ret (v := .tuple #[.agg #[.int .i64 x.frames, .int .i64 x.budget, .slice A x.cs.length ac, .slice Q x.q.length qc], .int .i64 3]) (by simp [results, Try.results21, go_sem, r0, r1, r2, r3]) rfl ?_
      rw [Hpm.out]
      exact Hsame.out V2 Hb2.out 3
    | some i =>
      obtain ⟨c, hc, hcw⟩ := findC_some hfc.symm
      have hil : i < x.cs.length := (List.getElem?_eq_some_iff.1 hc).1
      obtain ⟨c', b, off, hc', rfl, hbb, hcell⟩ := rd_c HmW'.out.c hil
      obtain rfl : c = c' := by rw [hc] at hc'; exact Option.some.inj hc'
      obtain ⟨g0, g1, g2⟩ := hcell V2 Hb2.out
      have hbV2 : b < V2.heap.size := by have := Hb2.out.size; omega
      have hii : (0 : Int) ≤ (i : Int) := by omega
      have hil2 : (i : Int) < (x.cs.length : Int) := by omega
      have hneg : ¬ (i : Int) < 0 := by omega
      rw [show (match some i with
        | none => (x, 3)
        | some i => match x.cs[i]? with
          | none => (x, 3)
          | some c => if c.claim ≤ c.held then (x, 10) else if x.left = 0 then (x, 6) else
            if safeB (x.left - 1) (moreAt x.cs i 1) = false then (x, 6) else ({ x with cs := moreAt x.cs i 1 }, 0)) = (if c.claim ≤ c.held then (x, 10) else if x.left = 0 then (x, 6) else if safeB (x.left - 1) (moreAt x.cs i 1) = false then (x, 6) else ({ x with cs := moreAt x.cs i 1 }, (0 : Int))) from by simp only [hc]] at Hpm
      have Hc := Lib.hid hc
      clear hfc hc hc' hcw hcell
      simp only [nextI]
      by_cases hcl : c.claim ≤ c.held
      · rw [if_pos hcl] at Hpm
        go_wp2_with fail
        go_quiet (fail)
        go_wp2_with fail
        refine bodyPost_ret (v := .tuple #[.agg #[.int .i64 x.frames, .int .i64 x.budget, .slice (some ⟨b, off, none⟩) x.cs.length ac, .slice Q x.q.length qc], .int .i64 10]) (by simp [results, Try.results21, go_sem, r0, r1, r2, r3]) rfl ?_
        rw [Hpm.out]
        exact Hsame.out _ (below_drewN Hb2.out _) 10
      · rw [if_neg hcl] at Hpm
        go_wp2_with fail
        go_quiet (fail)
        go_wp2_with fail
        obtain ⟨V3, hV3⟩ : ∃ V3, V3 = V2.drewN nq := ⟨_, rfl⟩
        have Hb3 := Lib.hid (show Below W.heap.size W V3 by rw [hV3]; exact below_drewN Hb2.out _)
        rw [← hV3]
        clear hV3 c0 c1 c2 c3 f0 f1 f2 f3 r0 r1 r2 r3 k0 k1 k2 k3 ltV ltRV g0 g1 g2 hbV2
        have hsm := small_right Hrt.out.symm
        have hch := hsm.cl i c Hc.out
        have hlf0 := (right_iff.1 Hrt.out.symm).2.2.2.2.1
        have hlf8 : x.left ≤ 8 := by have := heldS_le hsm.cl x.cs.length; rw [List.take_length] at this; have := hsm.f2; unfold Hall.left; omega
        have d4 := left_any V3 (some ⟨b, off, none⟩) Q ac qc x hsm (HmW'.out.c.up Hb3.out)
        obtain ⟨lf, hlf⟩ : ∃ lf, lf = x.left := ⟨_, rfl⟩
        rw [← hlf] at d4 hlf0 hlf8 Hpm
        refine d4.mono ?_
        clear d4 hlf hsm
        rintro e V4 ⟨rfl, hb4⟩
        have Hb4 := Lib.hid (Hb3.out.trans (hb4.mono Hb3.out.size))
        clear hb4
        obtain ⟨c0, c1, c2, c3, f0, f1, f2, f3, ltV⟩ := HB'.out.up Hb4.out lt
        obtain ⟨r0, r1, r2, r3, k0, k1, k2, k3, ltRV⟩ := HR'.out.up Hb4.out ltR
        by_cases hl0 : lf = 0
        · rw [if_pos hl0] at Hpm
          have hlb : (lf == 0) = true := by simpa using hl0
          clear hl0
          go_wp2_with fail
          refine bodyPost_ret (v := .tuple #[.agg #[.int .i64 x.frames, .int .i64 x.budget, .slice (some ⟨b, off, none⟩) x.cs.length ac, .slice Q x.q.length qc], .int .i64 6]) (by simp [results, Try.results21, go_sem, r0, r1, r2, r3]) rfl ?_
          rw [Hpm.out]
          exact Hsame.out _ Hb4.out 6
        · rw [if_neg hl0] at Hpm
          have hlb : (lf == 0) = false := by simpa using hl0
          have ew1 : IntKind.i64.wrap (lf - 1) = lf - 1 := IntWalk.i64_in _ (by omega)
          clear hl0
          go_wp2_with fail
          refine (clone_Cl V4 (some ⟨b, off, none⟩) ac x.cs (by omega) c_len c_one (HmW'.out.c.up Hb4.out)).mono ?_
          rintro e V5 ⟨A5, c5, rfl, ho5, hb5⟩
          obtain ⟨g, cp, hv5, hg5b, hcp1, hcp2⟩ := own_addr ho5 (by omega)
          injection hv5 with hA5 _ hc5
          subst hA5 hc5
          have hs5 := hb5.size
          have hgl := (ho5.lt g rfl).2
          have hr5 : Rd C.cells 3 V5 V5.heap.size (some ⟨g, 0, none⟩) x.cs := Rd.of_own ho5 c_len (by decide)
          obtain ⟨c', b', off', hc', hA', _, hcell'⟩ := rd_c hr5 hil
          obtain rfl : c = c' := by have := Hc.out; rw [this] at hc'; exact Option.some.inj hc'
          injection hA' with hA'
          injection hA' with hb' hoff'
          subst hb' hoff'
          obtain ⟨g0, g1, g2⟩ := hcell' V5 (Below.refl _ _)
          simp only [Nat.zero_add] at g0 g1 g2
          obtain ⟨cur, hcur, _⟩ := own_row ho5
          have hfz := frozen_of hcur (i * 3 + 2)
          have ew2 : IntKind.i64.wrap (c.held + 1) = c.held + 1 := IntWalk.i64_in _ (by omega)
          have ho6 := own_held ho5 Hc.out (c.held + 1)
          rw [← moreAt_of 1 Hc.out] at ho6
          have Ho6 := Lib.hid ho6
          have Hb5 := Lib.hid hb5
          have hlm := moreAt_len x.cs i 1
          have hgN : w.heap.size + 2 ≤ g := by have := Hb4.out.size; omega
          clear c0 c1 c2 c3 f0 f1 f2 f3 r0 r1 r2 r3 k0 k1 k2 k3 ltV ltRV ho5 hb5 hr5 hcell' hcur hc' g0 g1 ho6
          go_wp2_with fail
          obtain ⟨V6, hV6⟩ : ∃ V6, V6 = V5.setCell ⟨g, i * 3 + 2, none⟩ (.int .i64 (c.held + 1)) := ⟨_, rfl⟩
          have h6 : ∀ b', b' ≠ g → V6.heap[b']? = V5.heap[b']? := fun b' h => by rw [hV6]; exact Below.heap_setCell V5 ⟨g, i * 3 + 2, none⟩ _ b' h
          have hs6 : V6.heap.size = V5.heap.size := by rw [hV6]; simp
          rw [← hV6] at Ho6 ⊢
          have hb6 : Below V4.heap.size V4 V6 := by rw [hV6]; exact Hb5.out.setCell (p := ⟨g, i * 3 + 2, none⟩) hg5b _
          have Hb6 := Lib.hid (Hb4.out.trans (hb6.mono Hb4.out.size))
          clear hV6 h6 hb6 g2 hfz
          have d7 := safe_any V6 (some ⟨g, 0, none⟩) c5 (moreAt x.cs i 1) (lf - 1) (by rw [hlm]; exact hcp1) hcp2 (by have := Ho6.out; rw [← hlm] at this; exact Rd.of_own this c_len (by decide))
          rw [hlm] at d7
          obtain ⟨sf, hsf⟩ : ∃ sf, sf = safeB (lf - 1) (moreAt x.cs i 1) := ⟨_, rfl⟩
          rw [← hsf] at d7 Hpm
          refine d7.mono ?_
          clear d7 hsf
          rintro e V7 ⟨rfl, hb7⟩
          have Ho7 := Lib.hid (own_up Ho6.out hb7)
          have Hb7 := Lib.hid (Hb6.out.trans (hb7.mono Hb6.out.size))
          have hs7 := hb7.size
          clear hb7
          obtain ⟨c0, c1, c2, c3, f0, f1, f2, f3, ltV⟩ := HB'.out.up Hb7.out lt
          obtain ⟨r0, r1, r2, r3, k0, k1, k2, k3, ltRV⟩ := HR'.out.up Hb7.out ltR
          cases sf with
          | false =>
            rw [if_pos rfl] at Hpm
            go_wp2_with fail
            refine bodyPost_ret (v := .tuple #[.agg #[.int .i64 x.frames, .int .i64 x.budget, .slice (some ⟨b, off, none⟩) x.cs.length ac, .slice Q x.q.length qc], .int .i64 6]) (by simp [results, Try.results21, go_sem, r0, r1, r2, r3]) rfl ?_
            rw [Hpm.out]
            exact Hsame.out _ Hb7.out 6
          | true =>
            rw [if_neg (by simp)] at Hpm
            go_wp2_with fail
            refine bodyPost_ret (v := .tuple #[.agg #[.int .i64 x.frames, .int .i64 x.budget, .slice (some ⟨g, 0, none⟩) x.cs.length c5, .slice Q x.q.length qc], .int .i64 0]) (by simp [results, Try.results21, go_sem, r0, r1, r2, r3]) rfl ?_
            rw [Hpm.out]
            obtain ⟨V8, hV8⟩ : ∃ V8, V8 = V7.setCell ⟨w.heap.size, 2, none⟩ (.slice (some ⟨g, 0, none⟩) x.cs.length c5) := ⟨_, rfl⟩
            obtain ⟨V9, hV9⟩ : ∃ V9, V9 = fill4 V8 (w.heap.size + 1) { x with cs := moreAt x.cs i 1 } (some ⟨g, 0, none⟩) c5 Q qc := ⟨_, rfl⟩
            have hV9' := hV9
            rw [fill4] at hV9'
            simp only [hlm] at hV9'
            rw [← hV8, ← hV9']
            have hk : ∀ b', b' ≠ w.heap.size → b' ≠ w.heap.size + 1 → V9.heap[b']? = V7.heap[b']? := fun b' h1 h2 => by
              rw [hV9, fill4_keep h2, hV8]
              exact Below.heap_setCell V7 ⟨w.heap.size, 2, none⟩ _ b' h1
            have hs9 : V9.heap.size = V7.heap.size := by rw [hV9, fill4_size, hV8]; simp
            have hrc := (Rd'.of_own (l := moreAt x.cs i 1) Ho7.out c_len (by decide)).keep (fun b' hb' => hk b' (by have := Hb4.out.size; omega) (by have := Hb4.out.size; omega))
            have hm7 := (HmW.out.below Hb7.out (fun b hb => by have := Hok.out b hb; omega)).keep (w' := V9) fun b' hb' => hk b' (by have := Hok.out b' hb'; omega) (by have := Hok.out b' hb'; omega)
            refine ⟨some ⟨g, 0, none⟩, c5, Q, qc, by simp only [hlm], ⟨hrc.imp fun b' hb' => .inr (by have := Hb4.out.size; omega), hm7.rq.imp fun b' hb' => .inl hb', by simp only [hlm]; exact hcp1, hcp2, hm7.qa, hm7.qa2⟩, ?_⟩
            rw [hV9]
            refine fill4_below ?_ (by omega)
            rw [hV8]
            exact (HbW.out.trans (Hb7.out.mono (by omega))).setCell (p := ⟨w.heap.size, 2, none⟩) (Nat.le_refl _) _
end Go.Proofs.Ythhfhgkkfaghoaa
