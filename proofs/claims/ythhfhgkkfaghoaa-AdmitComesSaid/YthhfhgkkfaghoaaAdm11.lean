/- The contract of awake. -/
import Derived.Test.YthhfhgkkfaghoaaAdm10
namespace Go.Proofs.Ythhfhgkkfaghoaa
open Go.RowKit

theorem HM.nil {w : World} {ok : Nat → Prop} {f b : Int} : HM w ok ⟨f, b, [], []⟩ none 0 none 0 := ⟨Rd'.nil, Rd'.nil, Nat.le_refl _, by decide, Nat.le_refl _, by decide⟩
section
variable {U V : World} {N : Nat} {r : Hall} {A Q : Option Addr} {ac qc : Nat}
/-- what a call told goes into a new box -/
theorem new_box (t : TypeId) (hm : HM V (fun b => b < V.heap.size) r A ac Q qc) : ∃ W, W = V.alloc (.cells #[.int .i64 r.frames, .int .i64 r.budget, .slice A r.cs.length ac, .slice Q r.q.length qc] t) ∧ Below V.heap.size V W ∧ W.heap.size = V.heap.size + 1 ∧ HB V.heap.size r A ac Q qc W ∧ HM W (fun b => b ≠ V.heap.size ∧ b < W.heap.size) r A ac Q qc := by
  have hb : Below V.heap.size V (V.alloc (.cells #[.int .i64 r.frames, .int .i64 r.budget, .slice A r.cs.length ac, .slice Q r.q.length qc] t)) := (Below.refl _ _).alloc (Nat.le_refl _) _
  refine ⟨_, rfl, hb, by simp, HB.of (heap_alloc_new V _), (hm.below hb fun b hb => hb).imp fun b hb => ⟨by omega, by simp; omega⟩⟩
/-- what a call told goes into an old box -/
theorem old_box {x : Hall} {A' Q' : Option Addr} {ac' qc' : Nat} (h : HB N x A' ac' Q' qc' V) (hm : HM V (fun b => b ≠ N ∧ b < V.heap.size) r A ac Q qc) : ∃ W, W = fill4 V N r A ac Q qc ∧ (∀ g, g ≠ N → W.heap[g]? = V.heap[g]?) ∧ W.heap.size = V.heap.size ∧ HB N r A ac Q qc W ∧ HM W (fun b => b ≠ N ∧ b < W.heap.size) r A ac Q qc := by
  refine ⟨_, rfl, fun g hg => fill4_keep hg, fill4_size, h.fill, (hm.keep fun b hb => fill4_keep hb.1).imp fun b hb => ⟨hb.1, by rw [fill4_size]; exact hb.2⟩⟩
end
theorem fill4_out {B N : Nat} {a w : World} {x : Hall} {A Q : Option Addr} {ac qc : Nat} (h : Below B a w) (hN : B ≤ N) : Below B a (fill4 w N x A ac Q qc) := fill4_below h hN

def aw0 : Hall := ⟨2, 2, [], []⟩
def aw1 : Hall := ⟨2, 2, [⟨1, 2, 0⟩], []⟩
def aw2 : Hall := ⟨2, 2, [⟨1, 2, 0⟩, ⟨2, 2, 0⟩], []⟩
def aw3 : Hall := ⟨2, 2, [⟨1, 2, 0⟩, ⟨2, 2, 0⟩], [⟨3, 1⟩]⟩
def aw4 : Hall := ⟨2, 2, [⟨1, 2, 1⟩, ⟨2, 2, 0⟩], [⟨3, 1⟩]⟩
def aw7 : Hall := ⟨2, 2, [⟨2, 2, 0⟩, ⟨3, 1, 0⟩], []⟩
theorem awe1 : beginM aw0 1 2 = (aw1, [1], 0) := by decide +kernel
theorem awe2 : beginM aw1 2 2 = (aw2, [2], 0) := by decide +kernel
theorem awe3 : beginM aw2 3 1 = (aw3, [], 0) := by decide +kernel
theorem awe4 : pinM aw3 1 = (aw4, 0) := by decide +kernel
theorem awe5 : pinM aw4 2 = (aw4, 6) := by decide +kernel
theorem awe6 : beginM aw4 4 3 = (aw4, [], 11) := by decide +kernel
theorem awe7 : endM aw4 1 = (aw7, [3], 0) := by decide +kernel
theorem awr4 : aw4.right = true ∧ aw4.left = 1 := by decide +kernel
theorem awr7 : aw7.right = true ∧ aw7.left = 2 := by decide +kernel

set_option maxRecDepth 20000 in
set_option maxHeartbeats 8000000 in
theorem awake_any (w : World) : Calls Try.prog 10 #[] w fun e w' => e = .returned (.bool true) ∧ Below w.heap.size w w' := by
  go_enter Try.func10, Try.ntmps10
  go_wp2_with fail
  have d1 := begin_any w (fun _ => False) none none 0 0 aw0 1 2 (by decide) (by decide) (fun b hb => hb.elim) HM.nil
  rw [awe1] at d1
  refine d1.mono ?_
  clear d1
  rintro e V1 ⟨A1, a1, Q1, q1, rfl, hm1, hb1⟩
  obtain ⟨U1, hU1, hbU1, hsU1, hB1, hM1⟩ := new_box 25 (hm1.imp fun b hb => by rcases hb with h | h; exact h.elim; exact h.2)
  obtain ⟨N, hN⟩ : ∃ N, N = V1.heap.size := ⟨_, rfl⟩
  rw [← hN] at hB1 hM1
  have hs1 := hb1.size
  have HbU1 := Lib.hid (bnext hb1 hbU1)
  have hNw : w.heap.size ≤ N := by omega
  have HB1 := Lib.hid hB1
  have HM1 := Lib.hid hM1
  have hNU1 : N < U1.heap.size := by omega
  obtain ⟨e0, e1, e2, e3, h0, h1, h2, h3, lt2⟩ := hB1
  obtain ⟨c0, c1, c2, c3, f0, f1, f2, f3, lt⟩ := HB1.out
  have hU1' := hU1.symm
  have hN' := hN.symm
  simp only [aw1, List.length_cons, List.length_nil, Nat.zero_add] at c0 c1 c2 c3 e0 e1 e2 e3 hU1' ⊢
  clear hU1 hbU1 hsU1 hM1 hb1 hs1 hm1 hN
  go_wp2_with fail
  clear hU1' hN'
  have d2 := begin_any U1 (fun b => b ≠ N ∧ b < U1.heap.size) A1 Q1 a1 q1 aw1 2 2 (by decide) (by decide) (fun b hb => hb.2) HM1.out
  rw [awe2] at d2
  refine d2.mono ?_
  clear d2
  rintro e V2 ⟨A2, a2, Q2, q2, rfl, hm2, hb2⟩
  have hs2 := hb2.size
  have hBV2 := HB1.out.up hb2 hNU1
  have HBV2 := Lib.hid hBV2
  obtain ⟨U2, hU2, hk2, hsU2, hB2, hM2⟩ := old_box hBV2 (hm2.imp (ok' := fun b => b ≠ N ∧ b < V2.heap.size) fun b hb => by
    rcases hb with h | h
    · exact ⟨h.1, by omega⟩
    · exact ⟨by omega, h.2⟩)
  have HbU2 := Lib.hid (show Below w.heap.size w U2 by rw [hU2]; exact fill4_below (bnext HbU1.out hb2) hNw)
  have HB2 := Lib.hid hB2
  have HM2 := Lib.hid hM2
  have hNU2 : N < U2.heap.size := by omega
  clear c0 c1 c2 c3 f0 f1 f2 f3 lt
  obtain ⟨c0, c1, c2, c3, f0, f1, f2, f3, lt⟩ := hBV2
  rw [fill4] at hU2
  have hU2' := hU2.symm
  clear e0 e1 e2 e3 h0 h1 h2 h3 lt2
  obtain ⟨e0, e1, e2, e3, h0, h1, h2, h3, lt2⟩ := hB2
  simp only [aw1, aw2, List.length_cons, List.length_nil, Nat.zero_add, Nat.reduceAdd] at c0 c1 c2 c3 e0 e1 e2 e3 hU2' ⊢
  clear hU2 hb2 hm2 hs2 hk2 hsU2 hM2 hNU1
  go_wp2_with fail
  clear hU2'
  have d3 := begin_any U2 (fun b => b ≠ N ∧ b < U2.heap.size) A2 Q2 a2 q2 aw2 3 1 (by decide) (by decide) (fun b hb => hb.2) HM2.out
  rw [awe3] at d3
  refine d3.mono ?_
  clear d3
  rintro e V3 ⟨A3, a3, Q3, q3, rfl, hm3, hb3⟩
  have hs3 := hb3.size
  have hBV3 := HB2.out.up hb3 hNU2
  have HBV3 := Lib.hid hBV3
  obtain ⟨U3, hU3, hk3, hsU3, hB3, hM3⟩ := old_box hBV3 (hm3.imp (ok' := fun b => b ≠ N ∧ b < V3.heap.size) fun b hb => by
    rcases hb with h | h
    · exact ⟨h.1, by omega⟩
    · exact ⟨by omega, h.2⟩)
  have HbU3 := Lib.hid (show Below w.heap.size w U3 by rw [hU3]; exact fill4_below (bnext HbU2.out hb3) hNw)
  have HB3 := Lib.hid hB3
  have HM3 := Lib.hid hM3
  have hNU3 : N < U3.heap.size := by omega
  clear c0 c1 c2 c3 f0 f1 f2 f3 lt
  obtain ⟨c0, c1, c2, c3, f0, f1, f2, f3, lt⟩ := hBV3
  rw [fill4] at hU3
  have hU3' := hU3.symm
  clear e0 e1 e2 e3 h0 h1 h2 h3 lt2
  obtain ⟨e0, e1, e2, e3, h0, h1, h2, h3, lt2⟩ := hB3
  simp only [aw2, aw3, List.length_cons, List.length_nil, Nat.zero_add, Nat.reduceAdd] at c0 c1 c2 c3 e0 e1 e2 e3 hU3' ⊢
  clear hU3 hb3 hm3 hs3 hk3 hsU3 hM3 hNU2
  go_wp2_with fail
  clear hU3'
  have d4 := pin_any U3 (fun b => b ≠ N ∧ b < U3.heap.size) A3 Q3 a3 q3 aw3 1 (by decide) (by decide) (fun b hb => hb.2) HM3.out
  rw [awe4] at d4
  refine d4.mono ?_
  clear d4
  rintro e V4 ⟨A4, a4, Q4, q4, rfl, hm4, hb4⟩
  have hs4 := hb4.size
  have hBV4 := HB3.out.up hb4 hNU3
  have HBV4 := Lib.hid hBV4
  obtain ⟨U4, hU4, hk4, hsU4, hB4, hM4⟩ := old_box hBV4 (hm4.imp (ok' := fun b => b ≠ N ∧ b < V4.heap.size) fun b hb => by
    rcases hb with h | h
    · exact ⟨h.1, by omega⟩
    · exact ⟨by omega, h.2⟩)
  have HbU4 := Lib.hid (show Below w.heap.size w U4 by rw [hU4]; exact fill4_below (bnext HbU3.out hb4) hNw)
  have HB4 := Lib.hid hB4
  have HM4 := Lib.hid hM4
  have hNU4 : N < U4.heap.size := by omega
  clear c0 c1 c2 c3 f0 f1 f2 f3 lt
  obtain ⟨c0, c1, c2, c3, f0, f1, f2, f3, lt⟩ := hBV4
  rw [fill4] at hU4
  have hU4' := hU4.symm
  clear e0 e1 e2 e3 h0 h1 h2 h3 lt2
  obtain ⟨e0, e1, e2, e3, h0, h1, h2, h3, lt2⟩ := hB4
  simp only [aw3, aw4, List.length_cons, List.length_nil, Nat.zero_add, Nat.reduceAdd] at c0 c1 c2 c3 e0 e1 e2 e3 hU4' ⊢
  clear hU4 hb4 hm4 hs4 hk4 hsU4 hM4 hNU3
  go_wp2_with fail
  clear hU4'
  have d5 := pin_any U4 (fun b => b ≠ N ∧ b < U4.heap.size) A4 Q4 a4 q4 aw4 2 (by decide) (by decide) (fun b hb => hb.2) HM4.out
  rw [awe5] at d5
  refine d5.mono ?_
  clear d5
  rintro e V5 ⟨A5, a5, Q5, q5, rfl, hm5, hb5⟩
  have hs5 := hb5.size
  obtain ⟨U5, hU5⟩ : ∃ U5, U5 = V5.alloc (.cells #[.int .i64 2, .int .i64 2, .slice A5 2 a5, .slice Q5 1 q5] 25) := ⟨_, rfl⟩
  have hbU5 : Below V5.heap.size V5 U5 := by rw [hU5]; exact (Below.refl _ _).alloc (Nat.le_refl _) _
  have hsU5 : U5.heap.size = V5.heap.size + 1 := by rw [hU5]; simp
  have hb45 := bnext hb5 hbU5
  have HBV5 := HB4.out.up hb5 hNU4
  have HB5 := Lib.hid (HB4.out.up hb45 hNU4)
  have HM5 := Lib.hid ((HM4.out.below hb45 fun b hb => hb.2).imp (ok' := fun b => b ≠ N ∧ b < U5.heap.size) fun b hb => ⟨hb.1, by omega⟩)
  have HbU5 := Lib.hid (bnext HbU4.out hb45)
  have hNU5 : N < U5.heap.size := by omega
  have hNV5 : N < V5.heap.size := by omega
  have hU5' := hU5.symm
  clear c0 c1 c2 c3 f0 f1 f2 f3 lt e0 e1 e2 e3 h0 h1 h2 h3 lt2
  obtain ⟨e0, e1, e2, e3, h0, h1, h2, h3, lt2⟩ := HB5.out
  obtain ⟨c0, c1, c2, c3, f0, f1, f2, f3, lt⟩ := HBV5
  simp only [aw4, List.length_cons, List.length_nil, Nat.zero_add, Nat.reduceAdd] at c0 c1 c2 c3 e0 e1 e2 e3 hU5' ⊢
  clear hU5 hb5 hm5 hs5 hbU5 hsU5 hb45 hNU4
  go_wp2_with fail
  clear hU5' hNV5
  have d6 := begin_any U5 (fun b => b ≠ N ∧ b < U5.heap.size) A4 Q4 a4 q4 aw4 4 3 (by decide) (by decide) (fun b hb => hb.2) HM5.out
  rw [awe6] at d6
  refine d6.mono ?_
  clear d6
  rintro e V6 ⟨A6, a6, Q6, q6, rfl, hm6, hb6⟩
  have hs6 := hb6.size
  obtain ⟨U6, hU6⟩ : ∃ U6, U6 = V6.alloc (.cells #[.int .i64 2, .int .i64 2, .slice A6 2 a6, .slice Q6 1 q6] 25) := ⟨_, rfl⟩
  have hbU6 : Below V6.heap.size V6 U6 := by rw [hU6]; exact (Below.refl _ _).alloc (Nat.le_refl _) _
  have hsU6 : U6.heap.size = V6.heap.size + 1 := by rw [hU6]; simp
  have hb46 := bnext hb6 hbU6
  have HBV6 := HB5.out.up hb6 hNU5
  have HB6 := Lib.hid (HB5.out.up hb46 hNU5)
  have HM6 := Lib.hid ((HM5.out.below hb46 fun b hb => hb.2).imp (ok' := fun b => b ≠ N ∧ b < U6.heap.size) fun b hb => ⟨hb.1, by omega⟩)
  have HbU6 := Lib.hid (bnext HbU5.out hb46)
  have hNU6 : N < U6.heap.size := by omega
  have hNV6 : N < V6.heap.size := by omega
  have hU6' := hU6.symm
  clear c0 c1 c2 c3 f0 f1 f2 f3 lt e0 e1 e2 e3 h0 h1 h2 h3 lt2
  obtain ⟨e0, e1, e2, e3, h0, h1, h2, h3, lt2⟩ := HB6.out
  obtain ⟨c0, c1, c2, c3, f0, f1, f2, f3, lt⟩ := HBV6
  simp only [aw4, List.length_cons, List.length_nil, Nat.zero_add, Nat.reduceAdd] at c0 c1 c2 c3 e0 e1 e2 e3 hU6' ⊢
  clear hU6 hb6 hm6 hs6 hbU6 hsU6 hb46 hNU5
  go_wp2_with fail
  clear hU6' hNV6
  have d7 := end_any U6 (fun b => b ≠ N ∧ b < U6.heap.size) A4 Q4 a4 q4 aw4 1 (by decide) (by decide) (fun b hb => hb.2) HM6.out
  rw [awe7] at d7
  refine d7.mono ?_
  clear d7
  rintro e V7 ⟨A7, a7, Q7, q7, I7, i7, rfl, hm7, hi7, hb7⟩
  have hs7 := hb7.size
  obtain ⟨U7, hU7, hbU7, hsU7, hB7, hM7⟩ := new_box 25 (hm7.imp (ok' := fun b => b < V7.heap.size) fun b hb => by
    rcases hb with h | h
    · omega
    · exact h.2)
  obtain ⟨P, hP⟩ : ∃ P, P = V7.heap.size := ⟨_, rfl⟩
  rw [← hP] at hB7 hM7
  have hb47 := bnext hb7 hbU7
  have HBV7 := HB6.out.up hb7 hNU6
  have HBN7 := Lib.hid (HB6.out.up hb47 hNU6)
  have HMN7 := Lib.hid (HM6.out.below hb47 fun b hb => hb.2)
  have HbU7 := Lib.hid (bnext HbU6.out hb47)
  have HB7 := Lib.hid hB7
  have HM7 := Lib.hid hM7
  have hi7' := (hi7.keep (w' := U7) fun b hb => hbU7.block b hb.2).to (B := U7.heap.size) fun b hb => by omega
  have Hi7 := Lib.hid hi7'
  have hNU7 : N < U7.heap.size := by omega
  have hNV7 : N < V7.heap.size := by omega
  have hNP : ¬ N = P := by omega
  have hNP2 : N < P := by omega
  have hPU7 : P < U7.heap.size := by omega
  have hs67 : U6.heap.size ≤ U7.heap.size := by omega
  have hU7' := hU7.symm
  have hP' := hP.symm
  clear c0 c1 c2 c3 f0 f1 f2 f3 lt e0 e1 e2 e3 h0 h1 h2 h3 lt2
  obtain ⟨e0, e1, e2, e3, h0, h1, h2, h3, lt2⟩ := HBN7.out
  obtain ⟨p0, p1, p2, p3, _, _, _, _, lt3⟩ := HB7.out
  obtain ⟨c0, c1, c2, c3, f0, f1, f2, f3, lt⟩ := HBV7
  simp only [aw4, aw7, List.length_cons, List.length_nil, Nat.zero_add, Nat.reduceAdd] at c0 c1 c2 c3 e0 e1 e2 e3 p0 p1 p2 p3 hU7' ⊢
  clear hU7 hb7 hm7 hi7 hs7 hbU7 hsU7 hb47 hNU6 hB7 hM7 hi7' hP
  go_wp2_with fail
  clear hU7' hP'
  have hbA : Below U7.heap.size U7 (U7.alloc (.cells #[.int .i64 3] 3)) := (Below.refl _ _).alloc (Nat.le_refl _) _
  have hr3 : Rd icells 1 (U7.alloc (.cells #[.int .i64 3] 3)) (U7.alloc (.cells #[.int .i64 3] 3)).heap.size (some ⟨U7.heap.size, 0, none⟩) [3] := fun _ => by
    refine ⟨U7.heap.size, 0, rfl, by simp, fun k x hx j v hv => ?_⟩
    rw [cells_of (heap_alloc_new U7 _)]
    match k, j with
    | 0, 0 => simp at hx; subst hx; simpa [icells] using hv
    | 0, j + 1 => simp [icells] at hv
    | k + 1, j => simp at hx
  have d8 := equal_any (U7.alloc (.cells #[.int .i64 3] 3)) I7 (some ⟨U7.heap.size, 0, none⟩) i7 1 [3] [3] (by decide) (Hi7.out.up hbA) hr3
  rw [decide_eq_true (rfl : [(3 : Int)] = [3])] at d8
  refine d8.mono ?_
  clear d8 hr3
  rintro e V8 ⟨rfl, hb8⟩
  have hb78 := bnext hbA hb8
  have Hb8 := Lib.hid hb78
  have hs8 := hb78.size
  clear c0 c1 c2 c3 f0 f1 f2 f3 lt e0 e1 e2 e3 h0 h1 h2 h3 lt2 p0 p1 p2 p3 hbA hb8 hb78 hNV7
  obtain ⟨e0, e1, e2, e3, _, _, _, _, lt2⟩ := HBN7.out.up Hb8.out hNU7
  obtain ⟨p0, p1, p2, p3, _, _, _, _, lt3⟩ := HB7.out.up Hb8.out hPU7
  simp only [aw4, aw7, List.length_cons, List.length_nil, Nat.zero_add, Nat.reduceAdd] at e0 e1 e2 e3 p0 p1 p2 p3
  go_wp2_with fail
  have d9 := free_any V8 A4 Q4 a4 q4 aw4 (by decide) (by decide) ((HMN7.out.below Hb8.out fun b hb => by omega).imp fun b hb => by omega)
  rw [if_pos awr4.1, awr4.2] at d9
  refine d9.mono ?_
  clear d9
  rintro e V9 ⟨rfl, hb9⟩
  have Hb9 := Lib.hid (Hb8.out.trans (hb9.mono hs8))
  have hs9 := hb9.size
  clear e0 e1 e2 e3 lt2 p0 p1 p2 p3 lt3 hb9
  obtain ⟨p0, p1, p2, p3, _, _, _, _, lt3⟩ := HB7.out.up Hb9.out hPU7
  simp only [aw7, List.length_cons, List.length_nil, Nat.zero_add, Nat.reduceAdd] at p0 p1 p2 p3
  go_wp2_with fail
  have d10 := free_any V9 A7 Q7 a7 q7 aw7 (by decide) (by decide) ((HM7.out.below Hb9.out fun b hb => by omega).imp fun b hb => by omega)
  rw [if_pos awr7.1, awr7.2] at d10
  refine d10.mono ?_
  clear d10
  rintro e V10 ⟨rfl, hb10⟩
  have Hb10 := Lib.hid (Hb9.out.trans (hb10.mono (by omega)))
  have hs10 := hb10.size
  clear p0 p1 p2 p3 lt3 hb10
  obtain ⟨p0, p1, p2, p3, _, _, _, _, lt3⟩ := HB7.out.up Hb10.out hPU7
  simp only [aw7, List.length_cons, List.length_nil, Nat.zero_add, Nat.reduceAdd] at p0 p1 p2 p3
  go_wp2_with fail
  have d11 := hallRight_any V10 A7 Q7 a7 q7 aw7 (by decide) (by decide) ((HM7.out.below Hb10.out fun b hb => by omega).imp fun b hb => by omega)
  rw [awr7.1] at d11
  refine d11.mono ?_
  clear d11
  rintro e V11 ⟨rfl, hb11⟩
  go_wp2_with fail
  go_ret
  exact ⟨rfl, bnext (bnext HbU7.out Hb10.out) hb11⟩
end Go.Proofs.Ythhfhgkkfaghoaa
