/- The law AdmitOnes, walked. -/
import Derived.Test.YthhfhgkkfaghoaaAdm11
namespace Go.Proofs.Ythhfhgkkfaghoaa
open Go.RowKit

def onesB (n i : Nat) : Hall := ⟨n, 1, (List.range i).map (fun k : Nat => (⟨(k : Int), 1, 0⟩ : C)), []⟩
def onesM (n : Nat) : Nat := min (2 * n) 8
def onesP (n j : Nat) : Hall := ⟨n, 1, (List.range (onesM n)).map (fun k : Nat => (⟨(k : Int), 1, if k < j then 1 else 0⟩ : C)), []⟩
theorem ones_begin : ∀ n ∈ List.range' 1 8, ∀ i ∈ List.range (onesM n), beginM (onesB n i) i 1 = (onesB n (i + 1), [(i : Int)], 0) := by decide +kernel
theorem ones_pin : ∀ n ∈ List.range' 1 8, ∀ i ∈ List.range n, pinM (onesP n i) i = (onesP n (i + 1), 0) := by decide +kernel
theorem ones_more : ∀ n ∈ List.range' 1 8, pinM (onesP n n) n = (onesP n n, if onesM n ≤ n then 3 else 6) ∧ pinM (onesP n n) 0 = (onesP n n, 10) ∧ (onesP n n).right = true ∧ (onesP n n).left = 0 ∧ onesB n (onesM n) = onesP n 0 := by decide +kernel
theorem onesB_f (n i : Nat) : (onesB n i).frames = n := rfl
theorem onesB_b (n i : Nat) : (onesB n i).budget = 1 := rfl
theorem onesB_c (n i : Nat) : (onesB n i).cs.length = i := by simp [onesB]
theorem onesB_q (n i : Nat) : (onesB n i).q.length = 0 := rfl
theorem onesP_f (n i : Nat) : (onesP n i).frames = n := rfl
theorem onesP_b (n i : Nat) : (onesP n i).budget = 1 := rfl
theorem onesP_c (n i : Nat) : (onesP n i).cs.length = onesM n := by simp [onesP]
theorem onesP_q (n i : Nat) : (onesP n i).q.length = 0 := rfl
section
variable {w V : World} {N : Nat} {x r : Hall} {A Q A' Q' : Option Addr} {ac qc ac' qc' : Nat}
/-- what a call told goes into a box of its own, and into the hall's -/
theorem put_box (t : TypeId) (hN : w.heap.size ≤ N) (h : HB N x A' ac' Q' qc' V) (hm : HM V (fun b => b ≠ N ∧ b < V.heap.size) r A ac Q qc) (hb : Below w.heap.size w V) :
    HB N r A ac Q qc ((fill4 V N r A ac Q qc).alloc (.cells #[.int .i64 r.frames, .int .i64 r.budget, .slice A r.cs.length ac, .slice Q r.q.length qc] t)) ∧ HM ((fill4 V N r A ac Q qc).alloc (.cells #[.int .i64 r.frames, .int .i64 r.budget, .slice A r.cs.length ac, .slice Q r.q.length qc] t)) (fun b => b ≠ N ∧ b < ((fill4 V N r A ac Q qc).alloc (.cells #[.int .i64 r.frames, .int .i64 r.budget, .slice A r.cs.length ac, .slice Q r.q.length qc] t)).heap.size) r A ac Q qc ∧
    Below w.heap.size w ((fill4 V N r A ac Q qc).alloc (.cells #[.int .i64 r.frames, .int .i64 r.budget, .slice A r.cs.length ac, .slice Q r.q.length qc] t)) := by
  obtain ⟨W, hW, hk, hs, hB, hM⟩ := old_box h hm
  rw [← hW]
  have hb2 : Below W.heap.size W (W.alloc (.cells #[.int .i64 r.frames, .int .i64 r.budget, .slice A r.cs.length ac, .slice Q r.q.length qc] t)) := (Below.refl _ _).alloc (Nat.le_refl _) _
  have hbW : Below w.heap.size w W := by rw [hW]; exact fill4_below hb hN
  exact ⟨hB.up hb2 hB.lt, (hM.below hb2 fun b hb => hb.2).imp fun b hb => ⟨hb.1, by simp; omega⟩, bnext hbW hb2⟩
end

set_option maxRecDepth 20000 in
set_option maxHeartbeats 8000000 in
theorem lawOnes (w : World) (fr : Int) (h0 : 0 ≤ fr) (h255 : fr ≤ 255) : Calls Try.prog 5 #[.int .u8 fr] w fun e w' => e = .returned (.bool true) ∧ Below w.heap.size w w' := by
  obtain ⟨n, hn⟩ : ∃ n : Nat, 1 + fr % 8 = (n : Int) := ⟨(1 + fr % 8).toNat, by omega⟩
  have hn1 : 1 ≤ n := by omega
  have hn8 : n ≤ 8 := by omega
  have hmem : n ∈ List.range' 1 8 := by rw [List.mem_range'_1]; omega
  have hbeg := ones_begin n hmem
  have hpin := ones_pin n hmem
  obtain ⟨hp1, hp2, hp3, hp4, hp5⟩ := ones_more n hmem
  have Hbeg := Lib.hid hbeg; have Hpin := Lib.hid hpin; have Hp1 := Lib.hid hp1; have Hp2 := Lib.hid hp2; have Hp3 := Lib.hid hp3; have Hp4 := Lib.hid hp4; have Hp5 := Lib.hid hp5
  obtain ⟨U, hU, hbU, hsU, hB, hM⟩ := new_box (V := w) (r := onesB n 0) (A := none) (Q := none) (ac := 0) (qc := 0) 25 HM.nil
  simp only [onesB_f, onesB_b, onesB_c, onesB_q] at hU
  have HB0 := Lib.hid hB; have HM0 := Lib.hid hM; have HbU := Lib.hid hbU
  have HU' := Lib.hid hU.symm
  clear hmem hbeg hpin hp1 hp2 hp3 hp4 hp5 hB hM hbU hU hsU
  have hcs : ((8 : Int) < 2 * (n : Int) ∧ onesM n = 8 ∧ 5 ≤ n) ∨ (¬ (8 : Int) < 2 * (n : Int) ∧ onesM n = 2 * n ∧ n ≤ 4) := by unfold onesM; omega
  rcases hcs with ⟨h8, hom, hn5⟩ | ⟨h8, hom, hn4⟩
  · have Hom := Lib.hid hom; clear hom
    go_enter Try.func5, Try.ntmps5
    go_wp2_with fail
    rw [HU'.out]
    go_loopg [26] 8 (fun g iv wr => ∃ (i : Nat) (A : Option Addr) (ac : Nat) (Q : Option Addr) (qc : Nat), i ≤ 8 ∧ g = 8 - i ∧ iv = .int .i64 i ∧ HB w.heap.size (onesB n i) A ac Q qc wr ∧ HM wr (fun b => b ≠ w.heap.size ∧ b < wr.heap.size) (onesB n i) A ac Q qc ∧ Below w.heap.size w wr)
    case atStart => exact ⟨0, none, 0, none, 0, Nat.zero_le _, rfl, rfl, HB0.out, HM0.out, HbU.out⟩
    case round =>
      obtain ⟨i, A, ac, Q, qc, hi, hg, rfl, hB, hM, hb⟩ := hrel
      have Hg := Lib.hid hg; clear hg
      have HB1 := Lib.hid hB; have HM1 := Lib.hid hM; have Hb1 := Lib.hid hb
      obtain ⟨c0, c1, c2, c3, f0, f1, f2, f3, lt⟩ := hB
      rw [onesB_f] at c0; rw [onesB_b] at c1; rw [onesB_c] at c2; rw [onesB_q] at c3
      clear hM hb
      by_cases hlt : i < 8
      · have hki : (i : Int) < 8 := by omega
        have d1 := begin_any wr (fun b => b ≠ w.heap.size ∧ b < wr.heap.size) A Q ac qc (onesB n i) i 1 (by rw [onesB_c]; omega) (by rw [onesB_q]; omega) (fun b hb => hb.2) HM1.out
        rw [Hbeg.out i (by rw [List.mem_range, Hom.out]; exact hlt)] at d1
        simp only [onesB_f, onesB_b, onesB_c, onesB_q] at d1
        have Hd1 := Lib.hid d1
        clear d1
        go_wp2_with fail
        refine Hd1.out.mono ?_
        clear Hd1
        rintro e V ⟨A2, a2, Q2, q2, rfl, hm2, hb2⟩
        have hs2 := hb2.size
        have HBV := Lib.hid (HB1.out.up hb2 lt)
        have Hm2 := Lib.hid (hm2.imp (ok' := fun b => b ≠ w.heap.size ∧ b < V.heap.size) fun b hb => by omega)
        have HbV := Lib.hid (bnext Hb1.out hb2)
        clear c0 c1 c2 c3 f0 f1 f2 f3 hb2 hm2
        obtain ⟨c0, c1, c2, c3, f0, f1, f2, f3, ltV⟩ := HBV.out
        rw [onesB_f] at c0; rw [onesB_b] at c1; rw [onesB_c] at c2; rw [onesB_q] at c3
        simp only [onesB_f, onesB_b, onesB_c, onesB_q, List.contains_cons, BEq.rfl, Bool.true_or]
        go_wp2_with fail
        go_roundg (8 - (i + 1))
        case measure => have := Hg.out; omega
        case rel =>
          obtain ⟨q1, q2', q3⟩ := put_box 25 (Nat.le_refl _) HBV.out Hm2.out HbV.out
          unfold fill4 at q1 q2' q3
          simp only [onesB_f, onesB_b, onesB_c, onesB_q] at q1 q2' q3
          exact ⟨i + 1, A2, a2, Q2, q2, by omega, rfl, by go_num, q1, q2', q3⟩
      · obtain rfl : 8 = i := by omega
        have hsw : onesB n 8 = onesP n 0 := by have := Hp5.out; rw [Hom.out] at this; exact this
        rw [hsw] at HB1 HM1
        clear hsw c0 c1 c2 c3 f0 f1 f2 f3 lt
        obtain ⟨V0, hV0⟩ : ∃ V0 : World, V0 = wr := ⟨_, rfl⟩
        go_wp2_with fail
        go_loopg [45] n (fun g iv wr => ∃ (j : Nat) (A : Option Addr) (ac : Nat) (Q : Option Addr) (qc : Nat), j ≤ n ∧ g = n - j ∧ iv = .int .i64 j ∧ HB w.heap.size (onesP n j) A ac Q qc wr ∧ HM wr (fun b => b ≠ w.heap.size ∧ b < wr.heap.size) (onesP n j) A ac Q qc ∧ Below w.heap.size w wr)
        case atStart => exact ⟨0, A, ac, Q, qc, Nat.zero_le _, rfl, rfl, HB1.out, HM1.out, Hb1.out⟩
        case round =>
          obtain ⟨j, A, ac, Q, qc, hj, hg, rfl, hB, hM, hb⟩ := hrel
          have Hg := Lib.hid hg; clear hg
          have HB2 := Lib.hid hB; have HM2 := Lib.hid hM; have Hb2 := Lib.hid hb
          obtain ⟨c0, c1, c2, c3, f0, f1, f2, f3, lt⟩ := hB
          rw [onesP_f] at c0; rw [onesP_b] at c1; rw [onesP_c, Hom.out] at c2; rw [onesP_q] at c3
          clear hM hb
          by_cases hlt : j < n
          · have hki : (j : Int) < (n : Int) := by omega
            have d1 := pin_any wr (fun b => b ≠ w.heap.size ∧ b < wr.heap.size) A Q ac qc (onesP n j) j (by rw [onesP_c, Hom.out]; omega) (by rw [onesP_q]; omega) (fun b hb => hb.2) HM2.out
            rw [Hpin.out j (by rw [List.mem_range]; exact hlt)] at d1
            simp only [onesP_f, onesP_b, onesP_c, onesP_q, Hom.out] at d1
            have Hd1 := Lib.hid d1
            clear d1
            go_wp2_with fail
            refine Hd1.out.mono ?_
            clear Hd1
            rintro e V ⟨A2, a2, Q2, q2, rfl, hm2, hb2⟩
            have hs2 := hb2.size
            have HBV := Lib.hid (HB2.out.up hb2 lt)
            have Hm2 := Lib.hid (hm2.imp (ok' := fun b => b ≠ w.heap.size ∧ b < V.heap.size) fun b hb => by omega)
            have HbV := Lib.hid (bnext Hb2.out hb2)
            clear c0 c1 c2 c3 f0 f1 f2 f3 hb2 hm2
            obtain ⟨c0, c1, c2, c3, f0, f1, f2, f3, ltV⟩ := HBV.out
            rw [onesP_f] at c0; rw [onesP_b] at c1; rw [onesP_c, Hom.out] at c2; rw [onesP_q] at c3
            simp only [onesP_f, onesP_b, onesP_c, onesP_q, Hom.out]
            go_wp2_with fail
            go_roundg (n - (j + 1))
            case measure => have := Hg.out; omega
            case rel =>
              obtain ⟨q1, q2', q3⟩ := put_box 25 (Nat.le_refl _) HBV.out Hm2.out HbV.out
              unfold fill4 at q1 q2' q3
              simp only [onesP_f, onesP_b, onesP_c, onesP_q, Hom.out] at q1 q2' q3
              exact ⟨j + 1, A2, a2, Q2, q2, by omega, rfl, by go_num, q1, q2', q3⟩
          · obtain rfl : j = n := by omega
            have d1 := pin_any wr (fun b => b ≠ w.heap.size ∧ b < wr.heap.size) A Q ac qc (onesP j j) j (by rw [onesP_c, Hom.out]; omega) (by rw [onesP_q]; omega) (fun b hb => hb.2) HM2.out
            rw [Hp1.out, Hom.out] at d1
            simp only [onesP_f, onesP_b, onesP_c, onesP_q, Hom.out] at d1
            have Hd1 := Lib.hid d1
            clear d1
            by_cases hn8j : (8 : Int) ≤ (j : Int)
            · --
              have hee : (if 8 ≤ j then (3 : Int) else 6) = 3 := if_pos (by omega)
              rw [hee] at Hd1
              go_wp2_with fail
              refine Hd1.out.mono ?_
              clear Hd1
              rintro e V ⟨A2, a2, Q2, q2, rfl, hm2, hb2⟩
              have hs2 := hb2.size
              have HBV := Lib.hid (HB2.out.up hb2 lt)
              have HMV := Lib.hid ((HM2.out.below hb2 fun b hb => hb.2).imp (ok' := fun b => b ≠ w.heap.size ∧ b < V.heap.size) fun b hb => by omega)
              have HbV := Lib.hid (bnext Hb2.out hb2)
              clear c0 c1 c2 c3 f0 f1 f2 f3 hb2 hm2
              obtain ⟨c0, c1, c2, c3, f0, f1, f2, f3, ltV⟩ := HBV.out
              rw [onesP_f] at c0; rw [onesP_b] at c1; rw [onesP_c, Hom.out] at c2; rw [onesP_q] at c3
              simp only [onesP_f, onesP_b, onesP_c, onesP_q, Hom.out]
              go_wp2_with fail
              obtain ⟨X, hX⟩ : ∃ X, X = V.alloc (.cells #[.int .i64 j, .int .i64 1, .slice A2 8 a2, .slice Q2 0 q2] 25) := ⟨_, rfl⟩
              have hbX : Below V.heap.size V X := by rw [hX]; exact (Below.refl _ _).alloc (Nat.le_refl _) _
              have hsX : X.heap.size = V.heap.size + 1 := by rw [hX]; simp
              have HBX := Lib.hid (HBV.out.up hbX ltV)
              have HMX := Lib.hid ((HMV.out.below hbX fun b hb => hb.2).imp (ok' := fun b => b ≠ w.heap.size ∧ b < X.heap.size) fun b hb => by omega)
              have HbX := Lib.hid (bnext HbV.out hbX)
              rw [← hX]
              clear hX hbX hsX c0 c1 c2 c3 f0 f1 f2 f3 ltV
              obtain ⟨c0, c1, c2, c3, f0, f1, f2, f3, ltX⟩ := HBX.out
              rw [onesP_f] at c0; rw [onesP_b] at c1; rw [onesP_c, Hom.out] at c2; rw [onesP_q] at c3
              have d3 := pin_any X (fun b => b ≠ w.heap.size ∧ b < X.heap.size) A Q ac qc (onesP j j) 0 (by rw [onesP_c, Hom.out]; omega) (by rw [onesP_q]; omega) (fun b hb => hb.2) HMX.out
              rw [Hp2.out] at d3
              simp only [onesP_f, onesP_b, onesP_c, onesP_q, Hom.out] at d3
              have Hd3 := Lib.hid d3
              clear d3
              try go_wp2_with fail
              refine Hd3.out.mono ?_
              clear Hd3
              rintro e V3 ⟨A3, a3, Q3, q3, rfl, hm3, hb3⟩
              have hs3 := hb3.size
              have HBV3 := Lib.hid (HBX.out.up hb3 ltX)
              have HMV3 := Lib.hid ((HMX.out.below hb3 fun b hb => hb.2).imp (ok' := fun b => b ≠ w.heap.size ∧ b < V3.heap.size) fun b hb => by omega)
              have HbV3 := Lib.hid (bnext HbX.out hb3)
              clear c0 c1 c2 c3 f0 f1 f2 f3 hb3 hm3
              obtain ⟨c0, c1, c2, c3, f0, f1, f2, f3, ltV3⟩ := HBV3.out
              rw [onesP_f] at c0; rw [onesP_b] at c1; rw [onesP_c, Hom.out] at c2; rw [onesP_q] at c3
              simp only [onesP_f, onesP_b, onesP_c, onesP_q, Hom.out]
              go_wp2_with fail
              obtain ⟨Y, hY⟩ : ∃ Y, Y = V3.alloc (.cells #[.int .i64 j, .int .i64 1, .slice A3 8 a3, .slice Q3 0 q3] 25) := ⟨_, rfl⟩
              have hbY : Below V3.heap.size V3 Y := by rw [hY]; exact (Below.refl _ _).alloc (Nat.le_refl _) _
              have hsY : Y.heap.size = V3.heap.size + 1 := by rw [hY]; simp
              have HMY := Lib.hid ((HMV3.out.below hbY fun b hb => hb.2).imp (ok' := fun b => b < Y.heap.size) fun b hb => by omega)
              have HbY := Lib.hid (bnext HbV3.out hbY)
              rw [← hY]
              clear hY hbY hsY
              have d5 := free_any Y A Q ac qc (onesP j j) (by rw [onesP_c, Hom.out]; omega) (by rw [onesP_q]; omega) HMY.out
              rw [if_pos Hp3.out, Hp4.out] at d5
              simp only [onesP_f, onesP_b, onesP_c, onesP_q, Hom.out] at d5
              refine d5.mono ?_
              clear d5
              rintro e V5 ⟨rfl, hb5⟩
              go_wp2_with fail
              refine (awake_any V5).mono ?_
              rintro e V6 ⟨rfl, hb6⟩
              go_wp2_with fail
              go_ret
              exact ⟨rfl, bnext (bnext HbY.out hb5) hb6⟩
            · --
              have hee : (if 8 ≤ j then (3 : Int) else 6) = 6 := if_neg (by omega)
              rw [hee] at Hd1
              go_wp2_with fail
              refine Hd1.out.mono ?_
              clear Hd1
              rintro e V ⟨A2, a2, Q2, q2, rfl, hm2, hb2⟩
              have hs2 := hb2.size
              have HBV := Lib.hid (HB2.out.up hb2 lt)
              have HMV := Lib.hid ((HM2.out.below hb2 fun b hb => hb.2).imp (ok' := fun b => b ≠ w.heap.size ∧ b < V.heap.size) fun b hb => by omega)
              have HbV := Lib.hid (bnext Hb2.out hb2)
              clear c0 c1 c2 c3 f0 f1 f2 f3 hb2 hm2
              obtain ⟨c0, c1, c2, c3, f0, f1, f2, f3, ltV⟩ := HBV.out
              rw [onesP_f] at c0; rw [onesP_b] at c1; rw [onesP_c, Hom.out] at c2; rw [onesP_q] at c3
              simp only [onesP_f, onesP_b, onesP_c, onesP_q, Hom.out]
              go_wp2_with fail
              obtain ⟨X, hX⟩ : ∃ X, X = V.alloc (.cells #[.int .i64 j, .int .i64 1, .slice A2 8 a2, .slice Q2 0 q2] 25) := ⟨_, rfl⟩
              have hbX : Below V.heap.size V X := by rw [hX]; exact (Below.refl _ _).alloc (Nat.le_refl _) _
              have hsX : X.heap.size = V.heap.size + 1 := by rw [hX]; simp
              have HBX := Lib.hid (HBV.out.up hbX ltV)
              have HMX := Lib.hid ((HMV.out.below hbX fun b hb => hb.2).imp (ok' := fun b => b ≠ w.heap.size ∧ b < X.heap.size) fun b hb => by omega)
              have HbX := Lib.hid (bnext HbV.out hbX)
              rw [← hX]
              clear hX hbX hsX c0 c1 c2 c3 f0 f1 f2 f3 ltV
              obtain ⟨c0, c1, c2, c3, f0, f1, f2, f3, ltX⟩ := HBX.out
              rw [onesP_f] at c0; rw [onesP_b] at c1; rw [onesP_c, Hom.out] at c2; rw [onesP_q] at c3
              have d3 := pin_any X (fun b => b ≠ w.heap.size ∧ b < X.heap.size) A Q ac qc (onesP j j) 0 (by rw [onesP_c, Hom.out]; omega) (by rw [onesP_q]; omega) (fun b hb => hb.2) HMX.out
              rw [Hp2.out] at d3
              simp only [onesP_f, onesP_b, onesP_c, onesP_q, Hom.out] at d3
              have Hd3 := Lib.hid d3
              clear d3
              try go_wp2_with fail
              refine Hd3.out.mono ?_
              clear Hd3
              rintro e V3 ⟨A3, a3, Q3, q3, rfl, hm3, hb3⟩
              have hs3 := hb3.size
              have HBV3 := Lib.hid (HBX.out.up hb3 ltX)
              have HMV3 := Lib.hid ((HMX.out.below hb3 fun b hb => hb.2).imp (ok' := fun b => b ≠ w.heap.size ∧ b < V3.heap.size) fun b hb => by omega)
              have HbV3 := Lib.hid (bnext HbX.out hb3)
              clear c0 c1 c2 c3 f0 f1 f2 f3 hb3 hm3
              obtain ⟨c0, c1, c2, c3, f0, f1, f2, f3, ltV3⟩ := HBV3.out
              rw [onesP_f] at c0; rw [onesP_b] at c1; rw [onesP_c, Hom.out] at c2; rw [onesP_q] at c3
              simp only [onesP_f, onesP_b, onesP_c, onesP_q, Hom.out]
              go_wp2_with fail
              obtain ⟨Y, hY⟩ : ∃ Y, Y = V3.alloc (.cells #[.int .i64 j, .int .i64 1, .slice A3 8 a3, .slice Q3 0 q3] 25) := ⟨_, rfl⟩
              have hbY : Below V3.heap.size V3 Y := by rw [hY]; exact (Below.refl _ _).alloc (Nat.le_refl _) _
              have hsY : Y.heap.size = V3.heap.size + 1 := by rw [hY]; simp
              have HMY := Lib.hid ((HMV3.out.below hbY fun b hb => hb.2).imp (ok' := fun b => b < Y.heap.size) fun b hb => by omega)
              have HbY := Lib.hid (bnext HbV3.out hbY)
              rw [← hY]
              clear hY hbY hsY
              have d5 := free_any Y A Q ac qc (onesP j j) (by rw [onesP_c, Hom.out]; omega) (by rw [onesP_q]; omega) HMY.out
              rw [if_pos Hp3.out, Hp4.out] at d5
              simp only [onesP_f, onesP_b, onesP_c, onesP_q, Hom.out] at d5
              refine d5.mono ?_
              clear d5
              rintro e V5 ⟨rfl, hb5⟩
              go_wp2_with fail
              refine (awake_any V5).mono ?_
              rintro e V6 ⟨rfl, hb6⟩
              go_wp2_with fail
              go_ret
              exact ⟨rfl, bnext (bnext HbY.out hb5) hb6⟩
  · obtain ⟨mm, hmm⟩ : ∃ mm, mm = 2 * n := ⟨_, rfl⟩
    have hm2 : 2 * (n : Int) = (mm : Int) := by omega
    have hm8 : mm ≤ 8 := by omega
    rw [← hmm] at hom
    have h8' : ¬ (8 : Int) < (mm : Int) := by omega
    have Hom := Lib.hid hom; clear hom h8 hmm
    go_enter Try.func5, Try.ntmps5
    go_wp2_with fail
    rw [HU'.out]
    go_loopg [26] mm (fun g iv wr => ∃ (i : Nat) (A : Option Addr) (ac : Nat) (Q : Option Addr) (qc : Nat), i ≤ mm ∧ g = mm - i ∧ iv = .int .i64 i ∧ HB w.heap.size (onesB n i) A ac Q qc wr ∧ HM wr (fun b => b ≠ w.heap.size ∧ b < wr.heap.size) (onesB n i) A ac Q qc ∧ Below w.heap.size w wr)
    case atStart => exact ⟨0, none, 0, none, 0, Nat.zero_le _, rfl, rfl, HB0.out, HM0.out, HbU.out⟩
    case round =>
      obtain ⟨i, A, ac, Q, qc, hi, hg, rfl, hB, hM, hb⟩ := hrel
      have Hg := Lib.hid hg; clear hg
      have HB1 := Lib.hid hB; have HM1 := Lib.hid hM; have Hb1 := Lib.hid hb
      obtain ⟨c0, c1, c2, c3, f0, f1, f2, f3, lt⟩ := hB
      rw [onesB_f] at c0; rw [onesB_b] at c1; rw [onesB_c] at c2; rw [onesB_q] at c3
      clear hM hb
      by_cases hlt : i < mm
      · have hki : (i : Int) < (mm : Int) := by omega
        have d1 := begin_any wr (fun b => b ≠ w.heap.size ∧ b < wr.heap.size) A Q ac qc (onesB n i) i 1 (by rw [onesB_c]; omega) (by rw [onesB_q]; omega) (fun b hb => hb.2) HM1.out
        rw [Hbeg.out i (by rw [List.mem_range, Hom.out]; exact hlt)] at d1
        simp only [onesB_f, onesB_b, onesB_c, onesB_q] at d1
        have Hd1 := Lib.hid d1
        clear d1
        go_wp2_with fail
        refine Hd1.out.mono ?_
        clear Hd1
        rintro e V ⟨A2, a2, Q2, q2, rfl, hm2, hb2⟩
        have hs2 := hb2.size
        have HBV := Lib.hid (HB1.out.up hb2 lt)
        have Hm2 := Lib.hid (hm2.imp (ok' := fun b => b ≠ w.heap.size ∧ b < V.heap.size) fun b hb => by omega)
        have HbV := Lib.hid (bnext Hb1.out hb2)
        clear c0 c1 c2 c3 f0 f1 f2 f3 hb2 hm2
        obtain ⟨c0, c1, c2, c3, f0, f1, f2, f3, ltV⟩ := HBV.out
        rw [onesB_f] at c0; rw [onesB_b] at c1; rw [onesB_c] at c2; rw [onesB_q] at c3
        simp only [onesB_f, onesB_b, onesB_c, onesB_q, List.contains_cons, BEq.rfl, Bool.true_or]
        go_wp2_with fail
        go_roundg (mm - (i + 1))
        case measure => have := Hg.out; omega
        case rel =>
          obtain ⟨q1, q2', q3⟩ := put_box 25 (Nat.le_refl _) HBV.out Hm2.out HbV.out
          unfold fill4 at q1 q2' q3
          simp only [onesB_f, onesB_b, onesB_c, onesB_q] at q1 q2' q3
          exact ⟨i + 1, A2, a2, Q2, q2, by omega, rfl, by go_num, q1, q2', q3⟩
      · obtain rfl : mm = i := by omega
        have hsw : onesB n mm = onesP n 0 := by have := Hp5.out; rw [Hom.out] at this; exact this
        rw [hsw] at HB1 HM1
        clear hsw c0 c1 c2 c3 f0 f1 f2 f3 lt
        obtain ⟨V0, hV0⟩ : ∃ V0 : World, V0 = wr := ⟨_, rfl⟩
        go_wp2_with fail
        go_loopg [45] n (fun g iv wr => ∃ (j : Nat) (A : Option Addr) (ac : Nat) (Q : Option Addr) (qc : Nat), j ≤ n ∧ g = n - j ∧ iv = .int .i64 j ∧ HB w.heap.size (onesP n j) A ac Q qc wr ∧ HM wr (fun b => b ≠ w.heap.size ∧ b < wr.heap.size) (onesP n j) A ac Q qc ∧ Below w.heap.size w wr)
        case atStart => exact ⟨0, A, ac, Q, qc, Nat.zero_le _, rfl, rfl, HB1.out, HM1.out, Hb1.out⟩
        case round =>
          obtain ⟨j, A, ac, Q, qc, hj, hg, rfl, hB, hM, hb⟩ := hrel
          have Hg := Lib.hid hg; clear hg
          have HB2 := Lib.hid hB; have HM2 := Lib.hid hM; have Hb2 := Lib.hid hb
          obtain ⟨c0, c1, c2, c3, f0, f1, f2, f3, lt⟩ := hB
          rw [onesP_f] at c0; rw [onesP_b] at c1; rw [onesP_c, Hom.out] at c2; rw [onesP_q] at c3
          clear hM hb
          by_cases hlt : j < n
          · have hki : (j : Int) < (n : Int) := by omega
            have d1 := pin_any wr (fun b => b ≠ w.heap.size ∧ b < wr.heap.size) A Q ac qc (onesP n j) j (by rw [onesP_c, Hom.out]; omega) (by rw [onesP_q]; omega) (fun b hb => hb.2) HM2.out
            rw [Hpin.out j (by rw [List.mem_range]; exact hlt)] at d1
            simp only [onesP_f, onesP_b, onesP_c, onesP_q, Hom.out] at d1
            have Hd1 := Lib.hid d1
            clear d1
            go_wp2_with fail
            refine Hd1.out.mono ?_
            clear Hd1
            rintro e V ⟨A2, a2, Q2, q2, rfl, hm2, hb2⟩
            have hs2 := hb2.size
            have HBV := Lib.hid (HB2.out.up hb2 lt)
            have Hm2 := Lib.hid (hm2.imp (ok' := fun b => b ≠ w.heap.size ∧ b < V.heap.size) fun b hb => by omega)
            have HbV := Lib.hid (bnext Hb2.out hb2)
            clear c0 c1 c2 c3 f0 f1 f2 f3 hb2 hm2
            obtain ⟨c0, c1, c2, c3, f0, f1, f2, f3, ltV⟩ := HBV.out
            rw [onesP_f] at c0; rw [onesP_b] at c1; rw [onesP_c, Hom.out] at c2; rw [onesP_q] at c3
            simp only [onesP_f, onesP_b, onesP_c, onesP_q, Hom.out]
            go_wp2_with fail
            go_roundg (n - (j + 1))
            case measure => have := Hg.out; omega
            case rel =>
              obtain ⟨q1, q2', q3⟩ := put_box 25 (Nat.le_refl _) HBV.out Hm2.out HbV.out
              unfold fill4 at q1 q2' q3
              simp only [onesP_f, onesP_b, onesP_c, onesP_q, Hom.out] at q1 q2' q3
              exact ⟨j + 1, A2, a2, Q2, q2, by omega, rfl, by go_num, q1, q2', q3⟩
          · obtain rfl : j = n := by omega
            have d1 := pin_any wr (fun b => b ≠ w.heap.size ∧ b < wr.heap.size) A Q ac qc (onesP j j) j (by rw [onesP_c, Hom.out]; omega) (by rw [onesP_q]; omega) (fun b hb => hb.2) HM2.out
            rw [Hp1.out, Hom.out] at d1
            simp only [onesP_f, onesP_b, onesP_c, onesP_q, Hom.out] at d1
            have Hd1 := Lib.hid d1
            clear d1
            have hnn : ¬ (mm : Int) ≤ (j : Int) := by omega
            have hee : (if mm ≤ j then (3 : Int) else 6) = 6 := if_neg (by omega)
            rw [hee] at Hd1
            go_wp2_with fail
            refine Hd1.out.mono ?_
            clear Hd1
            rintro e V ⟨A2, a2, Q2, q2, rfl, hm2, hb2⟩
            have hs2 := hb2.size
            have HBV := Lib.hid (HB2.out.up hb2 lt)
            have HMV := Lib.hid ((HM2.out.below hb2 fun b hb => hb.2).imp (ok' := fun b => b ≠ w.heap.size ∧ b < V.heap.size) fun b hb => by omega)
            have HbV := Lib.hid (bnext Hb2.out hb2)
            clear c0 c1 c2 c3 f0 f1 f2 f3 hb2 hm2
            obtain ⟨c0, c1, c2, c3, f0, f1, f2, f3, ltV⟩ := HBV.out
            rw [onesP_f] at c0; rw [onesP_b] at c1; rw [onesP_c, Hom.out] at c2; rw [onesP_q] at c3
            simp only [onesP_f, onesP_b, onesP_c, onesP_q, Hom.out]
            go_wp2_with fail
            obtain ⟨X, hX⟩ : ∃ X, X = V.alloc (.cells #[.int .i64 j, .int .i64 1, .slice A2 mm a2, .slice Q2 0 q2] 25) := ⟨_, rfl⟩
            have hbX : Below V.heap.size V X := by rw [hX]; exact (Below.refl _ _).alloc (Nat.le_refl _) _
            have hsX : X.heap.size = V.heap.size + 1 := by rw [hX]; simp
            have HBX := Lib.hid (HBV.out.up hbX ltV)
            have HMX := Lib.hid ((HMV.out.below hbX fun b hb => hb.2).imp (ok' := fun b => b ≠ w.heap.size ∧ b < X.heap.size) fun b hb => by omega)
            have HbX := Lib.hid (bnext HbV.out hbX)
            rw [← hX]
            clear hX hbX hsX c0 c1 c2 c3 f0 f1 f2 f3 ltV
            obtain ⟨c0, c1, c2, c3, f0, f1, f2, f3, ltX⟩ := HBX.out
            rw [onesP_f] at c0; rw [onesP_b] at c1; rw [onesP_c, Hom.out] at c2; rw [onesP_q] at c3
            have d3 := pin_any X (fun b => b ≠ w.heap.size ∧ b < X.heap.size) A Q ac qc (onesP j j) 0 (by rw [onesP_c, Hom.out]; omega) (by rw [onesP_q]; omega) (fun b hb => hb.2) HMX.out
            rw [Hp2.out] at d3
            simp only [onesP_f, onesP_b, onesP_c, onesP_q, Hom.out] at d3
            have Hd3 := Lib.hid d3
            clear d3
            try go_wp2_with fail
            refine Hd3.out.mono ?_
            clear Hd3
            rintro e V3 ⟨A3, a3, Q3, q3, rfl, hm3, hb3⟩
            have hs3 := hb3.size
            have HBV3 := Lib.hid (HBX.out.up hb3 ltX)
            have HMV3 := Lib.hid ((HMX.out.below hb3 fun b hb => hb.2).imp (ok' := fun b => b ≠ w.heap.size ∧ b < V3.heap.size) fun b hb => by omega)
            have HbV3 := Lib.hid (bnext HbX.out hb3)
            clear c0 c1 c2 c3 f0 f1 f2 f3 hb3 hm3
            obtain ⟨c0, c1, c2, c3, f0, f1, f2, f3, ltV3⟩ := HBV3.out
            rw [onesP_f] at c0; rw [onesP_b] at c1; rw [onesP_c, Hom.out] at c2; rw [onesP_q] at c3
            simp only [onesP_f, onesP_b, onesP_c, onesP_q, Hom.out]
            go_wp2_with fail
            obtain ⟨Y, hY⟩ : ∃ Y, Y = V3.alloc (.cells #[.int .i64 j, .int .i64 1, .slice A3 mm a3, .slice Q3 0 q3] 25) := ⟨_, rfl⟩
            have hbY : Below V3.heap.size V3 Y := by rw [hY]; exact (Below.refl _ _).alloc (Nat.le_refl _) _
            have hsY : Y.heap.size = V3.heap.size + 1 := by rw [hY]; simp
            have HMY := Lib.hid ((HMV3.out.below hbY fun b hb => hb.2).imp (ok' := fun b => b < Y.heap.size) fun b hb => by omega)
            have HbY := Lib.hid (bnext HbV3.out hbY)
            rw [← hY]
            clear hY hbY hsY
            have d5 := free_any Y A Q ac qc (onesP j j) (by rw [onesP_c, Hom.out]; omega) (by rw [onesP_q]; omega) HMY.out
            rw [if_pos Hp3.out, Hp4.out] at d5
            simp only [onesP_f, onesP_b, onesP_c, onesP_q, Hom.out] at d5
            refine d5.mono ?_
            clear d5
            rintro e V5 ⟨rfl, hb5⟩
            go_wp2_with fail
            refine (awake_any V5).mono ?_
            rintro e V6 ⟨rfl, hb6⟩
            go_wp2_with fail
            go_ret
            exact ⟨rfl, bnext (bnext HbY.out hb5) hb6⟩
end Go.Proofs.Ythhfhgkkfaghoaa
