/- The contract of awake. -/
import Derived.Test.YtbnegkkjgkignaaOps8
namespace Go.Proofs.Ytbnegkkjgkignaa
open Go.RowKit

def byteX : ByteArray := ⟨#[120]⟩
def pgX : Pg := ⟨2, 2, ⟨#[120]⟩⟩
theorem aw1 : doM [] ⟨1, 2, ⟨#[]⟩⟩ = ([pgNew 2], ⟨0, pgNew 2⟩) := by rfl
theorem aw2 : doM [pgNew 2] ⟨3, 2, ⟨#[120]⟩⟩ = ([pgX], ⟨0, pgX⟩) := by rfl
theorem aw3 : getG [pgX] 2 = some pgX := by rfl
theorem aw4 : allM [pgX] [⟨4, 2, ⟨#[]⟩⟩, ⟨2, 2, ⟨#[]⟩⟩] = ([], [⟨0, pg0⟩, ⟨3, pg0⟩]) := by rfl

set_option maxHeartbeats 4000000 in
theorem awake_any (w : World) : Calls Try.prog 11 #[] w fun e w' => e = .returned (.bool true) ∧ Below w.heap.size w w' := by
  go_enter Try.func11, Try.ntmps11
  go_wp2_with fail
  have d1 := opsDo_any w none 0 [] ⟨1, 2, ⟨#[]⟩⟩ (by decide) Rd.nil
  rw [aw1] at d1
  refine d1.mono ?_
  clear d1
  rintro e V ⟨A1, c1, rfl, hAB, hb1⟩
  have hr1 : Rd Pg.cells 3 V V.heap.size A1 [pgNew 2] := by
    rcases hAB with ⟨_, h⟩ | h
    · simp at h
    · exact Rd.of_own h pg_len (by decide)
  have Hr1 := Lib.hid hr1; clear hr1 hAB
  simp only [rsV, pgNew, List.length_cons, List.length_nil]
  go_wp2_with fail
  generalize hX : World.alloc (World.alloc V _) _ = X
  have hbX : Below V.heap.size V X := by rw [← hX]; exact ((Below.refl _ _).alloc (Nat.le_refl _) _).alloc (by simp) _
  have hsX : X.heap.size = V.heap.size + 2 := by rw [← hX]; simp
  have hx0 : X.heap[V.heap.size]? = some (.cells #[.slice A1 1 c1] 24 (0, 0)) := by rw [← hX, heap_alloc_old _ _ (by simp), heap_alloc_new]
  have hx1 : X.heap[V.heap.size + 1]? = some (.cells #[.int .i64 0, .int .i64 2, .int .i64 1, .string ⟨#[]⟩] 33 (0, 0)) := by
    have := heap_alloc_new (V.alloc (.cells #[.slice A1 1 c1] 24)) (.cells #[.int .i64 0, .int .i64 2, .int .i64 1, .string ⟨#[]⟩] 33)
    rw [← hX]
    simpa using this
  have d2 := opsDo_any X A1 c1 [pgNew 2] ⟨3, 2, ⟨#[120]⟩⟩ (by decide) (Hr1.out.up hbX)
  rw [aw2] at d2
  refine d2.mono ?_
  clear d2
  rintro e V2 ⟨A2, c2, rfl, hAB, hb2⟩
  obtain ⟨N1, hN1⟩ : ∃ N1, N1 = V.heap.size := ⟨_, rfl⟩
  rw [← hN1] at hx0 hx1 hsX hbX ⊢
  have hown : V2.ownsRow X.heap.size 31 3 (.slice A2 1 c2) 1 ([pgX].flatMap Pg.cells) := by
    rcases hAB with ⟨_, h⟩ | h
    · exact absurd h (by decide)
    · exact h
  have hs2 := hb2.size
  have hv0 := (hb2.block N1 (by omega)).trans hx0
  have hv1 := (hb2.block (N1 + 1) (by omega)).trans hx1
  have a0 := cells_of hv0 0
  have b0 := frozen_of hv0 0
  have r0 := cells_of hv1 0
  have r1 := cells_of hv1 1
  have r2 := cells_of hv1 2
  have r3 := cells_of hv1 3
  simp only [List.getElem?_toArray, List.getElem?_cons_zero, List.getElem?_cons_succ] at a0 r0 r1 r2 r3
  have hne : (Value.slice A2 1 c2).ownBlock ≠ some N1 := fun e => by have := (hown.lt _ e).1; omega
  have hb2' : Below w.heap.size w V2 := by rw [hN1] at hbX; exact bnext (bnext hb1 hbX) hb2
  have hs1 := hb1.size
  have HB2 := Lib.hid hb2'
  have hown' := own_setCell hown hne (.slice A2 1 c2) (j := 0)
  have Hown := Lib.hid hown'
  have hn1 : N1 < V2.heap.size := by omega
  have hn2 : N1 + 1 < V2.heap.size := by omega
  have hwN : w.heap.size ≤ N1 := by omega
  clear hX hbX hsX hx0 hx1 hAB hb2 hb1 hv0 hv1 hb2' hown hown' hs1 hs2 hne hN1
  simp only [rsV, pgX, List.length_cons, List.length_nil]
  go_wp2_with fail
  obtain ⟨N3, hN3⟩ : ∃ N3, N3 = V2.heap.size := ⟨_, rfl⟩
  generalize hY : World.alloc (World.setCell V2 _ _) _ = Y
  have hbY : Below w.heap.size w Y := by rw [← hY]; exact (HB2.out.setCell (p := ⟨N1, 0, none⟩) hwN _).alloc (by simp; omega) _
  have hsY : Y.heap.size = N3 + 1 := by rw [← hY, hN3]; simp
  have hrY : Rd Pg.cells 3 Y Y.heap.size A2 [pgX] := by
    rw [← hY]
    exact Rd.of_own (Hown.out.alloc _) pg_len (by decide)
  have hy : Y.cell? ⟨N1, 0, none⟩ = some (.slice A2 1 c2) ∧ Y.cell? ⟨N1 + 1, 0, none⟩ = some (.int .i64 0) ∧ Y.cell? ⟨N3, 0, none⟩ = some (.int .i64 0) ∧ Y.cell? ⟨N3, 1, none⟩ = some (.int .i64 2) ∧ Y.cell? ⟨N3, 2, none⟩ = some (.int .i64 2) ∧ Y.cell? ⟨N3, 3, none⟩ = some (.string ⟨#[120]⟩) := by
    rw [← hY, hN3]
    clear hY hN3
    refine ⟨?_, ?_, ?_, ?_, ?_, ?_⟩ <;> go_simp
  have hyU : ∀ U, Below Y.heap.size Y U → U.cell? ⟨N1, 0, none⟩ = some (.slice A2 1 c2) ∧ U.cell? ⟨N1 + 1, 0, none⟩ = some (.int .i64 0) ∧ U.cell? ⟨N3, 0, none⟩ = some (.int .i64 0) ∧ U.cell? ⟨N3, 1, none⟩ = some (.int .i64 2) ∧ U.cell? ⟨N3, 2, none⟩ = some (.int .i64 2) ∧ U.cell? ⟨N3, 3, none⟩ = some (.string ⟨#[120]⟩) := fun U hU => by
    obtain ⟨y0, y1, y2, y3, y4, y5⟩ := hy
    have q0 : N1 < Y.heap.size := by omega
    have q1 : N1 + 1 < Y.heap.size := by omega
    have q2 : N3 < Y.heap.size := by omega
    exact ⟨(hU.cell (p := ⟨N1, 0, none⟩) q0).trans y0, (hU.cell (p := ⟨N1 + 1, 0, none⟩) q1).trans y1, (hU.cell (p := ⟨N3, 0, none⟩) q2).trans y2, (hU.cell (p := ⟨N3, 1, none⟩) q2).trans y3, (hU.cell (p := ⟨N3, 2, none⟩) q2).trans y4, (hU.cell (p := ⟨N3, 3, none⟩) q2).trans y5⟩
  rw [← hN3]
  have d3 := get_any Y A2 c2 [pgX] 2 (by decide) hrY
  rw [aw3] at d3
  refine d3.mono ?_
  have HyU := Lib.hid hyU
  have HrY := Lib.hid hrY
  have HbY := Lib.hid hbY
  have hq1 : N1 < Y.heap.size := by omega
  have hq2 : N1 + 1 < Y.heap.size := by omega
  have hq3 : N3 < Y.heap.size := by omega
  clear d3 hyU hy hY a0 b0 r0 r1 r2 r3 hrY hbY hN3 Hown hsY
  rintro e V3 ⟨rfl, hb3⟩
  obtain ⟨y0, y1, y2, y3, y4, y5⟩ := HyU.out V3 hb3
  have hs3 := hb3.size
  have hq4 : N1 < V3.heap.size := by omega
  have hq5 : N1 + 1 < V3.heap.size := by omega
  have hq6 : N3 < V3.heap.size := by omega
  simp only [Option.getD_some, Option.isSome_some, pgX]
  go_wp2_with fail
  generalize hZ : World.alloc (World.alloc V3 _) _ = Z
  have hbZ : Below V3.heap.size V3 Z := by rw [← hZ]; exact ((Below.refl _ _).alloc (Nat.le_refl _) _).alloc (by simp) _
  have hsZ : Z.heap.size = V3.heap.size + 2 := by rw [← hZ]; simp
  have hz3 : Z.heap[V3.heap.size]? = some (.cells #[.int .i64 2, .int .i64 2, .string ⟨#[120]⟩] 31 (0, 0)) := by rw [← hZ, heap_alloc_old _ _ (by simp), heap_alloc_new]
  have hz4 : Z.heap[V3.heap.size + 1]? = some (.cells #[.int .i64 4, .int .i64 2, .string ⟨#[]⟩, .int .i64 2, .int .i64 2, .string ⟨#[]⟩] 26 (0, 0)) := by
    have := heap_alloc_new (V3.alloc (.cells #[.int .i64 2, .int .i64 2, .string ⟨#[120]⟩] 31)) (.cells #[.int .i64 4, .int .i64 2, .string ⟨#[]⟩, .int .i64 2, .int .i64 2, .string ⟨#[]⟩] 26)
    rw [← hZ]
    simpa using this
  have hro : Rd Op.cells 3 Z Z.heap.size (some ⟨V3.heap.size + 1, 0, none⟩) [⟨4, 2, ⟨#[]⟩⟩, ⟨2, 2, ⟨#[]⟩⟩] := fun _ => by
    refine ⟨V3.heap.size + 1, 0, rfl, by omega, fun k x hx j v hv => ?_⟩
    rw [cells_of hz4]
    match k, j with
    | 0, 0 => simp at hx; subst hx; simpa [Op.cells] using hv
    | 0, 1 => simp at hx; subst hx; simpa [Op.cells] using hv
    | 0, 2 => simp at hx; subst hx; simpa [Op.cells] using hv
    | 1, 0 => simp at hx; subst hx; simpa [Op.cells] using hv
    | 1, 1 => simp at hx; subst hx; simpa [Op.cells] using hv
    | 1, 2 => simp at hx; subst hx; simpa [Op.cells] using hv
    | 0, j + 3 => simp at hx; subst hx; simp [Op.cells] at hv
    | 1, j + 3 => simp at hx; subst hx; simp [Op.cells] at hv
    | k + 2, j => simp at hx
  have d4 := opsAll_any Z A2 c2 [pgX] (some ⟨V3.heap.size + 1, 0, none⟩) 2 [⟨4, 2, ⟨#[]⟩⟩, ⟨2, 2, ⟨#[]⟩⟩] (by decide) (HrY.out.up (hb3.trans (hbZ.mono hs3)) |>.more (Nat.le_refl _)) hro
  rw [aw4] at d4
  refine d4.mono ?_
  clear d4 hro
  rintro e V4 ⟨A4, c4, A5, c5, rfl, hrd4, hrs4, hb4⟩
  have hYZ : Below Y.heap.size Y Z := hb3.trans (hbZ.mono hs3)
  have hY4 : Below Y.heap.size Y V4 := hYZ.trans (hb4.mono hYZ.size)
  clear y0 y1 y2 y3 y4 y5
  obtain ⟨y0, y1, y2, y3, y4, y5⟩ := HyU.out V4 hY4
  obtain ⟨x, b, off, hx, rfl, hbb, hcell⟩ := hrs4.at_ (k := 1) (by decide)
  obtain rfl : x = ⟨3, pg0⟩ := by simpa using hx.symm
  have z0 := hcell V4 (Below.refl _ _) 0 _ rfl
  simp only [Nat.add_zero] at z0
  have hv3 := (hb4.block V3.heap.size (by omega)).trans hz3
  have p0 := cells_of hv3 0
  have p1 := cells_of hv3 1
  have p2 := cells_of hv3 2
  simp only [List.getElem?_toArray, List.getElem?_cons_zero, List.getElem?_cons_succ] at p0 p1 p2
  have hs4 := hb4.size
  obtain ⟨N5, hN5⟩ : ∃ N5, N5 = V3.heap.size := ⟨_, rfl⟩
  rw [← hN5] at p0 p1 p2 hq4 hq5 hq6 ⊢
  have hq7 : N1 < V4.heap.size := by omega
  have hq8 : N1 + 1 < V4.heap.size := by omega
  have hq9 : N3 < V4.heap.size := by omega
  have hq10 : N5 < V4.heap.size := by omega
  have hbE : Below w.heap.size w V4 := bnext HbY.out hY4
  have HbE := Lib.hid hbE
  clear hYZ hY4 hcell hx hv3 hz3 hz4 hZ hbZ hsZ hrd4 hrs4 hb4 hb3 hs3 hs4 hbE hq1 hq2 hq3 hq4 hq5 hq6 hN5
  simp only [List.length_cons, List.length_nil]
  go_wp2_with fail
  go_ret
  exact ⟨rfl, HbE.out.alloc HbE.out.size _⟩
end Go.Proofs.Ytbnegkkjgkignaa
