/- The law OpsExact, walked. -/
import Derived.Test.YtbnegkkjgkignaaOps9
import Derived.Test.YtbnegkkjgkignaaOps5
namespace Go.Proofs.Ytbnegkkjgkignaa
open Go.RowKit

/-- what the law's own search has found behind k pages -/
def seenM (l : List Pg) (id : Int) (k : Nat) : Option Pg := if rightM l = true then getM (l.take k) id else none
theorem seen_zero (l : List Pg) (id : Int) : seenM l id 0 = none := by unfold seenM; split <;> simp [getM_nil]
theorem seen_all (l : List Pg) (id : Int) : seenM l id l.length = getG l id := by simp [seenM, getG]
theorem seen_yes {l : List Pg} {id : Int} {k : Nat} {p : Pg} (hp : l[k]? = some p) (h : rightM l = true) (hid : p.id = id) : seenM l id (k + 1) = some p := by
  have e : l.take (k + 1) = l.take k ++ [p] := by rw [List.take_add_one, hp]; rfl
  have hs := sorted_of_right h
  have hk : k < l.length := (List.getElem?_eq_some_iff.1 hp).1
  have hn : getM (l.take k) id = none := getM_none fun q hq => by
    obtain ⟨j, hj⟩ := List.getElem?_of_mem hq
    rw [List.getElem?_take] at hj
    split at hj
    · rename_i hlt
      have h1 := List.getElem?_eq_some_iff.1 hj
      have h2 := List.getElem?_eq_some_iff.1 hp
      have := List.pairwise_iff_getElem.1 hs j k h1.1 h2.1 hlt
      rw [h1.2, h2.2] at this
      omega
    · cases hj
  rw [seenM, if_pos h, e, getM_append, hn, getM_cons, if_pos hid]
  rfl
theorem seen_no {l : List Pg} {id : Int} {k : Nat} {p : Pg} (hp : l[k]? = some p) (h : rightM l = false ∨ ¬ p.id = id) : seenM l id (k + 1) = seenM l id k := by
  have e : l.take (k + 1) = l.take k ++ [p] := by rw [List.take_add_one, hp]; rfl
  unfold seenM
  rcases h with h | h
  · simp [h]
  · rw [e, getM_append, getM_cons, if_neg h, getM_nil, Option.or_none]

set_option maxHeartbeats 4000000 in
theorem lawExact (w : World) (A : Option Addr) (cap : Nat) (l : List Pg) (o : Op) (id : Int) (hl : l.length ≤ 9223372036854775807) (hr : Rd Pg.cells 3 w w.heap.size A l) :
    Calls Try.prog 3 #[.agg #[.slice A l.length cap], .agg #[.int .i64 o.kind, .int .i64 o.id, .string o.body], .int .i64 id] w fun e w' => e = .returned (.bool true) ∧ Below w.heap.size w w' := by
  obtain ⟨W, hW⟩ : ∃ W, W = (w.alloc (.cells #[.slice A l.length cap] 24)).alloc (.cells #[.int .i64 o.kind, .int .i64 o.id, .string o.body] 26) := ⟨_, rfl⟩
  obtain ⟨N, hN⟩ : ∃ N, N = w.heap.size := ⟨_, rfl⟩
  have hbW : Below w.heap.size w W := by rw [hW]; exact ((Below.refl _ _).alloc (Nat.le_refl _) _).alloc (by simp) _
  have hsW : W.heap.size = N + 2 := by rw [hW, hN]; simp
  have h0 : W.heap[N]? = some (.cells #[.slice A l.length cap] 24 (0, 0)) := by rw [hW, hN, heap_alloc_old _ _ (by simp), heap_alloc_new]
  have h1 : W.heap[N + 1]? = some (.cells #[.int .i64 o.kind, .int .i64 o.id, .string o.body] 26 (0, 0)) := by
    have := heap_alloc_new (w.alloc (.cells #[.slice A l.length cap] 24)) (.cells #[.int .i64 o.kind, .int .i64 o.id, .string o.body] 26)
    rw [hW, hN]
    simpa using this
  have hbx : ∀ U, Below (N + 2) W U → U.cell? ⟨N, 0, none⟩ = some (.slice A l.length cap) ∧ U.cell? ⟨N + 1, 0, none⟩ = some (.int .i64 o.kind) ∧ U.cell? ⟨N + 1, 1, none⟩ = some (.int .i64 o.id) ∧ U.cell? ⟨N + 1, 2, none⟩ = some (.string o.body) := fun U hU => by
    have e0 := (hU.block N (by omega)).trans h0
    have e1 := (hU.block (N + 1) (by omega)).trans h1
    exact ⟨cells_of e0 0, cells_of e1 0, cells_of e1 1, cells_of e1 2⟩
  obtain ⟨b0, b1, b2, b3⟩ := hbx W (Below.refl _ _)
  have Hbx := Lib.hid hbx
  have Hr := Lib.hid (hr.up hbW)
  have HbW := Lib.hid hbW
  have hW' := hW.symm
  have hN' := hN.symm
  clear hW hN hbW h0 h1 hbx hr
  go_enter Try.func3, Try.ntmps3
  go_wp2_with fail
  refine (small_any W A cap l hl Hr.out).mono ?_
  clear hW' b0 b1 b2 b3
  rintro e V ⟨bo, rfl, hbl, hb1⟩
  have HbV := Lib.hid (bnext HbW.out hb1)
  have hsV := hb1.size
  have HV := Lib.hid hb1
  rw [hsW] at hb1
  obtain ⟨b0, b1, b2, b3⟩ := Hbx.out V hb1
  clear hb1
  have hcs : bo = false ∨ (bo = true ∧ (100 : Int) < (o.body.size : Int)) ∨ (bo = true ∧ ¬ (100 : Int) < (o.body.size : Int)) := by
    cases bo
    · exact .inl rfl
    · by_cases q1 : (100 : Int) < (o.body.size : Int)
      · exact .inr (.inl ⟨rfl, q1⟩)
      · exact .inr (.inr ⟨rfl, q1⟩)
  rcases hcs with rfl | ⟨rfl, q1⟩ | ⟨rfl, q1⟩
  iterate 2
    · clear hbl
      go_wp2_with fail
      refine (awake_any V).mono ?_
      rintro e V2 ⟨rfl, hb2⟩
      go_wp2_with fail
      go_ret
      exact ⟨rfl, bnext HbV.out hb2⟩
  have hl40 := hbl rfl
  clear hbl
  go_wp2_with fail
  obtain ⟨x, p, hd⟩ : ∃ x p, doM l o = (x, p) := ⟨_, _, rfl⟩
  have hx1 : x.length ≤ 41 := by have := doM_len l o; rw [hd] at this; simp at this; omega
  have d1 := opsDo_any V A cap l o (by omega) (Hr.out.up HV.out)
  rw [hd] at d1
  refine d1.mono ?_
  clear d1
  rintro e V1 hV1
  obtain ⟨A1, c1, rfl, hAB, hbv1⟩ := hV1.rd (Hr.out.below HV.out) hsV
  have hs1 := hbv1.size
  have hr1 : Rd Pg.cells 3 V1 V1.heap.size A1 x := by
    rcases hAB with h | h
    · exact h.more (by omega)
    · exact Rd.of_own h pg_len (by decide)
  have hV1W : Below W.heap.size W V1 := HV.out.trans (hbv1.mono hsV)
  obtain ⟨N7, hN7⟩ : ∃ N7, N7 = V1.heap.size := ⟨_, rfl⟩
  have hN7s : N + 2 ≤ N7 := by omega
  have Hr1 := Lib.hid hr1
  have HV1 := Lib.hid hV1W
  clear hV1 hAB hbv1 hr1 b0 b1 b2 b3
  obtain ⟨b0, b1, b2, b3⟩ := Hbx.out V1 (by rw [← hsW]; exact hV1W)
  clear hV1W
  simp only [rsV]
  have hN7' := hN7.symm
  clear hN7
  have hm0 : N < N7 := by omega
  have hm1 : N + 1 < N7 := by omega
  go_wp2_with fail
  generalize hX : World.alloc (World.alloc V1 _) _ = X
  have hbX : Below N7 V1 X := by rw [← hX, ← hN7']; exact ((Below.refl _ _).alloc (Nat.le_refl _) _).alloc (by simp) _
  have hsX : X.heap.size = N7 + 2 := by rw [← hX, ← hN7']; simp
  have hx7 : X.heap[N7]? = some (.cells #[.slice A1 x.length c1] 24 (0, 0)) := by rw [← hX, ← hN7', heap_alloc_old _ _ (by simp), heap_alloc_new]
  have hx8 : X.heap[N7 + 1]? = some (.cells #[.int .i64 p.e, .int .i64 p.pg.id, .int .i64 p.pg.ver, .string p.pg.body] 33 (0, 0)) := by
    have := heap_alloc_new (V1.alloc (.cells #[.slice A1 x.length c1] 24)) (.cells #[.int .i64 p.e, .int .i64 p.pg.id, .int .i64 p.pg.ver, .string p.pg.body] 33)
    rw [← hX, ← hN7']
    simpa using this
  have HX := Lib.hid hbX
  have hXW : Below W.heap.size W X := HV1.out.trans (hbX.mono (by omega))
  have HXW := Lib.hid hXW
  have Hx7 := Lib.hid hx7
  have Hx8 := Lib.hid hx8
  have d2 := refDo_any X A cap l o (by omega) (Hr.out.up hXW)
  rw [hd] at d2
  refine d2.mono ?_
  clear d2 hX hbX b0 b1 b2 b3 hXW hx7 hx8
  rintro e V2 ⟨A2, c2, rfl, hr2, hb2⟩
  have hs2 := hb2.size
  obtain ⟨N10, hN10⟩ : ∃ N10, N10 = V2.heap.size := ⟨_, rfl⟩
  have hN10' := hN10.symm
  have hs10 : N7 + 2 ≤ N10 := by omega
  have hy7 := (hb2.block N7 (by omega)).trans Hx7.out
  have hy8 := (hb2.block (N7 + 1) (by omega)).trans Hx8.out
  have hyW : Below W.heap.size W V2 := HXW.out.trans (hb2.mono (by omega))
  have hyV : Below N7 V1 V2 := HX.out.trans (hb2.mono (by omega))
  obtain ⟨b0, b1, b2, b3⟩ := Hbx.out V2 (by rw [← hsW]; exact hyW)
  have Hy7 := Lib.hid hy7
  have Hy8 := Lib.hid hy8
  have HyW := Lib.hid hyW
  have HyV := Lib.hid hyV
  have Hr2 := Lib.hid hr2
  have hm2 : N < N10 := by omega
  have hm3 : N + 1 < N10 := by omega
  clear hN10 hy7 hy8 hyW hyV hr2 hb2 hsX hs2
  simp only [rsV]
  go_wp2_with fail
  generalize hY : World.alloc V2 _ = Y
  have hbY : Below N10 V2 Y := by rw [← hY, ← hN10']; exact (Below.refl _ _).alloc (Nat.le_refl _) _
  have hsY : Y.heap.size = N10 + 1 := by rw [← hY, ← hN10']; simp
  have hz10 : Y.heap[N10]? = some (.cells #[.int .i64 p.e, .int .i64 p.pg.id, .int .i64 p.pg.ver, .string p.pg.body] 37 (0, 0)) := by rw [← hY, ← hN10', heap_alloc_new]
  have hYW : Below W.heap.size W Y := HyW.out.trans (hbY.mono (by omega))
  have HY := Lib.hid hbY
  have HYW := Lib.hid hYW
  have Hz10 := Lib.hid hz10
  obtain ⟨rt, hrt⟩ : ∃ rt, rt = rightM l := ⟨_, rfl⟩
  have d3 := refMap_any Y A cap l (by omega) (Hr.out.up hYW)
  rw [← hrt] at d3
  have Hrt := Lib.hid hrt
  refine d3.mono ?_
  clear d3 hrt hY hbY b0 b1 b2 b3 hYW hz10
  rintro e V3 ⟨rfl, hb3⟩
  have hs3 := hb3.size
  have h3W : Below W.heap.size W V3 := HYW.out.trans (hb3.mono (by omega))
  obtain ⟨b0, b1, b2, b3⟩ := Hbx.out V3 (by rw [← hsW]; exact h3W)
  have H3 := Lib.hid hb3
  have H3W := Lib.hid h3W
  clear hb3 h3W
  go_wp2_with fail
  have d4 := get_any V3 A cap l id (by omega) (Hr.out.up H3W.out)
  unfold GotP at d4
  refine d4.mono ?_
  clear d4 b0 b1 b2 b3
  rintro e V4 ⟨rfl, hb4⟩
  have hs4 := hb4.size
  have h4W : Below W.heap.size W V4 := H3W.out.trans (hb4.mono (by have := H3W.out.size; omega))
  have h4Y : Below Y.heap.size Y V4 := H3.out.trans (hb4.mono hs3)
  obtain ⟨b0, b1, b2, b3⟩ := Hbx.out V4 (by rw [← hsW]; exact h4W)
  obtain ⟨N12, hN12⟩ : ∃ N12, N12 = V4.heap.size := ⟨_, rfl⟩
  have hN12' := hN12.symm
  have hs12 : N10 + 1 ≤ N12 := by omega
  have hm4 : N < N12 := by omega
  have hm5 : N + 1 < N12 := by omega
  have H4W := Lib.hid h4W
  have H4Y := Lib.hid h4Y
  obtain ⟨G, hG⟩ : ∃ G, G = getG l id := ⟨_, rfl⟩
  rw [← hG]
  have HG := Lib.hid hG
  clear hN12 h4W h4Y hb4 hG hs4 hs3
  go_wp2_with fail
  generalize hZ : World.alloc (World.alloc V4 _) _ = Z
  have hsZ : Z.heap.size = N12 + 2 := by rw [← hZ]; simp [hN12']
  have hbZ : Below N12 V4 Z := by rw [← hZ, ← hN12']; exact ((Below.refl _ _).alloc (Nat.le_refl _) _).alloc (by simp) _
  have hz12 : Z.heap[N12]? = some (.cells #[.int .i64 (G.getD pg0).id, .int .i64 (G.getD pg0).ver, .string (G.getD pg0).body] 31 (0, 0)) := by rw [← hZ, heap_alloc_old _ _ (by simp [hN12']), ← hN12', heap_alloc_new]
  have hz14 : Z.heap[N12 + 1]? = some (.cells #[.int .i64 0, .int .i64 0, .string ⟨#[]⟩] 31 (0, 0)) := by
    have := heap_alloc_new (V4.alloc (.cells #[.int .i64 (G.getD pg0).id, .int .i64 (G.getD pg0).ver, .string (G.getD pg0).body] 31)) (.cells #[.int .i64 0, .int .i64 0, .string ⟨#[]⟩] 31)
    rw [← hZ, ← hN12']
    simpa using this
  have e0 := cells_of hz14 0
  have e1 := cells_of hz14 1
  have e2 := cells_of hz14 2
  have f0 := frozen_of hz14 0
  have f1 := frozen_of hz14 1
  have f2 := frozen_of hz14 2
  simp only [List.getElem?_toArray, List.getElem?_cons_zero, List.getElem?_cons_succ] at e0 e1 e2
  have HZ := Lib.hid hbZ
  have Hz12 := Lib.hid hz12
  have E0 := Lib.hid e0
  have E1 := Lib.hid e1
  have E2 := Lib.hid e2
  have hsz' : N12 + 2 ≤ Z.heap.size := by omega
  clear hZ hbZ hz12 hz14 e0 e1 e2 hsZ b0 b1 b2 b3 q1
  go_loopg [15, 54] l.length (fun g there i wr => ∃ k : Nat, k ≤ l.length ∧ g = l.length - k ∧ i = .int .i64 k ∧ there = .bool (seenM l id k).isSome ∧
    wr.cell? ⟨N12 + 1, 0, none⟩ = some (.int .i64 ((seenM l id k).getD pg0).id) ∧ wr.cell? ⟨N12 + 1, 1, none⟩ = some (.int .i64 ((seenM l id k).getD pg0).ver) ∧ wr.cell? ⟨N12 + 1, 2, none⟩ = some (.string ((seenM l id k).getD pg0).body) ∧
    wr.frozen? ⟨N12 + 1, 0, none⟩ = false ∧ wr.frozen? ⟨N12 + 1, 1, none⟩ = false ∧ wr.frozen? ⟨N12 + 1, 2, none⟩ = false ∧ Below (N12 + 1) Z wr ∧ N12 + 2 ≤ wr.heap.size)
  case atStart => exact ⟨0, Nat.zero_le _, rfl, rfl, by rw [seen_zero]; rfl, by rw [seen_zero]; exact E0.out, by rw [seen_zero]; exact E1.out, by rw [seen_zero]; exact E2.out, f0, f1, f2, Below.refl _ _, hsz'⟩
  case round =>
    obtain ⟨k, hk, hg, rfl, rfl, e0, e1, e2, f0, f1, f2, hb, hsr⟩ := hrel
    have Hg := Lib.hid hg; clear hg
    have hbr : Below W.heap.size W wr := H4W.out.trans ((HZ.out.mono (by have := H4W.out.size; omega)).trans (hb.mono (by have := H4W.out.size; omega)))
    by_cases hlt : k < l.length
    · obtain ⟨y, b, off, hy, rfl, hbb, hcell⟩ := rd_p Hr.out hlt
      obtain ⟨g0, g1, g2⟩ := hcell wr hbr
      have hki : (k : Int) < (l.length : Int) := by omega
      have hbw : b < wr.heap.size := by have := hbr.size; omega
      obtain ⟨N17, hN17⟩ : ∃ N17, N17 = wr.heap.size := ⟨_, rfl⟩
      have hN17' := hN17.symm
      rw [← hN17] at hbw hsr
      have hp1 : N12 + 1 < N17 := by omega
      have hp2 : ¬ N12 + 1 = N17 := by omega
      have hp3 : ¬ N17 = N12 + 1 := by omega
      clear hN17 hcell
      have Hy := Lib.hid hy
      have Hb := Lib.hid hb
      by_cases hyid : y.id = id
      · have hyb : (y.id == id) = true := by simpa using hyid
        have Hyid := Lib.hid hyid
        clear hyid hy hb
        cases rt with
        | true =>
          have hs := seen_yes Hy.out Hrt.out.symm Hyid.out
          have Hs := Lib.hid hs; clear hs
          go_wp2_with fail
          go_roundg (l.length - (k + 1))
          case measure => have := Hg.out; omega
          case rel =>
            refine ⟨k + 1, by omega, rfl, by go_num, by rw [Hs.out]; rfl, ?_, ?_, ?_, ?_, ?_, ?_, ?_, ?_⟩
            · rw [Hs.out]; simp only [Option.getD_some]; go_simp
            · rw [Hs.out]; simp only [Option.getD_some]; go_simp
            · rw [Hs.out]; simp only [Option.getD_some]; go_simp
            · go_simp
            · go_simp
            · go_simp
            · exact (below_set3 Hb.out (Nat.le_refl _)).alloc (by simp; omega) _
            · simp; omega
        | false =>
          have hs := seen_no (id := id) Hy.out (.inl Hrt.out.symm)
          have Hs := Lib.hid hs; clear hs
          go_wp2_with fail
          go_roundg (l.length - (k + 1))
          case measure => have := Hg.out; omega
          case rel =>
            have hbE : Below (N12 + 1) Z (wr.alloc (.cells #[.int .i64 y.id, .int .i64 y.ver, .string y.body] 31)) := Hb.out.alloc (by omega) _
            refine ⟨k + 1, by omega, rfl, by go_num, by rw [Hs.out], ?_, ?_, ?_, ?_, ?_, ?_, hbE, by simp; omega⟩
            all_goals (try rw [Hs.out])
            all_goals go_simp
      · have hyb : (y.id == id) = false := by simpa using hyid
        have hs := seen_no Hy.out (.inr hyid)
        have Hs := Lib.hid hs; clear hs hyid hy hb
        cases rt
        all_goals
          go_wp2_with fail
          go_roundg (l.length - (k + 1))
          case measure => have := Hg.out; omega
          case rel =>
            have hbE : Below (N12 + 1) Z (wr.alloc (.cells #[.int .i64 y.id, .int .i64 y.ver, .string y.body] 31)) := Hb.out.alloc (by omega) _
            refine ⟨k + 1, by omega, rfl, by go_num, by rw [Hs.out], ?_, ?_, ?_, ?_, ?_, ?_, hbE, by simp; omega⟩
            all_goals (try rw [Hs.out])
            all_goals go_simp
    · obtain rfl : k = l.length := by omega
      have hsn : seenM l id l.length = G := by rw [seen_all]; exact HG.out.symm
      rw [hsn] at e0 e1 e2 ⊢
      obtain ⟨b0, b1, b2, b3⟩ := Hbx.out wr (by rw [← hsW]; exact hbr)
      have hq0 : N < wr.heap.size := by omega
      have Hbr := Lib.hid hbr
      have Hb := Lib.hid hb
      have E0' := Lib.hid e0
      have E1' := Lib.hid e1
      have E2' := Lib.hid e2
      clear e0 e1 e2 f0 f1 f2 hsn hbr hb
      generalize hgs : G.isSome = gs
      clear hgs
      cases rt
      all_goals
        go_wp2_with fail
        have d6 := opsRight_any wr A cap l (by omega) (Hr.out.up Hbr.out)
        rw [← Hrt.out] at d6
        refine d6.mono ?_
        clear d6
        rintro e V6 ⟨rfl, hb6⟩
        have hV26 : Below N10 V2 V6 := HY.out.trans ((H4Y.out.mono (by omega)).trans ((HZ.out.mono (by omega)).trans ((Hb.out.mono (by omega)).trans (hb6.mono (by omega)))))
        have hYV6 : Below (N10 + 1) Y V6 := (H4Y.out.mono (by omega)).trans ((HZ.out.mono (by omega)).trans ((Hb.out.mono (by omega)).trans (hb6.mono (by omega))))
        have k7 := (hV26.block N7 (by omega)).trans Hy7.out
        have k8 := (hV26.block (N7 + 1) (by omega)).trans Hy8.out
        have k10 := (hYV6.block N10 (by omega)).trans Hz10.out
        have k12 := (hb6.block N12 (by omega)).trans ((Hb.out.block N12 (by omega)).trans Hz12.out)
        have a7 := cells_of k7 0
        simp only [List.getElem?_toArray, List.getElem?_cons_zero] at a7
        have d7 := same_any V6 A1 A2 c1 c2 x x (by omega) (by omega) ((Hr1.out.below (by rw [hN7']; exact HyV.out.trans (hV26.mono (by omega)))).more (by have := hb6.size; omega)) ((Hr2.out.below (by rw [hN10']; exact hV26)).more (by have := hb6.size; omega))
        rw [decide_eq_true (rfl : x = x)] at d7
        have K8 := Lib.hid k8
        have K10 := Lib.hid k10
        have K12 := Lib.hid k12
        have hs6 := hb6.size
        have hq14 : N12 + 1 < wr.heap.size := by omega
        have x0 := (hb6.cell (p := ⟨N12 + 1, 0, none⟩) hq14).trans E0'.out
        have x1 := (hb6.cell (p := ⟨N12 + 1, 1, none⟩) hq14).trans E1'.out
        have x2 := (hb6.cell (p := ⟨N12 + 1, 2, none⟩) hq14).trans E2'.out
        have X0' := Lib.hid x0
        have X1' := Lib.hid x1
        have X2' := Lib.hid x2
        have HbE := Lib.hid (bnext HbW.out (Hbr.out.trans (hb6.mono (by have := Hbr.out.size; omega))))
        clear b0 b1 b2 b3 k7 k8 k10 k12 x0 x1 x2 hV26 hYV6 hb6
        go_wp2_with fail
        refine d7.mono ?_
        clear d7 a7
        rintro e V7 ⟨rfl, hb7⟩
        have k8 := (hb7.block (N7 + 1) (by omega)).trans K8.out
        have k10 := (hb7.block N10 (by omega)).trans K10.out
        have k12 := (hb7.block N12 (by omega)).trans K12.out
        have u0 := cells_of k8 0
        have u1 := cells_of k8 1
        have u2 := cells_of k8 2
        have u3 := cells_of k8 3
        have v0 := cells_of k10 0
        have v1 := cells_of k10 1
        have v2 := cells_of k10 2
        have v3 := cells_of k10 3
        have w0 := cells_of k12 0
        have w1 := cells_of k12 1
        have w2 := cells_of k12 2
        simp only [List.getElem?_toArray, List.getElem?_cons_zero, List.getElem?_cons_succ] at u0 u1 u2 u3 v0 v1 v2 v3 w0 w1 w2
        have z0 := (hb7.cell (p := ⟨N12 + 1, 0, none⟩) (by show N12 + 1 < V6.heap.size; omega)).trans X0'.out
        have z1 := (hb7.cell (p := ⟨N12 + 1, 1, none⟩) (by show N12 + 1 < V6.heap.size; omega)).trans X1'.out
        have z2 := (hb7.cell (p := ⟨N12 + 1, 2, none⟩) (by show N12 + 1 < V6.heap.size; omega)).trans X2'.out
        have he1 : ∀ U, (binOp .eql 31 (.agg #[.int .i64 p.pg.id, .int .i64 p.pg.ver, .string p.pg.body]) (.agg #[.int .i64 p.pg.id, .int .i64 p.pg.ver, .string p.pg.body])).run Try.prog U = .ok (.bool true) U := fun U => by rw [eql_pg]; simp
        have he2 : ∀ U, (binOp .eql 31 (.agg #[.int .i64 (G.getD pg0).id, .int .i64 (G.getD pg0).ver, .string (G.getD pg0).body]) (.agg #[.int .i64 (G.getD pg0).id, .int .i64 (G.getD pg0).ver, .string (G.getD pg0).body])).run Try.prog U = .ok (.bool true) U := fun U => by rw [eql_pg]; simp
        have HbF := Lib.hid (bnext HbE.out hb7)
        clear k8 k10 k12 hb7
        cases gs
        all_goals
          go_wp2_with fail
          refine (awake_any _).mono ?_
          rintro e V9 ⟨rfl, hb9⟩
          go_wp2_with fail
          go_ret
          exact ⟨rfl, bnext HbF.out hb9⟩
end Go.Proofs.Ytbnegkkjgkignaa
