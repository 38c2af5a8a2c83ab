/- The law OpsReads, walked. -/
import Derived.Test.YtbnegkkjgkignaaOps9
namespace Go.Proofs.Ytbnegkkjgkignaa
open Go.RowKit

theorem reads_plain (l : List Pg) (id : Int) : ∃ e q ok, doM l ⟨2, id, ⟨#[]⟩⟩ = (l, ⟨e, q⟩) ∧ (getG l id).getD pg0 = q ∧ (getG l id).isSome = ok ∧ (e == 0) = ok := by
  cases h : rightM l with
  | false => exact ⟨1, pg0, false, doM_bad h, by simp [getG, h], by simp [getG, h], by decide⟩
  | true =>
    have hg : getG l id = getM l id := by simp [getG, h]
    cases ho : Op.right ⟨2, id, ⟨#[]⟩⟩ with
    | false =>
      have hn : getM l id = none := getM_none fun q hq e => by
        obtain ⟨h1, h2, _⟩ := rightP_iff.1 (mem_right h hq)
        have : Op.right ⟨2, id, ⟨#[]⟩⟩ = true := opRight_iff.2 ⟨by show (1 : Int) ≤ 2; decide, by show (2 : Int) ≤ 4; decide, by show 1 ≤ id; omega, by show id ≤ 16; omega⟩
        rw [ho] at this
        cases this
      exact ⟨1, pg0, false, doM_op ho, by rw [hg, hn]; rfl, by rw [hg, hn]; rfl, by decide⟩
    | true =>
      cases hm : getM l id with
      | none => exact ⟨3, pg0, false, doM_eq h (by simp [hm, stepF, ho]), by rw [hg, hm]; rfl, by rw [hg, hm]; rfl, by decide⟩
      | some p => exact ⟨0, p, true, doM_eq h (by simp [hm, stepF, ho]), by rw [hg, hm]; rfl, by rw [hg, hm]; rfl, by decide⟩

def icells (n : Int) : List Value := [.int .i64 n]
theorem rd_i {w : World} {B : Nat} {A : Option Addr} {l : List Int} (h : Rd icells 1 w B A l) {k : Nat} (hk : k < l.length) :
    ∃ c b off, l[k]? = some c ∧ A = some ⟨b, off, none⟩ ∧ b < B ∧ ∀ W, Below B w W → W.cell? ⟨b, off + k, none⟩ = some (.int .i64 c) := by
  obtain ⟨c, b, off, hc, hA, hb, hcell⟩ := h.at_ hk
  exact ⟨c, b, off, hc, hA, hb, fun W hW => by simpa using hcell W hW 0 _ rfl⟩

set_option maxHeartbeats 4000000 in
theorem lawReads (w : World) (A : Option Addr) (cap : Nat) (l : List Pg) (A2 : Option Addr) (cap2 : Nat) (ids : List Int) (hl : l.length ≤ 9223372036854775807) (hr : Rd Pg.cells 3 w w.heap.size A l) (hr2 : Rd icells 1 w w.heap.size A2 ids) :
    Calls Try.prog 8 #[.agg #[.slice A l.length cap], .slice A2 ids.length cap2] w fun e w' => e = .returned (.bool true) ∧ Below w.heap.size w w' := by
  obtain ⟨W, hW⟩ : ∃ W, W = w.alloc (.cells #[.slice A l.length cap] 24) := ⟨_, rfl⟩
  obtain ⟨N, hN⟩ : ∃ N, N = w.heap.size := ⟨_, rfl⟩
  have hbW : Below w.heap.size w W := by rw [hW]; exact (Below.refl _ _).alloc (Nat.le_refl _) _
  have hcW : ∀ V, Below W.heap.size W V → V.cell? ⟨N, 0, none⟩ = some (.slice A l.length cap) := fun V hV => by
    subst hW; rw [hN, box_cell hV]; rfl
  have hsW : W.heap.size = N + 1 := by rw [hW, hN]; simp
  have h0 := hcW W (Below.refl _ _)
  have hrW := hr.up hbW
  have Hr := Lib.hid hrW; clear hrW hr
  have Hr2 := Lib.hid (hr2.up hbW); clear hr2
  have HcW := Lib.hid hcW; clear hcW
  have HbW := Lib.hid hbW
  have hW' := hW.symm
  have hN' := hN.symm
  clear hW hbW hN
  go_enter Try.func8, Try.ntmps8
  go_wp2_with fail
  refine (small_any W A cap l hl Hr.out).mono ?_
  rintro e V ⟨b, rfl, hbl, hb1⟩
  clear hW' h0
  have hcV := HcW.out V hb1
  have HbV := Lib.hid (bnext HbW.out hb1)
  have Hb1 := Lib.hid hb1
  have hsV := hb1.size
  clear hb1
  cases b with
  | false =>
    go_wp2_with fail
    refine (awake_any V).mono ?_
    rintro e V2 ⟨rfl, hb2⟩
    go_wp2_with fail
    go_ret
    exact ⟨rfl, bnext HbV.out hb2⟩
  | true =>
    have hl40 := hbl rfl
    clear hbl
    by_cases hi40 : (40 : Int) < (ids.length : Int)
    · go_wp2_with fail
      refine (awake_any V).mono ?_
      rintro e V2 ⟨rfl, hb2⟩
      go_wp2_with fail
      go_ret
      exact ⟨rfl, bnext HbV.out hb2⟩
    · go_wp2_with fail
      go_loopg [22] ids.length (fun g i wr => ∃ k : Nat, k ≤ ids.length ∧ g = ids.length - k ∧ i = .int .i64 k ∧ Below W.heap.size W wr)
      case atStart => exact ⟨0, Nat.zero_le _, rfl, rfl, Hb1.out⟩
      case round =>
        obtain ⟨k, hk, hg, rfl, hb⟩ := hrel
        have Hg := Lib.hid hg; clear hg
        have c0 := HcW.out wr hb
        have hsr := hb.size
        clear hcV
        by_cases hlt : k < ids.length
        · obtain ⟨id, bi, off, hid, rfl, hbb, hcell⟩ := rd_i Hr2.out hlt
          have g0 := hcell wr hb
          have hki : (k : Int) < (ids.length : Int) := by omega
          obtain ⟨en, q, ok, hd, hq1, hq2, hq3⟩ := reads_plain l id
          clear hcell hid
          go_wp2_with fail
          have d1 := opsDo_any wr A cap l ⟨2, id, ⟨#[]⟩⟩ (by omega) (Hr.out.up hb)
          rw [hd] at d1
          refine d1.mono ?_
          clear d1
          rintro e V1 hV1
          obtain ⟨A1, c1, rfl, hAB, hb1⟩ := hV1.rd (Hr.out.below hb) hsr
          have hr1 : Rd Pg.cells 3 V1 V1.heap.size A1 l := by
            rcases hAB with h | h
            · exact h.more (by have := hb1.size; omega)
            · exact Rd.of_own h pg_len (by decide)
          have hbV1 : Below W.heap.size W V1 := hb.trans (hb1.mono hsr)
          have c1' := HcW.out V1 hbV1
          have hs1 := hbV1.size
          have hN1 : N < V1.heap.size := by omega
          have Hr1 := Lib.hid hr1
          have HbV1 := Lib.hid hbV1
          clear hV1 hAB hb1 hr1 hbV1 c0 g0
          simp only [rsV]
          go_wp2_with fail
          obtain ⟨N7, hN7⟩ : ∃ N7, N7 = V1.heap.size := ⟨_, rfl⟩
          generalize hX : World.alloc (World.alloc V1 _) _ = X
          have hbX : Below V1.heap.size V1 X := by rw [← hX]; exact ((Below.refl _ _).alloc (Nat.le_refl _) _).alloc (by simp) _
          have hsX : X.heap.size = N7 + 2 := by rw [← hX, hN7]; simp
          have hx7 : X.heap[N7]? = some (.cells #[.slice A1 l.length c1] 24 (0, 0)) := by rw [← hX, hN7, heap_alloc_old _ _ (by simp), heap_alloc_new]
          have hx8 : X.heap[N7 + 1]? = some (.cells #[.int .i64 en, .int .i64 q.id, .int .i64 q.ver, .string q.body] 33 (0, 0)) := by
            have := heap_alloc_new (V1.alloc (.cells #[.slice A1 l.length c1] 24)) (.cells #[.int .i64 en, .int .i64 q.id, .int .i64 q.ver, .string q.body] 33)
            rw [← hX, hN7]
            simpa using this
          rw [← hN7] at hN1 hs1 hbX ⊢
          have hbXW : Below W.heap.size W X := HbV1.out.trans (hbX.mono (by omega))
          have d2 := get_any X A cap l id (by omega) (Hr.out.up hbXW)
          unfold GotP at d2
          rw [hq1, hq2] at d2
          refine d2.mono ?_
          clear d2 hX c1'
          rintro e V2 ⟨rfl, hb2⟩
          have hs2 := hb2.size
          have hbV2 : Below W.heap.size W V2 := hbXW.trans (hb2.mono (by omega))
          have hv7 := (hb2.block N7 (by omega)).trans hx7
          have hv8 := (hb2.block (N7 + 1) (by omega)).trans hx8
          have c2' := HcW.out V2 hbV2
          have a7 := cells_of hv7 0
          simp only [List.getElem?_toArray, List.getElem?_cons_zero] at a7
          have hq4 : N < V2.heap.size := by omega
          have hq5 : N7 < V2.heap.size := by omega
          have hq6 : N7 + 1 < V2.heap.size := by omega
          obtain ⟨N9, hN9⟩ : ∃ N9, N9 = V2.heap.size := ⟨_, rfl⟩
          have hN9' := hN9.symm
          rw [← hN9] at hq4 hq5 hq6
          have Hv8 := Lib.hid hv8
          have Hb2 := Lib.hid (hbX.trans (hb2.mono (by omega)))
          have HbV2 := Lib.hid hbV2
          have hs9 : N7 + 2 ≤ N9 := by omega
          have hN7' := hN7.symm
          clear hN9 hv7 hv8 hx7 hx8 hb2 hbX hbXW hbV2 hs2 hN7
          go_wp2_with fail
          generalize hY : World.alloc V2 _ = Y
          have hbY : Below N9 V2 Y := by rw [← hY, ← hN9']; exact (Below.refl _ _).alloc (Nat.le_refl _) _
          have hsY : Y.heap.size = N9 + 1 := by rw [← hY, ← hN9']; simp
          have hy9 : Y.heap[N9]? = some (.cells #[.int .i64 q.id, .int .i64 q.ver, .string q.body] 31 (0, 0)) := by rw [← hY, ← hN9', heap_alloc_new]
          have hbYW : Below W.heap.size W Y := HbV2.out.trans (hbY.mono (by omega))
          have d3 := same_any Y A1 A c1 cap l l (by omega) (by omega) (Hr1.out.up (by rw [hN7']; exact Hb2.out.trans (hbY.mono (by omega)))) (Hr.out.up hbYW)
          rw [decide_eq_true (rfl : l = l)] at d3
          refine d3.mono ?_
          clear d3 hY c2' a7
          rintro e V3 ⟨rfl, hb3⟩
          have hs3 := hb3.size
          have hv9 := (hb3.block N9 (by omega)).trans hy9
          have hv8 := (hb3.block (N7 + 1) (by omega)).trans ((hbY.block (N7 + 1) (by omega)).trans Hv8.out)
          have p0 := cells_of hv9 0
          have p1 := cells_of hv9 1
          have p2 := cells_of hv9 2
          have r0 := cells_of hv8 0
          have r1 := cells_of hv8 1
          have r2 := cells_of hv8 2
          have r3 := cells_of hv8 3
          simp only [List.getElem?_toArray, List.getElem?_cons_zero, List.getElem?_cons_succ] at p0 p1 p2 r0 r1 r2 r3
          have hneq : ∀ U, (binOp .neq 31 (.agg #[.int .i64 q.id, .int .i64 q.ver, .string q.body]) (.agg #[.int .i64 q.id, .int .i64 q.ver, .string q.body])).run Try.prog U = .ok (.bool false) U := fun U => by rw [neq_pg]; simp
          have hbE : Below W.heap.size W V3 := hbYW.trans (hb3.mono (by omega))
          have HbE := Lib.hid hbE
          clear hv8 hv9 hy9 hbY hbYW hb3 hbE hN9' hN7'
          cases ok with
          | true =>
            have hen : en = 0 := by simpa using hq3
            subst hen
            clear hq3
            go_wp2_with fail
            go_roundg (ids.length - (k + 1))
            case measure => have := Hg.out; omega
            case rel => exact ⟨k + 1, by omega, rfl, by go_num, HbE.out⟩
          | false =>
            go_wp2_with fail
            go_roundg (ids.length - (k + 1))
            case measure => have := Hg.out; omega
            case rel => exact ⟨k + 1, by omega, rfl, by go_num, HbE.out⟩
        · have hkl : k = ids.length := by omega
          subst hkl
          go_wp2_with fail
          refine (awake_any wr).mono ?_
          rintro e V2 ⟨rfl, hb2⟩
          go_wp2_with fail
          go_ret
          exact ⟨rfl, bnext HbW.out (hb.trans (hb2.mono hsr))⟩
end Go.Proofs.Ytbnegkkjgkignaa
