/- The contract of ops.Do. -/
import Derived.Test.YtbnegkkjgkignaaOps3
import Derived.Test.YtbnegkkjgkignaaOpsD
import Derived.Test.YtbnegkkjgkignaaPgIns
import Derived.Test.YtbnegkkjgkignaaRegC
namespace Go.Proofs.Ytbnegkkjgkignaa
open Go.RowKit

/-- a map that lies in memory (the old one, or in memory of the call's own), and what was told -/
def OpsDone (A0 : Option Addr) (l0 : List Pg) (r : List Pg × Rs) (w : World) (e : Ending) (w' : World) : Prop :=
  ∃ A cap, e = .returned (.tuple #[.agg #[.slice A r.1.length cap], rsV r.2]) ∧ ((A = A0 ∧ r.1 = l0) ∨ w'.ownsRow w.heap.size 31 3 (.slice A r.1.length cap) r.1.length (r.1.flatMap Pg.cells)) ∧ Below w.heap.size w w'
theorem opsDone_same {l : List Pg} {r : Rs} {w W' : World} {A : Option Addr} {cap : Nat} (hb : Below w.heap.size w W') : OpsDone A l (l, r) w (.returned (.tuple #[.agg #[.slice A l.length cap], rsV r])) W' := ⟨A, cap, rfl, .inl ⟨rfl, rfl⟩, hb⟩
theorem own_le {w : World} {base base' size n : Nat} {e : TypeId} {v : Value} {xs : List Value} (h : w.ownsRow base e size v n xs) (hb : base' ≤ base) : w.ownsRow base' e size v n xs := by
  refine ⟨h.1, ?_⟩
  rcases h.2 with hn | ⟨g, cap, cur, hv, h1, r⟩
  · exact .inl hn
  · exact .inr ⟨g, cap, cur, hv, by omega, r⟩
theorem own_drew {w : World} {base size n : Nat} {e : TypeId} {v : Value} {xs : List Value} (h : w.ownsRow base e size v n xs) : w.drew.ownsRow base e size v n xs := h
/-- what the call leaves lies in memory -/
theorem OpsDone.rd {A0 : Option Addr} {l0 : List Pg} {r : List Pg × Rs} {w : World} {e : Ending} {w' : World} {B : Nat} (h : OpsDone A0 l0 r w e w') (hr : Rd Pg.cells 3 w B A0 l0) (hB : B ≤ w.heap.size) : ∃ A cap, e = .returned (.tuple #[.agg #[.slice A r.1.length cap], rsV r.2]) ∧ (Rd Pg.cells 3 w' B A r.1 ∨ w'.ownsRow w.heap.size 31 3 (.slice A r.1.length cap) r.1.length (r.1.flatMap Pg.cells)) ∧ Below w.heap.size w w' := by
  obtain ⟨A, cap, he, h1, hb⟩ := h
  rcases h1 with ⟨rfl, h2⟩ | h1
  · exact ⟨A, cap, he, .inl (by rw [h2]; exact hr.below (hb.mono hB)), hb⟩
  · exact ⟨A, cap, he, .inr h1, hb⟩

set_option maxHeartbeats 8000000 in
theorem opsDo_any (w : World) (A : Option Addr) (cap : Nat) (l : List Pg) (o : Op)
    (hl : l.length ≤ 999999) (hr : Rd Pg.cells 3 w w.heap.size A l) :
    Calls Try.prog 12 #[.agg #[.slice A l.length cap], .agg #[.int .i64 o.kind, .int .i64 o.id, .string o.body]] w (OpsDone A l (doM l o) w) := by
  obtain ⟨W, hW⟩ : ∃ W, W = ((((w.alloc (.cells #[.slice A l.length cap] 24)).alloc (.cells #[.int .i64 o.kind, .int .i64 o.id, .string o.body] 26)).alloc (.cells #[.slice none 0 0] 24)).alloc (.cells #[.int .i64 0, .int .i64 0, .int .i64 0, .string ⟨#[]⟩] 33)) := ⟨_, rfl⟩
  have hbx := box_of w A l.length cap o
  rw [← hW] at hbx
  have hbW : Below w.heap.size w W := by rw [hW]; exact ((((Below.refl _ _).alloc (Nat.le_refl _) _).alloc (by simp) _).alloc (by simp; omega) _).alloc (by simp; omega) _
  have hsW : W.heap.size = w.heap.size + 4 := by rw [hW]; simp
  obtain ⟨N, hN⟩ : ∃ N, N = w.heap.size := ⟨_, rfl⟩
  rw [← hN] at hsW hbx
  have hl6 : l.length ≤ 1000000 := by omega
  have hW' := hW.symm
  have hN' := hN.symm
  clear hW
  have hrW := hr.up hbW
  have HrW := Lib.hid hrW; clear hrW
  have Hr := Lib.hid hr; clear hr
  have HbW := Lib.hid hbW; clear hbW
  have Hbx := Lib.hid hbx
  obtain ⟨c00, c10, c11, c12, c20, c30, c31, c32, c33, f20, f30, f31, f32, f33⟩ := hbx
  clear hN
  go_enter Try.func12, Try.ntmps12
  go_wp2_with fail
  refine (opsRight_any W A cap l hl6 HrW.out).mono ?_
  rintro e V ⟨rfl, hb1⟩
  clear hW' c00 c10 c11 c12 c20 c30 c31 c32 c33 f20 f30 f31 f32 f33
  have hsV := hb1.size
  have HbV := Lib.hid (bnext HbW.out hb1)
  have HbxV := Lib.hid (Hbx.out.up hb1 (by omega))
  have HrV := Lib.hid (HrW.out.up hb1)
  obtain ⟨c00, c10, c11, c12, c20, c30, c31, c32, c33, f20, f30, f31, f32, f33⟩ := HbxV.out
  clear hb1
  cases hrl : rightM l with
  | false =>
    have Hrl := Lib.hid hrl; clear hrl
    have hd : doM l o = (l, ⟨1, pg0⟩) := doM_bad Hrl.out
    have Hd := Lib.hid hd; clear hd
    go_wp2_with fail
    refine bodyPost_ret (v := .tuple #[.agg #[.slice A l.length cap], rsV ⟨1, pg0⟩]) (by simp [results, Try.results12, go_sem, rsV, pg0, c00, c20, c30, c31, c32, c33]) rfl ?_
    rw [Hd.out]
    exact opsDone_same (below_end HbV.out (by omega) (by omega))
  | true =>
    have Hrl := Lib.hid hrl; clear hrl
    cases hor : o.right with
    | false =>
      have hcs : o.kind < 1 ∨ (1 ≤ o.kind ∧ 4 < o.kind) ∨ (1 ≤ o.kind ∧ o.kind ≤ 4 ∧ o.id < 1) ∨ (1 ≤ o.kind ∧ o.kind ≤ 4 ∧ 1 ≤ o.id ∧ 16 < o.id) := by
        have : ¬ o.right = true := by simp [hor]
        rw [opRight_iff] at this
        omega
      have Hor := Lib.hid hor; clear hor
      rcases hcs with h1 | ⟨h1, h2⟩ | ⟨h1, h2, h3⟩ | ⟨h1, h2, h3, h4⟩
      all_goals
        have hd : doM l o = (l, ⟨1, pg0⟩) := doM_op Hor.out
        have Hd := Lib.hid hd; clear hd
        go_wp2_with fail
        refine bodyPost_ret (v := .tuple #[.agg #[.slice A l.length cap], rsV ⟨1, pg0⟩]) (by simp [results, Try.results12, go_sem, rsV, pg0, c00, c20, c30, c31, c32, c33]) rfl ?_
        rw [Hd.out]
        exact opsDone_same (below_end HbV.out (by omega) (by omega))
    | true =>
      obtain ⟨o1, o2, o3, o4⟩ := opRight_iff.1 hor
      have Hor := Lib.hid hor; clear hor
      go_wp2_with fail
      clear o1 o2 o3 o4
      have hpl := place_any V A cap l o.id hl6 HrV.out
      rcases place_cases Hrl.out o.id with ⟨k, hk, hkl⟩ | ⟨k, p, hk, hp, hpid, hkl⟩
      · rw [hk] at hpl
        refine hpl.mono ?_
        clear hpl c00 c10 c11 c12 c20 c30 c31 c32 c33 f20 f30 f31 f32 f33
        rintro e V2 ⟨rfl, hb2⟩
        have hsV2 := hb2.size
        have HbV2 := Lib.hid (bnext HbV.out hb2)
        have HbxV2 := Lib.hid (HbxV.out.up hb2 (by omega))
        have HrV2 := Lib.hid (HrV.out.up hb2)
        obtain ⟨c00, c10, c11, c12, c20, c30, c31, c32, c33, f20, f30, f31, f32, f33⟩ := HbxV2.out
        have Hk := Lib.hid hk; clear hk hb2
        obtain ⟨M, hM⟩ : ∃ M, M = V2.heap.size := ⟨_, rfl⟩
        have hM' := hM.symm
        have hsV3 : N + 4 ≤ M := by omega
        have hn0 : N < M := by omega
        have hn1 : N + 1 < M := by omega
        have hn2 : N + 1 + 1 < M := by omega
        have hn3 : N + 1 + 1 + 1 < M := by omega
        clear hM
        by_cases hk1 : o.kind = 1
        · have hk1b : (o.kind == 1) = true := by simpa using hk1
          have hd := doM_new Hrl.out Hor.out Hk.out hk1
          have Hd := Lib.hid hd; clear hd
          go_wp2_with fail
          generalize hV3 : World.alloc V2 _ = V3
          have hb3 : Below V2.heap.size V2 V3 := by rw [← hV3]; exact (Below.refl _ _).alloc (Nat.le_refl _) _
          have hs3 : V3.heap.size = M + 1 := by rw [← hV3]; simp [hM']
          have m0 : V3.cell? ⟨M, 0, none⟩ = some (.int .i64 o.id) := by rw [← hV3, ← hM']; simp
          have m1 : V3.cell? ⟨M, 1, none⟩ = some (.int .i64 1) := by rw [← hV3, ← hM']; simp
          have m2 : V3.cell? ⟨M, 2, none⟩ = some (.string ⟨#[]⟩) := by rw [← hV3, ← hM']; simp
          have HbV3 := Lib.hid (bnext HbV2.out hb3)
          have HbxV3 := Lib.hid (HbxV2.out.up hb3 (by omega))
          have HrV3 := Lib.hid (HrV2.out.up hb3)
          clear c00 c10 c11 c12 c20 c30 c31 c32 c33 f20 f30 f31 f32 f33 hV3 hb3
          obtain ⟨c00, c10, c11, c12, c20, c30, c31, c32, c33, f20, f30, f31, f32, f33⟩ := HbxV3.out
          have hCk : ∀ U, Below (M + 1) V3 U → U.cell? ⟨N, 0, none⟩ = some (.slice A l.length cap) ∧ U.cell? ⟨M, 0, none⟩ = some (.int .i64 o.id) ∧ U.cell? ⟨M, 1, none⟩ = some (.int .i64 1) ∧ U.cell? ⟨M, 2, none⟩ = some (.string ⟨#[]⟩) := fun U hU => ⟨(hU.cell (p := ⟨N, 0, none⟩) (by show N < M + 1; omega)).trans c00, (hU.cell (p := ⟨M, 0, none⟩) (Nat.lt_succ_self _)).trans m0, (hU.cell (p := ⟨M, 1, none⟩) (Nat.lt_succ_self _)).trans m1, (hU.cell (p := ⟨M, 2, none⟩) (Nat.lt_succ_self _)).trans m2⟩
          have HCk := Lib.hid hCk; clear hCk
          refine wp_region_C (fun U => U.cell? ⟨N, 0, none⟩ = some (.slice A l.length cap) ∧ U.cell? ⟨M, 0, none⟩ = some (.int .i64 o.id) ∧ U.cell? ⟨M, 1, none⟩ = some (.int .i64 1) ∧ U.cell? ⟨M, 2, none⟩ = some (.string ⟨#[]⟩)) (by kernel_rfl) rfl rfl ?_
          (refine takeC (i := 0) (.pointer (some ⟨N, 0, none⟩)) rfl (by kernel_rfl) (by kernel_rfl) (by kernel_rfl) rfl (fun _ _ _ h => h) ⟨c00, m0, m1, m2⟩ rfl (fun U hU => by obtain ⟨k0, k1, k2, k3⟩ := hU; go_simp) (fun K hK => ?_); have HK := Lib.hid hK; clear hK; go_simp; refine HK.out _ ?_; clear HK K)
          (refine takeC (i := 1) (.slice A l.length cap) rfl (by kernel_rfl) (by kernel_rfl) (by kernel_rfl) rfl (fun _ _ _ h => h) ⟨c00, m0, m1, m2⟩ rfl (fun U hU => by obtain ⟨k0, k1, k2, k3⟩ := hU; go_simp) (fun K hK => ?_); have HK := Lib.hid hK; clear hK; go_simp; refine HK.out _ ?_; clear HK K)
          (refine takeC (i := 3) (.int .i64 k) rfl (by kernel_rfl) (by kernel_rfl) (by kernel_rfl) rfl (fun _ _ _ h => h) ⟨c00, m0, m1, m2⟩ rfl (fun U hU => by obtain ⟨k0, k1, k2, k3⟩ := hU; go_simp) (fun K hK => ?_); have HK := Lib.hid hK; clear hK; go_simp; refine HK.out _ ?_; clear HK K)
          (refine takeC (i := 4) (.agg #[.int .i64 o.id, .int .i64 1, .string ⟨#[]⟩]) rfl (by kernel_rfl) (by kernel_rfl) (by kernel_rfl) rfl (fun _ _ _ h => h) ⟨c00, m0, m1, m2⟩ rfl (fun U hU => by obtain ⟨k0, k1, k2, k3⟩ := hU; go_simp) (fun K hK => ?_); have HK := Lib.hid hK; clear hK; go_simp; refine HK.out _ ?_; clear HK K)
          (refine takeC (i := 8) (.agg #[.int .i64 o.id, .int .i64 1, .string ⟨#[]⟩]) rfl (by kernel_rfl) (by kernel_rfl) (by kernel_rfl) rfl (fun _ _ _ h => h) ⟨c00, m0, m1, m2⟩ rfl (fun U hU => by obtain ⟨k0, k1, k2, k3⟩ := hU; go_simp) (fun K hK => ?_); have HK := Lib.hid hK; clear hK; go_simp; refine HK.out _ ?_; clear HK K)
          (refine takeC (i := 9) (.agg #[.int .i64 0, .int .i64 o.id, .int .i64 1, .string ⟨#[]⟩]) rfl (by kernel_rfl) (by kernel_rfl) (by kernel_rfl) rfl (fun _ _ _ h => h) ⟨c00, m0, m1, m2⟩ rfl (fun U hU => by obtain ⟨k0, k1, k2, k3⟩ := hU; go_simp) (fun K hK => ?_); have HK := Lib.hid hK; clear hK; go_simp; refine HK.out _ ?_; clear HK K)
          refine twoC (i := 2) (j := 5) (by kernel_rfl) rfl rfl rfl rfl rfl rfl (fun K hK => ?_) (fun K hK => ?_)
          · have HK := Lib.hid hK; clear hK
            go_simp
            refine (clone_Pg _ A cap l hl6 pg_len pg_one ?_).mono ?_
            · exact HrV3.out
            rintro e U ⟨A', c', rfl, ho, hbU⟩
            have hbU' : Below V3.heap.size V3 U := ⟨hbU.os, hbU.tape, hbU.output, hbU.size, hbU.block⟩
            have ho' : U.ownsRow V3.heap.size 31 3 (.slice A' l.length c') l.length (l.flatMap Pg.cells) := ho
            rw [hs3] at hbU' ho'
            have hsU := hbU'.size
            have Ho := Lib.hid ho'
            clear ho ho' hbU
            refine HK.out _ _ (HCk.out U hbU') ?_
            clear HK K
            (refine oneC (i := 5) (by kernel_rfl) rfl rfl rfl (fun K hK => ?_); have HK := Lib.hid hK; clear hK; go_simp; refine HK.out _ _ (HCk.out _ (hbU'.alloc (by omega) _)) ?_; clear HK K)
            refine oneC (i := 6) (by kernel_rfl) rfl rfl rfl (fun K hK => ?_)
            have HK := Lib.hid hK; clear hK
            go_simp
            refine (insert_Pg _ (M + 1) A' c' l k (pgNew o.id) U.heap.size hkl hl6 ?_ pg_len pg_one ?_ ?_ ?_).mono ?_
            · simp; omega
            · exact Ho.out.alloc _
            · exact fun e => by have := (Ho.out.lt _ e).2; omega
            · exact heap_alloc_new U _
            rintro e U2 ⟨A2, c2, rfl, ho2, hb2⟩
            have hbU2 : Below (M + 1) V3 U2 := (hbU'.alloc (by omega) _).trans hb2
            have Ho2 := Lib.hid ho2
            have HbU2 := Lib.hid (HbV3.out.trans (hbU2.mono (by omega)))
            have hsU2 := hbU2.size
            clear ho2
            refine HK.out _ _ (HCk.out U2 hbU2) ?_
            clear HK K c00 c10 c11 c12 c20 c30 c31 c32 c33 f20 f30 f31 f32 f33 m0 m1 m2
            obtain ⟨c00, c10, c11, c12, c20, c30, c31, c32, c33, f20, f30, f31, f32, f33⟩ := HbxV3.out.up hbU2 (by omega)
            obtain ⟨k0, k1, k2, k3⟩ := HCk.out U2 hbU2
            (refine oneC (i := 7) (by kernel_rfl) rfl rfl rfl (fun K hK => ?_); have HK := Lib.hid hK; clear hK; go_simp; refine HK.out _ _ ⟨k0, k1, k2, k3⟩ ?_; clear HK K)
            (refine oneC (i := 10) (by kernel_rfl) rfl rfl rfl (fun K hK => ?_); have HK := Lib.hid hK; clear hK; go_simp; refine HK.out _ _ ?_ ?_; clear HK K; · (refine ⟨?_, ?_, ?_, ?_⟩ <;> go_simp))
            (refine oneC (i := 11) (by kernel_rfl) rfl rfl rfl (fun K hK => ?_); have HK := Lib.hid hK; clear hK; go_simp; refine HK.out _ _ ?_ ?_; clear HK K; · (refine ⟨?_, ?_, ?_, ?_⟩ <;> go_simp))
            refine doneC (by kernel_rfl) ?_
            go_wp2_with fail
            refine bodyPost_ret (v := .tuple #[.agg #[.slice A2 (l.take k ++ pgNew o.id :: l.drop k).length c2], rsV ⟨0, pgNew o.id⟩]) (by simp [results, Try.results12, go_sem, rsV, pgNew, Nat.min_eq_left hkl, c00, c20, c30, c31, c32, c33]) rfl ?_
            rw [Hd.out]
            refine ⟨A2, c2, rfl, .inr (own_le (base := M + 1) ?_ (by omega)), ?_⟩
            · exact own_end Ho2.out (by omega) (by omega)
            · exact below_end HbU2.out (by omega) (by omega)
          · have HK := Lib.hid hK; clear hK
            go_simp
            refine HK.out _ _ (HCk.out _ (((Below.refl _ V3).alloc (by omega) _).drew)) ?_
            clear HK K
            refine oneC (i := 2) (by kernel_rfl) rfl rfl rfl (fun K hK => ?_)
            have HK := Lib.hid hK; clear hK
            go_simp
            refine (clone_Pg _ A cap l hl6 pg_len pg_one ?_).mono ?_
            · exact HrV3.out.up (((Below.refl _ V3).alloc (Nat.le_refl _) _).drew)
            rintro e U ⟨A', c', rfl, ho, hbU⟩
            have hXs : (V3.alloc (.cells #[.int .i64 o.id, .int .i64 1, .string ⟨#[]⟩] 31)).heap.size = M + 2 := by simp [hs3]
            have hbU0 : Below (V3.alloc (.cells #[.int .i64 o.id, .int .i64 1, .string ⟨#[]⟩] 31)).heap.size (V3.alloc (.cells #[.int .i64 o.id, .int .i64 1, .string ⟨#[]⟩] 31)) U := ⟨hbU.os, hbU.tape, hbU.output, hbU.size, hbU.block⟩
            have ho' : U.ownsRow (V3.alloc (.cells #[.int .i64 o.id, .int .i64 1, .string ⟨#[]⟩] 31)).heap.size 31 3 (.slice A' l.length c') l.length (l.flatMap Pg.cells) := ho
            have hsU := hbU0.size
            rw [hXs] at hbU0 ho' hsU
            have hbU' : Below (M + 1) V3 U := ((Below.refl _ V3).alloc (by omega) _).trans (hbU0.mono (by omega))
            have hvU : U.heap[M + 1]? = some (.cells #[.int .i64 o.id, .int .i64 1, .string ⟨#[]⟩] 31 (0, 0)) := (hbU0.block (M + 1) (by omega)).trans (by rw [← hs3]; exact heap_alloc_new V3 _)
            have Ho := Lib.hid ho'
            have HvU := Lib.hid hvU
            clear ho ho' hbU hbU0 hvU hXs
            refine HK.out _ _ (HCk.out U hbU') ?_
            clear HK K
            refine oneC (i := 6) (by kernel_rfl) rfl rfl rfl (fun K hK => ?_)
            have HK := Lib.hid hK; clear hK
            go_simp
            refine (insert_Pg _ (M + 2) A' c' l k (pgNew o.id) (M + 1) hkl hl6 ?_ pg_len pg_one ?_ ?_ ?_).mono ?_
            · exact hsU
            · exact Ho.out
            · exact fun e => by have := (Ho.out.lt _ e).1; omega
            · exact HvU.out
            rintro e U2 ⟨A2, c2, rfl, ho2, hb2⟩
            have hbU2 : Below (M + 1) V3 U2 := hbU'.trans (hb2.mono (by omega))
            have Ho2 := Lib.hid ho2
            have HbU2 := Lib.hid (HbV3.out.trans (hbU2.mono (by omega)))
            have hsU2 := hbU2.size
            clear ho2
            refine HK.out _ _ (HCk.out U2 hbU2) ?_
            clear HK K c00 c10 c11 c12 c20 c30 c31 c32 c33 f20 f30 f31 f32 f33 m0 m1 m2
            obtain ⟨c00, c10, c11, c12, c20, c30, c31, c32, c33, f20, f30, f31, f32, f33⟩ := HbxV3.out.up hbU2 (by omega)
            obtain ⟨k0, k1, k2, k3⟩ := HCk.out U2 hbU2
            (refine oneC (i := 7) (by kernel_rfl) rfl rfl rfl (fun K hK => ?_); have HK := Lib.hid hK; clear hK; go_simp; refine HK.out _ _ ⟨k0, k1, k2, k3⟩ ?_; clear HK K)
            (refine oneC (i := 10) (by kernel_rfl) rfl rfl rfl (fun K hK => ?_); have HK := Lib.hid hK; clear hK; go_simp; refine HK.out _ _ ?_ ?_; clear HK K; · (refine ⟨?_, ?_, ?_, ?_⟩ <;> go_simp))
            (refine oneC (i := 11) (by kernel_rfl) rfl rfl rfl (fun K hK => ?_); have HK := Lib.hid hK; clear hK; go_simp; refine HK.out _ _ ?_ ?_; clear HK K; · (refine ⟨?_, ?_, ?_, ?_⟩ <;> go_simp))
            refine doneC (by kernel_rfl) ?_
            go_wp2_with fail
            refine bodyPost_ret (v := .tuple #[.agg #[.slice A2 (l.take k ++ pgNew o.id :: l.drop k).length c2], rsV ⟨0, pgNew o.id⟩]) (by simp [results, Try.results12, go_sem, rsV, pgNew, Nat.min_eq_left hkl, c00, c20, c30, c31, c32, c33]) rfl ?_
            rw [Hd.out]
            refine ⟨A2, c2, rfl, .inr (own_le (base := M + 2) ?_ (by omega)), ?_⟩
            · exact own_end Ho2.out (by omega) (by omega)
            · exact below_end HbU2.out (by omega) (by omega)
        · have hk1b : (o.kind == 1) = false := by simpa using hk1
          have hd : doM l o = (l, ⟨3, pg0⟩) := doM_none Hrl.out Hor.out Hk.out hk1
          have Hd := Lib.hid hd; clear hd
          go_wp2_with fail
          refine bodyPost_ret (v := .tuple #[.agg #[.slice A l.length cap], rsV ⟨3, pg0⟩]) (by simp [results, Try.results12, go_sem, rsV, pg0, c00, c20, c30, c31, c32, c33]) rfl ?_
          rw [Hd.out]
          exact opsDone_same (below_end HbV2.out (by omega) (by omega))
      · rw [hk] at hpl
        refine hpl.mono ?_
        clear hpl c00 c10 c11 c12 c20 c30 c31 c32 c33 f20 f30 f31 f32 f33
        rintro e V2 ⟨rfl, hb2⟩
        have hsV2 := hb2.size
        have HbV2 := Lib.hid (bnext HbV.out hb2)
        have HbxV2 := Lib.hid (HbxV.out.up hb2 (by omega))
        have HrV2 := Lib.hid (HrV.out.up hb2)
        obtain ⟨c00, c10, c11, c12, c20, c30, c31, c32, c33, f20, f30, f31, f32, f33⟩ := HbxV2.out
        have Hk := Lib.hid hk; clear hk hb2
        by_cases hk1 : o.kind = 1
        · have hk1b : (o.kind == 1) = true := by simpa using hk1
          clear hp hpid
          have hd : doM l o = (l, ⟨4, pg0⟩) := doM_there Hrl.out Hor.out Hk.out hk1
          have Hd := Lib.hid hd; clear hd
          go_wp2_with fail
          refine bodyPost_ret (v := .tuple #[.agg #[.slice A l.length cap], rsV ⟨4, pg0⟩]) (by simp [results, Try.results12, go_sem, rsV, pg0, c00, c20, c30, c31, c32, c33]) rfl ?_
          rw [Hd.out]
          exact opsDone_same (below_end HbV2.out (by omega) (by omega))
        have hk1b : (o.kind == 1) = false := by simpa using hk1
        obtain ⟨q1, q2, q3, q4, q5⟩ := rightP_iff.1 (rightP_of Hrl.out hp)
        obtain ⟨p', b, off, hp', hA', hbb, hcell⟩ := rd_p HrV2.out hkl
        obtain rfl : p = p' := by rw [hp] at hp'; exact Option.some.inj hp'
        subst hA'
        obtain ⟨g0, g1, g2⟩ := hcell V2 (Below.refl _ _)
        have Hp := Lib.hid hp; clear hp hp' hcell
        have Hpid := Lib.hid hpid; clear hpid
        have hki : (k : Int) < (l.length : Int) := by omega
        obtain ⟨M, hM⟩ : ∃ M, M = V2.heap.size := ⟨_, rfl⟩
        have hM' := hM.symm
        have hsV3 : N + 4 ≤ M := by omega
        have hn0 : N < M := by omega
        have hn1 : N + 1 < M := by omega
        have hn2 : N + 1 + 1 < M := by omega
        have hn3 : N + 1 + 1 + 1 < M := by omega
        clear hM
        by_cases hk2 : o.kind = 2
        · have hk2b : (o.kind == 2) = true := by simp [hk2]
          have hd := doM_read Hrl.out Hor.out Hk.out Hp.out hk2
          have Hd := Lib.hid hd; clear hd
          go_wp2_with fail
          generalize hV3 : World.alloc V2 _ = V3
          have hb3 : Below V2.heap.size V2 V3 := by rw [← hV3]; exact (Below.refl _ _).alloc (Nat.le_refl _) _
          have hs3 : V3.heap.size = M + 1 := by rw [← hV3]; simp [hM']
          have m0 : V3.cell? ⟨M, 0, none⟩ = some (.int .i64 p.id) := by rw [← hV3, ← hM']; simp
          have m1 : V3.cell? ⟨M, 1, none⟩ = some (.int .i64 p.ver) := by rw [← hV3, ← hM']; simp
          have m2 : V3.cell? ⟨M, 2, none⟩ = some (.string p.body) := by rw [← hV3, ← hM']; simp
          have HbV3 := Lib.hid (bnext HbV2.out hb3)
          have HbxV3 := Lib.hid (HbxV2.out.up hb3 (by omega))
          have HrV3 := Lib.hid (HrV2.out.up hb3)
          clear c00 c10 c11 c12 c20 c30 c31 c32 c33 f20 f30 f31 f32 f33 hV3 hb3
          obtain ⟨c00, c10, c11, c12, c20, c30, c31, c32, c33, f20, f30, f31, f32, f33⟩ := HbxV3.out
          clear g0 g1 g2
          go_region
          go_wp2_with fail
          refine bodyPost_ret (v := .tuple #[.agg #[.slice (some ⟨b, off, none⟩) l.length cap], rsV ⟨0, p⟩]) (by simp [results, Try.results12, go_sem, rsV, pg0, c00, c20, c30, c31, c32, c33]) rfl ?_
          rw [Hd.out]
          exact opsDone_same (below_end HbV3.out (by omega) (by omega)).drew
        have hk2b : (o.kind == 2) = false := by simpa using hk2
        by_cases hk4 : o.kind = 4
        · have hk4b : (o.kind == 4) = true := by simp [hk4]
          have hd := doM_del Hrl.out Hor.out Hk.out Hp.out hk4
          have Hd := Lib.hid hd; clear hd
          go_wp2_with fail
          generalize hV3 : World.alloc V2 _ = V3
          have hb3 : Below V2.heap.size V2 V3 := by rw [← hV3]; exact (Below.refl _ _).alloc (Nat.le_refl _) _
          have hs3 : V3.heap.size = M + 1 := by rw [← hV3]; simp [hM']
          have m0 : V3.cell? ⟨M, 0, none⟩ = some (.int .i64 p.id) := by rw [← hV3, ← hM']; simp
          have m1 : V3.cell? ⟨M, 1, none⟩ = some (.int .i64 p.ver) := by rw [← hV3, ← hM']; simp
          have m2 : V3.cell? ⟨M, 2, none⟩ = some (.string p.body) := by rw [← hV3, ← hM']; simp
          have HbV3 := Lib.hid (bnext HbV2.out hb3)
          have HbxV3 := Lib.hid (HbxV2.out.up hb3 (by omega))
          have HrV3 := Lib.hid (HrV2.out.up hb3)
          clear c00 c10 c11 c12 c20 c30 c31 c32 c33 f20 f30 f31 f32 f33 hV3 hb3
          refine (clone_Pg V3 _ cap l hl6 pg_len pg_one HrV3.out).mono ?_
          rintro e U ⟨A', c', rfl, ho, hbU⟩
          have hsU := hbU.size
          have HbU := Lib.hid (bnext HbV3.out hbU)
          obtain ⟨c00, c10, c11, c12, c20, c30, c31, c32, c33, f20, f30, f31, f32, f33⟩ := HbxV3.out.up hbU (by omega)
          have HbxU := Lib.hid (HbxV3.out.up hbU (by omega))
          have Ho := Lib.hid ho
          clear g0 g1 g2 m0 m1 m2 ho hbU
          have hkw : IntKind.i64.wrap ((k : Int) + 1) = (k : Int) + 1 := IntWalk.i64_in _ (by omega)
          go_wp2_with fail
          refine (delete_Pg U V3.heap.size A' c' l k hkl hl6 hsU pg_len pg_one Ho.out).mono ?_
          rintro e U2 ⟨A2, c2, rfl, ho2, hbU2⟩
          clear c00 c10 c11 c12 c20 c30 c31 c32 c33 f20 f30 f31 f32 f33
          obtain ⟨c00, c10, c11, c12, c20, c30, c31, c32, c33, f20, f30, f31, f32, f33⟩ := HbxU.out.up hbU2 (by omega)
          have HbU2 := Lib.hid (HbU.out.trans (hbU2.mono (by have := HbV3.out.size; omega)))
          have Ho2 := Lib.hid ho2
          clear ho2 hbU2
          go_wp2_with fail
          refine bodyPost_ret (v := .tuple #[.agg #[.slice A2 (l.take k ++ l.drop (k + 1)).length c2], rsV ⟨0, pg0⟩]) (by simp [results, Try.results12, go_sem, rsV, pg0, c00, c20, c30, c31, c32, c33]) rfl ?_
          rw [Hd.out]
          refine ⟨A2, c2, rfl, .inr (own_le (base := V3.heap.size) ?_ (by omega)), ?_⟩
          · exact own_end Ho2.out (by omega) (by omega)
          · exact below_end HbU2.out (by omega) (by omega)
        have hk3 : o.kind = 3 := by have := opRight_iff.1 Hor.out; omega
        have hk4b : (o.kind == 4) = false := by simpa using hk4
        by_cases hbs : 16 < o.body.size
        · have hbi : (16 : Int) < (o.body.size : Int) := by omega
          have hd : doM l o = (l, ⟨5, pg0⟩) := doM_long Hrl.out Hor.out Hk.out Hp.out hk3 hbs
          have Hd := Lib.hid hd; clear hd
          go_wp2_with fail
          refine bodyPost_ret (v := .tuple #[.agg #[.slice (some ⟨b, off, none⟩) l.length cap], rsV ⟨5, pg0⟩]) (by simp [results, Try.results12, go_sem, rsV, pg0, c00, c20, c30, c31, c32, c33, hn2, hn3, hM']) rfl ?_
          rw [Hd.out]
          exact opsDone_same ((below_end HbV2.out (by omega) (by omega)).alloc (by simp; omega) _)
        have hbi : ¬ (16 : Int) < (o.body.size : Int) := by omega
        by_cases hv : 2147483647 ≤ p.ver
        · have hd : doM l o = (l, ⟨7, pg0⟩) := doM_full Hrl.out Hor.out Hk.out Hp.out hk3 hbs hv
          have Hd := Lib.hid hd; clear hd
          go_wp2_with fail
          refine bodyPost_ret (v := .tuple #[.agg #[.slice (some ⟨b, off, none⟩) l.length cap], rsV ⟨7, pg0⟩]) (by simp [results, Try.results12, go_sem, rsV, pg0, c00, c20, c30, c31, c32, c33, hn2, hn3, hM']) rfl ?_
          rw [Hd.out]
          exact opsDone_same ((below_end HbV2.out (by omega) (by omega)).alloc (by simp; omega) _)
        have hvw : IntKind.i64.wrap (p.ver + 1) = p.ver + 1 := IntWalk.i64_in _ (by omega)
        have hd := doM_up Hrl.out Hor.out Hk.out Hp.out hk3 hbs hv
        have Hd := Lib.hid hd; clear hd
        go_wp2_with fail
        generalize hV3 : World.alloc V2 _ = V3
        have hb3 : Below V2.heap.size V2 V3 := by rw [← hV3]; exact (Below.refl _ _).alloc (Nat.le_refl _) _
        have hs3 : V3.heap.size = M + 1 := by rw [← hV3]; simp [hM']
        have m0 : V3.cell? ⟨M, 0, none⟩ = some (.int .i64 p.id) := by rw [← hV3, ← hM']; simp
        have m1 : V3.cell? ⟨M, 1, none⟩ = some (.int .i64 (p.ver + 1)) := by rw [← hV3, ← hM']; simp
        have m2 : V3.cell? ⟨M, 2, none⟩ = some (.string o.body) := by rw [← hV3, ← hM']; simp
        have HbV3 := Lib.hid (bnext HbV2.out hb3)
        have HbxV3 := Lib.hid (HbxV2.out.up hb3 (by omega))
        have HrV3 := Lib.hid (HrV2.out.up hb3)
        clear c00 c10 c11 c12 c20 c30 c31 c32 c33 f20 f30 f31 f32 f33 hV3 hb3
        refine (clone_Pg V3 _ cap l hl6 pg_len pg_one HrV3.out).mono ?_
        rintro e U ⟨A', c', rfl, ho, hbU⟩
        have hsU := hbU.size
        have HbU := Lib.hid (bnext HbV3.out hbU)
        have hmV : M < V3.heap.size := by omega
        have m0' := (hbU.cell (p := ⟨M, 0, none⟩) hmV).trans m0
        have m1' := (hbU.cell (p := ⟨M, 1, none⟩) hmV).trans m1
        have m2' := (hbU.cell (p := ⟨M, 2, none⟩) hmV).trans m2
        obtain ⟨c00, c10, c11, c12, c20, c30, c31, c32, c33, f20, f30, f31, f32, f33⟩ := HbxV3.out.up hbU (by omega)
        obtain ⟨g, c2, hA2, hBg, hc2, hc3⟩ := own_addr ho (by omega)
        injection hA2 with hA2 hA3 hA4
        subst hA2; subst hA4
        obtain ⟨u0, x0⟩ := own_some ho (j := k * 3) (by omega)
        obtain ⟨u1, x1⟩ := own_some ho (j := k * 3 + 1) (by omega)
        obtain ⟨u2, x2⟩ := own_some ho (j := k * 3 + 2) (by omega)
        have y0 := ho.frozenAt (k * 3)
        have y1 := ho.frozenAt (k * 3 + 1)
        have y2 := ho.frozenAt (k * 3 + 2)
        have Ho := Lib.hid ho
        clear g0 g1 g2 m0 m1 m2 ho hbU hA3
        have hg0 : ¬ g = N + 1 + 1 := by omega
        have hg1 : ¬ g = N + 1 + 1 + 1 := by omega
        have hg2 : ¬ N + 1 + 1 = g := by omega
        have hg3 : ¬ N + 1 + 1 + 1 = g := by omega
        have hg4 : ¬ M = g := by omega
        have hg5 : ¬ g = M := by omega
        go_wp2_with fail
        go_region
        go_wp2_with fail
        refine bodyPost_ret (v := .tuple #[.agg #[.slice (some ⟨g, 0, none⟩) l.length c'], rsV ⟨0, pgUp p o.body⟩]) (by simp [results, Try.results12, go_sem, rsV, pgUp, c00, c20, c30, c31, c32, c33, hg0, hg1, hg2, hg3]) rfl ?_
        rw [Hd.out]
        refine ⟨some ⟨g, 0, none⟩, c', by rw [List.length_set], .inr ?_, (below_end (below_set3 HbU.out (by omega)) (by omega) (by omega)).drew⟩
        simp only [List.length_set]
        refine own_le (base := V3.heap.size) ?_ (by omega)
        refine own_drew ?_
        have hs3' := own_set3 (pgUp p o.body) Ho.out hkl
        exact own_end hs3' (by omega) (by omega)
end Go.Proofs.Ytbnegkkjgkignaa
