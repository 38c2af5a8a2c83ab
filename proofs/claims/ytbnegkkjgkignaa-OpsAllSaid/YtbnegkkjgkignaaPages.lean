/- The law OpsPages, walked. -/
import Derived.Test.YtbnegkkjgkignaaOps9
import Derived.Test.YtbnegkkjgkignaaOps4
import Derived.Test.YtbnegkkjgkignaaPlain3
import Derived.IntWalk
namespace Go.Proofs.Ytbnegkkjgkignaa
open Go.RowKit

theorem body_ne {b : ByteArray} (h : ¬ b = ⟨#[]⟩) : b.toList.isEmpty = false := by
  have := body_no h
  cases hb : b.toList with
  | nil => rw [hb] at this; simp at this
  | cons x y => rfl
theorem Try.infoOp : (Try.prog.info? 26).map (fun i => (i.zero, i.size, i.bytes)) = some (some (.agg #[.int .i64 0, .int .i64 0, .string .empty]), 3, 32) := by kernel_rfl
theorem op_one : ∀ r : Op, ∀ u ∈ Op.cells r, u.oneCell' = true := by
  intro x u hu; simp [Op.cells] at hu; rcases hu with rfl | rfl | rfl <;> rfl
theorem op_len (r : Op) : r.cells.length = 3 := rfl
theorem pagesOps_snoc {l : List Pg} {k : Nat} {p : Pg} (h : l[k]? = some p) : pagesOps (l.take (k + 1)) = pagesOps (l.take k) ++ pageOps p := by
  rw [pagesOps, pagesOps, List.take_add_one, h]; simp
theorem repl_snoc {α : Type} (j : Nat) (x : α) : List.replicate (j + 1) x = List.replicate j x ++ [x] := by rw [List.replicate_succ']
theorem rd_rs {w : World} {B : Nat} {A : Option Addr} {l : List Rs} (h : Rd Rs.cells 4 w B A l) {k : Nat} (hk : k < l.length) :
    ∃ c b off, l[k]? = some c ∧ A = some ⟨b, off, none⟩ ∧ b < B ∧ ∀ W, Below B w W → W.cell? ⟨b, off + k * 4, none⟩ = some (.int .i64 c.e) ∧ W.cell? ⟨b, off + k * 4 + 1, none⟩ = some (.int .i64 c.pg.id) ∧ W.cell? ⟨b, off + k * 4 + 2, none⟩ = some (.int .i64 c.pg.ver) ∧ W.cell? ⟨b, off + k * 4 + 3, none⟩ = some (.string c.pg.body) := by
  obtain ⟨c, b, off, hc, hA, hb, hcell⟩ := h.at_ hk
  exact ⟨c, b, off, hc, hA, hb, fun W hW => ⟨hcell W hW 0 _ rfl, hcell W hW 1 _ rfl, hcell W hW 2 _ rfl, hcell W hW 3 _ rfl⟩⟩

set_option maxHeartbeats 4000000 in
theorem lawPages (w : World) (A : Option Addr) (cap : Nat) (l : List Pg) (hl : l.length ≤ 9223372036854775807) (hr : Rd Pg.cells 3 w w.heap.size A l) :
    Calls Try.prog 9 #[.agg #[.slice A l.length cap]] w fun e w' => e = .returned (.bool true) ∧ Below w.heap.size w w' := by
  obtain ⟨W, hW⟩ : ∃ W, W = w.alloc (.cells #[.slice A l.length cap] 24) := ⟨_, rfl⟩
  obtain ⟨N, hN⟩ : ∃ N, N = w.heap.size := ⟨_, rfl⟩
  have hbW : Below w.heap.size w W := by rw [hW]; exact (Below.refl _ _).alloc (Nat.le_refl _) _
  have hcW : ∀ V, Below W.heap.size W V → V.cell? ⟨N, 0, none⟩ = some (.slice A l.length cap) := fun V hV => by
    subst hW; rw [hN, box_cell hV]; rfl
  have hsW : W.heap.size = N + 1 := by rw [hW, hN]; simp
  have h0 := hcW W (Below.refl _ _)
  have hrW := hr.up hbW
  have Hr := Lib.hid hrW; clear hrW hr
  have HcW := Lib.hid hcW; clear hcW
  have HbW := Lib.hid hbW
  have hW' := hW.symm
  have hN' := hN.symm
  clear hW hbW hN
  obtain ⟨i0, hi0, hz0, hz1, hz2⟩ := info_parts Try.infoOp
  go_enter Try.func9, Try.ntmps9
  go_wp2_with fail
  refine (small_any W A cap l hl Hr.out).mono ?_
  rintro e V ⟨b, rfl, hbl, hb1⟩
  clear hW' h0
  have hcV := HcW.out V hb1
  have HbV := Lib.hid (bnext HbW.out hb1)
  have Hb1 := Lib.hid hb1
  have hsV := hb1.size
  clear hb1
  cases b with
  | false =>
    go_wp2_with fail
    refine (awake_any V).mono ?_
    rintro e V2 ⟨rfl, hb2⟩
    go_wp2_with fail
    go_ret
    exact ⟨rfl, bnext HbV.out hb2⟩
  | true =>
    have hl40 := hbl rfl
    clear hbl
    have hNV : N < V.heap.size := by omega
    go_wp2_with fail
    refine (refMap_any V A cap l (by omega) (Hr.out.up Hb1.out)).mono ?_
    rintro e V1 ⟨rfl, hb2⟩
    have hb2W : Below W.heap.size W V1 := Hb1.out.trans (hb2.mono hsV)
    have HbV1 := Lib.hid hb2W
    have hcV1 := HcW.out V1 hb2W
    have hs1 := hb2W.size
    have hNV1 : N < V1.heap.size := by omega
    clear hb2 hb2W hcV
    obtain ⟨rt, hrt⟩ : ∃ rt, rt = rightM l := ⟨_, rfl⟩
    rw [← hrt]
    have Hrt := Lib.hid hrt; clear hrt
    cases rt with
    | false =>
      go_wp2_with fail
      refine (awake_any V1).mono ?_
      rintro e V2 ⟨rfl, hb2⟩
      go_wp2_with fail
      go_ret
      exact ⟨rfl, bnext (bnext HbW.out HbV1.out) hb2⟩
    | true =>
      go_wp2_with fail
      go_loopg [3, 23] l.length (fun g os i wr => ∃ (k : Nat) (A3 : Option Addr) (m c3 : Nat), k ≤ l.length ∧ g = l.length - k ∧ i = .int .i64 k ∧ os = .slice A3 m c3 ∧ m = (pagesOps (l.take k)).length ∧ m ≤ 50 * k ∧ (∀ p ∈ l.take k, p.ver = 1 → p.body = ⟨#[]⟩) ∧
        wr.ownsRow (N + 1) 26 3 (.slice A3 m c3) m ((pagesOps (l.take k)).flatMap Op.cells) ∧ Below W.heap.size W wr)
      case atStart => exact ⟨0, none, 0, 0, Nat.zero_le _, rfl, rfl, rfl, rfl, by decide, by simp, World.ownsRow_nil _ _ _ _, HbV1.out⟩
      case round =>
        obtain ⟨k, A3, m, c3, hk, hg, rfl, rfl, hm, hm50, hbody, hown, hb⟩ := hrel
        have Hg := Lib.hid hg; clear hg
        have Hm := Lib.hid hm; clear hm
        have Hbody := Lib.hid hbody; clear hbody
        have Hown := Lib.hid hown; clear hown
        have Hb := Lib.hid hb
        have hsr := hb.size
        clear hcV1 hNV1 hs1
        by_cases hlt : k < l.length
        · obtain ⟨p, bp, off, hp, rfl, hbb, hcell⟩ := rd_p Hr.out hlt
          obtain ⟨g0, g1, g2⟩ := hcell wr hb
          have hki : (k : Int) < (l.length : Int) := by omega
          have hbw : bp < wr.heap.size := by omega
          have Hp := Lib.hid hp
          clear hcell hp hb
          by_cases hv50 : (50 : Int) < p.ver
          · go_wp2_with fail
            refine (awake_any _).mono ?_
            rintro e V2 ⟨rfl, hb2⟩
            go_wp2_with fail
            go_ret
            exact ⟨rfl, bnext (bnext (bnext HbW.out Hb.out) ((Below.refl _ _).alloc (Nat.le_refl _) _)) hb2⟩
          have hcs : ((p.ver == 1) = true ∧ p.body.toList.isEmpty = false) ∨ (p.ver = 1 → p.body = ⟨#[]⟩) ∧ ((p.ver == 1) = false ∨ ((p.ver == 1) = true ∧ p.body.toList.isEmpty = true)) := by
            by_cases hv1 : p.ver = 1
            · by_cases hbe : p.body = ⟨#[]⟩
              · exact .inr ⟨fun _ => hbe, .inr ⟨by simpa using hv1, by rw [hbe, ByteArray.toList_eq]; rfl⟩⟩
              · exact .inl ⟨by simpa using hv1, body_ne hbe⟩
            · exact .inr ⟨fun h => absurd h hv1, .inl (by simpa using hv1)⟩
          rcases hcs with ⟨hq, hbe⟩ | ⟨hgood, hcs⟩
          · go_wp2_with fail
            refine (awake_any _).mono ?_
            rintro e V2 ⟨rfl, hb2⟩
            go_wp2_with fail
            go_ret
            exact ⟨rfl, bnext (bnext (bnext HbW.out Hb.out) ((Below.refl _ _).alloc (Nat.le_refl _) _)) hb2⟩
          have Hgood := Lib.hid hgood; clear hgood
          have hpv := (rightP_iff.1 (rightP_of Hrt.out.symm Hp.out)).2.2.1
          obtain ⟨c, hc⟩ : ∃ c : Nat, c = p.ver.toNat - 1 := ⟨_, rfl⟩
          have hc49 : c ≤ 49 := by omega
          have ew : IntKind.i64.wrap (p.ver - 1) = (c : Int) := by rw [IntWalk.i64_in _ (by omega)]; omega
          have Hc := Lib.hid hc; clear hc
          have Hpv := Lib.hid hpv; clear hpv
          obtain ⟨M, hM⟩ : ∃ M, M = wr.heap.size := ⟨_, rfl⟩
          have hneM : (Value.slice A3 m c3).ownBlock ≠ some M := fun e => by have := (Hown.out.lt _ e).2; omega
          have HneM := Lib.hid hneM; clear hneM
          have hNM : N + 1 ≤ M := by omega
          have hm3 : m ≤ 2000 := by omega
          have hM' := hM.symm
          have hbwM : bp < M := by omega
          have HM := Lib.hid hM
          clear hM hbw
          rcases hcs with hq | ⟨hq, hbe⟩
          iterate 2
            · go_wp2_with (at_builtin; refine list_app rfl (.tmp 41) (.tmp 45) 46 rfl (N + 1) 26 i0 (.agg #[.int .i64 0, .int .i64 0, .string .empty]) 3 32 Try.underlying46 hi0 hz0 hz1 hz2 rfl (by decide) rfl ((Hown.out.alloc (.cells #[.int .i64 p.id, .int .i64 p.ver, .string p.body] 31)).alloc (.cells #[.int .i64 1, .int .i64 p.id, .string ⟨#[]⟩] 26)) (m := 1) (news := Op.cells (opNew p.id)) rfl rfl (by simp) (new_src (cs := (Op.cells (opNew p.id)).toArray) (by simp [hM'])) (op_one (opNew p.id)) ?_ ?_ ?_ ?_)
              · unfold maxLen; omega
              · omega
              · first | omega | (simp; omega)
              intro v' w5 ho5 hg5 hv5
              obtain ⟨Wf, hWf⟩ : ∃ Wf, Wf = (wr.alloc (.cells #[.int .i64 p.id, .int .i64 p.ver, .string p.body] 31)).alloc (.cells #[.int .i64 1, .int .i64 p.id, .string ⟨#[]⟩] 26) := ⟨_, rfl⟩
              rw [← hWf] at hg5
              have hsF : Wf.heap.size = M + 2 := by rw [hWf]; simp [hM']
              have hbF : Below W.heap.size W Wf := by rw [hWf]; exact (Hb.out.alloc (by omega) _).alloc (by simp; omega) _
              have hFM : Wf.heap[M]? = some (.cells #[.int .i64 p.id, .int .i64 p.ver, .string p.body] 31 (0, 0)) := by rw [hWf, ← hM', heap_alloc_old _ _ (by simp), heap_alloc_new]
              have h5M := (hg5.block M (by omega) (fun e => HneM.out e.symm)).trans hFM
              have hb5 : Below W.heap.size W w5 := hbF.grown hg5 (by omega) (fun q hq => by have := (Hown.out.lt q hq).1; omega)
              obtain ⟨A5, c5, rfl, _, _⟩ := own_slice ho5
              have hne5 : (Value.slice A5 (m + 1) c5).ownBlock ≠ some M := by
                rcases hv5 with h | h
                · rw [h]; exact HneM.out
                · rw [h]; simp; try omega
              have h5s := hg5.size
              have Ho5 := Lib.hid ho5
              have H5M := Lib.hid h5M
              have Hb5 := Lib.hid hb5
              have Hne5 := Lib.hid hne5
              have e0 := cells_of h5M 0
              have e1 := cells_of h5M 1
              have e2 := cells_of h5M 2
              simp only [List.getElem?_toArray, List.getElem?_cons_zero, List.getElem?_cons_succ] at e0 e1 e2
              have h5M' : M < w5.heap.size := by omega
              clear ho5 hg5 hv5 hWf hsF hbF hFM h5M hb5 hne5 h5s hM'
              obtain ⟨wo, hwo⟩ : ∃ wo : World, wo = wr := ⟨_, rfl⟩
              go_wp2_with fail
              go_loopg [3, 50] c (fun g os i wr => ∃ (j : Nat) (A4 : Option Addr) (c4 : Nat), j ≤ c ∧ g = c - j ∧ i = .int .i64 j ∧ os = .slice A4 (m + 1 + j) c4 ∧
                wr.ownsRow (N + 1) 26 3 (.slice A4 (m + 1 + j) c4) (m + 1 + j) ((pagesOps (l.take k)).flatMap Op.cells ++ (opNew p.id :: List.replicate j (opWrite p)).flatMap Op.cells) ∧ (Value.slice A4 (m + 1 + j) c4).ownBlock ≠ some M ∧
                wr.heap[M]? = some (.cells #[.int .i64 p.id, .int .i64 p.ver, .string p.body] 31 (0, 0)) ∧ Below W.heap.size W wr ∧ M < wr.heap.size)
              case atStart => exact ⟨0, A5, c5, Nat.zero_le _, rfl, rfl, rfl, by simpa using Ho5.out, Hne5.out, H5M.out, Hb5.out, h5M'⟩
              case round =>
                obtain ⟨j, A4, c4, hj, hgi, rfl, rfl, hown4, hne4, hM4, hb4, hsM⟩ := hrel
                have Hgi := Lib.hid hgi; clear hgi
                have Hown4 := Lib.hid hown4; clear hown4
                have Hne4 := Lib.hid hne4; clear hne4
                have HM4 := Lib.hid hM4
                have Hb4 := Lib.hid hb4
                have hs4 := hb4.size
                clear e0 e1 e2
                have e0 := cells_of hM4 0
                have e1 := cells_of hM4 1
                have e2 := cells_of hM4 2
                simp only [List.getElem?_toArray, List.getElem?_cons_zero, List.getElem?_cons_succ] at e0 e1 e2
                clear hM4 hb4
                by_cases hjlt : j < c
                · have hji : (j : Int) < (c : Int) := by omega
                  obtain ⟨wi, hwi⟩ : ∃ wi : World, wi = wr := ⟨_, rfl⟩
                  go_wp2_with (at_builtin; refine list_app rfl (.tmp 52) (.tmp 58) 46 rfl (N + 1) 26 i0 (.agg #[.int .i64 0, .int .i64 0, .string .empty]) 3 32 Try.underlying46 hi0 hz0 hz1 hz2 rfl (by decide) rfl (Hown4.out.alloc (.cells #[.int .i64 3, .int .i64 p.id, .string p.body] 26)) (m := 1) (news := Op.cells (opWrite p)) rfl rfl (by simp) (new_src (cs := (Op.cells (opWrite p)).toArray) rfl) (op_one (opWrite p)) ?_ ?_ ?_ ?_)
                  · unfold maxLen; omega
                  · omega
                  · first | omega | (simp; omega)
                  intro v' w6 ho6 hg6 hv6
                  have hbF := Hb4.out.alloc hs4 (.cells #[.int .i64 3, .int .i64 p.id, .string p.body] 26)
                  have hsF : (wr.alloc (.cells #[.int .i64 3, .int .i64 p.id, .string p.body] 26)).heap.size = wr.heap.size + 1 := by simp
                  have hFM := (heap_alloc_old wr (.cells #[.int .i64 3, .int .i64 p.id, .string p.body] 26) hsM).trans HM4.out
                  have h6M := (hg6.block M (by omega) (fun e => Hne4.out e.symm)).trans hFM
                  have hb6 : Below W.heap.size W w6 := hbF.grown hg6 (by omega) (fun q hq => by have := (Hown4.out.lt q hq).1; omega)
                  obtain ⟨A6, c6, rfl, _, _⟩ := own_slice ho6
                  have hne6 : (Value.slice A6 (m + 1 + j + 1) c6).ownBlock ≠ some M := by
                    rcases hv6 with h | h
                    · rw [h]; exact Hne4.out
                    · rw [h]; simp; try omega
                  have h6s := hg6.size
                  have Ho6 := Lib.hid ho6
                  have H6M := Lib.hid h6M
                  have Hb6 := Lib.hid hb6
                  have Hne6 := Lib.hid hne6
                  have h6M' : M < w6.heap.size := by omega
                  clear ho6 hg6 hv6 hbF hsF hFM h6M hb6 hne6 h6s
                  go_wp2_with fail
                  go_roundg (c - (j + 1))
                  case measure => have := Hgi.out; omega
                  case rel =>
                    refine ⟨j + 1, A6, c6, by omega, rfl, by go_num, rfl, ?_, Hne6.out, H6M.out, Hb6.out, h6M'⟩
                    have := Ho6.out
                    rw [show m + 1 + (j + 1) = m + 1 + j + 1 from by omega]
                    rw [repl_snoc, ← List.cons_append, List.flatMap_append, ← List.append_assoc]
                    simpa using this
                · obtain rfl : j = c := by omega
                  have hsnoc := pagesOps_snoc Hp.out
                  have hpo : pageOps p = opNew p.id :: List.replicate j (opWrite p) := by rw [pageOps, Hc.out]
                  have Hsn := Lib.hid hsnoc; have Hpo := Lib.hid hpo
                  clear hsnoc hpo e0 e1 e2
                  go_wp2_with fail
                  go_roundg (l.length - (k + 1))
                  case measure => have := Hg.out; omega
                  case rel =>
                    refine ⟨k + 1, A4, m + 1 + j, c4, by omega, rfl, by go_num, rfl, ?_, by omega, ?_, ?_, Hb4.out⟩
                    · rw [Hsn.out, Hpo.out, List.length_append, ← Hm.out]; simp; omega
                    · intro p' hp'
                      rw [List.take_add_one, Hp.out] at hp'
                      rcases List.mem_append.1 hp' with h | h
                      · exact Hbody.out p' h
                      · simp at h; subst h; exact Hgood.out
                    · rw [Hsn.out, Hpo.out, List.flatMap_append]; exact Hown4.out
        · obtain rfl : k = l.length := by omega
          have hx := pages_make Hrt.out.symm (fun p hp => Hbody.out p (by rw [List.take_length]; exact hp))
          have hm' := Hm.out
          have hown' := Hown.out
          rw [List.take_length] at hm' hown'
          subst hm'
          have hcr := HcW.out wr hb
          have hNr : N < wr.heap.size := by omega
          have hrd := Rd.of_own hown' op_len (by decide)
          have d1 := opsAll_any wr none 0 [] A3 c3 (pagesOps l) (by simp; omega) Rd.nil hrd
          have hlen := allM_len (pagesOps l) []
          obtain ⟨x, rs, hax⟩ : ∃ x rs, allM [] (pagesOps l) = (x, rs) := ⟨_, _, rfl⟩
          rw [hax] at d1 hx hlen
          obtain ⟨hx1, hx2⟩ := hx
          simp only at hx1 hx2 hlen
          subst hx1
          unfold AllDone at d1
          simp only [hlen] at d1
          have Hx2 := Lib.hid hx2
          have Hlen := Lib.hid hlen
          have Hd1 := Lib.hid d1
          have Hb := Lib.hid hb
          clear hx2 hown' hrd d1 hb hlen hax
          go_wp2_with fail
          refine Hd1.out.mono ?_
          rintro e V5 ⟨A5, c5, A6, c6, rfl, hr5, hr6, hb5⟩
          have hs5 := hb5.size
          have hb5W : Below W.heap.size W V5 := Hb.out.trans (hb5.mono Hb.out.size)
          have Hr5 := Lib.hid hr5
          have Hr6 := Lib.hid hr6
          have Hb5W := Lib.hid hb5W
          have hNV5 : N < V5.heap.size := by omega
          clear hr5 hr6 hb5 hb5W hcr Hd1
          go_wp2_with fail
          obtain ⟨X, hX⟩ : ∃ X, X = V5.alloc (.cells #[.slice A5 x.length c5] 24) := ⟨_, rfl⟩
          obtain ⟨P, hP⟩ : ∃ P, P = V5.heap.size := ⟨_, rfl⟩
          have hbX : Below V5.heap.size V5 X := by rw [hX]; exact (Below.refl _ _).alloc (Nat.le_refl _) _
          have hxP : X.heap[P]? = some (.cells #[.slice A5 x.length c5] 24 (0, 0)) := by rw [hX, hP, heap_alloc_new]
          have hsX : X.heap.size = P + 1 := by rw [hX, hP]; simp
          have Hr5X := Lib.hid (Hr5.out.up hbX)
          have Hr6X := Lib.hid (Hr6.out.up hbX)
          have HbXW := Lib.hid (Hb5W.out.trans (hbX.mono Hb5W.out.size))
          have HrX := Lib.hid (Hr.out.up HbXW.out)
          have HxP := Lib.hid hxP
          rw [← hP] at hNV5
          rw [← hX, ← hP]
          clear hX hP hbX hxP
          go_loopg [70] rs.length (fun g i wr => ∃ k : Nat, k ≤ rs.length ∧ g = rs.length - k ∧ i = .int .i64 k ∧ Below X.heap.size X wr)
          case atStart => exact ⟨0, Nat.zero_le _, rfl, rfl, Below.refl _ _⟩
          case round =>
            obtain ⟨k, hk, hg, rfl, hb⟩ := hrel
            have Hg := Lib.hid hg; clear hg
            have Hb2 := Lib.hid hb
            have hsr2 := hb.size
            have hl2 := Hlen.out
            have HbE := Lib.hid (bnext HbW.out (HbXW.out.trans (hb.mono HbXW.out.size)))
            by_cases hlt : k < rs.length
            · obtain ⟨r, br, off, hr, rfl, hbb, hcell⟩ := rd_rs Hr6X.out hlt
              have hre : r.e = 0 := Hx2.out r (List.mem_of_getElem? hr)
              obtain ⟨g0, g1, g2, g3⟩ := hcell wr hb
              rw [hre] at g0
              have hki : (k : Int) < ((pagesOps x).length : Int) := by omega
              have hkn : k < (pagesOps x).length := by omega
              have hbrw : br < wr.heap.size := by omega
              clear hcell hb hl2 hre hr
              go_wp2_with fail
              go_roundg (rs.length - (k + 1))
              case measure => have := Hg.out; omega
              case rel => exact ⟨k + 1, by omega, rfl, by go_num, Hb2.out.alloc Hb2.out.size _⟩
            · obtain rfl : k = rs.length := by omega
              have hxw := (hb.block P (by omega)).trans HxP.out
              have y0 := cells_of hxw 0
              simp only [List.getElem?_toArray, List.getElem?_cons_zero] at y0
              have hcr := HcW.out wr (HbXW.out.trans (hb.mono HbXW.out.size))
              have hPr : P < wr.heap.size := by omega
              have hNr2 : N < wr.heap.size := by omega
              have hki : ¬ (rs.length : Int) < ((pagesOps x).length : Int) := by omega
              have d3 := same_any wr A5 A c5 cap x x (by omega) (by omega) (Hr5X.out.up hb) (HrX.out.up hb)
              rw [decide_eq_true (rfl : x = x)] at d3
              have Hd3 := Lib.hid d3
              have hxw' := Lib.hid hxw
              clear hxw d3 hb hl2
              go_wp2_with fail
              refine Hd3.out.mono ?_
              rintro e V7 ⟨rfl, hb7⟩
              have y1 := (hb7.cell (p := ⟨P, 0, none⟩) hPr).trans y0
              have Hb27 := Lib.hid (bnext Hb2.out hb7)
              have hs7 := hb7.size
              have hPr7 : P < V7.heap.size := by omega
              clear y0 hcr Hd3 hb7
              go_wp2_with fail
              have d4 := opsRight_any V7 A5 c5 x (by omega) (Hr5X.out.up Hb27.out)
              rw [← Hrt.out] at d4
              refine d4.mono ?_
              clear d4
              rintro e V8 ⟨rfl, hb8⟩
              go_wp2_with fail
              refine (awake_any V8).mono ?_
              rintro e V9 ⟨rfl, hb9⟩
              go_wp2_with fail
              go_ret
              exact ⟨rfl, bnext (bnext (bnext (bnext HbW.out HbXW.out) Hb27.out) hb8) hb9⟩
end Go.Proofs.Ytbnegkkjgkignaa
