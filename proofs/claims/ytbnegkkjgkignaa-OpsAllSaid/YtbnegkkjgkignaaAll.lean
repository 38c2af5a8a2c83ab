/- The law OpsAll, walked. -/
import Derived.Test.YtbnegkkjgkignaaOps9
import Derived.Test.YtbnegkkjgkignaaOps5s
import Derived.Test.YtbnegkkjgkignaaPages
namespace Go.Proofs.Ytbnegkkjgkignaa
open Go.RowKit

theorem Try.infoRr : (Try.prog.info? 37).map (fun i => (i.zero, i.size, i.bytes)) = some (some (.agg #[.int .i64 0, .int .i64 0, .int .i64 0, .string .empty]), 4, 40) := by kernel_rfl
theorem allM_right : ∀ (os : List Op) (l : List Pg), rightM l = true → rightM (allM l os).1 = true
  | [], _, h => h
  | o :: os, l, h => allM_right os (doM l o).1 (doM_did (o := o) h).right

set_option maxHeartbeats 4000000 in
theorem lawAll (w : World) (A : Option Addr) (cap : Nat) (os : List Op) (hl : os.length ≤ 9223372036854775807) (hr : Rd Op.cells 3 w w.heap.size A os) :
    Calls Try.prog 4 #[.slice A os.length cap] w fun e w' => e = .returned (.bool true) ∧ Below w.heap.size w w' := by
  have Hr := Lib.hid hr; clear hr
  obtain ⟨i0, hi0, hz0, hz1, hz2⟩ := info_parts Try.infoRr
  by_cases h60 : (60 : Int) < (os.length : Int)
  · go_enter Try.func4, Try.ntmps4
    go_wp2_with fail
    refine (awake_any w).mono ?_
    rintro e V2 ⟨rfl, hb2⟩
    go_wp2_with fail
    go_ret
    exact ⟨rfl, hb2⟩
  have hl60 : os.length ≤ 60 := by omega
  go_enter Try.func4, Try.ntmps4
  go_wp2_with fail
  go_loopg [3, 4, 19] os.length (fun g xs want i wr => ∃ (k : Nat) (A' : Option Addr) (c' : Nat) (A3 : Option Addr) (c3 : Nat), k ≤ os.length ∧ g = os.length - k ∧ i = .int .i64 k ∧ xs = .slice A' (allM [] (os.take k)).1.length c' ∧ want = .slice A3 k c3 ∧
    Rd' Pg.cells 3 wr (fun b => b < wr.heap.size ∧ (Value.slice A3 k c3).ownBlock ≠ some b) A' (allM [] (os.take k)).1 ∧ wr.ownsRow w.heap.size 37 4 (.slice A3 k c3) k ((allM [] (os.take k)).2.flatMap Rs.cells) ∧ Below w.heap.size w wr)
  case atStart => exact ⟨0, none, 0, none, 0, Nat.zero_le _, rfl, rfl, rfl, rfl, fun h => absurd rfl h, World.ownsRow_nil _ _ _ _, Below.refl _ _⟩
  case round =>
    obtain ⟨k, A', c', A3, c3, hk, hg, rfl, rfl, rfl, hrk, hown, hb⟩ := hrel
    have Hg := Lib.hid hg; clear hg
    have Hrk := Lib.hid hrk; clear hrk
    have Hown := Lib.hid hown; clear hown
    have Hb := Lib.hid hb
    have hsr := hb.size
    have hlk : (allM [] (os.take k)).1.length ≤ 60 := by
      have h1 := allM_len1 (os.take k) []
      have h2 : (os.take k).length = k := by rw [List.length_take]; omega
      rw [h2] at h1
      simp only [List.length_nil] at h1
      omega
    have Hlk := Lib.hid hlk; clear hlk
    by_cases hlt : k < os.length
    · obtain ⟨o, b, off, ho, rfl, hbb, hcell⟩ := rd_o Hr.out hlt
      obtain ⟨g0, g1, g2⟩ := hcell wr hb
      have hki : (k : Int) < (os.length : Int) := by omega
      obtain ⟨M, hM⟩ : ∃ M, M = wr.heap.size := ⟨_, rfl⟩
      have hM' := hM.symm
      have hbM : b < M := by omega
      have HM := Lib.hid hM
      have Ho := Lib.hid ho
      clear hM hcell ho hb
      by_cases h100 : (100 : Int) < (o.body.size : Int)
      · go_wp2_with fail
        refine (awake_any _).mono ?_
        rintro e V2 ⟨rfl, hb2⟩
        go_wp2_with fail
        go_ret
        exact ⟨rfl, bnext (Hb.out.alloc hsr _) hb2⟩
      · go_wp2_with fail
        obtain ⟨X, hX⟩ : ∃ X, X = wr.alloc (.cells #[.int .i64 o.kind, .int .i64 o.id, .string o.body] 26) := ⟨_, rfl⟩
        have hbX : Below M wr X := by rw [hX, ← hM']; exact (Below.refl _ _).alloc (Nat.le_refl _) _
        have hsX : X.heap.size = M + 1 := by rw [hX, ← hM']; simp
        rw [← hX]
        clear hX g0 g1 g2
        have hrX := Hrk.out.keep (w' := X) fun b hb => hbX.block b (by omega)
        have d1 := refDo_any X A' c' (allM [] (os.take k)).1 o (by have := Hlk.out; omega) (hrX.to fun b hb => by omega)
        have hrt := allM_take (l := []) Ho.out
        obtain ⟨r, hr⟩ : ∃ r, r = doM (allM [] (os.take k)).1 o := ⟨_, rfl⟩
        rw [← hr] at d1 hrt
        refine d1.mono ?_
        clear d1
        rintro e V ⟨A4, c4, rfl, hAB, hbV⟩
        have hsV := hbV.size
        have hrV : Rd' Pg.cells 3 V (fun b => b < V.heap.size ∧ (Value.slice A3 k c3).ownBlock ≠ some b) A4 r.1 := by
          rcases hAB with ⟨h1, h2⟩ | h1
          · rw [h1, h2]
            exact (hrX.keep fun b hb => hbV.block b (by omega)).imp fun b hb => ⟨by omega, hb.2⟩
          · exact (Rd'.of_own h1 pg_len (by decide)).imp fun b hb => ⟨hb.2, fun e => by have := (Hown.out.lt _ e).2; omega⟩
        have hownV := own_below (own_below Hown.out hbX (fun g hg => by have := (Hown.out.lt _ hg).2; omega)) hbV (fun g hg => by have := (Hown.out.lt _ hg).2; omega)
        have hbVw : Below w.heap.size w V := Hb.out.trans ((hbX.mono (by omega)).trans (hbV.mono (by omega)))
        have HrV := Lib.hid hrV
        have HownV := Lib.hid hownV
        have HbV := Lib.hid hbVw
        have Hrt := Lib.hid hrt
        have hsV2 : M < V.heap.size := by omega
        have hwV : w.heap.size ≤ V.heap.size := by omega
        clear hrV hownV hbVw hrt hAB hbV hsV hbX hsX hrX hr hM'
        unfold rsV
        go_wp2_with (at_builtin; refine list_app rfl (.tmp 35) (.tmp 37) 47 rfl w.heap.size 37 i0 (.agg #[.int .i64 0, .int .i64 0, .int .i64 0, .string .empty]) 4 40 Try.underlying47 hi0 hz0 hz1 hz2 rfl (by decide) rfl ((HownV.out.alloc (.cells #[.int .i64 r.2.e, .int .i64 r.2.pg.id, .int .i64 r.2.pg.ver, .string r.2.pg.body] 37)).alloc (.cells #[.int .i64 r.2.e, .int .i64 r.2.pg.id, .int .i64 r.2.pg.ver, .string r.2.pg.body] 37)) (m := 1) (news := Rs.cells r.2) rfl rfl (by simp) (new_src (cs := (Rs.cells r.2).toArray) (by simp)) (rs_one r.2) ?_ ?_ ?_ ?_)
        · unfold maxLen; omega
        · omega
        · first | omega | (simp; omega)
        intro v' w5 ho5 hg5 hv5
        obtain ⟨Wf, hWf⟩ : ∃ Wf, Wf = (V.alloc (.cells #[.int .i64 r.2.e, .int .i64 r.2.pg.id, .int .i64 r.2.pg.ver, .string r.2.pg.body] 37)).alloc (.cells #[.int .i64 r.2.e, .int .i64 r.2.pg.id, .int .i64 r.2.pg.ver, .string r.2.pg.body] 37) := ⟨_, rfl⟩
        rw [← hWf] at hg5
        have hsF : Wf.heap.size = V.heap.size + 2 := by rw [hWf]; simp
        have hbF : Below V.heap.size V Wf := by rw [hWf]; exact ((Below.refl _ _).alloc (Nat.le_refl _) _).alloc (by simp) _
        have hb5 : Below w.heap.size w w5 := (HbV.out.trans (hbF.mono hwV)).grown hg5 (by omega) (fun q hq => (HownV.out.lt q hq).1)
        obtain ⟨A5, c5, rfl, _, _⟩ := own_slice ho5
        have h5s := hg5.size
        have hr5 : Rd' Pg.cells 3 w5 (fun b => b < w5.heap.size ∧ (Value.slice A5 (k + 1) c5).ownBlock ≠ some b) A4 r.1 := by
          refine (HrV.out.keep (w' := w5) fun b hb => (hg5.block b (by omega) (fun e => hb.2 e.symm)).trans (hbF.block b hb.1)).imp fun b hb => ⟨by omega, ?_⟩
          rcases hv5 with h | h
          · rw [h]; exact hb.2
          · rw [h]; intro e; have e' := Option.some.inj e; have := hb.1; omega
        have Ho5 := Lib.hid ho5
        have Hr5 := Lib.hid hr5
        have Hb5 := Lib.hid hb5
        clear ho5 hg5 hv5 hWf hsF hbF hb5 h5s hr5
        go_wp2_with fail
        go_roundg (os.length - (k + 1))
        case measure => have := Hg.out; omega
        case rel =>
          refine ⟨k + 1, A4, c4, A5, c5, by omega, rfl, by go_num, ?_, rfl, ?_, ?_, Hb5.out⟩
          · rw [Hrt.out]
          · rw [Hrt.out]; exact Hr5.out
          · rw [Hrt.out, List.flatMap_append]; simpa using Ho5.out
    · obtain rfl : k = os.length := by omega
      have h1 := Hrk.out
      have h2 := Hown.out
      have h3 := Hlk.out
      rw [List.take_length] at h1 h2 h3 ⊢
      have hlen := allM_len os []
      have hright := allM_right os [] rfl
      obtain ⟨x, rs, hax⟩ : ∃ x rs, allM [] os = (x, rs) := ⟨_, _, rfl⟩
      have d1 := opsAll_any wr none 0 [] A cap os (by simp; omega) Rd.nil (Hr.out.up hb)
      rw [hax] at h1 h2 h3 hlen hright d1 ⊢
      simp only at h1 h2 h3 hlen hright ⊢
      unfold AllDone at d1
      simp only [hlen] at d1
      have hx1 := h1.to (B := wr.heap.size) fun b hb => hb.1
      have hrs1 : Rd Rs.cells 4 wr wr.heap.size A3 rs := Rd.of_own h2 rs_len (by decide)
      have Hx1 := Lib.hid hx1
      have Hrs1 := Lib.hid hrs1
      have Hd1 := Lib.hid d1
      have Hlen := Lib.hid hlen
      have Hright := Lib.hid hright
      clear h1 h2 hlen hright d1 hx1 hrs1 hax hb
      go_wp2_with fail
      refine Hd1.out.mono ?_
      rintro e V5 ⟨A5, c5, A6, c6, rfl, hr5, hr6, hb5⟩
      have Hr5 := Lib.hid hr5
      have Hr6 := Lib.hid hr6
      have Hb5 := Lib.hid hb5
      clear hr5 hr6 hb5 Hd1
      obtain ⟨X, hX⟩ : ∃ X, X = V5.alloc (.cells #[.slice A5 x.length c5] 24) := ⟨_, rfl⟩
      obtain ⟨P, hP⟩ : ∃ P, P = V5.heap.size := ⟨_, rfl⟩
      have hbX : Below V5.heap.size V5 X := by rw [hX]; exact (Below.refl _ _).alloc (Nat.le_refl _) _
      have hxP : X.heap[P]? = some (.cells #[.slice A5 x.length c5] 24 (0, 0)) := by rw [hX, hP, heap_alloc_new]
      have hsX : X.heap.size = P + 1 := by rw [hX, hP]; simp
      have hbwX := bnext Hb5.out hbX
      have HbwX := Lib.hid hbwX
      have Hr5X := Lib.hid (Hr5.out.up hbX)
      have Hr6X := Lib.hid (Hr6.out.up hbX)
      have Hx1X := Lib.hid (Hx1.out.up hbwX)
      have Hrs1X := Lib.hid (Hrs1.out.up hbwX)
      have HxP := Lib.hid hxP
      have HbX := Lib.hid (bnext Hb.out hbwX)
      have d3 := same_any X A5 A' c5 c' x x (by omega) (by omega) Hr5X.out Hx1X.out
      rw [decide_eq_true (rfl : x = x)] at d3
      have Hd3 := Lib.hid d3
      have y0 := cells_of hxP 0
      simp only [List.getElem?_toArray, List.getElem?_cons_zero] at y0
      have hPX : P < X.heap.size := by omega
      have hX' := hX.symm
      have hP' := hP.symm
      clear hbX hxP hbwX d3 hX hP
      go_wp2_with fail
      refine Hd3.out.mono ?_
      rintro e V7 ⟨rfl, hb7⟩
      have Hb7 := Lib.hid hb7
      have HbV7 := Lib.hid (bnext HbX.out hb7)
      have hs7 := hb7.size
      have y1 := (hb7.cell (p := ⟨P, 0, none⟩) hPX).trans y0
      clear hb7 y0 Hd3 hX' hP'
      have hP7 : P < V7.heap.size := by omega
      go_wp2_with fail
      go_loopg [60] os.length (fun g i wr => ∃ k : Nat, k ≤ os.length ∧ g = os.length - k ∧ i = .int .i64 k ∧ Below V7.heap.size V7 wr)
      case atStart => exact ⟨0, Nat.zero_le _, rfl, rfl, Below.refl _ _⟩
      case round =>
        obtain ⟨k, hk, hg, rfl, hb⟩ := hrel
        have Hg := Lib.hid hg; clear hg
        have Hb2 := Lib.hid hb
        have hsr2 := hb.size
        have hl2 := Hlen.out
        by_cases hlt : k < os.length
        · obtain ⟨r, br, off, hr, hA6, hbb, hcell⟩ := rd_rs (Hr6X.out.up Hb7.out) (k := k) (by omega)
          obtain ⟨r2, br2, off2, hr2, hA3, hbb2, hcell2⟩ := rd_rs (Hrs1X.out.up Hb7.out) (k := k) (by omega)
          obtain rfl : r = r2 := by rw [hr] at hr2; exact Option.some.inj hr2
          obtain ⟨g0, g1, g2, g3⟩ := hcell wr hb
          obtain ⟨m0, m1, m2, m3⟩ := hcell2 wr hb
          subst hA6 hA3
          have hki : (k : Int) < (os.length : Int) := by omega
          have hbrw : br < wr.heap.size := by omega
          have hbrw2 : br2 < wr.heap.size := by omega
          have hneq : ∀ U, (binOp .neq 31 (.agg #[.int .i64 r.pg.id, .int .i64 r.pg.ver, .string r.pg.body]) (.agg #[.int .i64 r.pg.id, .int .i64 r.pg.ver, .string r.pg.body])).run Try.prog U = .ok (.bool false) U := fun U => by rw [neq_pg]; simp
          clear hcell hcell2 hb hl2 hr hr2 y1
          go_wp2_with fail
          go_quiet (fail)
          go_wp2_with fail
          go_roundg (os.length - (k + 1))
          case measure => have := Hg.out; omega
          case rel => exact ⟨k + 1, by omega, rfl, by go_num, below_drewN (Hb2.out.alloc Hb2.out.size _) _⟩
        · obtain rfl : k = os.length := by omega
          have y2 := (hb.cell (p := ⟨P, 0, none⟩) hP7).trans y1
          have hP8 : P < wr.heap.size := by omega
          have d4 := opsRight_any wr A5 c5 x (by omega) ((Hr5X.out.up Hb7.out).up Hb2.out)
          rw [Hright.out] at d4
          have Hd4 := Lib.hid d4
          clear d4 y1 hb
          go_wp2_with fail
          refine Hd4.out.mono ?_
          rintro e V8 ⟨rfl, hb8⟩
          go_wp2_with fail
          refine (awake_any V8).mono ?_
          rintro e V9 ⟨rfl, hb9⟩
          go_wp2_with fail
          go_ret
          exact ⟨rfl, bnext (bnext (bnext HbV7.out Hb2.out) hb8) hb9⟩
end Go.Proofs.Ytbnegkkjgkignaa
