/- The contracts of small and ops.Get. -/
import Derived.Test.YtbnegkkjgkignaaOps3
import Derived.Test.YtbnegkkjgkignaaOpsS
namespace Go.Proofs.Ytbnegkkjgkignaa
open Go.RowKit

/-- few pages, and short ones -/
def smallM (l : List Pg) : Bool := decide (l.length ≤ 40) && l.all (fun p => decide (p.body.size ≤ 100))
theorem smallM_len {l : List Pg} (h : smallM l = true) : l.length ≤ 40 := by
  simp only [smallM, Bool.and_eq_true, decide_eq_true_eq] at h
  exact h.1
/-- what small tells of any map: that it is not small, or that it is -/
def SmallP (l : List Pg) (w : World) (e : Ending) (w' : World) : Prop := ∃ b : Bool, e = .returned (.bool b) ∧ (b = true → l.length ≤ 40) ∧ Below w.heap.size w w'
set_option maxHeartbeats 2000000 in
theorem small_any (w : World) (A : Option Addr) (cap : Nat) (l : List Pg) (hl : l.length ≤ 9223372036854775807) (hr : Rd Pg.cells 3 w w.heap.size A l) :
    Calls Try.prog 10 #[.agg #[.slice A l.length cap]] w (SmallP l w) := by
  obtain ⟨W, hW⟩ : ∃ W, W = w.alloc (.cells #[.slice A l.length cap] 24) := ⟨_, rfl⟩
  have hbW : Below w.heap.size w W := by rw [hW]; exact (Below.refl _ _).alloc (Nat.le_refl _) _
  have hcW : ∀ V, Below W.heap.size W V → V.cell? ⟨w.heap.size, 0, none⟩ = some (.slice A l.length cap) := fun V hV => by
    subst hW; rw [box_cell hV]; rfl
  have hsW : w.heap.size < W.heap.size := by rw [hW]; simp
  have h0 := hcW W (Below.refl _ _)
  have hrW := hr.up hbW
  have Hr := Lib.hid hrW; clear hrW hr
  have HcW := Lib.hid hcW; clear hcW
  have hW' := hW.symm
  clear hW
  go_enter Try.func10, Try.ntmps10
  go_wp2_with fail
  go_loopg [8] l.length (fun g i wr => ∃ k : Nat, k ≤ l.length ∧ g = l.length - k ∧ i = .int .i64 k ∧ Below W.heap.size W wr)
  case atStart => exact ⟨0, Nat.zero_le _, rfl, rfl, Below.refl _ _⟩
  case round =>
    obtain ⟨k, hk, hg, rfl, hb⟩ := hrel
    have Hg := Lib.hid hg; clear hg
    clear hW' h0
    by_cases hlt : k < l.length
    · obtain ⟨p, b, off, hp, rfl, hbb, hcell⟩ := rd_p Hr.out hlt
      obtain ⟨g0, g1, g2⟩ := hcell wr hb
      clear hcell hp
      have hki : (k : Int) < (l.length : Int) := by omega
      by_cases h40 : (k : Int) < 40
      · by_cases h100 : (100 : Int) < (p.body.size : Int)
        · go_wp2_with fail
          go_ret
          exact ⟨false, rfl, by simp, bnext hbW (hb.alloc hb.size _)⟩
        · go_wp2_with fail
          go_roundg (l.length - (k + 1))
          case measure => have := Hg.out; omega
          case rel => exact ⟨k + 1, by omega, rfl, by go_num, hb.alloc hb.size _⟩
      · go_wp2_with fail
        go_roundg (l.length - (k + 1))
        case measure => have := Hg.out; omega
        case rel => exact ⟨k + 1, by omega, rfl, by go_num, hb.alloc hb.size _⟩
    · have hkl : k = l.length := by omega
      subst hkl
      have c0 := HcW.out wr hb
      go_wp2_with fail
      go_ret
      exact ⟨decide ((l.length : Int) ≤ 40), rfl, by simp; omega, bnext hbW hb⟩

/-- the page of an Id, of a right map -/
def getG (l : List Pg) (id : Int) : Option Pg := if rightM l = true then getM l id else none
theorem place_get {l : List Pg} (h : rightM l = true) (id : Int) : (∃ k, placeM l id = (k, false) ∧ getM l id = none) ∨ (∃ k p, placeM l id = (k, true) ∧ l[k]? = some p ∧ k < l.length ∧ getM l id = some p) := by
  obtain ⟨a, b, rfl, ha, hb⟩ := split_spec id l (sorted_of_right h)
  have hga : getM a id = none := getM_none fun q hq => by have := ha q hq; omega
  rcases hb with hb | ⟨p, c, rfl, hp, hc⟩
  · exact .inl ⟨a.length, place_not ha hb, by rw [getM_append, hga, getM_none fun q hq => by have := hb q hq; omega]; rfl⟩
  · exact .inr ⟨a.length, p, place_is ha hp, by simp, by simp, by rw [getM_append, hga, getM_cons, if_pos hp]; rfl⟩
def GotP (g : Option Pg) (w : World) (e : Ending) (w' : World) : Prop := e = .returned (.tuple #[.agg #[.int .i64 (g.getD pg0).id, .int .i64 (g.getD pg0).ver, .string (g.getD pg0).body], .bool g.isSome]) ∧ Below w.heap.size w w'
set_option maxHeartbeats 2000000 in
theorem get_any (w : World) (A : Option Addr) (cap : Nat) (l : List Pg) (id : Int) (hl : l.length ≤ 1000000) (hr : Rd Pg.cells 3 w w.heap.size A l) :
    Calls Try.prog 15 #[.agg #[.slice A l.length cap], .int .i64 id] w (GotP (getG l id) w) := by
  obtain ⟨W, hW⟩ : ∃ W, W = (w.alloc (.cells #[.slice A l.length cap] 24)).alloc (.cells #[.int .i64 0, .int .i64 0, .string ⟨#[]⟩] 31) := ⟨_, rfl⟩
  obtain ⟨N, hN⟩ : ∃ N, N = w.heap.size := ⟨_, rfl⟩
  have hbW : Below w.heap.size w W := by rw [hW]; exact ((Below.refl _ _).alloc (Nat.le_refl _) _).alloc (by simp) _
  have hsW : W.heap.size = N + 2 := by rw [hW, hN]; simp
  have h0 : W.heap[N]? = some (.cells #[.slice A l.length cap] 24 (0, 0)) := by rw [hW, hN, heap_alloc_old _ _ (by simp), heap_alloc_new]
  have h1 : W.heap[N + 1]? = some (.cells #[.int .i64 0, .int .i64 0, .string ⟨#[]⟩] 31 (0, 0)) := by
    have := heap_alloc_new (w.alloc (.cells #[.slice A l.length cap] 24)) (.cells #[.int .i64 0, .int .i64 0, .string ⟨#[]⟩] 31)
    rw [hW, hN]
    simpa using this
  have hbx : ∀ U, Below (N + 2) W U → U.cell? ⟨N, 0, none⟩ = some (.slice A l.length cap) ∧ U.cell? ⟨N + 1, 0, none⟩ = some (.int .i64 0) ∧ U.cell? ⟨N + 1, 1, none⟩ = some (.int .i64 0) ∧ U.cell? ⟨N + 1, 2, none⟩ = some (.string ⟨#[]⟩) ∧ U.frozen? ⟨N + 1, 0, none⟩ = false ∧ U.frozen? ⟨N + 1, 1, none⟩ = false ∧ U.frozen? ⟨N + 1, 2, none⟩ = false := fun U hU => by
    have e0 := (hU.block N (by omega)).trans h0
    have e1 := (hU.block (N + 1) (by omega)).trans h1
    exact ⟨cells_of e0 0, cells_of e1 0, cells_of e1 1, cells_of e1 2, frozen_of e1 0, frozen_of e1 1, frozen_of e1 2⟩
  have hW' := hW.symm
  have hN' := hN.symm
  have hrW := hr.up hbW
  have Hr := Lib.hid hrW; clear hrW hr
  have Hbx := Lib.hid hbx
  have HbW := Lib.hid hbW
  obtain ⟨c0, d0, d1, d2, f0, f1, f2⟩ := hbx W (Below.refl _ _)
  clear hW hN hbx hbW h0 h1
  go_enter Try.func15, Try.ntmps15
  go_wp2_with fail
  refine (opsRight_any W A cap l hl Hr.out).mono ?_
  clear hW' c0 d0 d1 d2 f0 f1 f2
  rintro e V ⟨rfl, hb1⟩
  rw [hsW] at hb1
  obtain ⟨c0, d0, d1, d2, f0, f1, f2⟩ := Hbx.out V hb1
  have hsV := hb1.size
  have HbV := Lib.hid (HbW.out.trans (hb1.mono (by omega)))
  have HrV := Lib.hid (Hr.out.up (by rw [hsW]; exact hb1))
  cases hrl : rightM l with
  | false =>
    have hg : getG l id = none := by simp [getG, hrl]
    have Hg := Lib.hid hg; clear hg hrl
    go_wp2_with fail
    refine bodyPost_ret (v := .tuple #[.agg #[.int .i64 0, .int .i64 0, .string ⟨#[]⟩], .bool false]) (by simp [results, Try.results15, go_sem, d0, d1, d2]) rfl ?_
    rw [Hg.out]
    exact ⟨rfl, below_set3 HbV.out (by omega)⟩
  | true =>
    have Hrl := Lib.hid hrl; clear hrl
    go_wp2_with fail
    have hpl := place_any V A cap l id hl HrV.out
    clear c0 d0 d1 d2 f0 f1 f2
    rcases place_get Hrl.out id with ⟨k, hk, hgm⟩ | ⟨k, p, hk, hp, hkl, hgm⟩
    · have hg : getG l id = none := by simp [getG, Hrl.out, hgm]
      have Hg := Lib.hid hg
      rw [hk] at hpl
      refine hpl.mono ?_
      clear hpl hg hgm hk
      rintro e V2 ⟨rfl, hb2⟩
      have hbb : Below (N + 2) W V2 := hb1.trans (hb2.mono (by omega))
      obtain ⟨c0, d0, d1, d2, f0, f1, f2⟩ := Hbx.out V2 hbb
      have HbV2 := Lib.hid (HbW.out.trans (hbb.mono (by omega)))
      clear hb1 hb2 hbb
      go_wp2_with fail
      refine bodyPost_ret (v := .tuple #[.agg #[.int .i64 0, .int .i64 0, .string ⟨#[]⟩], .bool false]) (by simp [results, Try.results15, go_sem, d0, d1, d2]) rfl ?_
      rw [Hg.out]
      exact ⟨rfl, below_set3 HbV2.out (by omega)⟩
    · have hg : getG l id = some p := by simp [getG, Hrl.out, hgm]
      have Hg := Lib.hid hg
      rw [hk] at hpl
      refine hpl.mono ?_
      clear hpl hg hgm hk
      rintro e V2 ⟨rfl, hb2⟩
      have hbb : Below (N + 2) W V2 := hb1.trans (hb2.mono (by omega))
      obtain ⟨c0, d0, d1, d2, f0, f1, f2⟩ := Hbx.out V2 hbb
      have HbV2 := Lib.hid (HbW.out.trans (hbb.mono (by omega)))
      have HrV2 := HrV.out.up hb2
      obtain ⟨p', b, off, hp', rfl, _, hcell⟩ := rd_p HrV2 hkl
      obtain rfl : p = p' := by rw [hp] at hp'; exact Option.some.inj hp'
      obtain ⟨g0, g1, g2⟩ := hcell V2 (Below.refl _ _)
      have hki : (k : Int) < (l.length : Int) := by omega
      clear hb1 hb2 hbb hp hp' hcell HrV2
      go_wp2_with fail
      refine bodyPost_ret (v := .tuple #[.agg #[.int .i64 p.id, .int .i64 p.ver, .string p.body], .bool true]) (by simp [results, Try.results15, go_sem, d0, d1, d2]) rfl ?_
      rw [Hg.out]
      exact ⟨rfl, below_set3 HbV2.out (by omega)⟩
end Go.Proofs.Ytbnegkkjgkignaa
