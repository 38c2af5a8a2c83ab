/- The contracts of slices.DeleteFunc at waits and at ints, with the closures of latch.Drop. -/
import Derived.Test.YtigffndobddflaaLat6
namespace Go.Proofs.Ytigffndobddflaa
open Go.RowKit

theorem isWe_any (w : World) (c : Wt) (who : Int) (N : Nat) (hN : w.cell? ⟨N, 0, none⟩ = some (.int .i64 who)) (hlt : N < w.heap.size) :
    Calls Try.prog 30 #[.agg #[.int .i64 c.who, .bool c.ex], .pointer (some ⟨N, 0, none⟩)] w fun e w' => e = .returned (.bool (c.who == who)) ∧ Below w.heap.size w w' := by
  go_enter Try.func30, Try.ntmps30
  go_wp2_with fail
  go_ret
  exact ⟨rfl, (Below.refl _ _).alloc (Nat.le_refl _) _⟩
set_option maxHeartbeats 2000000 in
theorem indexWe_any (w : World) (A : Option Addr) (ac : Nat) (l : List Wt) (who : Int) (N : Nat) (hN : w.cell? ⟨N, 0, none⟩ = some (.int .i64 who)) (hNl : N < w.heap.size) (hl : l.length ≤ 1000000) (hr : Rd Wt.cells 2 w w.heap.size A l) :
    Calls Try.prog 39 #[.slice A l.length ac, .func (Fn.func 30) #[] #[.pointer (some ⟨N, 0, none⟩)]] w fun e w' => e = .returned (.int .i64 (nextI (findW l who))) ∧ Below w.heap.size w w' := by
  have Hr := Lib.hid hr; clear hr
  go_enter Try.func39, Try.ntmps39
  go_wp2_with fail
  go_loopg [8] l.length (fun g i wr => ∃ k : Nat, k ≤ l.length ∧ g = l.length - k ∧ i = .int .i64 k ∧ (∀ j d, j < k → l[j]? = some d → d.who ≠ who) ∧ Below w.heap.size w wr)
  case atStart => exact ⟨0, Nat.zero_le _, rfl, rfl, fun j _ h => absurd h (by omega), Below.refl _ _⟩
  case round =>
    obtain ⟨k, hk, hg, rfl, hn, hb⟩ := hrel
    have Hg := Lib.hid hg; clear hg
    have Hn := Lib.hid hn; clear hn
    by_cases hlt : k < l.length
    · obtain ⟨c, b, off, hc, rfl, hbb, hcell⟩ := rd_w Hr.out hlt
      obtain ⟨g0, g1⟩ := hcell wr hb
      have hki : (k : Int) < (l.length : Int) := by omega
      have hNr : N < wr.heap.size := by have := hb.size; omega
      have hNc := (hb.cell (p := ⟨N, 0, none⟩) hNl).trans hN
      have Hc := Lib.hid hc
      clear hcell hc hN
      by_cases hcw : c.who = who
      · have hcb : (c.who == who) = true := by simpa using hcw
        have hfi := findW_at Hc.out hcw Hn.out
        have Hfi := Lib.hid hfi; clear hfi hcw
        go_wp2_with fail
        refine (isWe_any wr c who N hNc hNr).mono ?_
        rw [hcb]
        rintro e V ⟨rfl, hbV⟩
        go_wp2_with fail
        go_ret
        exact ⟨by rw [Hfi.out]; rfl, bnext hb hbV⟩
      · have hcb : (c.who == who) = false := by simpa using hcw
        have Hcw := Lib.hid hcw; clear hcw
        go_wp2_with fail
        refine (isWe_any wr c who N hNc hNr).mono ?_
        rw [hcb]
        rintro e V ⟨rfl, hbV⟩
        go_wp2_with fail
        go_roundg (l.length - (k + 1))
        case measure => have := Hg.out; omega
        case rel =>
          refine ⟨k + 1, by omega, rfl, by go_num, fun j d hj hd => ?_, bnext hb hbV⟩
          rcases Nat.lt_or_ge j k with h | h
          · exact Hn.out j d h hd
          · obtain rfl : j = k := by omega
            rw [Hc.out] at hd
            injection hd with hd
            subst hd
            exact Hcw.out
    · obtain rfl : k = l.length := by omega
      go_wp2_with fail
      go_ret
      exact ⟨by rw [findW_none Hn.out]; rfl, hb⟩

theorem goneW_snoc {l : List Wt} {who : Int} {k : Nat} {c : Wt} (h : l[k]? = some c) : goneW (l.take (k + 1)) who = goneW (l.take k) who ++ (if c.who = who then [] else [c]) := by
  have : l.take (k + 1) = l.take k ++ [c] := by rw [List.take_add_one, h]; rfl
  rw [goneW, goneW, this, List.filter_append]
  by_cases hc : c.who = who <;> simp [hc]
theorem goneW_all {l : List Wt} {who : Int} (h : ∀ j d, j < l.length → l[j]? = some d → d.who ≠ who) : goneW l who = l := by
  rw [goneW, List.filter_eq_self]
  intro c hc
  obtain ⟨j, hj⟩ := List.getElem?_of_mem hc
  have := h j c (List.getElem?_eq_some_iff.1 hj).1 hj
  simpa using this
theorem findW_first {l : List Wt} {who : Int} {i : Nat} (h : findW l who = some i) : ∃ c, l[i]? = some c ∧ c.who = who ∧ goneW (l.take i) who = l.take i := by
  rw [findW, List.findIdx?_eq_some_iff_getElem] at h
  obtain ⟨h1, h2, h3⟩ := h
  refine ⟨l[i], List.getElem?_eq_getElem h1, by simpa using h2, goneW_all fun j d hj hd => ?_⟩
  rw [List.length_take] at hj
  have hji : j < i := by omega
  have := h3 j hji
  rw [List.getElem?_take_of_lt hji, List.getElem?_eq_getElem (by omega)] at hd
  injection hd with hd
  rw [hd] at this
  simpa using this
theorem findW_never {l : List Wt} {who : Int} (h : findW l who = none) : goneW l who = l := by
  rw [findW, List.findIdx?_eq_none_iff] at h
  exact goneW_all fun j d _ hd => by have := h d (List.mem_of_getElem? hd); simpa using this
theorem flat_setW : ∀ (m : List Wt) (i : Nat) (c : Wt), i < m.length → ((m.flatMap Wt.cells).set (i * 2) (.int .i64 c.who)).set (i * 2 + 1) (.bool c.ex) = (m.set i c).flatMap Wt.cells
  | [], i, p, h => by simp at h
  | x :: m, 0, p, _ => by simp [Wt.cells]
  | x :: m, i + 1, p, h => by
    have e := flat_setW m i p (by simpa using h)
    rw [List.set_cons_succ, List.flatMap_cons, List.flatMap_cons, ← e]
    simp [Wt.cells, Nat.succ_mul]
theorem own_setW {w : World} {B g n cp : Nat} {E : TypeId} {m : List Wt} {i : Nat} (c : Wt) (h : w.ownsRow B E 2 (.slice (some ⟨g, 0, none⟩) n cp) n (m.flatMap Wt.cells)) (hi : i < m.length) :
    ((w.setCell ⟨g, i * 2, none⟩ (.int .i64 c.who)).setCell ⟨g, i * 2 + 1, none⟩ (.bool c.ex)).ownsRow B E 2 (.slice (some ⟨g, 0, none⟩) n cp) n ((m.set i c).flatMap Wt.cells) := by
  rw [← flat_setW m i c hi]
  exact ((h.stored _ _).1.stored _ _).1
/-- a row told, of the base's own -/
def OwnWB (base : Nat) (l : List Wt) (w : World) (e : Ending) (w' : World) : Prop :=
  ∃ A cap, e = .returned (.slice A l.length cap) ∧ w'.ownsRow base 58 2 (.slice A l.length cap) l.length (l.flatMap Wt.cells) ∧ Below base w w'

set_option maxRecDepth 20000 in
set_option maxHeartbeats 4000000 in
theorem deleteW_any (w : World) (base : Nat) (A : Option Addr) (ac : Nat) (l : List Wt) (who : Int) (N : Nat) (hN : w.cell? ⟨N, 0, none⟩ = some (.int .i64 who)) (hNb : N < base) (hbw : base ≤ w.heap.size) (hl : l.length ≤ 1000)
    (ho : w.ownsRow base 58 2 (.slice A l.length ac) l.length (l.flatMap Wt.cells)) :
    Calls Try.prog 29 #[.slice A l.length ac, .func (Fn.func 30) #[] #[.pointer (some ⟨N, 0, none⟩)]] w (OwnWB base (goneW l who) w) := by
  obtain ⟨i0, hi0, hz0, hz1, hz2⟩ := info_parts Try.infoWt
  have d1 := indexWe_any w A ac l who N hN (by omega) (by omega) (Rd.of_own ho wt_len (by decide))
  have Ho := Lib.hid ho
  have HN := Lib.hid hN
  obtain ⟨fc, hfc⟩ : ∃ fc, fc = findW l who := ⟨_, rfl⟩
  rw [← hfc] at d1
  have Hd1 := Lib.hid d1
  clear d1 ho hN
  cases fc with
  | none =>
    have hgo := findW_never hfc.symm
    have Hgo := Lib.hid hgo
    clear hgo hfc
    simp only [nextI] at Hd1
    go_enter Try.func29, Try.ntmps29
    go_wp2_with fail
    refine Hd1.out.mono ?_
    rintro e V ⟨rfl, hb1⟩
    go_wp2_with fail
    go_ret
    rw [Hgo.out]
    exact ⟨A, ac, rfl, own_up Ho.out hb1, hb1.mono hbw⟩
  | some i =>
    obtain ⟨c, hc, hcw, hgt⟩ := findW_first hfc.symm
    have hil : i < l.length := (List.getElem?_eq_some_iff.1 hc).1
    obtain ⟨g, cp, hvA, hgb, hcp1, hcp2⟩ := own_addr Ho.out (by omega)
    injection hvA with hA1 _ hA2
    subst hA1 hA2
    have hstart : goneW (l.take (i + 1)) who = l.take i := by rw [goneW_snoc hc, hgt, if_pos hcw, List.append_nil]
    have Hst := Lib.hid hstart
    simp only [nextI] at Hd1
    have hine : ((i : Int) == -1) = false := by rw [beq_eq_false_iff_ne]; omega
    have hgw := (Ho.out.lt g rfl).2
    have hNg : ¬ N = g := by omega
    clear hfc hc hcw hgt hstart
    go_enter Try.func29, Try.ntmps29
    go_wp2_with fail
    refine Hd1.out.mono ?_
    rintro e V ⟨rfl, hb1⟩
    have Ho1 := Lib.hid (own_up Ho.out hb1)
    have Hb1 := Lib.hid hb1
    have hs1 := hb1.size
    clear hb1
    go_wp2_with fail
    go_loopg [5, 6] (l.length - (i + 1)) (fun gh iv jv wr => ∃ (n j : Nat) (m : List Wt), i < j ∧ j ≤ l.length ∧ gh = l.length - j ∧ iv = .int .i64 n ∧ jv = .int .i64 j ∧ n < j ∧ m.length = l.length ∧ m.take n = goneW (l.take j) who ∧ n = (goneW (l.take j) who).length ∧ m.drop j = l.drop j ∧
      wr.ownsRow base 58 2 (.slice (some ⟨g, 0, none⟩) l.length ac) l.length (m.flatMap Wt.cells) ∧ Below base w wr ∧ g < wr.heap.size)
    case atStart => exact ⟨i, i + 1, l, by omega, by omega, rfl, rfl, by go_num, by omega, rfl, Hst.out.symm, by rw [Hst.out, List.length_take]; omega, rfl, Ho1.out, Hb1.out.mono hbw, by omega⟩
    case round =>
      obtain ⟨n, j, m, hij, hjl, hg, rfl, rfl, hnj, hml, hmt, hn, hmd, hown, hb, hgr⟩ := hrel
      have Hg := Lib.hid hg; clear hg
      have Hmt := Lib.hid hmt; clear hmt
      have Hn := Lib.hid hn; clear hn
      have Hmd := Lib.hid hmd; clear hmd
      have Hml := Lib.hid hml; clear hml
      have Hown := Lib.hid hown
      have Hb := Lib.hid hb
      have hsr := hb.size
      by_cases hlt : j < l.length
      · have hxj : m[j]? = l[j]? := by
          have := congrArg (fun z => z[0]?) Hmd.out
          simpa using this
        obtain ⟨c, hc⟩ : ∃ c, l[j]? = some c := ⟨l[j], List.getElem?_eq_getElem hlt⟩
        have hcm : m[j]? = some c := hxj.trans hc
        have hcells := (Rd.of_own hown wt_len (by decide)).cell_own hcm
        have g0 := hcells 0 _ rfl
        have g1 := hcells 1 _ rfl
        simp only [Nat.add_zero] at g0
        have hji : (j : Int) < (l.length : Int) := by omega
        have hNr : N < wr.heap.size := by omega
        have hNc := (hb.cell (p := ⟨N, 0, none⟩) hNb).trans HN.out
        have Hc := Lib.hid hc
        have hsn := goneW_snoc (who := who) hc
        have Hsn := Lib.hid hsn
        obtain ⟨M, hM⟩ : ∃ M, M = wr.heap.size := ⟨_, rfl⟩
        have hbX : Below M wr (wr.alloc (.cells #[.int .i64 c.who, .bool c.ex] 58)) := by rw [hM]; exact (Below.refl _ _).alloc (Nat.le_refl _) _
        have hN1 := (hbX.cell (p := ⟨N, 0, none⟩) (by show N < M; omega)).trans hNc
        have hd := isWe_any (wr.alloc (.cells #[.int .i64 c.who, .bool c.ex] 58)) c who N hN1 (by simp; omega)
        have hM' := hM.symm
        have HbX := Lib.hid hbX
        clear hM hcells hcm hxj hc hsn hbX hN1 hNc hown hb
        by_cases hcw : c.who = who
        · have hcb : (c.who == who) = true := by simpa using hcw
          rw [hcb] at hd
          have Hd := Lib.hid hd
          have Hcw := Lib.hid hcw
          clear hd hcw hcb
          go_wp2_with fail
          refine Hd.out.mono ?_
          rintro e V2 ⟨rfl, hb2⟩
          have hb2' : Below wr.heap.size wr V2 := bnext (by have := HbX.out; rwa [← hM'] at this) hb2
          have Ho2 := Lib.hid (own_up Hown.out hb2')
          have Hb2 := Lib.hid (Hb.out.trans (hb2'.mono (by omega)))
          have hs2 := hb2'.size
          clear hb2 hb2' Hd g0 g1
          go_wp2_with fail
          go_roundg (l.length - (j + 1))
          case measure => have := Hg.out; omega
          case rel =>
            have hsn := Hsn.out
            rw [if_pos Hcw.out, List.append_nil] at hsn
            refine ⟨n, j + 1, m, by omega, by omega, rfl, rfl, by go_num, by omega, Hml.out, by rw [hsn]; exact Hmt.out, by rw [hsn]; exact Hn.out, ?_, Ho2.out, Hb2.out, by omega⟩
            rw [← List.drop_drop, Hmd.out, List.drop_drop]
        · have hcb : (c.who == who) = false := by simpa using hcw
          rw [hcb] at hd
          have Hd := Lib.hid hd
          have Hcw := Lib.hid hcw
          clear hd hcw hcb
          go_wp2_with fail
          refine Hd.out.mono ?_
          rintro e V2 ⟨rfl, hb2⟩
          have hxM : (wr.alloc (.cells #[.int .i64 c.who, .bool c.ex] 58)).heap[M]? = some (.cells #[.int .i64 c.who, .bool c.ex] 58 (0, 0)) := by rw [← hM', heap_alloc_new]
          have hyM := (hb2.block M (by simp; omega)).trans hxM
          have e0 := cells_of hyM 0
          have e1 := cells_of hyM 1
          simp only [List.getElem?_toArray, List.getElem?_cons_zero, List.getElem?_cons_succ] at e0 e1
          have hM2 := (Array.getElem?_eq_some_iff.1 hyM).1
          have hb2' : Below wr.heap.size wr V2 := bnext (by have := HbX.out; rwa [← hM'] at this) hb2
          have ho2 := own_up Hown.out hb2'
          obtain ⟨cur, hcur, hcl, hct, _⟩ := own_row ho2
          have hlen3 : (m.flatMap Wt.cells).length = l.length * 2 := ho2.1
          have q0 := cells_of hcur (n * 2)
          have hcu : ∀ k, k < l.length * 2 → ∃ v, V2.cell? ⟨g, k, none⟩ = some v := fun k hk => by
            rw [cells_of hcur]
            have hk2 : k < cur.length := by rw [hcl]; have : l.length * 2 ≤ ac * 2 := Nat.mul_le_mul_right _ hcp1; omega
            exact ⟨cur[k], by simp [List.getElem?_eq_getElem hk2]⟩
          obtain ⟨v0, y0⟩ := hcu (n * 2) (by omega)
          obtain ⟨v1, y1⟩ := hcu (n * 2 + 1) (by omega)
          have z0 := frozen_of hcur (n * 2)
          have z1 := frozen_of hcur (n * 2 + 1)
          have ho3 := own_setW c ho2 (i := n) (by have := Hml.out; omega)
          have Ho3 := Lib.hid ho3
          have Hb2 := Lib.hid (Hb.out.trans (hb2'.mono (by omega)))
          have hs2 := hb2'.size
          have hni : (n : Int) < (l.length : Int) := by omega
          have hnl : n < l.length := by omega
          have hgM : ¬ g = M := by omega
          have hMg : ¬ M = g := by omega
          have hgV2 : g < V2.heap.size := by omega
          have ew : IntKind.i64.wrap ((n : Int) + 1) = (n : Int) + 1 := IntWalk.i64_in _ (by omega)
          clear hb2 hb2' Hd g0 g1 hxM hyM ho2 hcur hcl hct hlen3 q0 hcu ho3
          go_wp2_with fail
          go_roundg (l.length - (j + 1))
          case measure => have := Hg.out; omega
          case rel =>
            have hsn := Hsn.out
            rw [if_neg Hcw.out] at hsn
            have hmn := Hmt.out
            refine ⟨n + 1, j + 1, m.set n c, by omega, by omega, rfl, by go_num, by go_num, by omega, by simpa using Hml.out, ?_, by rw [hsn, List.length_append, ← Hn.out]; rfl, ?_, Ho3.out, ?_, by simpa using hgV2⟩
            · rw [hsn, ← Hmt.out, List.take_add_one, List.take_set_of_le (Nat.le_refl _), List.getElem?_set_self (by have := Hml.out; omega)]
              rfl
            · rw [List.drop_set_of_lt (by omega), ← List.drop_drop, Hmd.out, List.drop_drop]
            · exact (Hb2.out.setCell (p := ⟨g, n * 2, none⟩) (by show base ≤ g; omega) _).setCell (p := ⟨g, n * 2 + 1, none⟩) (by show base ≤ g; omega) _
      · obtain rfl : j = l.length := by omega
        have hcat : ¬ ac = n := by omega
        have hln : ¬ l.length = n := by omega
        have hnl : (n : Int) ≤ (l.length : Int) := by omega
        have hna : (n : Int) ≤ (ac : Int) := by omega
        obtain ⟨cur, hcur, hcl, hct, _⟩ := own_row hown
        have hmt := Hmt.out
        have hn := Hn.out
        rw [List.take_length] at hmt hn
        have hac : l.length * 2 ≤ ac * 2 := Nat.mul_le_mul_right _ hcp1
        have hfit : n * 2 + (l.length - n) * 2 ≤ cur.length := by rw [hcl, ← Nat.add_mul, show n + (l.length - n) = l.length by omega]; exact hac
        have htk : cur.take (n * 2) = (goneW l who).flatMap Wt.cells := by
          rw [← hmt, ← flat_take wt_len, ← hct, List.take_take]
          congr 1
          omega
        have Hcur := Lib.hid hcur
        have Hcl := Lib.hid hcl
        have Htk := Lib.hid htk
        have Hn2 := Lib.hid hn
        have Hfit := Lib.hid hfit
        have hgn : (goneW l who).length = n := hn.symm
        clear hcur hcl hct hmt hn htk hown hfit
        go_wp2_with (refine list_clr rfl (.tmp 38) 23 rfl 58 i0 (.agg #[.int .i64 0, .bool false]) 2 Try.underlying23 hi0 hz0 rfl (by decide) (by decide) (g := g) (off := n * 2) (n := l.length - n) (c := ac - n) (dp := some ⟨g, n * 2, none⟩) (cur := cur) rfl Hcur.out (fun _ => rfl) Hfit.out ?_; intro w3 zs hzs hc3 hg3; have Hc3 := Lib.hid hc3; have Hg3 := Lib.hid hg3; have Hzs := Lib.hid hzs; clear hzs hc3 hg3)
        go_ret
        refine ⟨some ⟨g, 0, none⟩, ac, by rw [hgn]; rfl, ?_, hb.grown Hg3.out (by omega) (fun k hk => by injection hk with hk; omega)⟩
        rw [hgn]
        refine row_own hgb Hc3.out (by omega) hcp2 (by rw [length_splice _ _ _ (by rw [Hzs.out]; exact Hfit.out), Hcl.out]) ?_ ?_
        · rw [take_splice_le _ _ _ _ (Nat.le_refl _) (by have := Hfit.out; omega), Htk.out]
        · have := flat_len wt_len (goneW l who)
          rw [this, hgn]

end Go.Proofs.Ytigffndobddflaa
