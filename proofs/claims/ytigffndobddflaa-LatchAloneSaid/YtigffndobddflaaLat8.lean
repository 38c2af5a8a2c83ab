/- The contract of slices.DeleteFunc at ints, with the closure of latch.Drop. -/
import Derived.Test.YtigffndobddflaaLat7
namespace Go.Proofs.Ytigffndobddflaa
open Go.RowKit

def findH (l : List Int) (who : Int) : Option Nat := l.findIdx? (fun n => decide (n = who))
theorem findH_at {l : List Int} {who : Int} {k : Nat} {c : Int} (hk : l[k]? = some c) (hc : c = who) (hn : ∀ (j : Nat) (d : Int), j < k → l[j]? = some d → d ≠ who) : findH l who = some k := by
  rw [findH, List.findIdx?_eq_some_iff_getElem]
  obtain ⟨h1, h2⟩ := List.getElem?_eq_some_iff.1 hk
  refine ⟨h1, by simp [h2, hc], fun j hj => ?_⟩
  have := hn j _ hj (List.getElem?_eq_getElem (by omega))
  simpa using this
theorem findH_none {l : List Int} {who : Int} (hn : ∀ (j : Nat) (d : Int), j < l.length → l[j]? = some d → d ≠ who) : findH l who = none := by
  rw [findH, List.findIdx?_eq_none_iff]
  intro c hc
  obtain ⟨j, hj⟩ := List.getElem?_of_mem hc
  have := hn j c (List.getElem?_eq_some_iff.1 hj).1 hj
  simpa using this

theorem isHe_any (w : World) (c : Int) (who : Int) (N : Nat) (hN : w.cell? ⟨N, 0, none⟩ = some (.int .i64 who)) (hlt : N < w.heap.size) :
    Calls Try.prog 28 #[.int .i64 c, .pointer (some ⟨N, 0, none⟩)] w fun e w' => e = .returned (.bool (c == who)) ∧ w = w' := by
  go_enter Try.func28, Try.ntmps28
  go_wp2_with fail
  go_ret
  exact ⟨rfl, rfl⟩
set_option maxHeartbeats 2000000 in
theorem indexHe_any (w : World) (A : Option Addr) (ac : Nat) (l : List Int) (who : Int) (N : Nat) (hN : w.cell? ⟨N, 0, none⟩ = some (.int .i64 who)) (hNl : N < w.heap.size) (hl : l.length ≤ 1000000) (hr : Rd icells 1 w w.heap.size A l) :
    Calls Try.prog 38 #[.slice A l.length ac, .func (Fn.func 28) #[] #[.pointer (some ⟨N, 0, none⟩)]] w fun e w' => e = .returned (.int .i64 (nextI (findH l who))) ∧ Below w.heap.size w w' := by
  have Hr := Lib.hid hr; clear hr
  go_enter Try.func38, Try.ntmps38
  go_wp2_with fail
  go_loopg [8] l.length (fun g i wr => ∃ k : Nat, k ≤ l.length ∧ g = l.length - k ∧ i = .int .i64 k ∧ (∀ (j : Nat) (d : Int), j < k → l[j]? = some d → d ≠ who) ∧ Below w.heap.size w wr)
  case atStart => exact ⟨0, Nat.zero_le _, rfl, rfl, fun j _ h => absurd h (by omega), Below.refl _ _⟩
  case round =>
    obtain ⟨k, hk, hg, rfl, hn, hb⟩ := hrel
    have Hg := Lib.hid hg; clear hg
    have Hn := Lib.hid hn; clear hn
    by_cases hlt : k < l.length
    · obtain ⟨c, b, off, hc, rfl, hbb, hcell⟩ := rd_i Hr.out hlt
      have g0 := hcell wr hb
      have hki : (k : Int) < (l.length : Int) := by omega
      have hNr : N < wr.heap.size := by have := hb.size; omega
      have hNc := (hb.cell (p := ⟨N, 0, none⟩) hNl).trans hN
      have Hc := Lib.hid hc
      clear hcell hc hN
      by_cases hcw : c = who
      · have hcb : (c == who) = true := by simpa using hcw
        have hfi := findH_at Hc.out hcw Hn.out
        have Hfi := Lib.hid hfi; clear hfi hcw
        go_wp2_with fail
        refine (isHe_any wr c who N hNc hNr).mono ?_
        rw [hcb]
        rintro e V ⟨rfl, rfl⟩
        go_wp2_with fail
        go_ret
        exact ⟨by rw [Hfi.out]; rfl, hb⟩
      · have hcb : (c == who) = false := by simpa using hcw
        have Hcw := Lib.hid hcw; clear hcw
        go_wp2_with fail
        refine (isHe_any wr c who N hNc hNr).mono ?_
        rw [hcb]
        rintro e V ⟨rfl, rfl⟩
        go_wp2_with fail
        go_roundg (l.length - (k + 1))
        case measure => have := Hg.out; omega
        case rel =>
          refine ⟨k + 1, by omega, rfl, by go_num, fun j d hj hd => ?_, hb⟩
          rcases Nat.lt_or_ge j k with h | h
          · exact Hn.out j d h hd
          · obtain rfl : j = k := by omega
            rw [Hc.out] at hd
            injection hd with hd
            subst hd
            exact Hcw.out
    · obtain rfl : k = l.length := by omega
      go_wp2_with fail
      go_ret
      exact ⟨by rw [findH_none Hn.out]; rfl, hb⟩

theorem goneH_snoc {l : List Int} {who : Int} {k : Nat} {c : Int} (h : l[k]? = some c) : goneH (l.take (k + 1)) who = goneH (l.take k) who ++ (if c = who then [] else [c]) := by
  have : l.take (k + 1) = l.take k ++ [c] := by rw [List.take_add_one, h]; rfl
  rw [goneH, goneH, this, List.filter_append]
  by_cases hc : c = who <;> simp [hc]
theorem goneH_all {l : List Int} {who : Int} (h : ∀ (j : Nat) (d : Int), j < l.length → l[j]? = some d → d ≠ who) : goneH l who = l := by
  rw [goneH, List.filter_eq_self]
  intro c hc
  obtain ⟨j, hj⟩ := List.getElem?_of_mem hc
  have := h j c (List.getElem?_eq_some_iff.1 hj).1 hj
  simpa using this
theorem findH_first {l : List Int} {who : Int} {i : Nat} (h : findH l who = some i) : ∃ c, l[i]? = some c ∧ c = who ∧ goneH (l.take i) who = l.take i := by
  rw [findH, List.findIdx?_eq_some_iff_getElem] at h
  obtain ⟨h1, h2, h3⟩ := h
  refine ⟨l[i], List.getElem?_eq_getElem h1, by simpa using h2, goneH_all fun j d hj hd => ?_⟩
  rw [List.length_take] at hj
  have hji : j < i := by omega
  have := h3 j hji
  rw [List.getElem?_take_of_lt hji, List.getElem?_eq_getElem (by omega)] at hd
  injection hd with hd
  rw [hd] at this
  simpa using this
theorem findH_never {l : List Int} {who : Int} (h : findH l who = none) : goneH l who = l := by
  rw [findH, List.findIdx?_eq_none_iff] at h
  exact goneH_all fun j d _ hd => by have := h d (List.mem_of_getElem? hd); simpa using this
theorem flat_setH : ∀ (m : List Int) (i : Nat) (c : Int), i < m.length → (m.flatMap icells).set i (.int .i64 c) = (m.set i c).flatMap icells
  | [], i, p, h => by simp at h
  | x :: m, 0, p, _ => by simp [icells]
  | x :: m, i + 1, p, h => by
    have e := flat_setH m i p (by simpa using h)
    rw [List.set_cons_succ, List.flatMap_cons, List.flatMap_cons, ← e]
    simp [icells]
theorem own_setH {w : World} {B g n cp : Nat} {E : TypeId} {m : List Int} {i : Nat} (c : Int) (h : w.ownsRow B E 1 (.slice (some ⟨g, 0, none⟩) n cp) n (m.flatMap icells)) (hi : i < m.length) :
    (w.setCell ⟨g, i, none⟩ (.int .i64 c)).ownsRow B E 1 (.slice (some ⟨g, 0, none⟩) n cp) n ((m.set i c).flatMap icells) := by
  rw [← flat_setH m i c hi]
  exact (h.stored _ _).1
/-- a row told, of the base's own -/
def OwnHB (base : Nat) (l : List Int) (w : World) (e : Ending) (w' : World) : Prop :=
  ∃ A cap, e = .returned (.slice A l.length cap) ∧ w'.ownsRow base 3 1 (.slice A l.length cap) l.length (l.flatMap icells) ∧ Below base w w'

set_option maxRecDepth 20000 in
set_option maxHeartbeats 4000000 in
theorem deleteH_any (w : World) (base : Nat) (A : Option Addr) (ac : Nat) (l : List Int) (who : Int) (N : Nat) (hN : w.cell? ⟨N, 0, none⟩ = some (.int .i64 who)) (hNb : N < base) (hbw : base ≤ w.heap.size) (hl : l.length ≤ 1000)
    (ho : w.ownsRow base 3 1 (.slice A l.length ac) l.length (l.flatMap icells)) :
    Calls Try.prog 26 #[.slice A l.length ac, .func (Fn.func 28) #[] #[.pointer (some ⟨N, 0, none⟩)]] w (OwnHB base (goneH l who) w) := by
  obtain ⟨i0, hi0, hz0, hz1, hz2⟩ := info_parts Try.infoInt
  have d1 := indexHe_any w A ac l who N hN (by omega) (by omega) (Rd.of_own ho i_len (by decide))
  have Ho := Lib.hid ho
  have HN := Lib.hid hN
  obtain ⟨fc, hfc⟩ : ∃ fc, fc = findH l who := ⟨_, rfl⟩
  rw [← hfc] at d1
  have Hd1 := Lib.hid d1
  clear d1 ho hN
  cases fc with
  | none =>
    have hgo := findH_never hfc.symm
    have Hgo := Lib.hid hgo
    clear hgo hfc
    simp only [nextI] at Hd1
    go_enter Try.func26, Try.ntmps26
    go_wp2_with fail
    refine Hd1.out.mono ?_
    rintro e V ⟨rfl, hb1⟩
    go_wp2_with fail
    go_ret
    rw [Hgo.out]
    exact ⟨A, ac, rfl, own_up Ho.out hb1, hb1.mono hbw⟩
  | some i =>
    obtain ⟨c, hc, hcw, hgt⟩ := findH_first hfc.symm
    have hil : i < l.length := (List.getElem?_eq_some_iff.1 hc).1
    obtain ⟨g, cp, hvA, hgb, hcp1, hcp2⟩ := own_addr Ho.out (by omega)
    injection hvA with hA1 _ hA2
    subst hA1 hA2
    have hstart : goneH (l.take (i + 1)) who = l.take i := by rw [goneH_snoc hc, hgt, if_pos hcw, List.append_nil]
    have Hst := Lib.hid hstart
    simp only [nextI] at Hd1
    have hine : ((i : Int) == -1) = false := by rw [beq_eq_false_iff_ne]; omega
    have hgw := (Ho.out.lt g rfl).2
    have hNg : ¬ N = g := by omega
    clear hfc hc hcw hgt hstart
    go_enter Try.func26, Try.ntmps26
    go_wp2_with fail
    refine Hd1.out.mono ?_
    rintro e V ⟨rfl, hb1⟩
    have Ho1 := Lib.hid (own_up Ho.out hb1)
    have Hb1 := Lib.hid hb1
    have hs1 := hb1.size
    clear hb1
    go_wp2_with fail
    go_loopg [5, 6] (l.length - (i + 1)) (fun gh iv jv wr => ∃ (n j : Nat) (m : List Int), i < j ∧ j ≤ l.length ∧ gh = l.length - j ∧ iv = .int .i64 n ∧ jv = .int .i64 j ∧ n < j ∧ m.length = l.length ∧ m.take n = goneH (l.take j) who ∧ n = (goneH (l.take j) who).length ∧ m.drop j = l.drop j ∧
      wr.ownsRow base 3 1 (.slice (some ⟨g, 0, none⟩) l.length ac) l.length (m.flatMap icells) ∧ Below base w wr ∧ g < wr.heap.size)
    case atStart => exact ⟨i, i + 1, l, by omega, by omega, rfl, rfl, by go_num, by omega, rfl, Hst.out.symm, by rw [Hst.out, List.length_take]; omega, rfl, Ho1.out, Hb1.out.mono hbw, by omega⟩
    case round =>
      obtain ⟨n, j, m, hij, hjl, hg, rfl, rfl, hnj, hml, hmt, hn, hmd, hown, hb, hgr⟩ := hrel
      have Hg := Lib.hid hg; clear hg
      have Hmt := Lib.hid hmt; clear hmt
      have Hn := Lib.hid hn; clear hn
      have Hmd := Lib.hid hmd; clear hmd
      have Hml := Lib.hid hml; clear hml
      have Hown := Lib.hid hown
      have Hb := Lib.hid hb
      have hsr := hb.size
      by_cases hlt : j < l.length
      · have hxj : m[j]? = l[j]? := by
          have := congrArg (fun z => z[0]?) Hmd.out
          simpa using this
        obtain ⟨c, hc⟩ : ∃ c, l[j]? = some c := ⟨l[j], List.getElem?_eq_getElem hlt⟩
        have hcm : m[j]? = some c := hxj.trans hc
        have hcells := (Rd.of_own hown i_len (by decide)).cell_own hcm
        have g0 := hcells 0 _ rfl
        simp only [Nat.add_zero, Nat.mul_one] at g0
        have hji : (j : Int) < (l.length : Int) := by omega
        have hNr : N < wr.heap.size := by omega
        have hNc := (hb.cell (p := ⟨N, 0, none⟩) hNb).trans HN.out
        have Hc := Lib.hid hc
        have hsn := goneH_snoc (who := who) hc
        have Hsn := Lib.hid hsn
        have hd := isHe_any wr c who N hNc hNr
        clear hcells hcm hxj hc hsn hNc hown hb
        by_cases hcw : c = who
        · have hcb : (c == who) = true := by simpa using hcw
          rw [hcb] at hd
          have Hd := Lib.hid hd
          have Hcw := Lib.hid hcw
          clear hd hcw hcb
          go_wp2_with fail
          refine Hd.out.mono ?_
          rintro e V2 ⟨rfl, rfl⟩
          have Ho2 := Hown
          have Hb2 := Hb
          clear Hd g0
          go_wp2_with fail
          go_roundg (l.length - (j + 1))
          case measure => have := Hg.out; omega
          case rel =>
            have hsn := Hsn.out
            rw [if_pos Hcw.out, List.append_nil] at hsn
            refine ⟨n, j + 1, m, by omega, by omega, rfl, rfl, by go_num, by omega, Hml.out, by rw [hsn]; exact Hmt.out, by rw [hsn]; exact Hn.out, ?_, Ho2.out, Hb2.out, by omega⟩
            rw [← List.drop_drop, Hmd.out, List.drop_drop]
        · have hcb : (c == who) = false := by simpa using hcw
          rw [hcb] at hd
          have Hd := Lib.hid hd
          have Hcw := Lib.hid hcw
          clear hd hcw hcb
          go_wp2_with fail
          refine Hd.out.mono ?_
          rintro e V2 ⟨rfl, rfl⟩
          have ho2 := Hown.out
          obtain ⟨cur, hcur, hcl, hct, _⟩ := own_row ho2
          rw [Nat.mul_one] at hcl hct
          have hcu : ∀ k, k < l.length → ∃ v, wr.cell? ⟨g, k, none⟩ = some v := fun k hk => by
            rw [cells_of hcur]
            have hk2 : k < cur.length := by rw [hcl]; omega
            exact ⟨cur[k], by simp [List.getElem?_eq_getElem hk2]⟩
          obtain ⟨v0, y0⟩ := hcu n (by omega)
          have z0 := frozen_of hcur n
          have ho3 := own_setH c ho2 (i := n) (by have := Hml.out; omega)
          have Ho3 := Lib.hid ho3
          have Hb2 := Hb
          have hni : (n : Int) < (l.length : Int) := by omega
          have hnl : n < l.length := by omega
          have hgV2 : g < wr.heap.size := by omega
          have ew : IntKind.i64.wrap ((n : Int) + 1) = (n : Int) + 1 := IntWalk.i64_in _ (by omega)
          clear Hd g0 ho2 hcur hcl hct hcu ho3
          go_wp2_with fail
          go_roundg (l.length - (j + 1))
          case measure => have := Hg.out; omega
          case rel =>
            have hsn := Hsn.out
            rw [if_neg Hcw.out] at hsn
            have hmn := Hmt.out
            refine ⟨n + 1, j + 1, m.set n c, by omega, by omega, rfl, by go_num, by go_num, by omega, by simpa using Hml.out, ?_, by rw [hsn, List.length_append, ← Hn.out]; rfl, ?_, Ho3.out, ?_, by simpa using hgV2⟩
            · rw [hsn, ← Hmt.out, List.take_add_one, List.take_set_of_le (Nat.le_refl _), List.getElem?_set_self (by have := Hml.out; omega)]
              rfl
            · rw [List.drop_set_of_lt (by omega), ← List.drop_drop, Hmd.out, List.drop_drop]
            · exact Hb2.out.setCell (p := ⟨g, n, none⟩) (by show base ≤ g; omega) _
      · obtain rfl : j = l.length := by omega
        have hcat : ¬ ac = n := by omega
        have hln : ¬ l.length = n := by omega
        have hnl : (n : Int) ≤ (l.length : Int) := by omega
        have hna : (n : Int) ≤ (ac : Int) := by omega
        obtain ⟨cur, hcur, hcl, hct, _⟩ := own_row hown
        have hmt := Hmt.out
        have hn := Hn.out
        rw [List.take_length] at hmt hn
        rw [Nat.mul_one] at hcl hct
        have hfit : n + (l.length - n) * 1 ≤ cur.length := by rw [hcl]; omega
        have htk : cur.take n = (goneH l who).flatMap icells := by
          rw [← hmt, ← flat_take i_len, Nat.mul_one, ← hct, List.take_take]
          congr 1
          omega
        have Hcur := Lib.hid hcur
        have Hcl := Lib.hid hcl
        have Htk := Lib.hid htk
        have Hn2 := Lib.hid hn
        have Hfit := Lib.hid hfit
        have hgn : (goneH l who).length = n := hn.symm
        clear hcur hcl hct hmt hn htk hown hfit
        go_wp2_with (refine list_clr rfl (.tmp 38) 22 rfl 3 i0 (.int .i64 0) 1 Try.underlying22 hi0 hz0 rfl (by decide) (by decide) (g := g) (off := n) (n := l.length - n) (c := ac - n) (dp := some ⟨g, n, none⟩) (cur := cur) rfl Hcur.out (fun _ => rfl) Hfit.out ?_; intro w3 zs hzs hc3 hg3; have Hc3 := Lib.hid hc3; have Hg3 := Lib.hid hg3; have Hzs := Lib.hid hzs; clear hzs hc3 hg3)
        go_ret
        refine ⟨some ⟨g, 0, none⟩, ac, by rw [hgn]; rfl, ?_, hb.grown Hg3.out (by omega) (fun k hk => by injection hk with hk; omega)⟩
        rw [hgn]
        refine row_own hgb Hc3.out (by omega) hcp2 (by rw [length_splice _ _ _ (by rw [Hzs.out]; exact Hfit.out), Hcl.out, Nat.mul_one]) ?_ ?_
        · rw [Nat.mul_one, take_splice_le _ _ _ _ (Nat.le_refl _) (by have := Hfit.out; omega), Htk.out]
        · have := flat_len i_len (goneH l who)
          rw [this, hgn]

end Go.Proofs.Ytigffndobddflaa
