/- The walk of the law BankMore: it answers true, and nothing that was there has turned. -/
import Derived.Test.YtlhnmgjoalifpaaBankFirst
import Derived.Deep.RegionLaw
namespace Go.Proofs.Ytlhnmgjoalifpaa
open Go.RowKit

/-- every client ahead of k lacks no more than t -/
def topTo (l : List C) (k : Nat) (t : Int) : Prop := ∀ (m : Nat) (c : C), m < k → l[m]? = some c → c.claim - c.held ≤ t
theorem topTo_zero {l : List C} {t : Int} : topTo l 0 t := fun _ _ h => absurd h (by omega)
theorem topTo_succ {l : List C} {k : Nat} {t t' : Int} {c : C} (h : topTo l k t) (hc : l[k]? = some c) (ht : t ≤ t') (hn : c.claim - c.held ≤ t') : topTo l (k + 1) t' := by
  intro m d hm hd
  rcases Nat.lt_or_ge m k with h1 | h1
  · have := h m d h1 hd; omega
  · obtain rfl : m = k := by omega
    rw [hc] at hd
    injection hd with hd
    subst hd
    exact hn
theorem topTo_all {l : List C} {t : Int} (h : topTo l l.length t) : ∀ (k : Nat) (c : C), l[k]? = some c → c.claim - c.held ≤ t := fun k c hc => h k c (List.getElem?_eq_some_iff.1 hc).1 hc
theorem gone_eq (l : List C) (k : Nat) : l.take k ++ l.drop (k + 1) = l.eraseIdx k := (List.eraseIdx_eq_take_drop_succ l k).symm

set_option maxHeartbeats 8000000 in
theorem lawMore (w : World) (free more : Int) (A : Option Addr) (cap : Nat) (l : List C) (at_ : Int)
    (hc : l.length ≤ cap) (hm : cap ≤ 9223372036854775807) (hr : Rd C.cells 3 w w.heap.size A l) (ha0 : 0 ≤ at_) (ha1 : at_ ≤ 255) :
    Calls Try.prog 5 #[.int .i64 free, .int .i64 more, .slice A l.length cap, .int .u8 at_] w fun e w' => e = .returned (.bool true) ∧ Below w.heap.size w w' := by
  obtain ⟨i0, hi, hz0, hz1, hz2⟩ := info_parts Try.infoClient
  by_cases hg : l.length ≤ 8 ∧ 0 ≤ free ∧ free ≤ 900 ∧ 0 ≤ more ∧ more ≤ 100
  · obtain ⟨h8, f0, f1, m0, m1⟩ := hg
    have h8i : (l.length : Int) ≤ 8 := by omega
    cases hrt : rightB l with
    | false =>
      have Hrt := Lib.hid hrt; clear hrt
      go_enter Try.func5, Try.ntmps5
      go_wp2_with fail
      refine (ref_is (by omega) hr).mono ?_
      rintro e w1 ⟨X, xc, rfl, hrX, hb1⟩
      go_wp2_with fail
      refine (refRight_is Hrt.out (by omega) hrX).mono ?_
      rintro e w2 ⟨rfl, hb2⟩
      have hw2 := bnext hb1 hb2
      go_wp2_with fail
      refine (awake_any w2).mono ?_
      rintro e w3 ⟨rfl, hb3⟩
      go_wp2_with fail
      go_ret
      exact ⟨rfl, bnext hw2 hb3⟩
    | true =>
      have hsm := smallC_of hrt
      have Hrt := Lib.hid hrt; clear hrt
      have Hsm := Lib.hid hsm; clear hsm
      go_enter Try.func5, Try.ntmps5
      go_wp2_with fail
      refine (ref_is (by omega) hr).mono ?_
      rintro e w1 ⟨X, xc, rfl, hrX, hb1⟩
      go_wp2_with fail
      refine (refRight_is Hrt.out (by omega) hrX).mono ?_
      rintro e w2 ⟨rfl, hb2⟩
      have hw2 := bnext hb1 hb2
      clear hrX hb1 hb2
      go_wp2_with fail
      go_loopg [9, 43] l.length (fun g t i wr => ∃ (k : Nat) (tp : Int), k ≤ l.length ∧ g = l.length - k ∧ i = .int .i64 k ∧ t = .int .i64 tp ∧ 0 ≤ tp ∧ tp ≤ 100 ∧ topTo l k tp ∧ Below w.heap.size w wr)
      case atStart => exact ⟨0, 0, Nat.zero_le _, rfl, rfl, rfl, by omega, by omega, topTo_zero, hw2⟩
      case round =>
        obtain ⟨k, tp, hk, hg, rfl, rfl, t0, t1, hto, hbw⟩ := hrel
        have Hg := Lib.hid hg; clear hg
        have Hto := Lib.hid hto; clear hto
        by_cases hlt : k < l.length
        · obtain ⟨c, b, off, hcc, rfl, hbb, hcell⟩ := rd_c hr hlt
          obtain ⟨g0, g1, g2⟩ := hcell wr hbw
          obtain ⟨q1, q2, q3, q4⟩ := Hsm.out k c hcc
          have hbs : b < wr.heap.size := by have := hbw.size; omega
          have Hc := Lib.hid hcc; clear hcc
          clear hcell hr
          by_cases hmax : tp < c.claim - c.held
          · go_wp2_with fail
            go_roundg (l.length - (k + 1))
            case measure => have := Hg.out; omega
            case rel => exact ⟨k + 1, c.claim - c.held, by omega, rfl, by go_num, rfl, by omega, by omega, topTo_succ Hto.out Hc.out (by omega) (Int.le_refl _), hbw.alloc hbw.size _⟩
          · go_wp2_with fail
            go_roundg (l.length - (k + 1))
            case measure => have := Hg.out; omega
            case rel => exact ⟨k + 1, tp, by omega, rfl, by go_num, rfl, by omega, by omega, topTo_succ Hto.out Hc.out (Int.le_refl _) (by omega), hbw.alloc hbw.size _⟩
        · have hkl : k = l.length := by omega
          subst hkl
          have hst := safe_top Hrt.out t0 (by omega) (topTo_all Hto.out)
          have Hst := Lib.hid hst; clear hst
          have hl9 : l.length ≤ 1000000 := by omega
          clear Hto Hg
          obtain ⟨wo, rfl⟩ : ∃ wo : World, wo = wr := ⟨_, rfl⟩
          go_wp2_with fail
          refine (safe_is rfl Hst.out hc hm (hr.up hbw)).mono ?_
          rintro e w3 ⟨rfl, hb3⟩
          have hw3 := bnext hbw hb3
          cases hs : safeB free l with
          | false =>
            have hp : 0 < l.length := by
              cases l with
              | nil => rw [safe_nil f0 (by omega)] at hs; cases hs
              | cons x l => simp
            have Hs := Lib.hid hs; clear hs
            go_wp2_with fail
            refine (safe_is rfl Hs.out hc hm (hr.up hw3)).mono ?_
            rintro e w4 ⟨rfl, hb4⟩
            have hw4 := bnext hw3 hb4
            go_wp2_with fail
            refine (awake_any w4).mono ?_
            rintro e w5 ⟨rfl, hb5⟩
            go_wp2_with fail
            go_ret
            exact ⟨rfl, bnext hw4 hb5⟩
          | true =>
            have Hs := Lib.hid hs; clear hs
            by_cases hz : l.length = 0
            · obtain rfl := List.eq_nil_of_length_eq_zero hz
              have hc0 : 0 ≤ cap := Nat.zero_le _
              clear hz hc h8i hl9 hlt
              go_wp2_with fail
              refine (safe_is (l := []) rfl Hs.out hc0 hm (hr.up hw3)).mono ?_
              rintro e w4 ⟨rfl, hb4⟩
              have hw4 := bnext hw3 hb4
              go_wp2_with fail
              refine (safe_is (l := []) rfl Hs.out hc0 hm (hr.up hw4)).mono ?_
              rintro e w5 ⟨rfl, hb5⟩
              have hw5 := bnext hw4 hb5
              go_wp2_with fail
              refine (awake_any w5).mono ?_
              rintro e w6 ⟨rfl, hb6⟩
              go_wp2_with fail
              go_ret
              exact ⟨rfl, bnext hw5 hb6⟩
            have h0b : ((l.length : Int) == 0) = false := by rw [beq_eq_false_iff_ne]; omega
            have hp : 0 < l.length := by omega
            clear hz
            obtain ⟨a, rfl⟩ := Int.eq_ofNat_of_zero_le ha0
            obtain ⟨k, hk⟩ : ∃ k, k = a % l.length := ⟨_, rfl⟩
            have ek : (a : Int) % (l.length : Int) = (k : Int) := by rw [hk]; exact (Int.natCast_emod a l.length).symm
            have hkl : k < l.length := by rw [hk]; exact Nat.mod_lt _ hp
            clear hk
            have Ek := Lib.hid ek; clear ek
            obtain ⟨c, b, off, hcc, rfl, hbb, hcell⟩ := rd_c hr hkl
            obtain ⟨q1, q2, q3, q4⟩ := Hsm.out k c hcc
            have n1 := safe_mono Hrt.out f0 m0 (by omega) Hs.out
            have n2 := safe_back Hrt.out f0 f1 Hs.out hcc
            have n3 := safe_gone Hrt.out f0 f1 Hs.out hcc
            have N1 := Lib.hid n1; clear n1
            have N2 := Lib.hid n2; clear n2
            have N3 := Lib.hid n3; clear n3
            have Hc := Lib.hid hcc; clear hcc
            go_wp2_with fail
            refine (safe_is rfl Hs.out hc hm (hr.up hw3)).mono ?_
            rintro e w4 ⟨rfl, hb4⟩
            have hw4 := bnext hw3 hb4
            clear hb3 hb4
            go_wp2_with (at_builtin; refine list_app rfl (.tmp 84) (.tmp 85) 22 rfl w.heap.size 37 i0 (.agg #[.int .i64 0, .int .i64 0, .int .i64 0]) 3 24 Try.underlying22 hi hz0 hz1 hz2 rfl (by decide) rfl (own_made (g := w4.heap.size) ?_ ?_) (A := some ⟨b, off, none⟩) (m := l.length) (news := l.flatMap C.cells) rfl ?_ (by simp) ?_ (flat_one c_one l) ?_ ?_ ?_ ?_)
            · exact hw4.size
            · rfl
            · exact flat_len (f := C.cells) (fun _ => rfl) l
            · exact (hr.below (hw4.alloc hw4.size _)).srcs (fun _ => rfl)
            · unfold maxLen; omega
            · omega
            · have := hw4.size; simp; omega
            intro v' w5 ho5 hg5 _
            rw [Ek.out]
            have hb5 : Below w.heap.size w w5 := (hw4.alloc hw4.size _).grown hg5 (by have := hw4.size; simp; omega) (fun k hk => by simp [Value.ownBlock] at hk; have := hw4.size; omega)
            obtain ⟨g5, c5, rfl, hg5b, hlc5, hcm5⟩ := own_addr ho5 hp
            have hcell5 : (l.flatMap C.cells)[k * 3 + 2]? = some (.int .i64 c.held) := flat_at (f := C.cells) (fun _ => rfl) Hc.out rfl
            have k1 : w5.cell? ⟨g5, k * 3 + 2, none⟩ = some (.int .i64 c.held) := by rw [ho5.cellAt _ (by omega), hcell5]
            have k2 : w5.frozen? ⟨g5, k * 3 + 2, none⟩ = false := ho5.frozenAt _
            have hb6 : Below w.heap.size w (w5.setCell ⟨g5, k * 3 + 2, none⟩ (.int .i64 0)) := hb5.setCell hg5b _
            have ho6 := (ho5.stored (k * 3 + 2) (.int .i64 0)).1
            rw [flat_held _ Hc.out] at ho6
            have hk0 : (0 : Int) ≤ (k : Int) := by omega
            have hk1 : (k : Int) < (l.length : Int) := by omega
            have hk2 : (k : Int) + 1 ≤ (l.length : Int) := by omega
            clear ho5 hg5 hcell5
            go_wp2_with fail
            generalize hu : w5.setCell ⟨g5, k * 3 + 2, none⟩ (.int .i64 0) = u
            rw [hu] at hb6 ho6
            have Hu := Lib.hid hu; clear hu
            clear k1 k2
            have hls : (l.set k { c with held := 0 }).length = l.length := by simp
            have hlg : (l.eraseIdx k).length = l.length - 1 := by rw [List.length_eraseIdx, if_pos hkl]
            have hg5u : g5 < u.heap.size := (ho6.lt g5 rfl).2
            have L1 : ((l.take k).flatMap C.cells).length = k * 3 := by rw [flat_len (f := C.cells) (sz := 3) (fun _ => rfl), List.length_take, Nat.min_eq_left (by omega)]
            have L2 : ((l.drop (k + 1)).flatMap C.cells).length = (l.length - (k + 1)) * 3 := by rw [flat_len (f := C.cells) (sz := 3) (fun _ => rfl), List.length_drop]
            have hbm : Below w.heap.size w (u.alloc (.cells #[] 37)).drew := (hb6.alloc hb6.size _).drew
            have SRC1 : ∀ ad, some (⟨b, off, none⟩ : Addr) = some ad → ∀ (j : Nat) (v : Value), ((l.take k).flatMap C.cells)[j]? = some v → (u.alloc (.cells #[] 37)).drew.cell? (ad.add j) = some v :=
              ((hr.take k).below hbm).srcs (fun _ => rfl)
            have L1' := Lib.hid L1; clear L1
            have L2' := Lib.hid L2; clear L2
            have SRC1' := Lib.hid SRC1; clear SRC1
            have Hr := Lib.hid hr; clear hr
            have Hls := Lib.hid hls; clear hls
            have Hlg := Lib.hid hlg; clear hlg
            have Hho6 := Lib.hid ho6; clear ho6
            have hkc : (k : Int) ≤ (cap : Int) := by omega
            have hkc2 : k ≤ cap := by omega
            have hkn : k + 1 ≤ l.length := by omega
            have hkc3 : (k : Int) + 1 ≤ (cap : Int) := by omega
            have hk3 : (0 : Int) ≤ (k : Int) + 1 := by omega
            have ewr : IntKind.i64.wrap ((k : Int) + 1) = (k : Int) + 1 := IntWalk.i64_in _ (by omega)
            have etn : ((k : Int) + 1).toNat = k + 1 := by omega
            go_region_law (first
              | (refine step_app rfl (.tmp 91) (.tmp 94) 22 rfl w.heap.size 37 i0 (.agg #[.int .i64 0, .int .i64 0, .int .i64 0]) 3 24 Try.underlying22 hi hz0 hz1 hz2 rfl (by decide) (v := .slice (some ⟨u.heap.size, 0, none⟩) 0 0) (by rfl) (own_made (w := u) hb6.size rfl).drew (A := some ⟨b, off, none⟩) (m := k) (news := (l.take k).flatMap C.cells) (by rfl) L1'.out (by simp) SRC1'.out (flat_one c_one _) (by unfold maxLen; omega) (by omega) hbm.size ?_; intro v1 w7 ho7 hg7 hat7; have hu7 : Below u.heap.size u w7 := ((Below.refl _ _).alloc (Nat.le_refl _) _).drew.grown hg7 (by simp) (by simp [Value.ownBlock]); have hb7 : Below w.heap.size w w7 := bnext hb6 hu7)
              | (refine step_app rfl (.tmp 95) (.tmp 99) 22 rfl w.heap.size 37 i0 (.agg #[.int .i64 0, .int .i64 0, .int .i64 0]) 3 24 Try.underlying22 hi hz0 hz1 hz2 rfl (by decide) (v := v1) (by rfl) ho7 (m := l.length - (k + 1)) (news := (l.drop (k + 1)).flatMap C.cells) (by rfl) L2'.out ?_ ?_ (flat_one c_one _) (by unfold maxLen; omega) (by omega) ?_ ?_
                 · intro h; split at h <;> cases h
                 · exact Rd.drop_src (Hr.out.below hb7) (fun _ => rfl) (fun hne => by
                     have hlt : k + 1 < l.length := by
                       rcases Nat.lt_or_ge (k + 1) l.length with h | h
                       · exact h
                       · exact absurd (List.drop_eq_nil_of_le h) hne
                     rw [if_neg (by omega)])
                 · exact hb7.size
                 intro v2 w8 ho8 hg8 hat8
                 have hu8 : Below u.heap.size u w8 := hu7.grown hg8 (hu7.size) (fun n hn => by
                   rcases hat7 with h | h
                   · rw [h] at hn; simp [Value.ownBlock] at hn; omega
                   · rw [h] at hn; simp at hn; omega)))
            have hw8 : Below w.heap.size w w8 := bnext hb6 hu8
            have ho6' := own_up Hho6.out hu8
            have hrB : Rd C.cells 3 w8 w8.heap.size (some ⟨g5, 0, none⟩) (l.set k { c with held := 0 }) := Rd.of_own (n := l.length) (c := c5) ho6' (fun _ => rfl) (by decide)
            rw [List.nil_append, ← List.flatMap_append, gone_eq, Nat.zero_add] at ho8
            obtain ⟨G, gc, rfl, hg1, hg2⟩ := own_slice ho8
            have hm8 : k + (l.length - (k + 1)) = l.length - 1 := by omega
            rw [hm8] at ho8 hg1 ⊢
            have hrG : Rd C.cells 3 w8 w8.heap.size G (l.eraseIdx k) := Rd.of_own (n := l.length - 1) (c := gc) ho8 (fun _ => rfl) (by decide)
            clear ho6' ho8 hg8 hat8 ho7 hg7 hat7
            have hfh : free + c.held ≤ 1000 := by omega
            have hfh0 : 0 ≤ free + c.held := by omega
            have Hcell := Lib.hid hcell; clear hcell
            go_wp2_with fail
            all_goals
              refine (safe_is rfl N1.out (by omega) (by omega) (Hr.out.up hw8)).mono ?_
              rintro e w9 ⟨rfl, hb9⟩
              have hw9 := bnext hw8 hb9
              have kh := (Hcell.out w9 hw9).2.2
              have hbl : b < w9.heap.size := by have := hw9.size; omega
              go_wp2_with fail
              refine (safe_is Hls.out N2.out (by omega) (by omega) (hrB.up hb9)).mono ?_
              rintro e w10 ⟨rfl, hb10⟩
              have hw10 := bnext hw9 hb10
              have kh2 := (Hcell.out w10 hw10).2.2
              have hbl2 : b < w10.heap.size := by have := hw10.size; omega
              go_wp2_with fail
              refine (safe_is Hlg.out N3.out (by omega) (by omega) ((hrG.up hb9).up hb10)).mono ?_
              rintro e w11 ⟨rfl, hb11⟩
              have hw11 := bnext hw10 hb11
              go_wp2_with fail
              refine (awake_any w11).mono ?_
              rintro e w12 ⟨rfl, hb12⟩
              go_wp2_with fail
              go_ret
              exact ⟨rfl, bnext hw11 hb12⟩
  · have hcase : 8 < l.length ∨ (l.length ≤ 8 ∧ free < 0) ∨ (l.length ≤ 8 ∧ 0 ≤ free ∧ 900 < free) ∨ (l.length ≤ 8 ∧ 0 ≤ free ∧ free ≤ 900 ∧ more < 0) ∨ (l.length ≤ 8 ∧ 0 ≤ free ∧ free ≤ 900 ∧ 0 ≤ more ∧ 100 < more) := by omega
    clear hg
    rcases hcase with h1 | ⟨h1, h2⟩ | ⟨h1, h2, h3⟩ | ⟨h1, h2, h3, h4⟩ | ⟨h1, h2, h3, h4, h5⟩
    all_goals
      first
        | have h8i : (8 : Int) < (l.length : Int) := by omega
        | have h8i : (l.length : Int) ≤ 8 := by omega
      go_enter Try.func5, Try.ntmps5
      go_wp2_with fail
      refine (awake_any _).mono ?_
      rintro e w1 ⟨rfl, hb1⟩
      go_wp2_with fail
      go_ret
      exact ⟨rfl, hb1⟩
end Go.Proofs.Ytlhnmgjoalifpaa
