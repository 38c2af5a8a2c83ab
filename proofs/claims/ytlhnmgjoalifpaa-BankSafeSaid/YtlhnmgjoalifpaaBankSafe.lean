/- The walk of the law BankSafe: it answers true, and nothing that was there has turned. -/
import Derived.Test.YtlhnmgjoalifpaaBank4
import Derived.Test.YtlhnmgjoalifpaaBank5
import Derived.Test.YtlhnmgjoalifpaaBank7
import Derived.Test.YtlhnmgjoalifpaaBank8
import Derived.Deep.RegionWith
import Derived.Deep.OwnRows
namespace Go.Proofs.Ytlhnmgjoalifpaa
open Go.RowKit

section
variable {w : World} {A : Option Addr} {cap : Nat} {l : List C} {free : Int} {m : Nat}
theorem ref_len (h : l.length = m) (hm : m ≤ 1000000) (hr : Rd C.cells 3 w w.heap.size A l) : Calls Try.prog 11 #[.slice A m cap] w fun e w' =>
    ∃ X xc, e = .returned (.slice X m xc) ∧ Rd C.cells 3 w' w'.heap.size X l ∧ Below w.heap.size w w' := by
  subst h
  exact (ref_any w A cap l hm hr).mono fun e w' ⟨X, xc, he, _, _, hown, hb⟩ => ⟨X, xc, he, Rd.of_own hown (fun _ => rfl) (by decide), hb⟩
theorem refRight_len (h : l.length = m) (hm : m ≤ 1000000) (hr : Rd C.cells 3 w w.heap.size A l) : Calls Try.prog 13 #[.slice A m cap] w fun e w' => e = .returned (.bool (rightB l)) ∧ Below w.heap.size w w' := by
  subst h
  exact refRight_any w A cap l (by omega) hr
theorem safe_len (h : l.length = m) (hc : m ≤ cap) (hm : cap ≤ 9223372036854775807) (hr : Rd C.cells 3 w w.heap.size A l) : Calls Try.prog 15 #[.int .i64 free, .slice A m cap] w fun e w' => e = .returned (.bool (safeB free l)) ∧ Below w.heap.size w w' := by
  subst h
  exact safe_any w A cap l free hc hm hr
theorem some_len {S : Option Addr} {sc : Nat} (h : l.length = m) (h8 : m ≤ 8) (hsm : smallC l) (f0 : 0 ≤ free) (f1 : free ≤ 1000) (hr : Rd C.cells 3 w w.heap.size A l) (hq : Rd bcells 1 w w.heap.size S (List.replicate m false)) :
    Calls Try.prog 18 #[.int .i64 free, .slice A m cap, .slice S m sc] w fun e w' => e = .returned (.bool (canB free l)) ∧ Below w.heap.size w w' := by
  subst h
  have := some_any l A cap h8 hsm l.length w S sc (List.replicate l.length false) free f0 (by omega) (by simp) (by rw [rem_all]) hr hq
  rw [rem_all] at this
  exact this
end
theorem Try.info1Bool : (Try.prog.info? 4).map (fun i => (i.zero, i.size, i.bytes)) = some (some (.bool false), 1, 1) := by kernel_rfl
theorem made_rd {w W : World} {m : Nat} (h : Below (w.heap.size + 1) (w.alloc (.cells (madeCells #[.bool false] m) 4)) W) (hm : m ≤ 8) : Rd bcells 1 W W.heap.size (some ⟨w.heap.size, 0, none⟩) (List.replicate m false) := by
  have h1 := World.ownsRow_lit (base := 0) (e := 4) (size := 1) w (madeCells #[.bool false] m) m (Nat.zero_le _) (by unfold maxLen; omega) (by rw [size_madeCells, Nat.mul_one])
  rw [made_bools] at h1
  have h2 : Rd bcells 1 (w.alloc (.cells (madeCells #[.bool false] m) 4)) (w.alloc (.cells (madeCells #[.bool false] m) 4)).heap.size (some ⟨w.heap.size, 0, none⟩) (List.replicate m false) :=
    Rd.of_own (l := List.replicate m false) h1 (fun _ => rfl) (by decide)
  exact h2.up (by simpa using h)
theorem made_rd2 {w W : World} {m : Nat} (h : Below (w.alloc (.cells (madeCells #[.bool false] m) 4)).drew.heap.size (w.alloc (.cells (madeCells #[.bool false] m) 4)).drew W) (hm : m ≤ 8) : Rd bcells 1 W W.heap.size (some ⟨w.heap.size, 0, none⟩) (List.replicate m false) :=
  made_rd ⟨h.os, h.tape, h.output, by simpa using h.size, fun k hk => h.block k (by simpa using hk)⟩ hm

set_option maxHeartbeats 4000000 in
theorem lawSafe (w : World) (A : Option Addr) (cap : Nat) (l : List C) (free : Int)
    (hc : l.length ≤ cap) (hm : cap ≤ 9223372036854775807) (hr : Rd C.cells 3 w w.heap.size A l) :
    Calls Try.prog 4 #[.int .i64 free, .slice A l.length cap] w fun e w' => e = .returned (.bool true) ∧ Below w.heap.size w w' := by
  obtain ⟨m, hmm⟩ : ∃ m, (l.length ≤ 5 ∧ m = l.length) ∨ (5 < l.length ∧ m = 5) := by
    by_cases h : l.length ≤ 5
    · exact ⟨_, .inl ⟨h, rfl⟩⟩
    · exact ⟨_, .inr ⟨by omega, rfl⟩⟩
  have hml : m ≤ l.length := by omega
  have hm5 : m ≤ 5 := by omega
  obtain ⟨k, hk⟩ : ∃ k, k = l.take m := ⟨_, rfl⟩
  have hkl : k.length = m := by rw [hk, List.length_take]; omega
  have hrk : Rd C.cells 3 w w.heap.size A k := by rw [hk]; exact hr.take m
  have hmc : m ≤ cap := by omega
  have hmm8 : m ≤ 8 := by omega
  have hmm9 : m ≤ 1000000 := by omega
  have Hkl := Lib.hid hkl; clear hkl hk hr
  by_cases hin : 0 ≤ free ∧ free ≤ 1000 ∧ rightB k = true
  · obtain ⟨f0, f1, hrt⟩ := hin
    have hsm := smallC_of hrt
    have hsafe : safeB free k = canB free k := by rw [Bool.eq_iff_iff, safeB_iff hrt f0 f1, canB_iff]
    obtain ⟨r, hcr⟩ : ∃ r, canB free k = r := ⟨_, rfl⟩
    rw [hcr] at hsafe
    have Hrt := Lib.hid hrt; clear hrt
    have Hsf := Lib.hid hsafe; clear hsafe
    have Hcr := Lib.hid hcr; clear hcr
    have Hsm := Lib.hid hsm; clear hsm
    have hmk1 := run_make_row' (P := Try.prog) 35 4 (.bool false) 1 Try.underlying35 Try.info1Bool rfl .i64 .i64 m (by omega) (by omega)
    have hmk2 : ∀ W : World, (Instr.makeSlice 35 (.int .i64 5) (.int .i64 5)).run Try.prog W = .ok (.slice (some ⟨W.heap.size, 0, none⟩) 5 5) (W.alloc (.cells (madeCells #[.bool false] 5) 4)) :=
      fun W => run_make_row' (P := Try.prog) 35 4 (.bool false) 1 Try.underlying35 Try.info1Bool rfl .i64 .i64 5 (by omega) (by omega) W
    rcases hmm with ⟨h5, rfl⟩ | ⟨h5, rfl⟩
    all_goals
      go_enter Try.func4, Try.ntmps4
      go_wp2_with fail
      refine (ref_len Hkl.out hmm9 hrk).mono ?_
      rintro e w1 ⟨X, xc, rfl, hrX, hb1⟩
      go_wp2_with fail
      refine (refRight_len Hkl.out hmm9 hrX).mono ?_
      rw [Hrt.out]
      rintro e w2 ⟨rfl, hb2⟩
      have hw2 := hb1.trans (hb2.mono hb1.size)
      have hrk2 := hrk.up hw2
      have hrX2 := hrX.up hb2
      clear hrk hrX hb1 hb2
      go_wp2_with fail
      go_region_with (first
        | (go_at_call 15; refine (safe_len Hkl.out hmc hm ?_).mono ?_; (first | exact hrk2.up (Below.refl _ _).drew | exact hrk2.up ((Below.refl _ _).alloc (Nat.le_refl _) _).drew); rw [Hsf.out]; rintro e w3 ⟨rfl, hb3⟩; have hw3 : Below w.heap.size w w3 := (by first | exact bnext hw2.drew hb3 | exact bnext (hw2.alloc hw2.size _).drew hb3); have hrX3 : Rd C.cells 3 w3 w3.heap.size X k := (by first | exact hrX2.up ((Below.refl _ _).drew.trans hb3) | exact (hrX2.up ((Below.refl _ _).alloc (Nat.le_refl _) _).drew).up hb3))
        | (go_at_call 18; refine (some_len Hkl.out hmm8 Hsm.out f0 f1 ?_ ?_).mono ?_; (first | exact hrX3 | exact hrX3.up ((Below.refl _ _).alloc (Nat.le_refl _) _)); (first | exact made_rd (Below.refl _ _) hmm8 | exact made_rd2 hb3 hmm8); rw [Hcr.out]; rintro e w4 ⟨rfl, hb4⟩; have hw4 : Below w.heap.size w w4 := (by first | exact bnext hw3 hb4 | exact bnext (hw3.alloc hw3.size _) hb4))
        | (go_at_call 10; refine (awake_any _).mono ?_; rintro e w5 ⟨rfl, hb5⟩; have hw5 : Below w.heap.size w w5 := bnext hw4 hb5))
      all_goals
        go_wp2_with fail
        go_ret
        exact ⟨rfl, hw5⟩
  · have hcase : free < 0 ∨ (0 ≤ free ∧ 1000 < free) ∨ (0 ≤ free ∧ free ≤ 1000 ∧ rightB k = false) := by
      by_cases h0 : free < 0
      · exact .inl h0
      · by_cases h1 : 1000 < free
        · exact .inr (.inl ⟨by omega, h1⟩)
        · refine .inr (.inr ⟨by omega, by omega, ?_⟩)
          cases hr : rightB k
          · rfl
          · exact absurd ⟨by omega, by omega, hr⟩ hin
    clear hin
    rcases hcase with h0 | ⟨h0, h1⟩ | ⟨h0, h1, hrt⟩
    · rcases hmm with ⟨h5, rfl⟩ | ⟨h5, rfl⟩
      all_goals
        go_enter Try.func4, Try.ntmps4
        go_wp2_with fail
        refine (ref_len Hkl.out hmm9 hrk).mono ?_
        rintro e w1 ⟨X, xc, rfl, hrX, hb1⟩
        go_wp2_with fail
        refine (awake_any _).mono ?_
        rintro e w2 ⟨rfl, hb2⟩
        go_wp2_with fail
        go_ret
        exact ⟨rfl, bnext hb1 hb2⟩
    · rcases hmm with ⟨h5, rfl⟩ | ⟨h5, rfl⟩
      all_goals
        go_enter Try.func4, Try.ntmps4
        go_wp2_with fail
        refine (ref_len Hkl.out hmm9 hrk).mono ?_
        rintro e w1 ⟨X, xc, rfl, hrX, hb1⟩
        go_wp2_with fail
        refine (awake_any _).mono ?_
        rintro e w2 ⟨rfl, hb2⟩
        go_wp2_with fail
        go_ret
        exact ⟨rfl, bnext hb1 hb2⟩
    · have Hrt := Lib.hid hrt; clear hrt
      rcases hmm with ⟨h5, rfl⟩ | ⟨h5, rfl⟩
      all_goals
        go_enter Try.func4, Try.ntmps4
        go_wp2_with fail
        refine (ref_len Hkl.out hmm9 hrk).mono ?_
        rintro e w1 ⟨X, xc, rfl, hrX, hb1⟩
        go_wp2_with fail
        refine (refRight_len Hkl.out hmm9 hrX).mono ?_
        rw [Hrt.out]
        rintro e w2 ⟨rfl, hb2⟩
        have hw2 := bnext hb1 hb2
        go_wp2_with fail
        refine (awake_any _).mono ?_
        rintro e w3 ⟨rfl, hb3⟩
        go_wp2_with fail
        go_ret
        exact ⟨rfl, bnext hw2 hb3⟩
end Go.Proofs.Ytlhnmgjoalifpaa
