/- The walk of the law BankOne: it answers true, and nothing that was there has turned. -/
import Derived.Test.YtlhnmgjoalifpaaBank7
import Derived.Test.YtlhnmgjoalifpaaBankLaw
namespace Go.Proofs.Ytlhnmgjoalifpaa
open Go.RowKit

theorem one_right {c : C} (h : okC c = true) : rightB [c] = true := by
  rw [rightB_perm_iff]
  exact ⟨by simp, by simpa using h, by simp⟩
theorem one_wrong {c : C} (h : okC c = false) : rightB [c] = false := rightB_bad (k := 0) (by simp) (okAt_bad rfl h)
theorem none_right : rightB ([] : List C) = true := by decide
theorem one_can {free : Int} {c : C} : Can free [c] ↔ c.claim - c.held ≤ free := by
  constructor
  · intro h
    cases h with
    | @step _ d r _ h1 h2 h3 =>
      have : d ∈ [c] := h1.symm.subset (List.mem_cons_self ..)
      simp at this
      subst this
      exact h2
  · intro h; exact .step (.refl _) h (.nil _)

set_option maxHeartbeats 4000000 in
theorem lawOne (w : World) (free claim held : Int) :
    Calls Try.prog 7 #[.int .i64 free, .int .i64 claim, .int .i64 held] w fun e w' => e = .returned (.bool true) ∧ Below w.heap.size w w' := by
  have hR : ∃ R, okC ⟨3, claim, held⟩ = R ∧ ((R = true ∧ 0 ≤ claim ∧ claim ≤ 100 ∧ 0 ≤ held ∧ held ≤ claim) ∨ (R = false ∧ claim < 0) ∨ (R = false ∧ 0 ≤ claim ∧ 100 < claim) ∨ (R = false ∧ 0 ≤ claim ∧ claim ≤ 100 ∧ held < 0) ∨ (R = false ∧ 0 ≤ claim ∧ claim ≤ 100 ∧ 0 ≤ held ∧ claim < held)) := by
    refine ⟨_, rfl, ?_⟩
    cases hok : okC ⟨3, claim, held⟩
    · have : ¬ okC ⟨3, claim, held⟩ = true := by rw [hok]; simp
      rw [okC_iff] at this
      simp only at this
      simp only [Bool.false_eq_true, false_and, true_and, false_or]
      omega
    · have := okC_iff.1 hok
      simp only at this
      left
      exact ⟨rfl, by omega⟩
  have hI : ∃ I, safeB free [] = I ∧ ((I = true ∧ 0 ≤ free ∧ free ≤ 1000) ∨ (I = false ∧ free < 0) ∨ (I = false ∧ 0 ≤ free ∧ 1000 < free)) := by
    by_cases h0 : free < 0
    · exact ⟨false, safeB_wrong (.inr (.inl h0)), .inr (.inl ⟨rfl, h0⟩)⟩
    · by_cases h1 : 1000 < free
      · exact ⟨false, safeB_wrong (.inr (.inr h1)), .inr (.inr ⟨rfl, by omega, h1⟩)⟩
      · exact ⟨true, (safeB_iff none_right (by omega) (by omega)).2 (.nil _), .inl ⟨rfl, by omega, by omega⟩⟩
  obtain ⟨R, hok, hR⟩ := hR
  obtain ⟨I, hsn, hI⟩ := hI
  obtain ⟨S, hS, hSc⟩ : ∃ S, safeB free [⟨3, claim, held⟩] = S ∧ ((R = true ∧ I = true ∧ S = true ∧ claim - held ≤ free) ∨ (R = true ∧ I = true ∧ S = false ∧ free < claim - held) ∨ (S = false ∧ R = false) ∨ (S = false ∧ R = true ∧ I = false)) := by
    cases R
    · exact ⟨false, safeB_wrong (.inl (one_wrong hok)), .inr (.inr (.inl ⟨rfl, rfl⟩))⟩
    · rcases hI with ⟨rfl, h0, h1⟩ | ⟨rfl, h0⟩ | ⟨rfl, h0, h1⟩
      · by_cases hn : claim - held ≤ free
        · exact ⟨true, (safeB_iff (one_right hok) h0 h1).2 (one_can.2 hn), .inl ⟨rfl, rfl, rfl, hn⟩⟩
        · refine ⟨false, ?_, .inr (.inl ⟨rfl, rfl, rfl, by omega⟩)⟩
          cases hs : safeB free [⟨3, claim, held⟩]
          · rfl
          · exact absurd (one_can.1 ((safeB_iff (one_right hok) h0 h1).1 hs)) hn
      · exact ⟨false, safeB_wrong (.inr (.inl h0)), .inr (.inr (.inr ⟨rfl, rfl, rfl⟩))⟩
      · exact ⟨false, safeB_wrong (.inr (.inr h1)), .inr (.inr (.inr ⟨rfl, rfl, rfl⟩))⟩
  have HS := Lib.hid hS; clear hS
  have Hsn := Lib.hid hsn; clear hsn
  clear hok
  have hrd : ∀ (u : World) (t : TypeId) (g : Nat), g = u.heap.size → Rd C.cells 3 (u.alloc (.cells #[.int .i64 3, .int .i64 claim, .int .i64 held] t)) (u.alloc (.cells #[.int .i64 3, .int .i64 claim, .int .i64 held] t)).heap.size (some ⟨g, 0, none⟩) [⟨3, claim, held⟩] := fun u t g hg => by
    subst hg
    exact Rd.of_own (base := 0) (World.ownsRow_lit u #[.int .i64 3, .int .i64 claim, .int .i64 held] 1 (Nat.zero_le _) (by decide) rfl) (fun _ => rfl) (by decide)
  have Hrd := Lib.hid hrd; clear hrd
  rcases hSc with ⟨rfl, rfl, rfl, hn⟩ | ⟨rfl, rfl, rfl, hn⟩ | ⟨rfl, rfl⟩ | ⟨rfl, rfl, rfl⟩ <;>
    simp only [Bool.false_eq_true, Bool.true_eq_false, false_and, true_and, false_or, or_false] at hR
  · simp only [Bool.false_eq_true, Bool.true_eq_false, false_and, true_and, false_or, or_false] at hI
    obtain ⟨r1, r2, r3, r4⟩ := hR
    obtain ⟨i1, i2⟩ := hI
    go_enter Try.func7, Try.ntmps7
    go_wp2_with fail
    refine (safe_any _ _ 1 [⟨3, claim, held⟩] free (by simp) (by decide) (Hrd.out _ _ _ (by simp))).mono ?_
    rw [HS.out]
    rintro e w1 ⟨rfl, hb1⟩
    have hw1 : Below w.heap.size w w1 := bnext (((Below.refl _ _).alloc (Nat.le_refl _) _).alloc (by simp) _) hb1
    go_wp2_with fail
    refine (safe_any w1 none 0 [] free (by decide) (by decide) Rd.nil).mono ?_
    rw [Hsn.out]
    rintro e w2 ⟨rfl, hb2⟩
    have hw2 := bnext hw1 hb2
    go_wp2_with fail
    refine (awake_any w2).mono ?_
    rintro e w3 ⟨rfl, hb3⟩
    go_wp2_with fail
    go_ret
    refine ⟨?_, bnext hw2 hb3⟩
    first | rfl | (refine ret_bool ?_; simp; done) | (refine ret_bool ?_; simp; omega)
  · simp only [Bool.false_eq_true, Bool.true_eq_false, false_and, true_and, false_or, or_false] at hI
    obtain ⟨r1, r2, r3, r4⟩ := hR
    obtain ⟨i1, i2⟩ := hI
    go_enter Try.func7, Try.ntmps7
    go_wp2_with fail
    refine (safe_any _ _ 1 [⟨3, claim, held⟩] free (by simp) (by decide) (Hrd.out _ _ _ (by simp))).mono ?_
    rw [HS.out]
    rintro e w1 ⟨rfl, hb1⟩
    have hw1 : Below w.heap.size w w1 := bnext (((Below.refl _ _).alloc (Nat.le_refl _) _).alloc (by simp) _) hb1
    go_wp2_with fail
    refine (safe_any w1 none 0 [] free (by decide) (by decide) Rd.nil).mono ?_
    rw [Hsn.out]
    rintro e w2 ⟨rfl, hb2⟩
    have hw2 := bnext hw1 hb2
    go_wp2_with fail
    refine (awake_any w2).mono ?_
    rintro e w3 ⟨rfl, hb3⟩
    go_wp2_with fail
    go_ret
    refine ⟨?_, bnext hw2 hb3⟩
    first | rfl | (refine ret_bool ?_; simp; done) | (refine ret_bool ?_; simp; omega)
  · rcases hI with ⟨rfl, i1, i2⟩ | ⟨rfl, i1⟩ | ⟨rfl, i1, i2⟩ <;> rcases hR with r1 | ⟨r1, r2⟩ | ⟨r1, r2, r3⟩ | ⟨r1, r2, r3, r4⟩
    all_goals
      go_enter Try.func7, Try.ntmps7
      go_wp2_with fail
      refine (safe_any _ _ 1 [⟨3, claim, held⟩] free (by simp) (by decide) (Hrd.out _ _ _ (by simp))).mono ?_
      rw [HS.out]
      rintro e w1 ⟨rfl, hb1⟩
      have hw1 : Below w.heap.size w w1 := bnext (((Below.refl _ _).alloc (Nat.le_refl _) _).alloc (by simp) _) hb1
      go_wp2_with fail
      refine (safe_any w1 none 0 [] free (by decide) (by decide) Rd.nil).mono ?_
      rw [Hsn.out]
      rintro e w2 ⟨rfl, hb2⟩
      have hw2 := bnext hw1 hb2
      go_wp2_with fail
      refine (awake_any w2).mono ?_
      rintro e w3 ⟨rfl, hb3⟩
      go_wp2_with fail
      go_ret
      refine ⟨?_, bnext hw2 hb3⟩
      first | rfl | (refine ret_bool ?_; simp; done) | (refine ret_bool ?_; simp; omega)
  · simp only [Bool.false_eq_true, Bool.true_eq_false, false_and, true_and, false_or, or_false] at hI
    obtain ⟨r1, r2, r3, r4⟩ := hR
    rcases hI with i1 | ⟨i1, i2⟩
    all_goals
      go_enter Try.func7, Try.ntmps7
      go_wp2_with fail
      refine (safe_any _ _ 1 [⟨3, claim, held⟩] free (by simp) (by decide) (Hrd.out _ _ _ (by simp))).mono ?_
      rw [HS.out]
      rintro e w1 ⟨rfl, hb1⟩
      have hw1 : Below w.heap.size w w1 := bnext (((Below.refl _ _).alloc (Nat.le_refl _) _).alloc (by simp) _) hb1
      go_wp2_with fail
      refine (safe_any w1 none 0 [] free (by decide) (by decide) Rd.nil).mono ?_
      rw [Hsn.out]
      rintro e w2 ⟨rfl, hb2⟩
      have hw2 := bnext hw1 hb2
      go_wp2_with fail
      refine (awake_any w2).mono ?_
      rintro e w3 ⟨rfl, hb3⟩
      go_wp2_with fail
      go_ret
      refine ⟨?_, bnext hw2 hb3⟩
      first | rfl | (refine ret_bool ?_; simp; done) | (refine ret_bool ?_; simp; omega)
end Go.Proofs.Ytlhnmgjoalifpaa
