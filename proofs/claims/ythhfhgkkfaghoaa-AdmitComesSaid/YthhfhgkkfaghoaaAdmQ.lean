/- The plain law behind AdmitSafe: acts keep a hall right; who wants may. -/
import Derived.Test.YthhfhgkkfaghoaaAdmP
import Derived.Test.YthhfhgkkfaghoaaAdm12
namespace Go.Proofs.Ythhfhgkkfaghoaa

theorem enter_fb (h : Hall) : (enterM h).1.frames = h.frames ∧ (enterM h).1.budget = h.budget := ⟨rfl, rfl⟩
theorem begin_fb (h : Hall) (who claim : Int) : (beginM h who claim).1.frames = h.frames ∧ (beginM h who claim).1.budget = h.budget := by
  rw [beginM]
  repeat' split
  all_goals exact ⟨rfl, rfl⟩
theorem pin_fb (h : Hall) (who : Int) : (pinM h who).1.frames = h.frames ∧ (pinM h who).1.budget = h.budget := by
  rw [pinM]
  repeat' split
  all_goals exact ⟨rfl, rfl⟩
theorem unpin_fb (h : Hall) (who : Int) : (unpinM h who).1.frames = h.frames ∧ (unpinM h who).1.budget = h.budget := by
  rw [unpinM]
  repeat' split
  all_goals exact ⟨rfl, rfl⟩
theorem end_fb (h : Hall) (who : Int) : (endM h who).1.frames = h.frames ∧ (endM h who).1.budget = h.budget := by
  rw [endM]
  repeat' split
  all_goals exact ⟨rfl, rfl⟩
theorem doA_fb (h : Hall) (a : Act3) : (doA h a).1.frames = h.frames ∧ (doA h a).1.budget = h.budget := by
  rw [doA]
  split
  · exact begin_fb h _ _
  split
  · exact pin_fb h _
  split
  · exact unpin_fb h _
  · exact end_fb h _
theorem doA_right {h : Hall} (hr : h.right = true) (a : Act3) : (doA h a).1.right = true := by
  rw [doA]
  split
  · exact begin_right hr _ _
  split
  · exact pin_right hr _
  split
  · exact unpin_right hr _
  · exact end_right hr _
theorem begin_11 {h : Hall} (hr : h.right = true) (who claim : Int) : decide ((beginM h who claim).2.2 = 11) = (decide (0 ≤ who) && decide (who ≤ 2147483647) && (decide (claim < 1) || decide (h.least < claim))) := by
  by_cases h1 : who < 0 ∨ 2147483647 < who
  · rw [beginM, if_pos (.inr h1)]
    rcases h1 with h2 | h2
    · rw [decide_eq_false (show ¬ 0 ≤ who by omega)]; rfl
    · rw [decide_eq_false (show ¬ who ≤ 2147483647 by omega)]; simp
  · have h2 : ¬ (h.right = false ∨ who < 0 ∨ 2147483647 < who) := by rw [hr]; simpa using h1
    rw [decide_eq_true (show 0 ≤ who by omega), decide_eq_true (show who ≤ 2147483647 by omega)]
    cases hc : okClaim h claim with
    | false =>
      rw [beginM, if_neg h2, if_pos hc]
      have : ¬ (1 ≤ claim ∧ claim ≤ h.least) := fun hh => by rw [okClaim_iff.2 hh] at hc; cases hc
      by_cases h3 : claim < 1
      · rw [decide_eq_true h3]; rfl
      · rw [decide_eq_false h3, decide_eq_true (show h.least < claim by omega)]; rfl
    | true =>
      have := okClaim_iff.1 hc
      rw [decide_eq_false (show ¬ claim < 1 by omega), decide_eq_false (show ¬ h.least < claim by omega)]
      rw [beginM, if_neg h2, if_neg (by rw [hc]; simp)]
      split
      · rfl
      split
      · rfl
      · rfl
theorem findC_uniq {l : List C} (hr : rightB l = true) {i : Nat} {c : C} (hc : l[i]? = some c) : findC l c.who = some i := by
  obtain ⟨_, _, hn⟩ := rightB_perm_iff.1 hr
  refine findC_at hc rfl fun j d hj hd e => ?_
  obtain ⟨h1, h2⟩ := List.getElem?_eq_some_iff.1 hc
  obtain ⟨h3, h4⟩ := List.getElem?_eq_some_iff.1 hd
  rw [List.Nodup, List.pairwise_iff_getElem] at hn
  have := hn j i (by rw [List.length_map]; exact h3) (by rw [List.length_map]; exact h1) hj
  rw [List.getElem_map, List.getElem_map, h2, h4] at this
  exact this e
/-- of one client: may it, or has it all? -/
def mayC (h : Hall) (c : C) : Bool := (decide (c.held < c.claim) && decide ((pinM h c.who).2 = 0)) || decide (c.held = c.claim)
theorem wants_may {h : Hall} (hr : h.right = true) (hw : h.cs.any (fun c => decide (c.held < c.claim)) = true) : h.cs.any (mayC h) = true := by
  obtain ⟨hp, ho⟩ := right_pre.1 hr
  have hl8 := left_le hp.cs hp.heads
  obtain ⟨c0, hc0, _⟩ := List.any_eq_true.1 hw
  rw [List.any_eq_true]
  by_cases hall : ∃ c ∈ h.cs, c.held = c.claim
  · obtain ⟨c, hc, he⟩ := hall
    exact ⟨c, hc, by rw [mayC, decide_eq_true he, Bool.or_true]⟩
  obtain ⟨l, hl⟩ : ∃ l, l = h.cs := ⟨_, rfl⟩
  have hcan := hp.can
  rw [← hl] at hcan hc0 hall ⊢
  cases hcan with
  | nil => cases hc0
  | step h1 h2 h3 =>
    rename_i c r
    have hc : c ∈ l := h1.symm.subset (List.mem_cons_self ..)
    subst hl
    obtain ⟨i, hi⟩ := List.getElem?_of_mem hc
    have hok := okC_iff.1 (okC_of hp.cs hi)
    have hlt : c.held < c.claim := by
      rcases Int.lt_or_le c.held c.claim with h | h
      · exact h
      · exact absurd ⟨c, hc, by omega⟩ hall
    have hl := hp.left
    refine ⟨c, hc, ?_⟩
    have hm := first_more hp.cs hl (by omega) ((safeB_iff hp.cs hl (by omega)).2 hp.can) hi h2 hlt
    have hpin : pinM h c.who = ({ h with cs := moreAt h.cs i 1 }, 0) := by
      rw [pinM, if_neg (by rw [hr]; simp), findC_uniq hp.cs hi]
      simp only [hi]
      rw [if_neg (by omega), if_neg (by omega), if_neg]
      rw [moreAt_of 1 hi, hm]
      simp
    rw [mayC, decide_eq_true hlt, hpin]
    rfl
theorem any_snoc {α : Type} (p : α → Bool) {l : List α} {k : Nat} {x : α} (h : l[k]? = some x) : (l.take (k + 1)).any p = ((l.take k).any p || p x) := by
  rw [List.take_add_one, h]; simp
theorem right_empty {f b : Int} (h1 : 1 ≤ f) (h2 : f ≤ 8) (h3 : 1 ≤ b) (h4 : b ≤ 100) : Hall.right ⟨f, b, [], []⟩ = true :=
  right_pre.2 ⟨⟨heads_iff.2 ⟨h1, h2, h3, h4, by simp⟩, (by rfl : rightB [] = true), by simp, by simp, by simp, by simp [Hall.left, heldS]; omega, .nil _⟩, rfl⟩
end Go.Proofs.Ythhfhgkkfaghoaa
