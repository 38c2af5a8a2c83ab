/- The plain law of LatchGives and LatchEnds. No program in sight. -/
import Derived.Test.YtigffndobddflaaLR3
namespace Go.Proofs.Ytigffndobddflaa

theorem goneH_id {l : List Int} {who : Int} (h : l.contains who = false) : goneH l who = l := by
  rw [goneH, List.filter_eq_self]
  intro c hc
  rw [List.contains_eq_mem, decide_eq_false_iff_not] at h
  have : c ≠ who := fun e => h (e ▸ hc)
  simpa using this
theorem goneW_id {l : List Wt} {who : Int} (h : inW l who = false) : goneW l who = l := by
  rw [goneW, List.filter_eq_self]
  intro c hc
  rw [inW, List.any_eq_false] at h
  simpa using h c hc
theorem goneH_with {who : Int} : ∀ {l : List Int}, l.contains who = false → goneH (withL l who) who = l
  | [], _ => by simp [withL, goneH]
  | a :: l, h => by
    have h1 : ¬ a = who := by
      intro e; subst e; simp at h
    have h2 : l.contains who = false := by
      simp only [List.contains_cons, Bool.or_eq_false_iff] at h
      exact h.2
    rw [withL]
    split
    · have := goneH_id (l := a :: l) h
      rw [goneH] at this ⊢
      rw [List.filter_cons_of_neg (by simp), this]
    · have := goneH_with h2
      rw [goneH] at this ⊢
      rw [List.filter_cons_of_pos (by simp [h1]), this]
theorem enterL_shut {l : La} (h : l.open = false) : enterL l = (l, []) := by
  rw [enterL, letL_shut (q := l.q) (hs := l.hs) (ex := l.ex) h.symm]
theorem ask_drop {l b : La} (hr : l.right = true) {who : Int} {ex : Bool} {came : List Int} (h : askM l who ex = (b, came, 0)) : dropM b who = (l, [], 0) := by
  have hbr : b.right = true := by have := ask_right hr who ex; rw [h] at this; exact this
  obtain ⟨hp, ho⟩ := la_pre.1 hr
  rw [askM] at h
  split at h
  · simp at h
  split at h
  · simp at h
  rename_i hin
  split at h
  · simp at h
  rw [not_or] at hin
  have hC : l.hs.contains who = false := by simpa using hin.1
  have hT : inW l.q who = false := by simpa using hin.2
  have hgT : goneW (l.q ++ [⟨who, ex⟩]) who = l.q := by
    have := goneW_id hT
    rw [goneW] at this ⊢
    rw [List.filter_append, this]
    simp
  injection h with h _
  rw [dropM, if_neg (by rw [hbr]; simp)]
  cases hop : openW l.hs l.ex (l.q ++ [⟨who, ex⟩]) with
  | false =>
    rw [enterL] at h
    simp only [letL_shut hop.symm] at h
    subst h
    have hi : inW (l.q ++ [(⟨who, ex⟩ : Wt)]) who = true := by simp [inW]
    rw [if_neg (by simp only [hi]; simp)]
    have hl : lessL { l with q := l.q ++ [⟨who, ex⟩] } who = l := by
      rw [lessL]
      simp only [goneH_id hC, hgT]
      cases l with
      | mk hs lx q =>
        congr 1
        simp only
        split
        · rename_i h0
          exact (pre_empty hp (List.eq_nil_of_length_eq_zero h0)).symm
        · rfl
    rw [hl, enterL_shut ho]
  | true =>
    have hq : l.q = [] := by
      cases hq : l.q with
      | nil => rfl
      | cons t q =>
        rw [hq] at hop
        have : openW l.hs l.ex (t :: q) = true := hop
        rw [← hq] at this
        rw [La.open] at ho
        rw [ho] at this
        cases this
    rw [hq] at h hop
    rw [enterL] at h
    simp only [List.nil_append] at h hop
    rw [letL_cons hop.symm] at h
    simp only [letL] at h
    subst h
    have hm : (withL l.hs who).contains who = true := by
      rw [List.contains_eq_mem, decide_eq_true_iff]
      exact (withL_mem _ _ _).2 (.inl rfl)
    rw [if_neg (by simp only [hm]; simp)]
    have hl : lessL ⟨withL l.hs who, l.ex || ex, []⟩ who = l := by
      rw [lessL]
      simp only [goneH_with hC]
      have hgn : goneW ([] : List Wt) who = [] := rfl
      rw [hgn, ← hq]
      cases l with
      | mk hs lx q =>
        congr 1
        simp only [openW, Bool.or_eq_true, decide_eq_true_eq, Bool.and_eq_true, Bool.not_eq_true'] at hop ⊢
        split
        · rename_i h0
          exact (pre_empty hp (List.eq_nil_of_length_eq_zero h0)).symm
        · rename_i h0
          rcases hop with hop | hop
          · exact absurd hop h0
          · rw [hop.1, hop.2]; rfl
    rw [hl, enterL_shut ho]
theorem ask_ok {l b : La} {who : Int} {ex : Bool} {came : List Int} (h : askM l who ex = (b, came, 0)) : l.right = true := by
  cases hr : l.right with
  | true => rfl
  | false =>
    rw [askM, if_pos (.inl hr)] at h
    injection h with _ h
    injection h with _ h
    cases h
def La.total (l : La) : Nat := l.hs.length + l.q.length
theorem la_some {l : La} (hr : l.right = true) (ht : 0 < l.total) : ∃ c r, l.hs = c :: r := by
  obtain ⟨hp, ho⟩ := la_pre.1 hr
  cases hc : l.hs with
  | cons c r => exact ⟨c, r, rfl⟩
  | nil =>
    cases hq : l.q with
    | nil => rw [La.total, hc, hq] at ht; simp at ht
    | cons t q =>
      rw [La.open, hc, hq] at ho
      simp [openW] at ho
theorem la_step {l : La} (hr : l.right = true) {c : Int} {r : List Int} (hc : l.hs = c :: r) :
    ∃ k ins, dropM l c = (k, ins, 0) ∧ k.right = true ∧ k.total + 1 = l.total ∧ ins.length + k.q.length = l.q.length := by
  obtain ⟨hp, ho⟩ := la_pre.1 hr
  have hnd := hp.nd
  rw [hc, List.cons_append, List.nodup_cons] at hnd
  have hg1 : goneH l.hs c = r := by
    rw [hc, goneH, List.filter_cons_of_neg (by simp), List.filter_eq_self]
    intro d hd
    have : d ≠ c := fun e => hnd.1 (List.mem_append_left _ (by rw [← e]; exact hd))
    simpa using this
  have hg2 : goneW l.q c = l.q := by
    rw [goneW, List.filter_eq_self]
    intro d hd
    have : d.who ≠ c := fun e => hnd.1 (List.mem_append_right _ (by rw [← e]; exact List.mem_map_of_mem hd))
    simpa using this
  have he : dropM l c = ((enterL (lessL l c)).1, (enterL (lessL l c)).2, 0) := by
    rw [dropM, if_neg (by rw [hr]; simp), if_neg (by rw [hc]; simp)]
  refine ⟨_, _, he, ?_, ?_, ?_⟩
  · have := drop_right hr c
    rw [he] at this; exact this
  · have := (letL_len (lessL l c).q (lessL l c).hs (lessL l c).ex).2
    simp only [lessL, hg1, hg2] at this
    have hlc : l.hs.length = r.length + 1 := by rw [hc]; rfl
    simp only [La.total, enterL, lessL, hg1, hg2, hlc]
    omega
  · have := (letL_len (lessL l c).q (lessL l c).hs (lessL l c).ex).1
    simp only [lessL, hg1, hg2] at this
    simp only [enterL, lessL, hg1, hg2]
    exact this
theorem la_none {l : La} (hr : l.right = true) (ht : l.total = 0) : l.hs = [] ∧ l.q = [] ∧ l.ex = false := by
  have h1 : l.hs = [] := List.eq_nil_of_length_eq_zero (by unfold La.total at ht; omega)
  exact ⟨h1, List.eq_nil_of_length_eq_zero (by unfold La.total at ht; omega), pre_empty (la_pre.1 hr).1 h1⟩
end Go.Proofs.Ytigffndobddflaa
