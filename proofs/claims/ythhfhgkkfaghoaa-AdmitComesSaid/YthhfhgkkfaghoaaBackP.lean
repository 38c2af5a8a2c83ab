/- The plain law of AdmitBack: pinned and unpinned, begun and ended: the hall as it was. No program in sight. -/
import Derived.Test.YthhfhgkkfaghoaaRef7
namespace Go.Proofs.Ythhfhgkkfaghoaa

theorem set_back {l : List C} {i : Nat} {c : C} (h : l[i]? = some c) (n : Int) : moreAt (moreAt l i n) i (-n) = l := by
  rw [moreAt_of (-n) (moreAt_get n h), moreAt_of n h, List.set_set]
  refine List.ext_getElem? fun j => ?_
  rw [List.getElem?_set]
  by_cases hij : i = j
  · subst hij
    rw [if_pos rfl, if_pos (List.getElem?_eq_some_iff.1 h).1, h]
    congr 1
    show (⟨c.who, c.claim, c.held + n + -n⟩ : C) = c
    rw [show c.held + n + -n = c.held by omega]
  · rw [if_neg hij]
theorem pin_unpin {x r : Hall} (hr : x.right = true) {who : Int} (h : pinM x who = (r, 0)) : unpinM r who = (x, 0) ∧ r.left = x.left - 1 ∧ r.right = true := by
  have hrr : r.right = true := by have := pin_right hr who; rw [h] at this; exact this
  obtain ⟨hp, ho⟩ := right_pre.1 hr
  rw [pinM, if_neg (by rw [hr]; simp)] at h
  cases hf : findC x.cs who with
  | none => rw [hf] at h; simp at h
  | some i =>
    obtain ⟨c, hc, rfl⟩ := findC_some hf
    rw [hf] at h
    simp only [hc] at h
    have hok := okC_iff.1 (okC_of hp.cs hc)
    split at h
    · simp at h
    split at h
    · simp at h
    split at h
    · simp at h
    injection h with h _
    subst h
    have hg := moreAt_get 1 hc
    have hf2 : findC (moreAt x.cs i 1) c.who = some i := findC_uniq (c := ⟨c.who, c.claim, c.held + 1⟩) (right_pre.1 hrr).1.cs hg
    refine ⟨?_, ?_, hrr⟩
    · rw [unpinM, if_neg (by rw [hrr]; simp)]
      simp only [hf2, hg]
      rw [if_neg (show ¬ c.held + 1 = 0 by omega), set_back hc 1]
    · simp only [Hall.left, (moreAt_claims 1 hc).2]; omega
theorem gone_of {x : Hall} {who : Int} (h : inC x.cs who = false) : goneC x.cs who = x.cs := by
  rw [goneC, List.filter_eq_self]
  intro c hc
  rw [inC, List.any_eq_false] at h
  simpa using h c hc
theorem goneT_of {l : List T} {who : Int} (h : inT l who = false) : goneT l who = l := by
  rw [goneT, List.filter_eq_self]
  intro c hc
  rw [inT, List.any_eq_false] at h
  simpa using h c hc
theorem begin_end {x b : Hall} (hr : x.right = true) {who claim : Int} {came : List Int} (h : beginM x who claim = (b, came, 0)) : endM b who = (x, [], 0) := by
  have hbr : b.right = true := by have := begin_right hr who claim; rw [h] at this; exact this
  obtain ⟨hp, ho⟩ := right_pre.1 hr
  rw [beginM] at h
  split at h
  · simp at h
  split at h
  · simp at h
  split at h
  · simp at h
  rename_i hin
  split at h
  · simp at h
  rw [not_or] at hin
  have hC : inC x.cs who = false := by simpa using hin.1
  have hT : inT x.q who = false := by simpa using hin.2
  have hgT : goneT (x.q ++ [⟨who, claim⟩]) who = x.q := by
    have := goneT_of hT
    rw [goneT] at this ⊢
    rw [List.filter_append, this]
    simp
  have hshut : letIn x.frames x.cs x.q = (x.cs, x.q, []) := letIn_shut ho.symm
  injection h with h _
  rw [endM, if_neg (by rw [hbr]; simp)]
  cases hop : openQ x.frames x.cs (x.q ++ [⟨who, claim⟩]) with
  | false =>
    rw [enterM] at h
    simp only [letIn_shut hop.symm] at h
    subst h
    have hi : inT (x.q ++ [(⟨who, claim⟩ : T)]) who = true := by simp [inT]
    rw [if_neg (by simp only [hi]; simp)]
    simp only [gone_of hC, hgT, enterM, hshut]
  | true =>
    have hq : x.q = [] := by
      cases hq : x.q with
      | nil => rfl
      | cons t q =>
        rw [hq] at hop
        have : openQ x.frames x.cs (t :: q) = true := hop
        rw [← hq] at this
        rw [Hall.open] at ho
        rw [ho] at this
        cases this
    rw [hq] at h hop
    rw [enterM] at h
    simp only [List.nil_append] at h hop
    rw [letIn_cons hop.symm] at h
    simp only [letIn] at h
    subst h
    have hi : inC (x.cs ++ [(⟨who, claim, 0⟩ : C)]) who = true := by simp [inC]
    rw [if_neg (by simp only [hi]; simp)]
    have hgC : goneC (x.cs ++ [(⟨who, claim, 0⟩ : C)]) who = x.cs := by
      have := gone_of hC
      rw [goneC] at this ⊢
      rw [List.filter_append, this]
      simp
    have hgn : goneT ([] : List T) who = [] := rfl
    simp only [hgC, hgn, enterM, letIn]
    rw [← hq]
end Go.Proofs.Ythhfhgkkfaghoaa
