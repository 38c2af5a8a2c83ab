/- The document's Pin and Unpin are pinM and unpinM. No program in sight. -/
import Derived.Test.YthhfhgkkfaghoaaRef5
namespace Go.Proofs.Ythhfhgkkfaghoaa

theorem who_inj {l : List C} (hr : rightB l = true) {i j : Nat} {c d : C} (hc : l[i]? = some c) (hd : l[j]? = some d) (e : c.who = d.who) : i = j := by
  have h1 := findC_uniq hr hc
  have h2 := findC_uniq hr hd
  rw [e, h2] at h1
  exact (Option.some.inj h1).symm
theorem moreMap_at {l : List C} (hr : rightB l = true) {i : Nat} {c : C} (n : Int) (hc : l[i]? = some c) : moreMap l c.who n = moreAt l i n := by
  rw [moreAt_of n hc]
  refine List.ext_getElem? fun j => ?_
  rw [moreMap, List.getElem?_map, List.getElem?_set]
  by_cases hij : i = j
  · subst hij
    rw [hc, if_pos rfl, if_pos (List.getElem?_eq_some_iff.1 hc).1]
    simp [moreF]
  · rw [if_neg hij]
    cases hd : l[j]? with
    | none => rfl
    | some d =>
      have : d.who ≠ c.who := fun e => hij (who_inj hr hc hd e.symm)
      simp [moreF, this]
def moreH (x : Hall) (who n : Int) : Hall := { x with cs := moreMap x.cs who n }
theorem clientC_some {l : List C} {who : Int} {i : Nat} {c : C} (h : findC l who = some i) (hc : l[i]? = some c) : clientC l who = (c, true) := by
  rw [clientC, h]; simp [hc]
theorem clientC_true {l : List C} {who : Int} {c : C} (h : clientC l who = (c, true)) : ∃ i, findC l who = some i ∧ l[i]? = some c := by
  cases hf : findC l who with
  | none =>
    rw [clientC, hf] at h
    cases h
  | some i =>
    obtain ⟨d, hd, _⟩ := findC_some hf
    rw [clientC_some hf hd] at h
    injection h with h _
    subst h
    exact ⟨i, rfl, hd⟩
theorem moreH_right {x : Hall} (hr : x.right = true) {who : Int} {c : C} (h : clientC x.cs who = (c, true)) (hn : ¬ c.held = c.claim) : rightB (moreH x who 1).cs = true := by
  obtain ⟨i, hf, hc⟩ := clientC_true h
  obtain ⟨d, hd, he⟩ := findC_some hf
  rw [hc] at hd
  injection hd with hd
  subst hd
  subst he
  have hp := (right_pre.1 hr).1
  have hok := okC_iff.1 (okC_of hp.cs hc)
  have := more_ok hr hc (by omega)
  rw [← moreMap_at hp.cs 1 hc] at this
  exact this
def refPinM (x : Hall) (who : Int) : Hall × Int :=
  if (clientC x.cs who).2 = false then (x, 3) else if (clientC x.cs who).1.held = (clientC x.cs who).1.claim then (x, 10) else
  if refSafeB (moreH x who 1) = false then (x, 6) else (moreH x who 1, 0)
def refUnpinM (x : Hall) (who : Int) : Hall × Int :=
  if (clientC x.cs who).2 = false then (x, 3) else if (clientC x.cs who).1.held = 0 then (x, 12) else (moreH x who (-1), 0)
theorem refPin_is {x : Hall} (hr : x.right = true) (who : Int) : refPinM x who = pinM x who := by
  obtain ⟨hp, ho⟩ := right_pre.1 hr
  have hl8 := left_le hp.cs hp.heads
  rw [pinM, if_neg (by rw [hr]; simp)]
  cases hf : findC x.cs who with
  | none =>
    have e : clientC x.cs who = (⟨0, 0, 0⟩, false) := by rw [clientC, hf]
    rw [refPinM, e, if_pos rfl]
  | some i =>
    obtain ⟨c, hc, rfl⟩ := findC_some hf
    have hok := okC_iff.1 (okC_of hp.cs hc)
    rw [refPinM, clientC_some hf hc, if_neg (by simp)]
    simp only [hc]
    by_cases h1 : c.held = c.claim
    · rw [if_pos h1, if_pos (show c.claim ≤ c.held by omega)]
    · rw [if_neg h1, if_neg (show ¬ c.claim ≤ c.held by omega)]
      have hmo := more_ok hr hc (by omega)
      have hme : moreH x c.who 1 = { x with cs := moreAt x.cs i 1 } := by rw [moreH, moreMap_at hp.cs 1 hc]
      have hlf : Hall.left { x with cs := moreAt x.cs i 1 } = x.left - 1 := by
        simp only [Hall.left, (moreAt_claims 1 hc).2]; omega
      have hl := hp.left
      rw [hme, refSafeB_is hmo (by rw [hlf]; omega), hlf]
      by_cases h2 : x.left = 0
      · rw [if_pos h2, decide_eq_false (by omega), if_pos (by simp)]
      · rw [if_neg h2, decide_eq_true (by omega), Bool.true_and]
theorem refUnpin_is {x : Hall} (hr : x.right = true) (who : Int) : refUnpinM x who = unpinM x who := by
  obtain ⟨hp, ho⟩ := right_pre.1 hr
  rw [unpinM, if_neg (by rw [hr]; simp)]
  cases hf : findC x.cs who with
  | none =>
    have e : clientC x.cs who = (⟨0, 0, 0⟩, false) := by rw [clientC, hf]
    rw [refUnpinM, e, if_pos rfl]
  | some i =>
    obtain ⟨c, hc, rfl⟩ := findC_some hf
    rw [refUnpinM, clientC_some hf hc, if_neg (by simp)]
    simp only [hc]
    rw [moreH, moreMap_at hp.cs (-1) hc]
end Go.Proofs.Ythhfhgkkfaghoaa
