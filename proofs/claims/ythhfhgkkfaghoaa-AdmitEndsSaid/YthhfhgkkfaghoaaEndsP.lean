/- The plain law of AdmitEnds: the first client of a right hall ends, and everybody comes in the order of their tickets. No program in sight. -/
import Derived.Test.YthhfhgkkfaghoaaAdmQ
namespace Go.Proofs.Ythhfhgkkfaghoaa

theorem letIn_who (f : Int) : ∀ (q : List T) (cs : List C), (letIn f cs q).2.2 ++ (letIn f cs q).2.1.map T.who = q.map T.who
  | [], cs => rfl
  | t :: q, cs => by
    cases ho : openQ f cs (t :: q) with
    | true =>
      rw [letIn_cons ho.symm]
      simp [letIn_who f q (cs ++ [⟨t.who, t.claim, 0⟩])]
    | false =>
      rw [letIn_shut ho.symm]; rfl
def Hall.total (h : Hall) : Nat := h.cs.length + h.q.length
theorem ends_some {h : Hall} (hr : h.right = true) (ht : 0 < h.total) : ∃ c r, h.cs = c :: r := by
  obtain ⟨hp, ho⟩ := right_pre.1 hr
  cases hc : h.cs with
  | cons c r => exact ⟨c, r, rfl⟩
  | nil =>
    cases hq : h.q with
    | nil => rw [Hall.total, hc, hq] at ht; simp at ht
    | cons t q =>
      have h1 := hp.tk t (by rw [hq]; simp)
      have h2 := okClaim_le h1.2.2
      have h3 := heads_iff.1 hp.heads
      rw [Hall.open, hc, hq] at ho
      simp only [openQ] at ho
      rw [decide_eq_true (by simp), decide_eq_true (by simp [claimS]; omega)] at ho
      cases ho
theorem ends_step {h : Hall} (hr : h.right = true) {c : C} {r : List C} (hc : h.cs = c :: r) :
    ∃ k ins, endM h c.who = (k, ins, 0) ∧ k.right = true ∧ k.total + 1 = h.total ∧ ins ++ k.q.map T.who = h.q.map T.who := by
  obtain ⟨hp, ho⟩ := right_pre.1 hr
  have hnd := hp.nd
  rw [hc, List.map_cons, List.cons_append, List.nodup_cons] at hnd
  have hg1 : goneC h.cs c.who = r := by
    rw [hc, goneC, List.filter_cons_of_neg (by simp), List.filter_eq_self]
    intro d hd
    have : d.who ≠ c.who := fun e => hnd.1 (List.mem_append_left _ (by rw [← e]; exact List.mem_map_of_mem hd))
    simpa using this
  have hg2 : goneT h.q c.who = h.q := by
    rw [goneT, List.filter_eq_self]
    intro d hd
    have : d.who ≠ c.who := fun e => hnd.1 (List.mem_append_right _ (by rw [← e]; exact List.mem_map_of_mem hd))
    simpa using this
  have hin : inC h.cs c.who = true := by rw [inC_iff]; exact ⟨c, by rw [hc]; simp, rfl⟩
  have he : endM h c.who = ((enterM { h with cs := r, q := h.q }).1, (enterM { h with cs := r, q := h.q }).2, 0) := by
    rw [endM, if_neg (by rw [hr]; simp), if_neg (by rw [hin]; simp), hg1, hg2]
  refine ⟨_, _, he, ?_, ?_, ?_⟩
  · have := end_right hr c.who
    rw [he] at this; exact this
  · have := (letIn_len h.frames h.q r).2
    simp only [Hall.total, enterM, hc, List.length_cons]
    omega
  · exact letIn_who h.frames h.q r
end Go.Proofs.Ythhfhgkkfaghoaa
