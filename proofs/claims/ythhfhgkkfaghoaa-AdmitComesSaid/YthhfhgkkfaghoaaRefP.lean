/- The document's Right is Hall.right. No program in sight. -/
import Derived.Test.YthhfhgkkfaghoaaRef1
namespace Go.Proofs.Ythhfhgkkfaghoaa

theorem nodup_of_count {l : List Int} : (∀ a ∈ l, l.count a = 1) → l.Nodup := by
  induction l with
  | nil => intro _; exact List.nodup_nil
  | cons a r ih =>
    intro h
    have ha := h a (List.mem_cons_self ..)
    rw [List.count_cons_self] at ha
    have hn : a ∉ r := fun hm => by have := List.count_pos_iff.2 hm; omega
    refine List.nodup_cons.2 ⟨hn, ih fun b hb => ?_⟩
    have := h b (List.mem_cons_of_mem _ hb)
    rwa [List.count_cons_of_ne (show a ≠ b from fun e => hn (by rw [e]; exact hb))] at this
theorem count_of_nodup {l : List Int} : l.Nodup → ∀ a ∈ l, l.count a = 1 := by
  induction l with
  | nil => intro _ a h; cases h
  | cons a r ih =>
    intro h b hb
    obtain ⟨h1, h2⟩ := List.nodup_cons.1 h
    rcases List.mem_cons.1 hb with rfl | hb
    · rw [List.count_cons_self]
      have : r.count b = 0 := List.count_eq_zero.2 h1
      omega
    · rw [List.count_cons_of_ne (show a ≠ b from fun e => h1 (by rw [e]; exact hb))]
      exact ih h2 b hb
def refCnt (x : Hall) (who : Int) : Nat := cntC x.cs who + cntT x.q who
theorem refCnt_is (x : Hall) (who : Int) : refCnt x who = (x.cs.map C.who ++ x.q.map T.who).count who := by
  have e : ∀ l : List Int, l.count who = l.countP (fun b => b == who) := fun l => rfl
  rw [refCnt, cntC, cntT, List.count_append, e, e, List.countP_map, List.countP_map]
  congr 1
def refOkC (x : Hall) (c : C) : Bool := okClaim x c.claim && decide (refCnt x c.who = 1)
def refOkT (x : Hall) (t : T) : Bool := decide (0 ≤ t.who) && decide (t.who ≤ 2147483647) && okClaim x t.claim && decide (refCnt x t.who = 1)
def refRightB (x : Hall) : Bool := x.heads && rightB x.cs && x.cs.all (refOkC x) && x.q.all (refOkT x) && !x.open && refSafeB x
theorem refRightB_is (x : Hall) : refRightB x = x.right := by
  rw [Bool.eq_iff_iff, right_pre, refRightB]
  simp only [Bool.and_eq_true, List.all_eq_true, Bool.not_eq_true', refOkC, refOkT, decide_eq_true_eq]
  constructor
  · rintro ⟨⟨⟨⟨⟨a1, a2⟩, a3⟩, a4⟩, a5⟩, a6⟩
    rw [refSafeB_is a2 (left_le a2 a1), Bool.and_eq_true, decide_eq_true_eq] at a6
    refine ⟨⟨a1, a2, fun c hc => (a3 c hc).1, fun t ht => ⟨(a4 t ht).1.1.1, (a4 t ht).1.1.2, (a4 t ht).1.2⟩, nodup_of_count fun a ha => ?_, a6.1, (safeB_iff a2 a6.1 (by have := left_le a2 a1; omega)).1 a6.2⟩, a5⟩
    rw [← refCnt_is]
    rcases List.mem_append.1 ha with h | h
    · obtain ⟨c, hc, rfl⟩ := List.mem_map.1 h
      exact (a3 c hc).2
    · obtain ⟨c, hc, rfl⟩ := List.mem_map.1 h
      exact (a4 c hc).2
  · rintro ⟨⟨a1, a2, a3, a4, a5, a6, a7⟩, ho⟩
    have hn := count_of_nodup a5
    refine ⟨⟨⟨⟨⟨a1, a2⟩, fun c hc => ⟨a3 c hc, ?_⟩⟩, fun t ht => ⟨⟨⟨(a4 t ht).1, (a4 t ht).2.1⟩, (a4 t ht).2.2⟩, ?_⟩⟩, ho⟩, ?_⟩
    · rw [refCnt_is]; exact hn _ (List.mem_append_left _ (List.mem_map_of_mem hc))
    · rw [refCnt_is]; exact hn _ (List.mem_append_right _ (List.mem_map_of_mem ht))
    · rw [refSafeB_is a2 (left_le a2 a1), Bool.and_eq_true, decide_eq_true_eq]
      exact ⟨a6, (safeB_iff a2 a6 (by have := left_le a2 a1; omega)).2 a7⟩
section
variable {x : Hall}
theorem refRight_c {k : Nat} {c : C} (hc : x.cs[k]? = some c) (h : refOkC x c = false) : x.right = false := by
  rw [← refRightB_is, refRightB]
  have : x.cs.all (refOkC x) = false := List.all_eq_false.2 ⟨c, List.mem_of_getElem? hc, by rw [h]; simp⟩
  rw [this]; simp
theorem refRight_t {k : Nat} {t : T} (hc : x.q[k]? = some t) (h : refOkT x t = false) : x.right = false := by
  rw [← refRightB_is, refRightB]
  have : x.q.all (refOkT x) = false := List.all_eq_false.2 ⟨t, List.mem_of_getElem? hc, by rw [h]; simp⟩
  rw [this]; simp
theorem refRight_end (h1 : x.heads = true) (h2 : rightB x.cs = true) (h3 : ∀ (j : Nat) (c : C), x.cs[j]? = some c → refOkC x c = true) (h4 : ∀ (j : Nat) (t : T), x.q[j]? = some t → refOkT x t = true) : x.right = (!x.open && refSafeB x) := by
  rw [← refRightB_is, refRightB, h1, h2]
  have e3 : x.cs.all (refOkC x) = true := List.all_eq_true.2 fun c hc => by
    obtain ⟨j, hj⟩ := List.getElem?_of_mem hc
    exact h3 j c hj
  have e4 : x.q.all (refOkT x) = true := List.all_eq_true.2 fun c hc => by
    obtain ⟨j, hj⟩ := List.getElem?_of_mem hc
    exact h4 j c hj
  rw [e3, e4]; rfl
theorem small_ref (h1 : x.heads = true) (h2 : rightB x.cs = true) (h4 : ∀ (j : Nat) (t : T), x.q[j]? = some t → refOkT x t = true) : x.small := by
  obtain ⟨a, b, c, d, e⟩ := heads_iff.1 h1
  refine ⟨a, b, c, d, by omega, smallC_of h2, fun k t ht => ?_⟩
  have := h4 k t ht
  simp only [refOkT, Bool.and_eq_true] at this
  have := okClaim_le this.1.2
  omega
end
end Go.Proofs.Ythhfhgkkfaghoaa
