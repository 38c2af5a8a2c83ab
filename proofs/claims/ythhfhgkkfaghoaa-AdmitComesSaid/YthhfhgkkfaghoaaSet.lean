/- The plain law of one client turned in its place; BankFirst and BankMore. -/
import Derived.Test.YthhfhgkkfaghoaaBankLaw
namespace Go.Proofs.Ythhfhgkkfaghoaa

theorem perm_at : ∀ {l : List C} {i : Nat} {c : C}, l[i]? = some c → l.Perm (c :: l.eraseIdx i)
  | d :: l, 0, c, h => by simp at h; subst h; simp
  | d :: l, i + 1, c, h => by
    simp at h
    simpa using ((perm_at h).cons d).trans (List.Perm.swap ..)
theorem perm_set {l : List C} {i : Nat} {c : C} (d : C) (h : l[i]? = some c) : (l.set i d).Perm (d :: l.eraseIdx i) := by
  have hi : i < l.length := (List.getElem?_eq_some_iff.1 h).1
  have h1 : (l.set i d)[i]? = some d := by simp [hi]
  have := perm_at h1
  rwa [List.eraseIdx_set_eq] at this
theorem who_set {l : List C} {i : Nat} {c d : C} (h : l[i]? = some c) (hw : d.who = c.who) : (l.set i d).map C.who = l.map C.who := by
  rw [List.map_set, hw]
  have hi : i < l.length := (List.getElem?_eq_some_iff.1 h).1
  apply List.ext_getElem?
  intro j
  by_cases hj : i = j
  · subst hj
    have : l[i] = c := by rw [List.getElem?_eq_getElem hi] at h; injection h
    simp [hi, this]
  · simp [hj]
theorem right_set {l : List C} {i : Nat} {c d : C} (hr : rightB l = true) (h : l[i]? = some c) (hw : d.who = c.who) (hd : okC d = true) : rightB (l.set i d) = true := by
  rw [rightB_perm_iff] at hr ⊢
  obtain ⟨h8, hok, hn⟩ := hr
  refine ⟨by simpa using h8, fun x hx => ?_, by rw [who_set h hw]; exact hn⟩
  rcases List.mem_or_eq_of_mem_set hx with h1 | h1
  · exact hok x h1
  · rw [h1]; exact hd
theorem right_gone {l : List C} {i : Nat} {c : C} (hr : rightB l = true) (h : l[i]? = some c) : rightB (l.eraseIdx i) = true := by
  rw [rightB_perm (perm_at h)] at hr
  rw [rightB_perm_iff] at hr ⊢
  obtain ⟨h8, hok, hn⟩ := hr
  simp only [List.length_cons, List.map_cons, List.nodup_cons] at h8 hn
  exact ⟨by omega, fun x hx => hok x (List.mem_cons_of_mem _ hx), hn.2⟩
/-- one more for the first in order -/
theorem first_more {free : Int} {l : List C} {i : Nat} {c : C} (hr : rightB l = true) (h0 : 0 ≤ free) (h1 : free ≤ 1000) (hs : safeB free l = true) (hc : l[i]? = some c) (hf : c.claim - c.held ≤ free) (hl : c.held < c.claim) :
    safeB (free - 1) (l.set i { c with held := c.held + 1 }) = true := by
  have hok := okC_iff.1 (okC_of hr hc)
  have hr2 : rightB (l.set i { c with held := c.held + 1 }) = true := right_set hr hc rfl (by rw [okC_iff]; simp only; omega)
  rw [safeB_iff hr2 (by omega) (by omega)]
  rw [safeB_iff hr h0 h1] at hs
  have h2 := hs.first (held_of hr) (perm_at hc) hf
  refine .step (perm_set _ hc) (by simp only; omega) ?_
  simp only
  rw [show free - 1 + (c.held + 1) = free + c.held from by omega]
  exact h2
theorem safe_top {top : Int} {l : List C} (hr : rightB l = true) (h0 : 0 ≤ top) (h1 : top ≤ 1000) (h : ∀ (k : Nat) (c : C), l[k]? = some c → c.claim - c.held ≤ top) : safeB top l = true := by
  rw [safeB_iff hr h0 h1]
  refine Can.all (held_of hr) fun d hd => ?_
  obtain ⟨k, hk⟩ := List.mem_iff_getElem?.1 hd
  exact h k d hk
theorem safe_mono {free more : Int} {l : List C} (hr : rightB l = true) (h0 : 0 ≤ free) (hm : 0 ≤ more) (h1 : free + more ≤ 1000) (hs : safeB free l = true) : safeB (free + more) l = true := by
  rw [safeB_iff hr h0 (by omega)] at hs
  rw [safeB_iff hr (by omega) h1]
  exact hs.mono (by omega)
theorem safe_back {free : Int} {l : List C} {i : Nat} {c : C} (hr : rightB l = true) (h0 : 0 ≤ free) (h1 : free ≤ 900) (hs : safeB free l = true) (hc : l[i]? = some c) : safeB (free + c.held) (l.set i { c with held := 0 }) = true := by
  have hok := okC_iff.1 (okC_of hr hc)
  rw [safeB_iff hr h0 (by omega)] at hs
  have hr2 : rightB (l.set i { c with held := 0 }) = true := right_set hr hc rfl (by rw [okC_iff]; simp only; omega)
  rw [safeB_iff hr2 (by omega) (by omega)]
  exact (hs.back (held_of hr) (perm_at hc)).perm (perm_set _ hc).symm
theorem safe_gone {free : Int} {l : List C} {i : Nat} {c : C} (hr : rightB l = true) (h0 : 0 ≤ free) (h1 : free ≤ 900) (hs : safeB free l = true) (hc : l[i]? = some c) : safeB (free + c.held) (l.eraseIdx i) = true := by
  have hok := okC_iff.1 (okC_of hr hc)
  rw [safeB_iff hr h0 (by omega)] at hs
  rw [safeB_iff (right_gone hr hc) (by omega) (by omega)]
  exact hs.gone (held_of hr) (perm_at hc)
theorem safe_nil {free : Int} (h0 : 0 ≤ free) (h1 : free ≤ 1000) : safeB free [] = true := (safeB_iff (by decide) h0 h1).2 (.nil _)
/-- the order begins with the first that fits -/
theorem ordGo_prefix {l : List C} (n : Nat) : ∀ (free : Int) (sv : List Bool) (o : List Nat), ∃ r, (ordGo l n free sv o).1 = o ++ r := by
  induction n with
  | zero => intro free sv o; exact ⟨[], by simp [ordGo]⟩
  | succ n ih =>
    intro free sv o
    cases h : nextB free l sv with
    | none => exact ⟨[], by rw [ordGo_none h]; simp⟩
    | some i =>
      rw [ordGo_some h]
      obtain ⟨r, hr⟩ := ih (free + heldAt l i) (sv.set i true) (o ++ [i])
      exact ⟨i :: r, by rw [hr]; simp⟩
theorem ordR_first {free : Int} {l : List C} (hne : 0 < l.length) (hs : (ordR free l).2 = true) : ∃ i c r, (ordR free l).1 = i :: r ∧ l[i]? = some c ∧ c.claim - c.held ≤ free := by
  unfold ordR at hs ⊢
  obtain ⟨n, hn⟩ : ∃ n, l.length = n + 1 := ⟨l.length - 1, by omega⟩
  rw [hn] at hs ⊢
  cases h : nextB free l (List.replicate (n + 1) false) with
  | none => rw [ordGo_none h] at hs; cases hs
  | some i =>
    rw [ordGo_some h]
    obtain ⟨_, hf, _⟩ := nextB_lt h
    obtain ⟨c, hc, _, hneed⟩ := fits_iff.1 hf
    obtain ⟨r, hr⟩ := ordGo_prefix (l := l) n (free + heldAt l i) ((List.replicate (n + 1) false).set i true) ([] ++ [i])
    exact ⟨i, c, r, by rw [hr]; simp, hc, hneed⟩
end Go.Proofs.Ythhfhgkkfaghoaa
