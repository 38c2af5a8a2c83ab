/- The plain law of safety: who can be served first never hinders; so the greedy order tells whether there is any order at all. No program in sight. -/
import Derived.Test.YthhfhgkkfaghoaaBank0
namespace Go.Proofs.Ythhfhgkkfaghoaa

/-- the clients can be served in some order -/
inductive Can : Int → List C → Prop
  | nil (free : Int) : Can free []
  | step {free : Int} {c : C} {r l : List C} : l.Perm (c :: r) → c.claim - c.held ≤ free → Can (free + c.held) r → Can free l

theorem Can.perm {free : Int} {l l' : List C} (h : Can free l) (hp : l.Perm l') : Can free l' := by
  cases h with
  | nil => rw [List.nil_perm.1 hp]; exact .nil _
  | step h1 h2 h3 => exact .step (hp.symm.trans h1) h2 h3
theorem Can.mono {free free' : Int} {l : List C} (h : Can free l) (hf : free ≤ free') : Can free' l := by
  induction h generalizing free' with
  | nil => exact .nil _
  | step h1 h2 _ ih => exact .step h1 (by omega) (ih (by omega))
/-- who can be served first may be served first -/
theorem Can.first {free : Int} {l : List C} (h : Can free l) : ∀ {c : C} {r : List C}, (∀ d ∈ l, 0 ≤ d.held) → l.Perm (c :: r) → c.claim - c.held ≤ free → Can (free + c.held) r := by
  induction h with
  | nil => intro c r _ hp; exact absurd (List.nil_perm.1 hp) (by simp)
  | @step free d r' l h1 h2 h3 ih =>
    intro c r h0 hp hc
    by_cases hcd : c = d
    · subst hcd
      exact h3.perm ((h1.symm.trans hp).cons_inv)
    · have hmem : c ∈ r' := by
        have : c ∈ d :: r' := (h1.symm.trans hp).symm.subset (List.mem_cons_self ..)
        simpa [hcd] using this
      have hd : 0 ≤ d.held := h0 d (h1.symm.subset (List.mem_cons_self ..))
      have hr' := List.perm_cons_erase hmem
      have hr : r.Perm (d :: r'.erase c) := by
        have h5 : (c :: r).Perm (c :: d :: r'.erase c) := (hp.symm.trans h1).trans ((hr'.cons d).trans (List.Perm.swap ..))
        exact h5.cons_inv
      have h6 := ih (c := c) (r := r'.erase c) (fun x hx => h0 x (h1.symm.subset (List.mem_cons_of_mem _ hx))) hr' (by omega)
      refine .step hr (by have := h0 c (hp.symm.subset (List.mem_cons_self ..)); omega) ?_
      rw [show free + c.held + d.held = free + d.held + c.held from by omega]
      exact h6
theorem Can.all {free : Int} : ∀ {l : List C}, (∀ d ∈ l, 0 ≤ d.held) → (∀ d ∈ l, d.claim - d.held ≤ free) → Can free l
  | [], _, _ => .nil _
  | c :: r, h0, h1 => .step (.refl _) (h1 c (List.mem_cons_self ..)) ((Can.all (fun d hd => h0 d (List.mem_cons_of_mem _ hd)) (fun d hd => h1 d (List.mem_cons_of_mem _ hd))).mono (by have := h0 c (List.mem_cons_self ..); omega))
theorem Can.zero {free : Int} {l : List C} (h : Can free l) (h0 : ∀ d ∈ l, d.held = 0) : ∀ d ∈ l, d.claim - d.held ≤ free := by
  induction h with
  | nil => intro d hd; simp at hd
  | @step free c r l h1 h2 _ ih =>
    intro d hd
    have hc := h0 c (h1.symm.subset (List.mem_cons_self ..))
    have := h1.subset hd
    rcases List.mem_cons.1 this with rfl | hr
    · exact h2
    · have := ih (fun x hx => h0 x (h1.symm.subset (List.mem_cons_of_mem _ hx))) d hr
      omega
/-- one that gives back what it holds -/
theorem Can.back {free : Int} {l : List C} (h : Can free l) : ∀ {c : C} {r : List C}, (∀ d ∈ l, 0 ≤ d.held) → l.Perm (c :: r) → Can (free + c.held) ({ c with held := 0 } :: r) := by
  induction h with
  | nil => intro c r _ hp; exact absurd (List.nil_perm.1 hp) (by simp)
  | @step free d r' l h1 h2 h3 ih =>
    intro c r h0 hp
    by_cases hcd : c = d
    · subst hcd
      exact .step (c := { c with held := 0 }) (r := r) (.refl _) (by simp only; omega) (by simp only [Int.add_zero]; exact h3.perm ((h1.symm.trans hp).cons_inv))
    · have hmem : c ∈ r' := by
        have : c ∈ d :: r' := (h1.symm.trans hp).symm.subset (List.mem_cons_self ..)
        simpa [hcd] using this
      have hr' := List.perm_cons_erase hmem
      have hr : r.Perm (d :: r'.erase c) := by
        have h5 : (c :: r).Perm (c :: d :: r'.erase c) := (hp.symm.trans h1).trans ((hr'.cons d).trans (List.Perm.swap ..))
        exact h5.cons_inv
      have h6 := ih (c := c) (r := r'.erase c) (fun x hx => h0 x (h1.symm.subset (List.mem_cons_of_mem _ hx))) hr'
      refine .step (c := d) (r := { c with held := 0 } :: r'.erase c) ((hr.cons _).trans (List.Perm.swap ..)) (by have := h0 c (hp.symm.subset (List.mem_cons_self ..)); omega) ?_
      rw [show free + c.held + d.held = free + d.held + c.held from by omega]
      exact h6
theorem Can.gone {free : Int} {l : List C} (h : Can free l) : ∀ {c : C} {r : List C}, (∀ d ∈ l, 0 ≤ d.held) → l.Perm (c :: r) → Can (free + c.held) r := by
  induction h with
  | nil => intro c r _ hp; exact absurd (List.nil_perm.1 hp) (by simp)
  | @step free d r' l h1 h2 h3 ih =>
    intro c r h0 hp
    by_cases hcd : c = d
    · subst hcd
      exact h3.perm ((h1.symm.trans hp).cons_inv)
    · have hmem : c ∈ r' := by
        have : c ∈ d :: r' := (h1.symm.trans hp).symm.subset (List.mem_cons_self ..)
        simpa [hcd] using this
      have hr' := List.perm_cons_erase hmem
      have hr : r.Perm (d :: r'.erase c) := by
        have h5 : (c :: r).Perm (c :: d :: r'.erase c) := (hp.symm.trans h1).trans ((hr'.cons d).trans (List.Perm.swap ..))
        exact h5.cons_inv
      have h6 := ih (c := c) (r := r'.erase c) (fun x hx => h0 x (h1.symm.subset (List.mem_cons_of_mem _ hx))) hr'
      refine .step hr (by have := h0 c (hp.symm.subset (List.mem_cons_self ..)); omega) ?_
      rw [show free + c.held + d.held = free + d.held + c.held from by omega]
      exact h6

/-- the clients that were not served -/
def rem : List C → List Bool → List C
  | c :: l, b :: sv => if b then rem l sv else c :: rem l sv
  | _, _ => []
theorem rem_set : ∀ {l : List C} {sv : List Bool} {i : Nat} {c : C}, l[i]? = some c → sv[i]? = some false → (rem l sv).Perm (c :: rem l (sv.set i true))
  | d :: l, b :: sv, 0, c, h, h' => by
    simp at h h'
    subst h; subst h'
    simp [rem]
  | d :: l, b :: sv, i + 1, c, h, h' => by
    simp at h h'
    have ih := rem_set (l := l) (sv := sv) h h'
    simp only [List.set_cons_succ, rem]
    cases b
    · simpa using (ih.cons d).trans (List.Perm.swap ..)
    · simpa using ih
theorem rem_mem : ∀ {l : List C} {sv : List Bool} {c : C}, c ∈ rem l sv → ∃ i : Nat, l[i]? = some c ∧ sv[i]? = some false
  | [], sv, c, h => by cases sv <;> simp [rem] at h
  | d :: l, [], c, h => by simp [rem] at h
  | d :: l, b :: sv, c, h => by
    cases b
    · rcases List.mem_cons.1 (by simpa [rem] using h) with rfl | h
      · exact ⟨0, rfl, rfl⟩
      · obtain ⟨i, h1, h2⟩ := rem_mem h
        exact ⟨i + 1, by simpa using h1, by simpa using h2⟩
    · obtain ⟨i, h1, h2⟩ := rem_mem (by simpa [rem] using h)
      exact ⟨i + 1, by simpa using h1, by simpa using h2⟩
theorem mem_rem : ∀ {l : List C} {sv : List Bool} {i : Nat} {c : C}, l[i]? = some c → sv[i]? = some false → c ∈ rem l sv := fun h h' => (rem_set h h').symm.subset (List.mem_cons_self ..)
theorem rem_all : ∀ (l : List C), rem l (List.replicate l.length false) = l
  | [] => rfl
  | c :: l => by rw [List.length_cons, List.replicate_succ, rem]; simp [rem_all l]

/-- what the list of flags says of places -/
theorem fits_iff {free : Int} {l : List C} {sv : List Bool} {i : Nat} : fits free l sv i = true ↔ ∃ c, l[i]? = some c ∧ sv[i]? = some false ∧ c.claim - c.held ≤ free := by
  constructor
  · intro h
    unfold fits at h
    cases hc : l[i]? with
    | none => rw [hc] at h; simp at h
    | some c =>
      cases hs : sv[i]? with
      | none => rw [hc, hs] at h; simp at h
      | some b => cases b with
        | false => rw [hc, hs] at h; exact ⟨c, rfl, rfl, by simpa using h⟩
        | true => rw [hc, hs] at h; simp at h
  · rintro ⟨c, h1, h2, h3⟩; exact fits_yes h1 h2 h3

theorem ordGo_can {l : List C} (h0 : ∀ d ∈ l, 0 ≤ d.held) (n : Nat) : ∀ (free : Int) (sv : List Bool) (o : List Nat), (rem l sv).length = n → ((ordGo l n free sv o).2 = true ↔ Can free (rem l sv)) := by
  induction n with
  | zero =>
    intro free sv o hn
    rw [List.eq_nil_of_length_eq_zero hn]
    simp [ordGo, Can.nil]
  | succ n ih =>
    intro free sv o hn
    cases h : nextB free l sv with
    | none =>
      rw [ordGo_none h]
      simp only [Bool.false_eq_true, false_iff]
      intro hcan
      generalize hrem : rem l sv = m at hcan hn
      cases hcan with
      | nil => simp at hn
      | @step _ c r _ h1 h2 h3 =>
        subst hrem
        obtain ⟨i, hi, hs⟩ := rem_mem (h1.symm.subset (List.mem_cons_self ..))
        have := nextB_none.1 h i (List.getElem?_eq_some_iff.1 hi).1
        rw [fits_yes hi hs h2] at this
        cases this
    | some i =>
      rw [ordGo_some h]
      obtain ⟨hil, hfit, _⟩ := nextB_lt h
      obtain ⟨c, hc, hs, hneed⟩ := fits_iff.1 hfit
      have hp := rem_set hc hs
      have hlen : (rem l (sv.set i true)).length = n := by have := hp.length_eq; rw [hn] at this; simpa using this.symm
      rw [ih _ _ _ hlen, heldAt_of hc]
      constructor
      · intro hh; exact .step hp hneed hh
      · intro hh
        exact hh.first (fun d hd => by
          obtain ⟨j, hj, _⟩ := rem_mem hd
          exact h0 d (List.mem_of_getElem? hj)) hp hneed

theorem held_of {l : List C} (h : rightB l = true) : ∀ d ∈ l, 0 ≤ d.held := fun d hd => by
  obtain ⟨i, hi⟩ := List.mem_iff_getElem?.1 hd
  have := okC_iff.1 (okC_of h hi); omega
/-- THE LAW: Safe tells whether there is an order at all. -/
theorem safeB_iff {free : Int} {l : List C} (h : rightB l = true) (h0 : 0 ≤ free) (h1 : free ≤ 1000) : safeB free l = true ↔ Can free l := by
  rw [safeB, ordB_right h h0 h1, ordR, ordGo_can (held_of h) _ _ _ _ (by rw [rem_all]), rem_all]
theorem safeB_wrong {free : Int} {l : List C} (h : rightB l = false ∨ free < 0 ∨ 1000 < free) : safeB free l = false := by
  rw [safeB, ordB_wrong h]

/-- right, by whatever order -/
theorem rightB_perm_iff {l : List C} : rightB l = true ↔ l.length ≤ 8 ∧ (∀ c ∈ l, okC c = true) ∧ (l.map C.who).Nodup := by
  rw [rightB_iff]
  constructor
  · rintro ⟨h8, h⟩
    refine ⟨h8, fun c hc => ?_, ?_⟩
    · obtain ⟨i, hi⟩ := List.mem_iff_getElem?.1 hc
      have := h i (List.getElem?_eq_some_iff.1 hi).1
      simp only [okAt, hi, Bool.and_eq_true] at this
      exact this.1
    · rw [List.Nodup, List.pairwise_iff_getElem]
      intro i j hi hj hij
      rw [List.length_map] at hi hj
      rw [List.getElem_map, List.getElem_map]
      have := h j hj
      simp only [okAt, List.getElem?_eq_getElem hj, Bool.and_eq_true, List.all_eq_true] at this
      have h2 := this.2 (l[i]'(by omega)) (by
        rw [List.mem_iff_getElem?]
        exact ⟨i, by rw [List.getElem?_take, if_pos hij]; exact List.getElem?_eq_getElem (by omega)⟩)
      simpa using h2
  · rintro ⟨h8, h, hn⟩
    refine ⟨h8, fun k hk => ?_⟩
    refine okAt_good (List.getElem?_eq_getElem hk) (h _ (List.getElem_mem hk)) fun j d hj hd => ?_
    rw [List.Nodup, List.pairwise_iff_getElem] at hn
    have := hn j k (by rw [List.length_map]; omega) (by rw [List.length_map]; exact hk) hj
    rw [List.getElem_map, List.getElem_map] at this
    rw [List.getElem?_eq_getElem (show j < l.length by omega)] at hd
    injection hd with hd
    rw [← hd]
    exact this
theorem rightB_perm {l l' : List C} (h : l.Perm l') : rightB l = rightB l' := by
  rw [Bool.eq_iff_iff, rightB_perm_iff, rightB_perm_iff, h.length_eq, (h.map C.who).nodup_iff]
  constructor
  · rintro ⟨a, b, c⟩; exact ⟨a, fun x hx => b x (h.symm.subset hx), c⟩
  · rintro ⟨a, b, c⟩; exact ⟨a, fun x hx => b x (h.subset hx), c⟩
theorem safeB_perm {free : Int} {l l' : List C} (h : l.Perm l') : safeB free l = safeB free l' := by
  by_cases hc : rightB l = true ∧ 0 ≤ free ∧ free ≤ 1000
  · obtain ⟨hr, h0, h1⟩ := hc
    rw [Bool.eq_iff_iff, safeB_iff hr h0 h1, safeB_iff (by rw [← rightB_perm h]; exact hr) h0 h1]
    exact ⟨fun x => x.perm h, fun x => x.perm h.symm⟩
  · have hw : rightB l = false ∨ free < 0 ∨ 1000 < free := by
      cases hr : rightB l
      · exact .inl rfl
      · right
        by_cases h0 : free < 0
        · exact .inl h0
        · exact .inr (by
            rcases Int.lt_or_le 1000 free with h1 | h1
            · exact h1
            · exact absurd ⟨hr, by omega, h1⟩ hc)
    rw [safeB_wrong hw, safeB_wrong (by rw [← rightB_perm h]; exact hw)]
end Go.Proofs.Ythhfhgkkfaghoaa
