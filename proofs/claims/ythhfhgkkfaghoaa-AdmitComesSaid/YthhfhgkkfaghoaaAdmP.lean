/- The plain law of halls: what is right stays right. No program in sight. -/
import Derived.Test.YthhfhgkkfaghoaaAdm8
namespace Go.Proofs.Ythhfhgkkfaghoaa

theorem sum_perm {l m : List Int} (h : l.Perm m) : l.sum = m.sum := by
  induction h with
  | nil => rfl
  | cons x _ ih => simp [ih]
  | swap x y l => simp; omega
  | trans _ _ ih1 ih2 => rw [ih1, ih2]
theorem Can.append {free : Int} {l : List C} (h : Can free l) : ∀ {c : C}, c.claim - c.held ≤ free + heldS l → Can free (l ++ [c]) := by
  induction h with
  | nil free =>
    intro c hc
    exact .step (c := c) (r := []) (.refl _) (by simpa [heldS] using hc) (.nil _)
  | @step free d r l h1 h2 h3 ih =>
    intro c hc
    have hs : heldS l = d.held + heldS r := by
      have := sum_perm (h1.map C.held)
      simpa [heldS] using this
    refine .step (c := d) (r := r ++ [c]) ?_ h2 (ih (by omega))
    exact (h1.append_right [c])
theorem heldS_perm {l m : List C} (h : l.Perm m) : heldS l = heldS m := by rw [heldS, heldS]; exact sum_perm (h.map C.held)
theorem Can.filter {free : Int} {l : List C} (h : Can free l) (p : C → Bool) (h0 : ∀ d ∈ l, 0 ≤ d.held) : Can (free + heldS (l.filter (fun c => !p c))) (l.filter p) := by
  induction h with
  | nil => exact .nil _
  | @step free c r l h1 h2 _ ih =>
    have hr := ih (fun d hd => h0 d (h1.symm.subset (List.mem_cons_of_mem _ hd)))
    have e1 := heldS_perm (h1.filter (fun c => !p c))
    have hp := h1.filter p
    have hnn : 0 ≤ heldS (r.filter (fun c => !p c)) := by
      have : ∀ m : List C, (∀ d ∈ m, 0 ≤ d.held) → 0 ≤ heldS m := by
        intro m
        induction m with
        | nil => intro _; simp [heldS]
        | cons a m ihm =>
          intro hm
          have := ihm (fun d hd => hm d (List.mem_cons_of_mem _ hd))
          have h2 := hm a (List.mem_cons_self ..)
          simp only [heldS, List.map_cons, List.sum_cons] at this ⊢
          omega
      exact this _ fun d hd => h0 d (h1.symm.subset (List.mem_cons_of_mem _ (List.mem_filter.1 hd).1))
    rw [e1]
    cases hpc : p c with
    | true =>
      rw [List.filter_cons_of_pos hpc] at hp
      rw [List.filter_cons_of_neg (by simp [hpc])]
      refine .step hp (by omega) ?_
      rw [show free + heldS (r.filter fun c => !p c) + c.held = free + c.held + heldS (r.filter fun c => !p c) by omega]
      exact hr
    | false =>
      rw [List.filter_cons_of_neg (by simp [hpc])] at hp
      rw [List.filter_cons_of_pos (by simp [hpc])]
      have : heldS (c :: r.filter fun c => !p c) = c.held + heldS (r.filter fun c => !p c) := by simp [heldS]
      rw [this, ← Int.add_assoc]
      exact hr.perm hp.symm
theorem heldS_split (l : List C) (p : C → Bool) : heldS l = heldS (l.filter p) + heldS (l.filter (fun c => !p c)) := by
  induction l with
  | nil => simp [heldS]
  | cons c l ih =>
    have e : heldS (c :: l) = c.held + heldS l := by simp [heldS]
    rw [e, ih]
    cases hpc : p c with
    | true => rw [List.filter_cons_of_pos hpc, List.filter_cons_of_neg (by simp [hpc])]; simp [heldS]; omega
    | false => rw [List.filter_cons_of_neg (by simp [hpc]), List.filter_cons_of_pos (by simp [hpc])]; simp [heldS]; omega
/-- one gives one back -/
theorem Can.less {free : Int} {l : List C} (h : Can free l) : ∀ {c : C} {r : List C}, l.Perm (c :: r) → Can (free + 1) (⟨c.who, c.claim, c.held - 1⟩ :: r) := by
  induction h with
  | nil => intro c r hp; exact absurd (List.nil_perm.1 hp) (by simp)
  | @step free d r' l h1 h2 h3 ih =>
    intro c r hp
    by_cases hcd : c = d
    · subst hcd
      refine .step (.refl _) (by simp only; omega) ?_
      simp only
      rw [show free + 1 + (c.held - 1) = free + c.held by omega]
      exact h3.perm ((h1.symm.trans hp).cons_inv)
    · have hmem : c ∈ r' := by
        have : c ∈ d :: r' := (h1.symm.trans hp).symm.subset (List.mem_cons_self ..)
        simpa [hcd] using this
      have hr' := List.perm_cons_erase hmem
      have hr : r.Perm (d :: r'.erase c) := by
        have h5 : (c :: r).Perm (c :: d :: r'.erase c) := (hp.symm.trans h1).trans ((hr'.cons d).trans (List.Perm.swap ..))
        exact h5.cons_inv
      have h6 := ih (c := c) (r := r'.erase c) hr'
      refine .step (c := d) (r := ⟨c.who, c.claim, c.held - 1⟩ :: r'.erase c) ((hr.cons _).trans (List.Perm.swap ..)) (by omega) ?_
      rw [show free + 1 + d.held = free + d.held + 1 by omega]
      exact h6

/-- right, but for the door -/
structure Pre (h : Hall) : Prop where
  heads : h.heads = true
  cs : rightB h.cs = true
  cl : ∀ c ∈ h.cs, okClaim h c.claim = true
  tk : ∀ t ∈ h.q, 0 ≤ t.who ∧ t.who ≤ 2147483647 ∧ okClaim h t.claim = true
  nd : (h.cs.map C.who ++ h.q.map T.who).Nodup
  left : 0 ≤ h.left
  can : Can h.left h.cs
theorem left_le {h : Hall} (hr : rightB h.cs = true) (hh : h.heads = true) : h.left ≤ 8 := by
  have := heldS_le (smallC_of hr) h.cs.length
  rw [List.take_length] at this
  have := heads_iff.1 hh
  unfold Hall.left
  omega
theorem right_pre {h : Hall} : h.right = true ↔ Pre h ∧ h.open = false := by
  rw [right_iff]
  constructor
  · rintro ⟨a1, a2, a3, a4, a5, a6, a7⟩
    have hl := left_le a2 a1
    obtain ⟨b1, b2, b3⟩ := rightB_perm_iff.1 a2
    have hq : ∀ (k : Nat) (t : T), h.q[k]? = some t → 0 ≤ t.who ∧ t.who ≤ 2147483647 ∧ okClaim h t.claim = true ∧ inC h.cs t.who = false ∧ inT (h.q.take k) t.who = false := fun k t ht => by
      have := a4 k (List.getElem?_eq_some_iff.1 ht).1
      rw [okT_of ht] at this
      simpa [and_assoc] using this
    refine ⟨⟨a1, a2, fun c hc => ?_, fun t ht => ?_, ?_, a5, (safeB_iff a2 a5 (by omega)).1 a6⟩, a7⟩
    · obtain ⟨j, hj⟩ := List.getElem?_of_mem hc
      exact a3 j c hj
    · obtain ⟨j, hj⟩ := List.getElem?_of_mem ht
      have := hq j t hj
      exact ⟨this.1, this.2.1, this.2.2.1⟩
    · rw [List.nodup_append]
      refine ⟨b3, ?_, fun a ha b hb hab => ?_⟩
      · rw [List.Nodup, List.pairwise_iff_getElem]
        intro i j hi hj hij
        rw [List.length_map] at hi hj
        rw [List.getElem_map, List.getElem_map]
        intro e
        have := (hq j _ (List.getElem?_eq_getElem hj)).2.2.2.2
        rw [inT, List.any_eq_false] at this
        refine this h.q[i] ?_ (by simpa using e)
        rw [List.mem_iff_getElem?]
        exact ⟨i, by rw [List.getElem?_take, if_pos hij]; exact List.getElem?_eq_getElem hi⟩
      · obtain ⟨c, hc, rfl⟩ := List.mem_map.1 ha
        obtain ⟨t, ht, rfl⟩ := List.mem_map.1 hb
        obtain ⟨j, hj⟩ := List.getElem?_of_mem ht
        have := (hq j t hj).2.2.2.1
        rw [inC, List.any_eq_false] at this
        exact this c hc (by simpa using hab)
  · rintro ⟨⟨a1, a2, a3, a4, a5, a6, a7⟩, a8⟩
    have hl := left_le a2 a1
    obtain ⟨n1, n2, n3⟩ := List.nodup_append.1 a5
    refine ⟨a1, a2, fun j c hc => a3 c (List.mem_of_getElem? hc), fun j hj => ?_, a6, (safeB_iff a2 a6 (by omega)).2 a7, a8⟩
    have ht := List.getElem?_eq_getElem hj
    obtain ⟨t1, t2, t3⟩ := a4 _ (List.getElem_mem hj)
    rw [okT_of ht, decide_eq_true t1, decide_eq_true t2, t3]
    have e1 : inC h.cs h.q[j].who = false := by
      rw [inC, List.any_eq_false]
      intro c hc
      have := n3 c.who (List.mem_map_of_mem hc) h.q[j].who (List.mem_map_of_mem (List.getElem_mem hj))
      simpa using this
    have e2 : inT (h.q.take j) h.q[j].who = false := by
      rw [inT, List.any_eq_false]
      intro t ht
      obtain ⟨i, hi⟩ := List.getElem?_of_mem ht
      rw [List.getElem?_take] at hi
      split at hi
      · rename_i hij
        rw [List.Nodup, List.pairwise_iff_getElem] at n2
        have := n2 i j (by rw [List.length_map]; omega) (by rw [List.length_map]; exact hj) hij
        rw [List.getElem_map, List.getElem_map] at this
        rw [List.getElem?_eq_getElem (show i < h.q.length by omega)] at hi
        injection hi with hi
        rw [← hi]
        simpa using this
      · cases hi
    rw [e1, e2]
    rfl

theorem pre_let {f b : Int} {cs : List C} {t : T} {q : List T} (h : Pre ⟨f, b, cs, t :: q⟩) (hl : cs.length ≤ 7) : Pre ⟨f, b, cs ++ [⟨t.who, t.claim, 0⟩], q⟩ := by
  obtain ⟨a1, a2, a3, a4, a5, a6, a7⟩ := h
  obtain ⟨t1, t2, t3⟩ := a4 t (by simp)
  obtain ⟨b1, b2, b3⟩ := rightB_perm_iff.1 a2
  have hc := okClaim_le t3
  have hh := heads_iff.1 a1
  simp only at hh hc
  have hnd : ((cs ++ [(⟨t.who, t.claim, 0⟩ : C)]).map C.who ++ q.map T.who).Nodup := by simpa using a5
  have hleft : Hall.left ⟨f, b, cs ++ [⟨t.who, t.claim, 0⟩], q⟩ = Hall.left ⟨f, b, cs, t :: q⟩ := by
    simp [Hall.left, heldS]
  refine ⟨heads_iff.2 ?_, rightB_perm_iff.2 ⟨by simp; omega, fun c hc' => ?_, (List.nodup_append.1 hnd).1⟩, fun c hc' => ?_, fun u hu => a4 u (by simp [hu]), hnd, by rw [hleft]; exact a6, ?_⟩
  · simp at hh ⊢; omega
  · rcases List.mem_append.1 hc' with h | h
    · exact b2 c h
    · simp at h; subst h
      rw [okC_iff]; simp only; omega
  · rcases List.mem_append.1 hc' with h | h
    · exact a3 c h
    · simp at h; subst h; exact t3
  · rw [hleft]
    refine a7.append ?_
    simp only [Hall.left]
    omega
theorem pre_letIn (f b : Int) : ∀ (q : List T) (cs : List C), Pre ⟨f, b, cs, q⟩ → Pre ⟨f, b, (letIn f cs q).1, (letIn f cs q).2.1⟩ ∧ openQ f (letIn f cs q).1 (letIn f cs q).2.1 = false
  | [], cs, h => ⟨h, rfl⟩
  | t :: q, cs, h => by
    cases ho : openQ f cs (t :: q) with
    | true =>
      have h7 : cs.length ≤ 7 := by
        simp only [openQ, Bool.and_eq_true, decide_eq_true_eq] at ho
        exact ho.1
      have := pre_letIn f b q _ (pre_let h h7)
      rw [letIn_cons ho.symm]
      exact this
    | false =>
      rw [letIn_shut ho.symm]
      exact ⟨h, ho⟩
theorem enter_right {h : Hall} (hp : Pre h) : (enterM h).1.right = true := by
  obtain ⟨h1, h2⟩ := pre_letIn h.frames h.budget h.q h.cs hp
  exact right_pre.2 ⟨h1, h2⟩

theorem begin_pre {h : Hall} (hp : Pre h) {who claim : Int} (h1 : 0 ≤ who) (h2 : who ≤ 2147483647) (h3 : okClaim h claim = true) (h4 : inC h.cs who = false) (h5 : inT h.q who = false) (h6 : h.cs.length + h.q.length < 40) : Pre { h with q := h.q ++ [⟨who, claim⟩] } := by
  obtain ⟨a1, a2, a3, a4, a5, a6, a7⟩ := hp
  have hh := heads_iff.1 a1
  refine ⟨heads_iff.2 (by simp; omega), a2, a3, fun t ht => ?_, ?_, a6, a7⟩
  · rcases List.mem_append.1 ht with h | h
    · exact a4 t h
    · simp at h; subst h; exact ⟨h1, h2, h3⟩
  · have hmem : who ∉ h.cs.map C.who ++ h.q.map T.who := by
      rw [List.mem_append, not_or]
      refine ⟨fun hm => ?_, fun hm => ?_⟩
      · obtain ⟨c, hc, e⟩ := List.mem_map.1 hm
        rw [inC, List.any_eq_false] at h4
        exact h4 c hc (by simpa using e)
      · obtain ⟨c, hc, e⟩ := List.mem_map.1 hm
        rw [inT, List.any_eq_false] at h5
        exact h5 c hc (by simpa using e)
    have e : h.cs.map C.who ++ (h.q ++ [(⟨who, claim⟩ : T)]).map T.who = (h.cs.map C.who ++ h.q.map T.who) ++ [who] := by simp
    show (h.cs.map C.who ++ (h.q ++ [(⟨who, claim⟩ : T)]).map T.who).Nodup
    rw [e]
    refine List.nodup_append.2 ⟨a5, by simp, fun a ha b hb hab => ?_⟩
    simp at hb
    subst hb hab
    exact hmem ha
theorem begin_right {h : Hall} (hr : h.right = true) (who claim : Int) : (beginM h who claim).1.right = true := by
  obtain ⟨hp, ho⟩ := right_pre.1 hr
  rw [beginM]
  split
  · exact hr
  rename_i hc
  split
  · exact hr
  rename_i hcl
  split
  · exact hr
  rename_i hin
  split
  · exact hr
  rename_i hlen
  rw [not_or, not_or] at hc
  rw [not_or] at hin
  exact enter_right (begin_pre hp (by omega) (by omega) (by simpa using hcl) (by simpa using hin.1) (by simpa using hin.2) (by omega))

theorem end_pre {h : Hall} (hp : Pre h) (who : Int) : Pre { h with cs := goneC h.cs who, q := goneT h.q who } := by
  obtain ⟨a1, a2, a3, a4, a5, a6, a7⟩ := hp
  have hh := heads_iff.1 a1
  obtain ⟨b1, b2, b3⟩ := rightB_perm_iff.1 a2
  have s1 : (goneC h.cs who).Sublist h.cs := List.filter_sublist
  have s2 : (goneT h.q who).Sublist h.q := List.filter_sublist
  have l1 := s1.length_le
  have l2 := s2.length_le
  have hnd : ((goneC h.cs who).map C.who ++ (goneT h.q who).map T.who).Nodup := ((s1.map C.who).append (s2.map T.who)).nodup a5
  have h0 : ∀ d ∈ h.cs, 0 ≤ d.held := held_of a2
  have hs := heldS_split h.cs (fun c => !decide (c.who = who))
  have hf := a7.filter (fun c => !decide (c.who = who)) h0
  have hleft : Hall.left { h with cs := goneC h.cs who, q := goneT h.q who } = h.left + heldS (h.cs.filter fun c => !(!decide (c.who = who))) := by
    show h.frames - heldS (h.cs.filter fun c => !decide (c.who = who)) = h.frames - heldS h.cs + _
    omega
  have hnn : 0 ≤ heldS (h.cs.filter fun c => !(!decide (c.who = who))) := by
    have hr2 : smallC (h.cs.filter fun c => !(!decide (c.who = who))) := fun k c hc => by
      obtain ⟨j, hj⟩ := List.getElem?_of_mem ((List.mem_filter.1 (List.mem_of_getElem? hc)).1)
      exact smallC_of a2 j c hj
    have := heldS_le hr2 (h.cs.filter fun c => !(!decide (c.who = who))).length
    rw [List.take_length] at this
    exact this.1
  refine ⟨heads_iff.2 (by simp only; omega), rightB_perm_iff.2 ⟨by simp only; omega, fun c hc => b2 c (s1.subset hc), (List.nodup_append.1 hnd).1⟩, fun c hc => a3 c (s1.subset hc), fun t ht => a4 t (s2.subset ht), hnd, by rw [hleft]; omega, by rw [hleft]; exact hf⟩
theorem end_right {h : Hall} (hr : h.right = true) (who : Int) : (endM h who).1.right = true := by
  obtain ⟨hp, ho⟩ := right_pre.1 hr
  rw [endM]
  split
  · exact hr
  split
  · exact hr
  exact enter_right (end_pre hp who)

theorem moreAt_get {l : List C} {i : Nat} {c : C} (n : Int) (h : l[i]? = some c) : (moreAt l i n)[i]? = some ⟨c.who, c.claim, c.held + n⟩ := by
  rw [moreAt_of n h, List.getElem?_set_self (List.getElem?_eq_some_iff.1 h).1]
theorem moreAt_who {l : List C} {i : Nat} {c : C} (n : Int) (h : l[i]? = some c) : (moreAt l i n).map C.who = l.map C.who := by
  rw [moreAt_of n h]; exact who_set h rfl
theorem claimS_perm {l m : List C} (h : l.Perm m) : claimS l = claimS m := by rw [claimS, claimS]; exact sum_perm (h.map C.claim)
theorem moreAt_claims {l : List C} {i : Nat} {c : C} (n : Int) (h : l[i]? = some c) : claimS (moreAt l i n) = claimS l ∧ heldS (moreAt l i n) = heldS l + n := by
  rw [moreAt_of n h, claimS_perm (perm_set _ h), heldS_perm (perm_set _ h), claimS_perm (perm_at h), heldS_perm (perm_at h)]
  simp [claimS, heldS]
  omega
theorem open_more {h : Hall} {i : Nat} {c : C} (n : Int) (hc : h.cs[i]? = some c) : Hall.open { h with cs := moreAt h.cs i n } = h.open := by
  simp only [Hall.open]
  cases h.q with
  | nil => rfl
  | cons t q => simp only [openQ, moreAt_len, (moreAt_claims n hc).1]
theorem more_right {h : Hall} (hr : h.right = true) {i : Nat} {c : C} (n : Int) (hc : h.cs[i]? = some c) (h0 : 0 ≤ c.held + n) (h1 : c.held + n ≤ c.claim) (hl : 0 ≤ h.left - n) (hs : Can (h.left - n) (moreAt h.cs i n)) : Hall.right { h with cs := moreAt h.cs i n } = true := by
  obtain ⟨⟨a1, a2, a3, a4, a5, a6, a7⟩, ho⟩ := right_pre.1 hr
  have hok := okC_iff.1 (okC_of a2 hc)
  have hleft : Hall.left { h with cs := moreAt h.cs i n } = h.left - n := by
    simp only [Hall.left, (moreAt_claims n hc).2]; omega
  refine right_pre.2 ⟨⟨?_, ?_, fun d hd => ?_, a4, ?_, by rw [hleft]; exact hl, by rw [hleft]; exact hs⟩, by rw [open_more n hc]; exact ho⟩
  · have := heads_iff.1 a1
    refine heads_iff.2 ?_
    simp only [moreAt_len]
    exact this
  · rw [moreAt_of n hc]
    exact right_set a2 hc rfl (by rw [okC_iff]; simp only; omega)
  · rw [moreAt_of n hc] at hd
    rcases List.mem_or_eq_of_mem_set hd with h2 | h2
    · exact a3 d h2
    · rw [h2]; exact a3 c (List.mem_of_getElem? hc)
  · show ((moreAt h.cs i n).map C.who ++ h.q.map T.who).Nodup
    rw [moreAt_who n hc]; exact a5
theorem more_ok {h : Hall} (hr : h.right = true) {i : Nat} {c : C} (hc : h.cs[i]? = some c) (h1 : c.held < c.claim) : rightB (moreAt h.cs i 1) = true := by
  have a2 := (right_pre.1 hr).1.cs
  have hok := okC_iff.1 (okC_of a2 hc)
  rw [moreAt_of 1 hc]
  exact right_set a2 hc rfl (by rw [okC_iff]; simp only; omega)
theorem pin_right {h : Hall} (hr : h.right = true) (who : Int) : (pinM h who).1.right = true := by
  obtain ⟨hp, ho⟩ := right_pre.1 hr
  have hl8 := left_le hp.cs hp.heads
  rw [pinM]
  split
  · exact hr
  split
  · exact hr
  rename_i i hi
  split
  · exact hr
  rename_i c hc
  have hok := okC_iff.1 (okC_of hp.cs hc)
  split
  · exact hr
  split
  · exact hr
  split
  · exact hr
  rename_i h1 h2 h3
  have hl := hp.left
  have hs : safeB (h.left - 1) (moreAt h.cs i 1) = true := by simpa using h3
  exact more_right hr 1 hc (by omega) (by omega) (by omega) ((safeB_iff (more_ok hr hc (by omega)) (by omega) (by omega)).1 hs)
theorem unpin_right {h : Hall} (hr : h.right = true) (who : Int) : (unpinM h who).1.right = true := by
  obtain ⟨hp, ho⟩ := right_pre.1 hr
  rw [unpinM]
  split
  · exact hr
  split
  · exact hr
  rename_i i hi
  split
  · exact hr
  rename_i c hc
  have hok := okC_iff.1 (okC_of hp.cs hc)
  split
  · exact hr
  rename_i h1
  have hl := hp.left
  refine more_right hr (-1) hc (by omega) (by omega) (by omega) ?_
  have := hp.can.less (perm_at hc)
  rw [moreAt_of (-1) hc]
  rw [show h.left - -1 = h.left + 1 by omega]
  exact this.perm (perm_set _ hc).symm
end Go.Proofs.Ythhfhgkkfaghoaa
