/- The plain law of latches: what is right stays right. No program in sight. -/
import Derived.Test.YtigffndobddflaaLat0
namespace Go.Proofs.Ytigffndobddflaa

/-- right, but for the door -/
structure PreL (l : La) : Prop where
  len : l.hs.length + l.q.length ≤ 64
  one : l.ex = true → l.hs.length = 1
  rise : l.hs.Pairwise (· < ·)
  hr : ∀ n ∈ l.hs, 0 ≤ n ∧ n ≤ 2147483647
  tk : ∀ t ∈ l.q, 0 ≤ t.who ∧ t.who ≤ 2147483647
  nd : (l.hs ++ l.q.map Wt.who).Nodup
theorem lastH_zero (hs : List Int) : lastH hs 0 = -1 := by cases hs <;> rfl
theorem okH_lt {hs : List Int} (h : ∀ j, j < hs.length → okH hs j = true) : ∀ (j i : Nat) (hj : j < hs.length) (hi : i < j), hs[i] < hs[j]
  | 0, i, _, hi => by omega
  | j + 1, i, hj, hi => by
    have h1 := h (j + 1) hj
    rw [okH_of (List.getElem?_eq_getElem hj), lastH_snoc (List.getElem?_eq_getElem (show j < hs.length by omega))] at h1
    simp only [Bool.and_eq_true, decide_eq_true_eq] at h1
    rcases Nat.lt_or_ge i j with h2 | h2
    · have := okH_lt h j i (by omega) h2
      omega
    · obtain rfl : i = j := by omega
      exact h1.1
theorem okH_all {hs : List Int} : (∀ j, j < hs.length → okH hs j = true) ↔ hs.Pairwise (· < ·) ∧ ∀ n ∈ hs, 0 ≤ n ∧ n ≤ 2147483647 := by
  constructor
  · intro h
    refine ⟨List.pairwise_iff_getElem.2 fun i j hi hj hij => okH_lt h j i hj hij, fun n hn => ?_⟩
    obtain ⟨j, hj⟩ := List.getElem?_of_mem hn
    have hl := (List.getElem?_eq_some_iff.1 hj).1
    have h1 := h j hl
    rw [okH_of hj] at h1
    simp only [Bool.and_eq_true, decide_eq_true_eq] at h1
    refine ⟨?_, h1.2⟩
    have h0 := h 0 (by omega)
    rw [okH_of (List.getElem?_eq_getElem (show 0 < hs.length by omega))] at h0
    simp only [Bool.and_eq_true, decide_eq_true_eq, lastH_zero] at h0
    rcases Nat.eq_zero_or_pos j with rfl | hp
    · rw [List.getElem?_eq_getElem hl] at hj
      injection hj with hj
      omega
    · have := okH_lt h j 0 hl hp
      have e : hs[j] = n := (List.getElem?_eq_some_iff.1 hj).2
      omega
  · rintro ⟨h1, h2⟩ j hj
    rw [okH_of (List.getElem?_eq_getElem hj)]
    have h3 := h2 _ (List.getElem_mem hj)
    rw [decide_eq_true h3.2, Bool.and_true, decide_eq_true_eq]
    cases j with
    | zero => rw [lastH_zero]; omega
    | succ j =>
      rw [lastH_snoc (List.getElem?_eq_getElem (show j < hs.length by omega))]
      exact List.pairwise_iff_getElem.1 h1 j (j + 1) (by omega) hj (by omega)
theorem la_pre {l : La} : l.right = true ↔ PreL l ∧ l.open = false := by
  rw [la_iff, okH_all, la_head_iff]
  constructor
  · rintro ⟨⟨a1, a2⟩, ⟨b1, b2⟩, a4, a7⟩
    have hq : ∀ (k : Nat) (t : Wt), l.q[k]? = some t → 0 ≤ t.who ∧ t.who ≤ 2147483647 ∧ l.hs.contains t.who = false ∧ inW (l.q.take k) t.who = false := fun k t ht => by
      have := a4 k (List.getElem?_eq_some_iff.1 ht).1
      rw [okW_of ht] at this
      simpa [and_assoc] using this
    refine ⟨⟨a1, a2, b1, b2, fun t ht => ?_, ?_⟩, a7⟩
    · obtain ⟨j, hj⟩ := List.getElem?_of_mem ht
      have := hq j t hj
      exact ⟨this.1, this.2.1⟩
    · rw [List.nodup_append]
      refine ⟨b1.imp fun h => by omega, ?_, fun a ha b hb hab => ?_⟩
      · rw [List.Nodup, List.pairwise_iff_getElem]
        intro i j hi hj hij
        rw [List.length_map] at hi hj
        rw [List.getElem_map, List.getElem_map]
        intro e
        have := (hq j _ (List.getElem?_eq_getElem hj)).2.2.2
        rw [inW, List.any_eq_false] at this
        refine this l.q[i] ?_ (by simpa using e)
        rw [List.mem_iff_getElem?]
        exact ⟨i, by rw [List.getElem?_take, if_pos hij]; exact List.getElem?_eq_getElem hi⟩
      · obtain ⟨t, ht, rfl⟩ := List.mem_map.1 hb
        obtain ⟨j, hj⟩ := List.getElem?_of_mem ht
        have := (hq j t hj).2.2.1
        subst hab
        rw [List.contains_eq_mem, decide_eq_false_iff_not] at this
        exact this ha
  · rintro ⟨⟨a1, a2, b1, b2, a4, a5⟩, a8⟩
    obtain ⟨n1, n2, n3⟩ := List.nodup_append.1 a5
    refine ⟨⟨a1, a2⟩, ⟨b1, b2⟩, fun j hj => ?_, a8⟩
    have ht := List.getElem?_eq_getElem hj
    obtain ⟨t1, t2⟩ := a4 _ (List.getElem_mem hj)
    rw [okW_of ht, decide_eq_true t1, decide_eq_true t2]
    have e1 : l.hs.contains l.q[j].who = false := by
      rw [List.contains_eq_mem, decide_eq_false_iff_not]
      intro hm
      exact n3 _ hm l.q[j].who (List.mem_map_of_mem (List.getElem_mem hj)) rfl
    have e2 : inW (l.q.take j) l.q[j].who = false := by
      rw [inW, List.any_eq_false]
      intro t ht
      obtain ⟨i, hi⟩ := List.getElem?_of_mem ht
      rw [List.getElem?_take] at hi
      split at hi
      · rename_i hij
        rw [List.Nodup, List.pairwise_iff_getElem] at n2
        have := n2 i j (by rw [List.length_map]; omega) (by rw [List.length_map]; exact hj) hij
        rw [List.getElem_map, List.getElem_map] at this
        rw [List.getElem?_eq_getElem (show i < l.q.length by omega)] at hi
        injection hi with hi
        rw [← hi]
        simpa using this
      · cases hi
    rw [e1, e2]
    rfl
theorem PreL.rising {l : La} (h : PreL l) : Rising l.hs := h.rise.imp fun h => by omega
theorem right_rising {l : La} (h : l.right = true) : Rising l.hs := (la_pre.1 h).1.rising
theorem right_len {l : La} (h : l.right = true) : l.hs.length + l.q.length ≤ 64 := (la_pre.1 h).1.len

theorem withL_perm : ∀ (l : List Int) (who : Int), (withL l who).Perm (who :: l)
  | [], _ => .refl _
  | a :: l, who => by
    rw [withL]
    split
    · exact .refl _
    · exact ((withL_perm l who).cons a).trans (List.Perm.swap ..)
theorem withL_lt {l : List Int} (h : l.Pairwise (· < ·)) {who : Int} (hn : who ∉ l) : (withL l who).Pairwise (· < ·) := by
  induction l with
  | nil => simp [withL]
  | cons a l ih =>
    have ⟨h1, h2⟩ := List.pairwise_cons.1 h
    rw [List.mem_cons, not_or] at hn
    rw [withL]
    split
    · refine List.pairwise_cons.2 ⟨fun x hx => ?_, h⟩
      rcases List.mem_cons.1 hx with rfl | hx
      · omega
      · have := h1 x hx; omega
    · rename_i hw
      refine List.pairwise_cons.2 ⟨fun x hx => ?_, ih h2 hn.2⟩
      rcases (withL_mem l who x).1 hx with rfl | hx
      · have := hn.1; omega
      · exact h1 x hx
/-- somebody comes in -/
theorem pre_in {hs : List Int} {ex : Bool} {t : Wt} {q : List Wt} (h : PreL ⟨hs, ex, t :: q⟩) (_h0 : hs = [] → ex = false) (ho : openW hs ex (t :: q) = true) : PreL ⟨withL hs t.who, ex || t.ex, q⟩ := by
  obtain ⟨a1, a2, a3, a4, a5, a6⟩ := h
  simp only at a1 a2 a3 a4 a5 a6
  rw [List.map_cons] at a6
  have hn : t.who ∉ hs := fun hm => (List.nodup_append.1 a6).2.2 _ hm t.who (by simp) rfl
  have hp : (withL hs t.who ++ q.map Wt.who).Perm (hs ++ t.who :: q.map Wt.who) :=
    ((withL_perm hs t.who).append_right _).trans (List.perm_middle.symm)
  refine ⟨?_, fun hx => ?_, withL_lt a3 hn, fun n hm => ?_, fun u hu => a5 u (by simp [hu]), hp.nodup_iff.2 a6⟩
  · simp only [withL_len, List.length_cons] at a1 ⊢; omega
  · simp only [withL_len]
    simp only [openW, Bool.or_eq_true, decide_eq_true_eq, Bool.and_eq_true, Bool.not_eq_true'] at ho
    rcases ho with ho | ho
    · omega
    · rw [ho.1, ho.2] at hx; cases hx
  · rcases (withL_mem hs t.who n).1 hm with rfl | hm
    · exact a5 t (by simp)
    · exact a4 n hm
theorem pre_letL : ∀ (q : List Wt) (hs : List Int) (ex : Bool), PreL ⟨hs, ex, q⟩ → (hs = [] → ex = false) → PreL ⟨(letL hs ex q).1, (letL hs ex q).2.1, (letL hs ex q).2.2.1⟩ ∧ openW (letL hs ex q).1 (letL hs ex q).2.1 (letL hs ex q).2.2.1 = false
  | [], hs, ex, h, _ => ⟨h, rfl⟩
  | t :: q, hs, ex, h, h0 => by
    cases ho : openW hs ex (t :: q) with
    | true =>
      have := pre_letL q _ _ (pre_in h h0 ho) (fun e => by have := withL_len hs t.who; rw [e] at this; simp at this)
      rw [letL_cons ho.symm]
      exact this
    | false =>
      rw [letL_shut ho.symm]
      exact ⟨h, ho⟩
theorem pre_empty {l : La} (h : PreL l) (e : l.hs = []) : l.ex = false := by
  cases hx : l.ex with
  | false => rfl
  | true => have := h.one hx; rw [e] at this; simp at this
theorem enterL_right {l : La} (hp : PreL l) : (enterL l).1.right = true := by
  obtain ⟨h1, h2⟩ := pre_letL l.q l.hs l.ex hp (pre_empty hp)
  exact la_pre.2 ⟨h1, h2⟩
theorem ask_pre {l : La} (hp : PreL l) {who : Int} (ex : Bool) (h1 : 0 ≤ who) (h2 : who ≤ 2147483647) (h4 : l.hs.contains who = false) (h5 : inW l.q who = false) (h6 : l.hs.length + l.q.length < 64) : PreL { l with q := l.q ++ [⟨who, ex⟩] } := by
  obtain ⟨a1, a2, a3, a4, a5, a6⟩ := hp
  refine ⟨by simp; omega, a2, a3, a4, fun t ht => ?_, ?_⟩
  · rcases List.mem_append.1 ht with h | h
    · exact a5 t h
    · simp at h; subst h; exact ⟨h1, h2⟩
  · have hmem : who ∉ l.hs ++ l.q.map Wt.who := by
      rw [List.mem_append, not_or]
      refine ⟨fun hm => ?_, fun hm => ?_⟩
      · rw [List.contains_eq_mem, decide_eq_false_iff_not] at h4
        exact h4 hm
      · obtain ⟨c, hc, e⟩ := List.mem_map.1 hm
        rw [inW, List.any_eq_false] at h5
        exact h5 c hc (by simpa using e)
    have e : l.hs ++ (l.q ++ [(⟨who, ex⟩ : Wt)]).map Wt.who = (l.hs ++ l.q.map Wt.who) ++ [who] := by simp
    show (l.hs ++ (l.q ++ [(⟨who, ex⟩ : Wt)]).map Wt.who).Nodup
    rw [e]
    refine List.nodup_append.2 ⟨a6, by simp, fun a ha b hb hab => ?_⟩
    simp at hb
    subst hb hab
    exact hmem ha
theorem ask_right {l : La} (hr : l.right = true) (who : Int) (ex : Bool) : (askM l who ex).1.right = true := by
  obtain ⟨hp, ho⟩ := la_pre.1 hr
  rw [askM]
  split
  · exact hr
  rename_i hc
  split
  · exact hr
  rename_i hin
  split
  · exact hr
  rename_i hlen
  rw [not_or, not_or] at hc
  rw [not_or] at hin
  exact enterL_right (ask_pre hp ex (by omega) (by omega) (by simpa using hin.1) (by simpa using hin.2) (by omega))
theorem goneH_sub (l : List Int) (who : Int) : (goneH l who).Sublist l := List.filter_sublist
theorem goneW_sub (l : List Wt) (who : Int) : (goneW l who).Sublist l := List.filter_sublist
theorem drop_pre {l : La} (hp : PreL l) (who : Int) : PreL (lessL l who) := by
  obtain ⟨a1, a2, a3, a4, a5, a6⟩ := hp
  have l1 := (goneH_sub l.hs who).length_le
  have l2 := (goneW_sub l.q who).length_le
  refine ⟨by simp only [lessL]; omega, fun hx => ?_, a3.sublist (goneH_sub _ _), fun n hn => a4 n ((goneH_sub _ _).subset hn), fun t ht => a5 t ((goneW_sub _ _).subset ht), ?_⟩
  · simp only [lessL] at hx ⊢
    split at hx
    · cases hx
    · have := a2 hx; omega
  · exact ((goneH_sub l.hs who).append ((goneW_sub l.q who).map Wt.who)).nodup a6
theorem drop_right {l : La} (hr : l.right = true) (who : Int) : (dropM l who).1.right = true := by
  obtain ⟨hp, ho⟩ := la_pre.1 hr
  rw [dropM]
  split
  · exact hr
  split
  · exact hr
  exact enterL_right (drop_pre hp who)
end Go.Proofs.Ytigffndobddflaa
