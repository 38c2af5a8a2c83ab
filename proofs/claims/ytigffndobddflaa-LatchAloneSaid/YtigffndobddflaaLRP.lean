/- The document's Right is La.right. No program in sight. -/
import Derived.Test.YtigffndobddflaaLR0
namespace Go.Proofs.Ytigffndobddflaa

theorem nodup_of_count {l : List Int} : (∀ a ∈ l, l.count a = 1) → l.Nodup := by
  induction l with
  | nil => intro _; exact List.nodup_nil
  | cons a r ih =>
    intro h
    have ha := h a (List.mem_cons_self ..)
    rw [List.count_cons_self] at ha
    have hn : a ∉ r := fun hm => by have := List.count_pos_iff.2 hm; omega
    refine List.nodup_cons.2 ⟨hn, ih fun b hb => ?_⟩
    have := h b (List.mem_cons_of_mem _ hb)
    rwa [List.count_cons_of_ne (show a ≠ b from fun e => hn (by rw [e]; exact hb))] at this
theorem count_of_nodup {l : List Int} : l.Nodup → ∀ a ∈ l, l.count a = 1 := by
  induction l with
  | nil => intro _ a h; cases h
  | cons a r ih =>
    intro h b hb
    obtain ⟨h1, h2⟩ := List.nodup_cons.1 h
    rcases List.mem_cons.1 hb with rfl | hb
    · rw [List.count_cons_self]
      have : r.count b = 0 := List.count_eq_zero.2 h1
      omega
    · rw [List.count_cons_of_ne (show a ≠ b from fun e => h1 (by rw [e]; exact hb))]
      exact ih h2 b hb
theorem cntL_is (l : La) (who : Int) : cntL l who = (l.hs ++ l.q.map Wt.who).count who := by
  have e : ∀ l : List Int, l.count who = l.countP (fun b => b == who) := fun l => rfl
  rw [cntL, cntH, cntW, List.count_append, e, e, List.countP_map]
  congr 1
/-- the document's look at a holder -/
def okHD (l : La) (k : Nat) : Bool := match l.hs[k]? with
  | some n => decide (0 ≤ n) && decide (n ≤ 2147483647) && decide (cntL l n = 1) && decide (lastH l.hs k ≤ n)
  | none => false
theorem okHD_of {l : La} {k : Nat} {n : Int} (h : l.hs[k]? = some n) : okHD l k = (decide (0 ≤ n) && decide (n ≤ 2147483647) && decide (cntL l n = 1) && decide (lastH l.hs k ≤ n)) := by simp [okHD, h]
/-- the document's look at a wait -/
def okWD (l : La) (k : Nat) : Bool := match l.q[k]? with
  | some t => decide (0 ≤ t.who) && decide (t.who ≤ 2147483647) && decide (cntL l t.who = 1)
  | none => false
theorem okWD_of {l : La} {k : Nat} {t : Wt} (h : l.q[k]? = some t) : okWD l k = (decide (0 ≤ t.who) && decide (t.who ≤ 2147483647) && decide (cntL l t.who = 1)) := by simp [okWD, h]
def La.rightD (l : La) : Bool := l.head && !l.open && (List.range l.hs.length).all (okHD l) && (List.range l.q.length).all (okWD l)
theorem rise_of {hs : List Int} (h : ∀ j (hj : j < hs.length), lastH hs j ≤ hs[j]) : hs.Pairwise (· ≤ ·) := by
  refine List.pairwise_iff_getElem.2 ?_
  have key : ∀ (j i : Nat) (hj : j < hs.length) (hi : i < j), hs[i] ≤ hs[j] := by
    intro j
    induction j with
    | zero => intro i _ hi; omega
    | succ j ih =>
      intro i hj hi
      have h1 := h (j + 1) hj
      rw [lastH_snoc (List.getElem?_eq_getElem (show j < hs.length by omega))] at h1
      rcases Nat.lt_or_ge i j with h2 | h2
      · have := ih i (by omega) h2
        omega
      · obtain rfl : i = j := by omega
        exact h1
  exact fun i j hi hj hij => key j i hj hij
theorem rightD_is (l : La) : l.rightD = l.right := by
  rw [Bool.eq_iff_iff, la_pre, La.rightD]
  simp only [Bool.and_eq_true, List.all_eq_true, Bool.not_eq_true', List.mem_range]
  rw [la_head_iff]
  constructor
  · rintro ⟨⟨⟨⟨a1, a2⟩, a3⟩, a4⟩, a5⟩
    have q4 : ∀ j (hj : j < l.hs.length), 0 ≤ l.hs[j] ∧ l.hs[j] ≤ 2147483647 ∧ cntL l l.hs[j] = 1 ∧ lastH l.hs j ≤ l.hs[j] := fun j hj => by
      have := a4 j hj
      rw [okHD_of (List.getElem?_eq_getElem hj)] at this
      simpa [and_assoc] using this
    have q5 : ∀ j (hj : j < l.q.length), 0 ≤ l.q[j].who ∧ l.q[j].who ≤ 2147483647 ∧ cntL l l.q[j].who = 1 := fun j hj => by
      have := a5 j hj
      rw [okWD_of (List.getElem?_eq_getElem hj)] at this
      simpa [and_assoc] using this
    have hnd : (l.hs ++ l.q.map Wt.who).Nodup := nodup_of_count fun a ha => by
      rw [← cntL_is]
      rcases List.mem_append.1 ha with h | h
      · obtain ⟨j, hj, rfl⟩ := List.mem_iff_getElem.1 h
        exact (q4 j hj).2.2.1
      · obtain ⟨t, ht, rfl⟩ := List.mem_map.1 h
        obtain ⟨j, hj, rfl⟩ := List.mem_iff_getElem.1 ht
        exact (q5 j hj).2.2
    have hle := rise_of fun j hj => (q4 j hj).2.2.2
    refine ⟨⟨a1, a2, ?_, fun n hn => ?_, fun t ht => ?_, hnd⟩, a3⟩
    · have hn1 := (List.nodup_append.1 hnd).1
      rw [List.Nodup] at hn1
      exact (hle.and hn1).imp fun h => by omega
    · obtain ⟨j, hj, rfl⟩ := List.mem_iff_getElem.1 hn
      exact ⟨(q4 j hj).1, (q4 j hj).2.1⟩
    · obtain ⟨j, hj, rfl⟩ := List.mem_iff_getElem.1 ht
      exact ⟨(q5 j hj).1, (q5 j hj).2.1⟩
  · rintro ⟨⟨a1, a2, b1, b2, a4, a5⟩, ho⟩
    have hn := count_of_nodup a5
    refine ⟨⟨⟨⟨a1, a2⟩, ho⟩, fun j hj => ?_⟩, fun j hj => ?_⟩
    · have h2 := b2 _ (List.getElem_mem hj)
      have h3 : lastH l.hs j ≤ l.hs[j] := by
        cases j with
        | zero => rw [lastH_zero]; omega
        | succ j =>
          rw [lastH_snoc (List.getElem?_eq_getElem (show j < l.hs.length by omega))]
          have := List.pairwise_iff_getElem.1 b1 j (j + 1) (by omega) hj (by omega)
          omega
      rw [okHD_of (List.getElem?_eq_getElem hj), decide_eq_true h2.1, decide_eq_true h2.2, decide_eq_true h3, cntL_is, decide_eq_true (hn _ (List.mem_append_left _ (List.getElem_mem hj)))]
      rfl
    · have h2 := a4 _ (List.getElem_mem hj)
      rw [okWD_of (List.getElem?_eq_getElem hj), decide_eq_true h2.1, decide_eq_true h2.2, cntL_is, decide_eq_true (hn _ (List.mem_append_right _ (List.mem_map_of_mem (List.getElem_mem hj))))]
      rfl
section
variable {l : La}
theorem rD_head (h : l.head = false) : l.right = false := by rw [← rightD_is]; simp [La.rightD, h]
theorem rD_open (h : l.open = true) : l.right = false := by rw [← rightD_is]; simp [La.rightD, h]
theorem rD_hs {k : Nat} (hk : k < l.hs.length) (h : okHD l k = false) : l.right = false := by
  rw [← rightD_is]
  have : (List.range l.hs.length).all (okHD l) = false := by
    rw [List.all_eq_false]
    exact ⟨k, List.mem_range.2 hk, by rw [h]; simp⟩
  simp [La.rightD, this]
theorem rD_q {k : Nat} (hk : k < l.q.length) (h : okWD l k = false) : l.right = false := by
  rw [← rightD_is]
  have : (List.range l.q.length).all (okWD l) = false := by
    rw [List.all_eq_false]
    exact ⟨k, List.mem_range.2 hk, by rw [h]; simp⟩
  simp [La.rightD, this]
theorem rD_end (h1 : l.head = true) (h0 : l.open = false) (h2 : ∀ j, j < l.hs.length → okHD l j = true) (h3 : ∀ j, j < l.q.length → okWD l j = true) : l.right = true := by
  rw [← rightD_is]
  have e1 : (List.range l.hs.length).all (okHD l) = true := List.all_eq_true.2 fun k hk => h2 k (List.mem_range.1 hk)
  have e2 : (List.range l.q.length).all (okWD l) = true := List.all_eq_true.2 fun k hk => h3 k (List.mem_range.1 hk)
  simp [La.rightD, h1, h0, e1, e2]
end
end Go.Proofs.Ytigffndobddflaa
