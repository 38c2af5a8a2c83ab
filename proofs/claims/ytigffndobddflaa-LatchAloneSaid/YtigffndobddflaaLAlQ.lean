/- The plain words of LatchAlone, further: who comes in, and how many write. -/
import Derived.Test.YtigffndobddflaaLAlP
namespace Go.Proofs.Ytigffndobddflaa

section
variable {hs : List Int} {ex : Bool} {t : Wt} {q : List Wt} {si : Nat → Nat} {wr ho : Nat → Bool} {clk : Nat}
theorem Al.letin (h : Al ⟨hs, ex, t :: q⟩ si wr ho clk) (hop : true = openW hs ex (t :: q)) :
    ∃ n : Nat, n < 10 ∧ t.who = (n : Int) ∧ ho n = false ∧ si n ≠ 0 ∧ (∀ k, k < 10 → si k ≠ 0 → si k < si n → (if k = n then true else ho k) = true) ∧
      Al ⟨withL hs t.who, ex || t.ex, q⟩ si wr (fun j => if j = n then true else ho j) clk := by
  obtain ⟨h0, h1⟩ := h.qr t (List.mem_cons_self ..)
  obtain ⟨n, hn⟩ : ∃ n : Nat, t.who = (n : Int) := ⟨t.who.toNat, by omega⟩
  have hn10 : n < 10 := by omega
  have htn : t.who.toNat = n := by omega
  have hnd := h.pre.nd
  simp only [List.map_cons] at hnd
  have hnd2 := List.nodup_append.1 hnd
  have hnh : (n : Int) ∉ hs := fun e => hnd2.2.2 _ e t.who (List.mem_cons_self ..) hn.symm
  have hnq : ∀ u ∈ q, u.who ≠ t.who := fun u hu e => (List.nodup_cons.1 hnd2.2.1).1 (List.mem_map.2 ⟨u, hu, e⟩)
  have hord := List.pairwise_cons.1 h.ord2
  have hemp := pre_empty h.pre
  simp only at hemp
  have hox : (hs = [] ∧ ex = false) ∨ (ex = false ∧ t.ex = false) := by
    have h' := hop.symm
    simp only [openW, Bool.or_eq_true, decide_eq_true_eq, Bool.and_eq_true, Bool.not_eq_true'] at h'
    rcases h' with h2 | h2
    · have e := List.eq_nil_of_length_eq_zero h2
      exact .inl ⟨e, hemp e⟩
    · exact .inr h2
  have hex : ex = false := by rcases hox with h | h; exact h.2; exact h.1
  have hmem : ∀ x, x ∈ withL hs t.who ↔ x = t.who ∨ x ∈ hs := fun x => withL_mem hs t.who x
  refine ⟨n, hn10, hn, ?_, ?_, ?_, ⟨pre_in h.pre hemp hop.symm, ?_, fun u hu => h.qr u (List.mem_cons_of_mem _ hu), ?_, ?_, h.sic, ?_, fun u hu => h.ww u (List.mem_cons_of_mem _ hu), ?_, hord.2⟩⟩
  · rw [h.hold n hn10]
    exact decide_eq_false hnh
  · exact (h.si0 n hn10).2 (.inr (by simp [hn]))
  · intro k hk hs0 hlt
    by_cases hkn : k = n
    · rw [if_pos hkn]
    · rw [if_neg hkn, h.hold k hk]
      rcases (h.si0 k hk).1 hs0 with e | e
      · exact decide_eq_true e
      · simp only [List.map_cons, List.mem_cons] at e
        rcases e with e | e
        · exact absurd (by omega) hkn
        · obtain ⟨u, hu, e⟩ := List.mem_map.1 e
          have h2 := hord.1 u hu
          rw [htn, show u.who.toNat = k by omega] at h2
          omega
  · intro x hx
    rcases (hmem x).1 hx with rfl | hx
    · exact ⟨h0, h1⟩
    · exact h.hr x hx
  · intro j hj
    simp only [hmem]
    by_cases hjn : j = n
    · subst hjn; simp [hn]
    · rw [if_neg hjn, h.hold j hj]
      have : (j : Int) ≠ t.who := by omega
      simp [this]
  · intro j hj
    rw [h.si0 j hj]
    simp only [hmem, List.map_cons, List.mem_cons]
    constructor
    · rintro (h | h | h)
      · exact .inl (.inr h)
      · exact .inl (.inl h)
      · exact .inr h
    · rintro ((h | h) | h)
      · exact .inr (.inl h)
      · exact .inl h
      · exact .inr (.inr h)
  · intro j hj hjh
    have hww := h.ww t (List.mem_cons_self ..)
    rw [htn] at hww
    simp only [hmem] at hjh
    simp only [hex, Bool.false_or]
    rcases hjh with e | e
    · rw [show j = n by omega]; exact hww
    · rcases hox with h2 | h2
      · rw [h2.1] at e; cases e
      · rw [h2.2]
        have := h.wh j hj e
        simp only at this
        rw [this, hex]
  · intro x hx u hu
    rcases (hmem x).1 hx with rfl | hx
    · exact hord.1 u hu
    · exact h.ord1 x hx u (List.mem_cons_of_mem _ hu)
end
theorem ask_came {x : La} (h : x.right = true) (who : Int) (ex : Bool) : (enterL { x with q := x.q ++ [⟨who, ex⟩] }).2 = [] ∨ (enterL { x with q := x.q ++ [⟨who, ex⟩] }).2 = [who] := by
  obtain ⟨hp, ho⟩ := la_pre.1 h
  show (letL x.hs x.ex (x.q ++ [⟨who, ex⟩])).2.2.2 = [] ∨ _
  cases hop : openW x.hs x.ex (x.q ++ [⟨who, ex⟩]) with
  | false => rw [letL_shut hop.symm]; exact .inl rfl
  | true =>
    have hq : x.q = [] := by
      cases hq : x.q with
      | nil => rfl
      | cons t q =>
        rw [hq] at hop
        have : openW x.hs x.ex (t :: q) = true := hop
        rw [← hq] at this
        rw [La.open] at ho
        rw [ho] at this
        cases this
    rw [hq] at hop
    have e : (letL x.hs x.ex (([] : List Wt) ++ [⟨who, ex⟩])).2.2.2 = [who] := by rw [List.nil_append, letL_cons hop.symm]; rfl
    rw [hq]
    exact .inr e
theorem enter_none {x : La} (h : x.right = true) : enterL x = (x, []) := by
  have ho := (la_pre.1 h).2
  rw [La.open] at ho
  rw [enterL, letL_shut ho.symm]
/-- somebody more is to come -/
theorem run_next {ml : La} {hs : List Int} {ex : Bool} {q : List Wt} {done : List Int}
    (hr : letL ml.hs ml.ex ml.q = ((letL hs ex q).1, (letL hs ex q).2.1, (letL hs ex q).2.2.1, done ++ (letL hs ex q).2.2.2)) (hlt : done.length < (enterL ml).2.length) :
    ∃ t q', q = t :: q' ∧ true = openW hs ex q ∧ (enterL ml).2[done.length]? = some t.who ∧
      letL ml.hs ml.ex ml.q = ((letL (withL hs t.who) (ex || t.ex) q').1, (letL (withL hs t.who) (ex || t.ex) q').2.1, (letL (withL hs t.who) (ex || t.ex) q').2.2.1, (done ++ [t.who]) ++ (letL (withL hs t.who) (ex || t.ex) q').2.2.2) := by
  have h2 : (enterL ml).2 = done ++ (letL hs ex q).2.2.2 := by rw [enterL, hr]
  cases ho : openW hs ex q with
  | false =>
    rw [letL_shut ho.symm, List.append_nil] at h2
    rw [h2] at hlt
    omega
  | true =>
    cases q with
    | nil => simp [openW] at ho
    | cons t q =>
      refine ⟨t, q, rfl, rfl, ?_, letL_run hr ho.symm⟩
      rw [h2, letL_cons ho.symm, List.getElem?_append_right (Nat.le_refl _)]
      simp
/-- nobody more -/
theorem run_end {ml : La} {hs : List Int} {ex : Bool} {q : List Wt} {done : List Int}
    (hr : letL ml.hs ml.ex ml.q = ((letL hs ex q).1, (letL hs ex q).2.1, (letL hs ex q).2.2.1, done ++ (letL hs ex q).2.2.2)) (hge : (enterL ml).2.length ≤ done.length) :
    (enterL ml).1 = ⟨hs, ex, q⟩ ∧ openW hs ex q = false := by
  have h2 : (enterL ml).2 = done ++ (letL hs ex q).2.2.2 := by rw [enterL, hr]
  cases ho : openW hs ex q with
  | false =>
    refine ⟨?_, rfl⟩
    rw [enterL, hr, letL_shut ho.symm]
  | true =>
    cases q with
    | nil => simp [openW] at ho
    | cons t q =>
      rw [h2, letL_cons ho.symm, List.length_append, List.length_cons] at hge
      omega
/-- how many write, and how many read, of the first k -/
def cntWr (wr ho : Nat → Bool) : Nat → Nat
  | 0 => 0
  | k + 1 => cntWr wr ho k + if ho k = true ∧ wr k = true then 1 else 0
def cntRd (wr ho : Nat → Bool) : Nat → Nat
  | 0 => 0
  | k + 1 => cntRd wr ho k + if ho k = true ∧ wr k = false then 1 else 0
theorem cntWr_le (wr ho : Nat → Bool) : ∀ k, cntWr wr ho k ≤ k
  | 0 => Nat.le_refl _
  | k + 1 => by have := cntWr_le wr ho k; rw [cntWr]; split <;> omega
theorem cntRd_le (wr ho : Nat → Bool) : ∀ k, cntRd wr ho k ≤ k
  | 0 => Nat.le_refl _
  | k + 1 => by have := cntRd_le wr ho k; rw [cntRd]; split <;> omega
theorem Al.alone {l : La} {si : Nat → Nat} {wr ho : Nat → Bool} {clk : Nat} (h : Al l si wr ho clk) : cntWr wr ho 10 ≤ 1 ∧ (cntWr wr ho 10 = 1 → cntRd wr ho 10 = 0) := by
  cases hx : l.ex with
  | false =>
    have : ∀ k, k ≤ 10 → cntWr wr ho k = 0 := by
      intro k
      induction k with
      | zero => intro _; rfl
      | succ k ih =>
        intro hk
        rw [cntWr, ih (by omega), if_neg]
        rintro ⟨h1, h2⟩
        rw [h.hold k (by omega), decide_eq_true_eq] at h1
        rw [h.wh k (by omega) h1, hx] at h2
        cases h2
    rw [this 10 (Nat.le_refl _)]
    exact ⟨by omega, fun e => by omega⟩
  | true =>
    have h1 := h.pre.one hx
    obtain ⟨x, hs⟩ := List.length_eq_one_iff.1 h1
    have hr : ∀ k, k ≤ 10 → cntRd wr ho k = 0 := by
      intro k
      induction k with
      | zero => intro _; rfl
      | succ k ih =>
        intro hk
        rw [cntRd, ih (by omega), if_neg]
        rintro ⟨h1, h2⟩
        rw [h.hold k (by omega), decide_eq_true_eq] at h1
        rw [h.wh k (by omega) h1, hx] at h2
        cases h2
    have hw : ∀ k, k ≤ 10 → cntWr wr ho k ≤ if x < (k : Int) then 1 else 0 := by
      intro k
      induction k with
      | zero => intro _; exact Nat.zero_le _
      | succ k ih =>
        intro hk
        have ih' := ih (by omega)
        rw [cntWr]
        by_cases hkx : ho k = true
        · have h2 := hkx
          rw [h.hold k (by omega), decide_eq_true_eq, hs, List.mem_singleton] at h2
          rw [if_neg (show ¬ x < (k : Int) by omega)] at ih'
          rw [if_pos (show x < ((k + 1 : Nat) : Int) by omega)]
          split <;> omega
        · rw [if_neg (fun e => hkx e.1)]
          by_cases hxk : x < (k : Int)
          · rw [if_pos hxk] at ih'
            rw [if_pos (show x < ((k + 1 : Nat) : Int) by omega)]
            exact ih'
          · rw [if_neg hxk] at ih'
            omega
    refine ⟨?_, fun _ => hr 10 (Nat.le_refl _)⟩
    have := hw 10 (Nat.le_refl _)
    split at this <;> omega
theorem Al.holds {l : La} {si : Nat → Nat} {wr ho : Nat → Bool} {clk : Nat} (h : Al l si wr ho clk) (hr : l.right = true) {k : Nat} (hk : k < 10) : holdsM l (k : Int) = ho k ∧ (ho k = true → wr k = l.ex) := by
  rw [h.hold k hk]
  constructor
  · rw [holdsM, hr, Bool.true_and]
    cases hc : l.hs.contains (k : Int) with
    | true => rw [List.contains_iff_mem] at hc; exact (decide_eq_true hc).symm
    | false =>
      rw [← Bool.not_eq_true, List.contains_iff_mem] at hc
      exact (decide_eq_false hc).symm
  · intro e
    exact h.wh k hk (of_decide_eq_true e)
end Go.Proofs.Ytigffndobddflaa
