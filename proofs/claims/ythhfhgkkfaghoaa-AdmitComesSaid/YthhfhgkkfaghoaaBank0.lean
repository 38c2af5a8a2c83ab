/- The plain law of clients: what is right, who is next, the order; no program in sight. -/
namespace Go.Proofs.Ythhfhgkkfaghoaa

structure C where
  who : Int
  claim : Int
  held : Int
  deriving DecidableEq

/-- a client's own numbers are in their ranges -/
def okC (c : C) : Bool := decide (0 ≤ c.who) && decide (c.who ≤ 2147483647) && decide (0 ≤ c.claim) && decide (c.claim ≤ 100) && decide (0 ≤ c.held) && decide (c.held ≤ c.claim)
theorem okC_iff {c : C} : okC c = true ↔ 0 ≤ c.who ∧ c.who ≤ 2147483647 ∧ 0 ≤ c.claim ∧ c.claim ≤ 100 ∧ 0 ≤ c.held ∧ c.held ≤ c.claim := by
  simp [okC, and_assoc]

/-- the client at k is in its ranges, and nobody ahead has its number -/
def okAt (l : List C) (k : Nat) : Bool := match l[k]? with
  | some c => okC c && (l.take k).all (fun d => !decide (d.who = c.who))
  | none => true
def rightB (l : List C) : Bool := decide (l.length ≤ 8) && (List.range l.length).all (okAt l)

theorem rightB_iff {l : List C} : rightB l = true ↔ l.length ≤ 8 ∧ ∀ k, k < l.length → okAt l k = true := by
  simp [rightB]
theorem rightB_long {l : List C} (h : 8 < l.length) : rightB l = false := by
  simp [rightB]; omega
theorem rightB_bad {l : List C} {k : Nat} (hk : k < l.length) (h : okAt l k = false) : rightB l = false := by
  cases hr : rightB l
  · rfl
  · rw [(rightB_iff.1 hr).2 k hk] at h; cases h
theorem okAt_bad {l : List C} {k : Nat} {c : C} (hc : l[k]? = some c) (h : okC c = false) : okAt l k = false := by
  simp [okAt, hc, h]
theorem okAt_dup {l : List C} {k j : Nat} {c d : C} (hc : l[k]? = some c) (hj : j < k) (hd : l[j]? = some d) (h : d.who = c.who) : okAt l k = false := by
  simp only [okAt, hc, Bool.and_eq_false_iff]
  right
  rw [List.all_eq_false]
  refine ⟨d, ?_, by simp [h]⟩
  rw [List.mem_iff_getElem?]
  exact ⟨j, by rw [List.getElem?_take, if_pos hj]; exact hd⟩
theorem okAt_good {l : List C} {k : Nat} {c : C} (hc : l[k]? = some c) (h : okC c = true) (hn : ∀ j d, j < k → l[j]? = some d → d.who ≠ c.who) : okAt l k = true := by
  simp only [okAt, hc, h, Bool.true_and, List.all_eq_true]
  intro d hd
  obtain ⟨j, hj⟩ := List.mem_iff_getElem?.1 hd
  rw [List.getElem?_take] at hj
  split at hj
  · simpa using hn j d ‹_› hj
  · cases hj
theorem okC_of {l : List C} (h : rightB l = true) {k : Nat} {c : C} (hc : l[k]? = some c) : okC c = true := by
  have hk : k < l.length := (List.getElem?_eq_some_iff.1 hc).1
  have := (rightB_iff.1 h).2 k hk
  simp only [okAt, hc, Bool.and_eq_true] at this
  exact this.1

/-- the client at k was not served, and lacks no more than is free -/
def fits (free : Int) (l : List C) (sv : List Bool) (k : Nat) : Bool := match l[k]?, sv[k]? with
  | some c, some false => decide (c.claim - c.held ≤ free)
  | _, _ => false
def nextB (free : Int) (l : List C) (sv : List Bool) : Option Nat := (List.range l.length).find? (fits free l sv)

theorem nextB_none {free : Int} {l : List C} {sv : List Bool} : nextB free l sv = none ↔ ∀ k, k < l.length → fits free l sv k = false := by
  simp [nextB]
theorem nextB_some {free : Int} {l : List C} {sv : List Bool} {k : Nat} (hk : k < l.length) (h : fits free l sv k = true) (hn : ∀ j, j < k → fits free l sv j = false) : nextB free l sv = some k := by
  rw [nextB, List.find?_range_eq_some]
  exact ⟨h, by simpa using hk, fun j hj => by simp [hn j hj]⟩
theorem nextB_lt {free : Int} {l : List C} {sv : List Bool} {k : Nat} (h : nextB free l sv = some k) : k < l.length ∧ fits free l sv k = true ∧ ∀ j, j < k → fits free l sv j = false := by
  rw [nextB, List.find?_range_eq_some] at h
  exact ⟨by simpa using h.2.1, h.1, fun j hj => by simpa using h.2.2 j hj⟩
theorem fits_yes {free : Int} {l : List C} {sv : List Bool} {k : Nat} {c : C} (hc : l[k]? = some c) (hs : sv[k]? = some false) (h : c.claim - c.held ≤ free) : fits free l sv k = true := by
  simp [fits, hc, hs, h]
theorem fits_no {free : Int} {l : List C} {sv : List Bool} {k : Nat} {c : C} (hc : l[k]? = some c) (h : free < c.claim - c.held) : fits free l sv k = false := by
  cases hs : sv[k]? with
  | none => simp [fits, hc, hs]
  | some b => cases b <;> simp [fits, hc, hs]; omega
theorem fits_served {free : Int} {l : List C} {sv : List Bool} {k : Nat} (hs : sv[k]? = some true) : fits free l sv k = false := by
  cases hc : l[k]? <;> simp [fits, hc, hs]

/-- what the client at i holds -/
def heldAt (l : List C) (i : Nat) : Int := match l[i]? with
  | some c => c.held
  | none => 0
theorem heldAt_of {l : List C} {i : Nat} {c : C} (h : l[i]? = some c) : heldAt l i = c.held := by simp [heldAt, h]
/-- n more clients at most are served, one by one the first that can be -/
def ordGo (l : List C) : Nat → Int → List Bool → List Nat → List Nat × Bool
  | 0, _, _, o => (o, true)
  | n + 1, free, sv, o => match nextB free l sv with
    | none => (o, false)
    | some i => ordGo l n (free + heldAt l i) (sv.set i true) (o ++ [i])
theorem ordGo_none {l : List C} {n : Nat} {free : Int} {sv : List Bool} {o : List Nat} (h : nextB free l sv = none) : ordGo l (n + 1) free sv o = (o, false) := by
  rw [ordGo, h]
theorem ordGo_some {l : List C} {n i : Nat} {free : Int} {sv : List Bool} {o : List Nat} (h : nextB free l sv = some i) : ordGo l (n + 1) free sv o = ordGo l n (free + heldAt l i) (sv.set i true) (o ++ [i]) := by
  rw [ordGo, h]
/-- the order of clients that are right, as far as it goes -/
def ordR (free : Int) (l : List C) : List Nat × Bool := ordGo l l.length free (List.replicate l.length false) []
def ordB (free : Int) (l : List C) : List Nat × Bool := if rightB l && decide (0 ≤ free) && decide (free ≤ 1000) then ordR free l else ([], false)
def safeB (free : Int) (l : List C) : Bool := (ordB free l).2

theorem ordB_right {free : Int} {l : List C} (h : rightB l = true) (h0 : 0 ≤ free) (h1 : free ≤ 1000) : ordB free l = ordR free l := by
  simp [ordB, h, h0, h1]
theorem ordB_wrong {free : Int} {l : List C} (h : rightB l = false ∨ free < 0 ∨ 1000 < free) : ordB free l = ([], false) := by
  rw [ordB, if_neg]
  simp only [Bool.and_eq_true, decide_eq_true_eq]
  rintro ⟨⟨a, b⟩, c⟩
  rcases h with h | h | h
  · rw [a] at h; cases h
  · omega
  · omega
theorem ordGo_len {l : List C} (n : Nat) : ∀ (free : Int) (sv : List Bool) (o : List Nat), (ordGo l n free sv o).1.length ≤ o.length + n ∧ ((ordGo l n free sv o).2 = true ↔ (ordGo l n free sv o).1.length = o.length + n) := by
  induction n with
  | zero => intro free sv o; simp [ordGo]
  | succ n ih =>
    intro free sv o
    cases h : nextB free l sv with
    | none => rw [ordGo_none h]; simp
    | some i =>
      rw [ordGo_some h]
      have := ih (free + heldAt l i) (sv.set i true) (o ++ [i])
      simp only [List.length_append, List.length_cons, List.length_nil] at this
      constructor
      · omega
      · rw [this.2]; omega
theorem ordR_len {free : Int} {l : List C} : (ordR free l).1.length ≤ l.length ∧ ((ordR free l).2 = true ↔ (ordR free l).1.length = l.length) := by
  have := ordGo_len (l := l) l.length free (List.replicate l.length false) []
  simpa [ordR] using this
end Go.Proofs.Ythhfhgkkfaghoaa
