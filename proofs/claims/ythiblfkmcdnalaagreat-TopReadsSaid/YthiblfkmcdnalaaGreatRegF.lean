/- Regions that draw their order, whose last word is a store that breaks the class of worlds: all else stays in the class; what lies ahead of the store may be taken first. -/
import Derived.Test.YthiblfkmcdnalaaGreatRegC
namespace Go.Proofs.YthiblfkmcdnalaaGreat
set_option maxRecDepth 1000000
open Go.RowKit

section
variable {P : Program} {md : Region.Mode} {ops : Array Oper} {s : Nat} {C : World → Prop} {Q : Exit → Act → World → Prop}
/-- whatever is listed, what lies ahead of it is -/
def closedB (md : Region.Mode) (ops : Array Oper) (listed : Array Bool) : Bool := (List.range ops.size).all fun j => !listed.getD j false || match ops[j]? with
  | some o => o.after.all (fun e => !Region.binds md e || listed.getD e.on false)
  | none => true
def ClosedL (md : Region.Mode) (ops : Array Oper) (listed : Array Bool) : Prop := ∀ j o, ops[j]? = some o → listed.getD j false = true → ∀ e ∈ o.after, Region.binds md e = true → listed.getD e.on false = true
theorem closedL_of {listed : Array Bool} (h : closedB md ops listed = true) : ClosedL md ops listed := by
  intro j o ho hj e he hb
  rw [closedB, List.all_eq_true] at h
  have h1 := h j (List.mem_range.2 (Array.getElem?_eq_some_iff.1 ho).1)
  rw [hj, ho] at h1
  simp only [Bool.not_true, Bool.false_or] at h1
  obtain ⟨k, hk, rfl⟩ := Array.mem_iff_getElem.1 he
  have h2 := Array.all_eq_true.1 h1 k hk
  simpa [hb] using h2
theorem ClosedL.step {listed : Array Bool} {j : Nat} (h : ClosedL md ops listed) (hj : j ∈ Region.ready md ops listed) : ClosedL md ops (listed.setIfInBounds j true) := by
  intro k o ho hk e he hb
  obtain ⟨_, oj, hoj, hall⟩ := mem_ready.1 hj
  by_cases hkj : k = j
  · subst hkj
    rw [hoj] at ho
    injection ho with ho
    subst ho
    exact getD_set_true (hall e he hb)
  · rw [getD_set_ne false (Ne.symm hkj)] at hk
    exact getD_set_true (h k o ho hk e he hb)
/-- does i lie ahead of s? -/
def upB (md : Region.Mode) (ops : Array Oper) : Nat → Nat → Nat → Bool
  | 0, _, _ => false
  | f + 1, s, i => match ops[s]? with
    | some o => o.after.any (fun e => Region.binds md e && (e.on == i || upB md ops f e.on i))
    | none => false
theorem upB_spec {listed : Array Bool} {i : Nat} (hc : ClosedL md ops listed) : ∀ (f s : Nat) (o : Oper), ops[s]? = some o → (∀ e ∈ o.after, Region.binds md e = true → listed.getD e.on false = true) → upB md ops f s i = true → listed.getD i false = true
  | 0, _, _, _, _, h => by cases h
  | f + 1, s, o, ho, hall, h => by
    simp only [upB, ho] at h
    obtain ⟨e, he, h1⟩ := Array.any_eq_true'.1 h
    simp only [Bool.and_eq_true, Bool.or_eq_true, beq_iff_eq] at h1
    have h2 := hall e he h1.1
    rcases h1.2 with h3 | h3
    · rw [← h3]; exact h2
    · cases f with
      | zero => cases h3
      | succ f =>
        have h4 := h3
        simp only [upB] at h4
        cases hoe : ops[e.on]? with
        | none => rw [hoe] at h4; cases h4
        | some o2 => exact upB_spec hc (f + 1) e.on o2 hoe (hc e.on o2 hoe h2) h3

/-- whatever order is picked from here on, every world on the way being of the class, but behind s -/
def wpAnyF (P : Program) (md : Region.Mode) (ops : Array Oper) (s : Nat) (C : World → Prop) (Q : Exit → Act → World → Prop) : Nat → Array Bool → Act → World → Prop
  | 0, listed, a, w => Region.ready md ops listed = [] ∧ Q .normal a w
  | fuel + 1, listed, a, w => (Region.ready md ops listed = [] → Q .normal a w) ∧ ∀ i ∈ Region.ready md ops listed, wpOp P ops Q i (fun a' w' => (i ≠ s → C w') ∧ wpAnyF P md ops s C Q fuel (listed.setIfInBounds i true) a' w') a w
theorem wpAny_of_F : ∀ (fuel : Nat) (listed : Array Bool) (a : Act) (w : World), wpAnyF P md ops s C Q fuel listed a w → wpAny P md ops Q fuel listed a w
  | 0, _, _, _, h => h
  | fuel + 1, _, _, _, h => ⟨h.1, fun i hi => wpOp_mono (fun a' w' h' => wpAny_of_F fuel _ a' w' h'.2) (h.2 i hi)⟩
theorem wpAnyF_first {i n : Nat} {oi : Oper} {v : Value} (hi : ops[i]? = some oi) (hup : upB md ops n s i = true) (hsel : ∀ (j : Nat) (o : Oper) cs b, ops[j]? = some o → o.op ≠ .select cs b)
    (hQ : ∀ c a w, Q (.panic c) (a.put oi.dst v) w → Q (.panic c) a w) :
    ∀ (fuel : Nat) (listed : Array Bool) (a : Act) (w : World), C w → ClosedL md ops listed →
      (∀ j oj, ops[j]? = some oj → j ≠ i → listed.getD j true = false → (∀ e ∈ oj.after, Region.binds md e = true → e.on ≠ i) → oi.apart ops oj = true) →
      i ∈ Region.ready md ops listed → YieldsC P ops C oi v a →
      wpAnyF P md ops s C Q fuel (listed.setIfInBounds i true) (a.put oi.dst v) w → wpAnyF P md ops s C Q (fuel + 1) listed a w := by
  intro fuel
  induction fuel with
  | zero =>
    intro listed a w hC _ _ hr hy H
    refine ⟨fun h => (by rw [h] at hr; cases hr), fun j hj => ?_⟩
    by_cases hji : j = i
    · subst hji; exact hy.wpOp hi hC ⟨fun _ => hC, H⟩
    · have := ready_mono hj hji
      rw [H.1] at this
      cases this
  | succ fuel ih =>
    intro listed a w hC hcl hfree hr hy H
    refine ⟨fun h => (by rw [h] at hr; cases hr), fun j hj => ?_⟩
    by_cases hji : j = i
    · subst hji; exact hy.wpOp hi hC ⟨fun _ => hC, H⟩
    · have h1 := H.2 j (ready_mono hj hji)
      obtain ⟨hjun, oj, hoj, hall⟩ := mem_ready.1 hj
      have hiun := (mem_ready.1 hr).1
      have hil : i < listed.size := by
        rcases Nat.lt_or_ge i listed.size with h | h
        · exact h
        · simp [Array.getElem?_eq_none h] at hiun
      have hif : listed.getD i false = false := by
        have := hiun
        simp [hil] at this ⊢
        exact this
      have hjs : j ≠ s := fun e => by
        subst e
        have := upB_spec hcl n j oj hoj hall hup
        rw [hif] at this
        cases this
      have hnot : ∀ e ∈ oj.after, Region.binds md e = true → e.on ≠ i := fun e he hb heq => by
        have h1 := hall e he hb
        rw [heq, hif] at h1
        cases h1
      have h2 := wpOp_putC hoj (hfree j oj hoj hji hjun hnot) (fun cs b => hsel i oi cs b hi) (fun cs b => hsel j oj cs b hoj) hQ hy h1
      have hfree' : ∀ k ok, ops[k]? = some ok → k ≠ i → (listed.setIfInBounds j true).getD k true = false →
          (∀ e ∈ ok.after, Region.binds md e = true → e.on ≠ i) → oi.apart ops ok = true := fun k ok hk hki hun hno => by
        refine hfree k ok hk hki ?_ hno
        by_cases hjk : j = k
        · subst hjk; exact hjun
        · rw [getD_set_ne true hjk] at hun; exact hun
      refine wpOp_mono (fun a' w' h3 => ⟨h3.2.1, ih (listed.setIfInBounds j true) a' w' (h3.2.1 hjs) (hcl.step hj) hfree' (ready_mono hr (Ne.symm hji)) h3.1 ?_⟩) h2
      rw [Array.setIfInBounds_comm _ _ hji]
      exact h3.2.2
/-- take operation i first -/
theorem takeF {l : List Oper} {i n : Nat} {oi : Oper} (v : Value) {fuel : Nat} {listed listed' : Array Bool} {a : Act} {w : World} (hi : l.toArray[i]? = some oi) (hcl : closedB md l.toArray listed = true) (hup : upB md l.toArray n s i = true)
    (hs : Region.noSelect l.toArray = true) (hf : Region.free md l.toArray listed i = true) (hr : (Region.ready md l.toArray listed).contains i = true) (hl : listed.setIfInBounds i true = listed')
    (hQ : ∀ c a w, Q (.panic c) (a.put oi.dst v) w → Q (.panic c) a w) (hC : C w) (hw : Region.wanted oi (yielded l.toArray a.tmps) = true) (hy : ∀ w, C w → (execOp a.eval oi).run P w = .ok (.value v) w)
    (h : ∀ K : Act → Prop, (∀ a, wpAnyF P md l.toArray s C Q fuel listed' a w → K a) → K (a.put oi.dst v)) : wpAnyF P md l.toArray s C Q (fuel + 1) listed a w :=
  wpAnyF_first hi hup (Region.noSelect_spec hs) hQ fuel listed a w hC (closedL_of hcl) (Region.free_spec hi hf) (by simpa using hr) (.inl ⟨hw, hy⟩) (hl ▸ h _ fun _ h => h)
/-- one operation is up -/
theorem oneF {l : List Oper} {i : Nat} {oi : Oper} {fuel : Nat} {listed listed' : Array Bool} {a : Act} {w : World} (hr : Region.ready md l.toArray listed = [i]) (hi : l.toArray[i]? = some oi) (hl : listed.setIfInBounds i true = listed') (hw : Region.wanted oi (yielded l.toArray a.tmps) = true)
    (h : ∀ K : Act → World → Prop, (∀ a' w', C w' → wpAnyF P md l.toArray s C Q fuel listed' a' w' → K a' w') → oi.wp P a w K Q) : wpAnyF P md l.toArray s C Q (fuel + 1) listed a w := by
  refine ⟨fun h0 => (by rw [hr] at h0; cases h0), fun j hj => ?_⟩
  rw [hr] at hj
  obtain rfl : j = i := by simpa using hj
  unfold wpOp
  simp only [hi, hw, if_true]
  exact .inl (h _ fun a' w' h1 h2 => ⟨fun _ => h1, hl ▸ h2⟩)
/-- the store that breaks the class is up, the last of all -/
theorem lastF {l : List Oper} {oi : Oper} {fuel : Nat} {listed listed' : Array Bool} {a : Act} {w : World} (hr : Region.ready md l.toArray listed = [s]) (hi : l.toArray[s]? = some oi) (hl : listed.setIfInBounds s true = listed') (hr2 : Region.ready md l.toArray listed' = []) (hw : Region.wanted oi (yielded l.toArray a.tmps) = true)
    (h : ∀ K : Act → World → Prop, (∀ a' w', Q .normal a' w' → K a' w') → oi.wp P a w K Q) : wpAnyF P md l.toArray s C Q (fuel + 1) listed a w := by
  refine ⟨fun h0 => (by rw [hr] at h0; cases h0), fun j hj => ?_⟩
  rw [hr] at hj
  obtain rfl : j = s := by simpa using hj
  unfold wpOp
  simp only [hi, hw, if_true]
  refine .inl (h _ fun a' w' h1 => ⟨fun hne => absurd rfl hne, ?_⟩)
  rw [hl]
  cases fuel with
  | zero => exact ⟨hr2, h1⟩
  | succ n => exact ⟨fun _ => h1, by rw [hr2]; simp⟩
theorem wp_region_F {id : Nat} {a : Act} {w : World} {l : List Oper} {listed : Array Bool} {n : Nat} (s : Nat) (C : World → Prop) (hm : P.follows .mixedOrders = true) (hl : Array.replicate l.toArray.size false = listed) (hn : l.toArray.size = n)
    (h : wpAnyF P .any l.toArray s C Q n listed a w.drew) : (Code.region id l.toArray true).wp P Q a w := by
  refine wp_region_any hm ?_
  rw [hl, hn]
  exact wpAny_of_F _ _ _ _ h
end
end Go.Proofs.YthiblfkmcdnalaaGreat
