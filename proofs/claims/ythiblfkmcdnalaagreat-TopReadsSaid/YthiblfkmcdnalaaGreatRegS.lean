/- Regions that draw their order, in two parts: a front, in which every world on the way is of a class, and a tail (indices from s on) that comes when all of the front is done. Of the front the pure operations may be taken first, in the order of the text; operations that make memory are proved each by itself, from every world of the class. -/
import Derived.Test.YthiblfkmcdnalaaGreatRegF
import Derived.Test.YthiblfkmcdnalaaGreatQuiet
import Derived.BigQuiet
namespace Go.Proofs.YthiblfkmcdnalaaGreat
set_option maxRecDepth 1000000
open Go.RowKit
set_option maxRecDepth 1000000

section
variable {P : Program} {md : Region.Mode} {ops : Array Oper} {s : Nat} {C : World → Prop} {Q : Exit → Act → World → Prop}
/-- an operation that computes or reads, and calls nothing -/
def pureB (o : Oper) : Bool := match o.op with
  | .move _ | .assign _ | .pick .. | .build .. | .load .. | .binOp .. | .unOp .. | .convert .. | .slice .. | .fieldAddr .. | .field .. | .indexAddr .. | .index .. | .extract .. => true
  | .nilCheck _ => true
  | .call c => match c.callee with
    | .builtin .len | .builtin .cap | .builtin .min | .builtin .max => true
    | _ => false
  | _ => false
theorem pure_noEnter {o : Oper} {ρ : Operand → Value} {w w' : World} {f : FuncId} {args : Array Value} (h : pureB o = true) : (execOp ρ o).run P w ≠ .ok (.enter f args) w' := by
  intro he
  have hv : ∀ (m : Sem Value), (do pure (Next.value (← m)) : Sem Next).run P w ≠ .ok (.enter f args) w' := fun m hm => by
    simp only [Sem.run_bind] at hm
    cases hr : m.run P w <;> rw [hr] at hm <;> simp [Result.andThen] at hm
  have hr : ∀ (r : Result Value), r.andThen (fun a w' => Result.ok (Next.value a) w') ≠ .ok (.enter f args) w' := fun r hm => by
    cases r <;> simp [Result.andThen] at hm
  unfold pureB at h
  unfold execOp at he
  split at h
  case h_17 => cases h
  case h_16 c heq =>
    rw [heq] at he
    simp only at he
    unfold resolve at he
    split at h
    all_goals first | cases h | skip
    all_goals
      rename_i hb
      rw [hb] at he
      simp [invoke, builtin] at he
      exact hr _ he
  case h_15 x heq =>
    rw [heq] at he
    simp only at he
    split at he
    all_goals first
      | (simp [runtimePanic] at he; done)
      | skip
    split at he
    · simp [runtimePanic] at he
    · simp only [Sem.run_bind] at he
      have hk : ∀ {α β : Type} (r : Result α) (k : α → World → Result β) (x : β) (w0 : World), r.andThen k = .ok x w0 → ∃ a w1, k a w1 = .ok x w0 := fun r k x w0 hh => by
        cases r with
        | ok a w1 => exact ⟨a, w1, hh⟩
        | halt x w1 => simp [Result.andThen] at hh
      obtain ⟨a, w1, h1⟩ := hk _ _ _ _ he
      obtain ⟨a2, w2, h2⟩ := hk _ _ _ _ h1
      split at h2
      · simp only [Sem.run_bind] at h2
        obtain ⟨a3, w3, h3⟩ := hk _ _ _ _ h2
        simp at h3
      · simp at h2
    · simp at he
  all_goals
    rename_i heq
    rw [heq] at he
    first
      | exact hv _ he
      | (simp only [Sem.run_bind] at he; cases hb : (asBool _).run P w <;> rw [hb] at he <;> simp [Result.andThen] at he)
      | simp at he
theorem pure_noSkip {o : Oper} {ρ : Operand → Value} {w w' : World} (h : pureB o = true) : (execOp ρ o).run P w ≠ .ok .skip w' := by
  intro he
  have hv : ∀ (m : Sem Value), (do pure (Next.value (← m)) : Sem Next).run P w ≠ .ok .skip w' := fun m hm => by
    simp only [Sem.run_bind] at hm
    cases hr : m.run P w <;> rw [hr] at hm <;> simp [Result.andThen] at hm
  have hr : ∀ (r : Result Value), r.andThen (fun a w' => Result.ok (Next.value a) w') ≠ .ok .skip w' := fun r hm => by
    cases r <;> simp [Result.andThen] at hm
  unfold pureB at h
  unfold execOp at he
  split at h
  case h_17 => cases h
  case h_16 c heq =>
    rw [heq] at he
    simp only at he
    unfold resolve at he
    split at h
    all_goals first | cases h | skip
    all_goals
      rename_i hb
      rw [hb] at he
      simp [invoke, builtin] at he
      exact hr _ he
  case h_15 x heq =>
    rw [heq] at he
    simp only at he
    split at he
    all_goals first
      | (simp [runtimePanic] at he; done)
      | skip
    split at he
    · simp [runtimePanic] at he
    · simp only [Sem.run_bind] at he
      have hk : ∀ {α β : Type} (r : Result α) (k : α → World → Result β) (x : β) (w0 : World), r.andThen k = .ok x w0 → ∃ a w1, k a w1 = .ok x w0 := fun r k x w0 hh => by
        cases r with
        | ok a w1 => exact ⟨a, w1, hh⟩
        | halt x w1 => simp [Result.andThen] at hh
      obtain ⟨a, w1, h1⟩ := hk _ _ _ _ he
      obtain ⟨a2, w2, h2⟩ := hk _ _ _ _ h1
      split at h2
      · simp only [Sem.run_bind] at h2
        obtain ⟨a3, w3, h3⟩ := hk _ _ _ _ h2
        simp at h3
      · simp at h2
    · simp at he
  all_goals
    rename_i heq
    rw [heq] at he
    first
      | exact hv _ he
      | (simp only [Sem.run_bind] at he; cases hb : (asBool _).run P w <;> rw [hb] at he <;> simp [Result.andThen] at he)
      | simp at he
/-- whatever order is picked from here on, every world on the way being of the class, but for the tail -/
def wpAnyS (P : Program) (md : Region.Mode) (ops : Array Oper) (s : Nat) (C : World → Prop) (Q : Exit → Act → World → Prop) : Nat → Array Bool → Act → World → Prop
  | 0, listed, a, w => Region.ready md ops listed = [] ∧ Q .normal a w
  | fuel + 1, listed, a, w => (Region.ready md ops listed = [] → Q .normal a w) ∧ ∀ i ∈ Region.ready md ops listed, wpOp P ops Q i (fun a' w' => (i < s → C w') ∧ wpAnyS P md ops s C Q fuel (listed.setIfInBounds i true) a' w') a w
theorem wpAny_of_S : ∀ (fuel : Nat) (listed : Array Bool) (a : Act) (w : World), wpAnyS P md ops s C Q fuel listed a w → wpAny P md ops Q fuel listed a w
  | 0, _, _, _, h => h
  | fuel + 1, _, _, _, h => ⟨h.1, fun i hi => wpOp_mono (fun a' w' h' => wpAny_of_S fuel _ a' w' h'.2) (h.2 i hi)⟩
/-- does i lie ahead of all of the tail? -/
def upAll (md : Region.Mode) (ops : Array Oper) (s i : Nat) : Bool := (List.range ops.size).all fun j => decide (j < s) || upB md ops 1 j i
theorem wpAnyS_first {i : Nat} {oi : Oper} {v : Value} (hi : ops[i]? = some oi) (hup : upAll md ops s i = true) (his : i < s) (hsel : ∀ (j : Nat) (o : Oper) cs b, ops[j]? = some o → o.op ≠ .select cs b)
    (hQ : ∀ c a (d : Tmp) v w, Q (.panic c) (Act.put a (some d) v) w → Q (.panic c) a w) :
    ∀ (fuel : Nat) (listed : Array Bool) (a : Act) (w : World), C w → ClosedL md ops listed →
      (∀ j oj, ops[j]? = some oj → j ≠ i → listed.getD j true = false → (∀ e ∈ oj.after, Region.binds md e = true → e.on ≠ i) → oi.apart ops oj = true) →
      i ∈ Region.ready md ops listed → YieldsC P ops C oi v a →
      wpAnyS P md ops s C Q fuel (listed.setIfInBounds i true) (a.put oi.dst v) w → wpAnyS P md ops s C Q (fuel + 1) listed a w := by
  intro fuel
  induction fuel with
  | zero =>
    intro listed a w hC _ _ hr hy H
    refine ⟨fun h => (by rw [h] at hr; cases hr), fun j hj => ?_⟩
    by_cases hji : j = i
    · subst hji; exact hy.wpOp hi hC ⟨fun _ => hC, H⟩
    · have := ready_mono hj hji
      rw [H.1] at this
      cases this
  | succ fuel ih =>
    intro listed a w hC hcl hfree hr hy H
    refine ⟨fun h => (by rw [h] at hr; cases hr), fun j hj => ?_⟩
    by_cases hji : j = i
    · subst hji; exact hy.wpOp hi hC ⟨fun _ => hC, H⟩
    · have h1 := H.2 j (ready_mono hj hji)
      obtain ⟨hjun, oj, hoj, hall⟩ := mem_ready.1 hj
      have hiun := (mem_ready.1 hr).1
      have hil : i < listed.size := by
        rcases Nat.lt_or_ge i listed.size with h | h
        · exact h
        · simp [Array.getElem?_eq_none h] at hiun
      have hif : listed.getD i false = false := by
        have := hiun
        simp [hil] at this ⊢
        exact this
      have hjs : j < s := by
        rcases Nat.lt_or_ge j s with h | h
        · exact h
        · have h2 := (List.all_eq_true.1 hup) j (List.mem_range.2 (Array.getElem?_eq_some_iff.1 hoj).1)
          rw [decide_eq_false (by omega), Bool.false_or] at h2
          have h3 := upB_spec hcl 1 j oj hoj hall h2
          rw [hif] at h3
          cases h3
      have hnot : ∀ e ∈ oj.after, Region.binds md e = true → e.on ≠ i := fun e he hb heq => by
        have h1 := hall e he hb
        rw [heq, hif] at h1
        cases h1
      have h2 := wpOp_putC hoj (hfree j oj hoj hji hjun hnot) (fun cs b => hsel i oi cs b hi) (fun cs b => hsel j oj cs b hoj) (fun c a w => by cases oi.dst with | none => exact id | some d => exact hQ c a d v w) hy h1
      have hfree' : ∀ k ok, ops[k]? = some ok → k ≠ i → (listed.setIfInBounds j true).getD k true = false →
          (∀ e ∈ ok.after, Region.binds md e = true → e.on ≠ i) → oi.apart ops ok = true := fun k ok hk hki hun hno => by
        refine hfree k ok hk hki ?_ hno
        by_cases hjk : j = k
        · subst hjk; exact hjun
        · rw [getD_set_ne true hjk] at hun; exact hun
      refine wpOp_mono (fun a' w' h3 => ⟨h3.2.1, ih (listed.setIfInBounds j true) a' w' (h3.2.1 hjs) (hcl.step hj) hfree' (ready_mono hr (Ne.symm hji)) h3.1 ?_⟩) h2
      rw [Array.setIfInBounds_comm _ _ hji]
      exact h3.2.2
/-- may the pure operation i be taken first? -/
def frontB (md : Region.Mode) (ops : Array Oper) (s i : Nat) (listed : Array Bool) : Bool :=
  closedB md ops listed && upAll md ops s i && decide (i < s) && Region.noSelect ops && Region.free md ops listed i && (Region.ready md ops listed).contains i && match ops[i]? with
    | some o => pureB o
    | none => false
/-- a pure operation is taken first -/
theorem pureS {l : List Oper} (i : Nat) {oi : Oper} {fuel : Nat} {listed listed' : Array Bool} {a : Act} {w : World} (hi' : l[i]? = some oi) (hck : frontB md l.toArray s i listed = true) (hl : listed.setIfInBounds i true = listed')
    (hQ : ∀ c a (d : Tmp) v w, Q (.panic c) (Act.put a (some d) v) w → Q (.panic c) a w) (hC : C w)
    (h : wpQuiet P l.toArray C (fun a' => wpAnyS P md l.toArray s C Q fuel listed' a' w) [oi] a) : wpAnyS P md l.toArray s C Q (fuel + 1) listed a w := by
  have hi : l.toArray[i]? = some oi := (List.getElem?_toArray ..).trans hi'
  simp only [frontB, Bool.and_eq_true] at hck
  obtain ⟨⟨⟨⟨⟨⟨h1, h2⟩, h3⟩, h4⟩, h5⟩, h6⟩, h7⟩ := hck
  rw [hi] at h7
  simp only at h7
  have key : ∃ v, YieldsC P l.toArray C oi v a ∧ wpAnyS P md l.toArray s C Q fuel listed' (a.put oi.dst v) w := by
    unfold wpQuiet at h
    by_cases hw : Region.wanted oi (yielded l.toArray a.tmps) = true
    · rw [if_pos hw] at h
      obtain ⟨v, hv, hk⟩ := h
      refine ⟨v, .inl ⟨hw, fun U hU => ?_⟩, hk⟩
      have hq := hv U hU
      unfold Oper.quietAt at hq
      cases hr : (execOp a.eval oi).run P U with
      | halt x w' => rw [hr] at hq; exact hq.elim
      | ok n w' =>
        rw [hr] at hq
        cases n with
        | value u => obtain ⟨rfl, rfl⟩ := hq; rfl
        | enter f args => exact absurd hr (pure_noEnter h7)
        | skip => exact absurd hr (pure_noSkip h7)
        | _ => exact hq.elim
    · rw [if_neg hw] at h
      exact ⟨undef, .inr ⟨by simpa using hw, rfl⟩, h⟩
  obtain ⟨v, hy, hk⟩ := key
  exact wpAnyS_first hi h2 (by simpa using h3) (Region.noSelect_spec h4) hQ fuel listed a w hC (closedL_of h1) (Region.free_spec hi h5) (by simpa using h6) hy (hl ▸ hk)
/-- one operation is up -/
theorem oneS {l : List Oper} (i : Nat) {oi : Oper} {fuel : Nat} {listed listed' : Array Bool} {a : Act} {w : World} (hr : Region.ready md l.toArray listed = [i]) (hi' : l[i]? = some oi) (hl : listed.setIfInBounds i true = listed') (hw : Region.wanted oi (yielded l.toArray a.tmps) = true)
    (h : ∀ K : Act → World → Prop, (∀ a' w', (i < s → C w') → wpAnyS P md l.toArray s C Q fuel listed' a' w' → K a' w') → oi.wp P a w K Q) : wpAnyS P md l.toArray s C Q (fuel + 1) listed a w := by
  have hi : l.toArray[i]? = some oi := (List.getElem?_toArray ..).trans hi'
  refine ⟨fun h0 => (by rw [hr] at h0; cases h0), fun j hj => ?_⟩
  rw [hr] at hj
  obtain rfl : j = i := by simpa using hj
  unfold wpOp
  simp only [hi, hw, if_true]
  exact .inl (h _ fun a' w' h1 h2 => ⟨h1, hl ▸ h2⟩)
/-- one operation is up, and it is passed over -/
theorem offS {l : List Oper} (i : Nat) {oi : Oper} {fuel : Nat} {listed listed' : Array Bool} {a : Act} {w : World} (hr : Region.ready md l.toArray listed = [i]) (hi' : l[i]? = some oi) (hl : listed.setIfInBounds i true = listed') (hw : Region.wanted oi (yielded l.toArray a.tmps) = false)
    (hC : C w) (h : wpAnyS P md l.toArray s C Q fuel listed' (a.put oi.dst undef) w) : wpAnyS P md l.toArray s C Q (fuel + 1) listed a w := by
  have hi : l.toArray[i]? = some oi := (List.getElem?_toArray ..).trans hi'
  refine ⟨fun h0 => (by rw [hr] at h0; cases h0), fun j hj => ?_⟩
  rw [hr] at hj
  obtain rfl : j = i := by simpa using hj
  unfold wpOp
  simp only [hi, hw]
  exact ⟨fun _ => hC, hl ▸ h⟩
theorem doneS {l : List Oper} {fuel : Nat} {listed : Array Bool} {a : Act} {w : World} (hr : Region.ready md l.toArray listed = []) (h : Q .normal a w) : wpAnyS P md l.toArray s C Q fuel listed a w := by
  cases fuel with
  | zero => exact ⟨hr, h⟩
  | succ n => exact ⟨fun _ => h, by rw [hr]; simp⟩
theorem wp_region_S {id : Nat} {a : Act} {w : World} {l : List Oper} {listed : Array Bool} {n : Nat} (s : Nat) (C : World → Prop) (hm : P.follows .mixedOrders = true) (hl : Array.replicate l.toArray.size false = listed) (hn : l.toArray.size = n)
    (h : wpAnyS P .any l.toArray s C Q n listed a w.drew) : (Code.region id l.toArray true).wp P Q a w := by
  refine wp_region_any hm ?_
  rw [hl, hn]
  exact wpAny_of_S _ _ _ _ h

/-- the operation yields a value, or calls what does, so that φ -/
def Gives (P : Program) (o : Oper) (a : Act) (w : World) (φ : Value → World → Prop) : Prop := match (execOp a.eval o).run P w with
  | .ok (.value v) w' => φ v w'
  | .ok (.enter f args) w' => Calls P f args w' fun e w'' => ∃ v, e = .returned v ∧ φ v w''
  | _ => False
theorem Gives.wp {o : Oper} {a b : Act} {w : World} {φ : Value → World → Prop} {K : Act → World → Prop} (h : Gives P o a w φ) (he : execOp b.eval o = execOp a.eval o) (hk : ∀ v w', φ v w' → K (b.put o.dst v) w') : o.wp P b w K Q := by
  unfold Oper.wp
  unfold Gives at h
  rw [he]
  cases hr : (execOp a.eval o).run P w with
  | halt x w' => rw [hr] at h; exact h.elim
  | ok n w' =>
    rw [hr] at h
    cases n with
    | value v => exact hk _ _ h
    | enter f args => exact Calls.mono h fun e w'' ⟨v, he, hv⟩ => by subst he; exact hk _ _ hv
    | _ => exact h.elim
theorem Gives.put {o : Oper} {a : Act} {w : World} {φ : Value → World → Prop} (h : Gives P o a w φ) {d : Option Nat} {v : Value} (he : execOp (a.put d v).eval o = execOp a.eval o) : Gives P o (a.put d v) w φ := by
  unfold Gives at *
  rw [he]
  exact h
end
end Go.Proofs.YthiblfkmcdnalaaGreat
