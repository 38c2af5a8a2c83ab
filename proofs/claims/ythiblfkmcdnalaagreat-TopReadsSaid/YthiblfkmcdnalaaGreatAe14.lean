/- The abstract evaluator, part 12: code and calls: what it answers the model does, in every order and from every world. -/
/- The abstract evaluator, part 13: what was reckoned once over a small memory serves wherever the same lies. -/
/- The abstract evaluator over this program: contracts of strings.Repeat and disk.Read as tables; which functions may be entered. -/
import Derived.Test.YthiblfkmcdnalaaGreatAe11
import Derived.Scope
import Derived.Test.YthiblfkmcdnalaaGreatTRead
import Derived.Test.YthiblfkmcdnalaaGreatTRepeat
namespace Go.Proofs.YthiblfkmcdnalaaGreat.Ae
open Go.RowKit

inductive Ex where
  | normal
  | exit (id : Nat)
  | ret
noncomputable def Ex.to : Ex → Exit
  | .normal => .normal
  | .exit id => .exit id
  | .ret => .ret
abbrev Rec := Bool → Nat → Code → St → Option (Ex × St)
/-- the results of a function -/
noncomputable def resA (P : Program) (tm : List AV) (hp : Hp) : List ResultVar → Option (List AV)
  | [] => some []
  | .tmp t :: r => match nth tm t with
    | some x => match resA P tm hp r with
      | some l => some (x :: l)
      | none => none
    | none => none
  | .cell a t :: r => match nth tm a with
    | some p => match opLoad P hp t p with
      | some x => match resA P tm hp r with
        | some l => some (x :: l)
        | none => none
      | none => none
    | none => none
noncomputable def tupA : List AV → Option (List EV)
  | [] => some []
  | .e x :: r => match tupA r with
    | some l => some (x :: l)
    | none => none
  | .t _ :: _ => none
noncomputable def resV : List AV → Option AV
  | [x] => some x
  | l => match tupA l with
    | some es => some (.t es)
    | none => none
/-- of the blocks from mark on those that are needed -/
noncomputable def refs : List LV → List Nat
  | [] => []
  | .c _ :: r => refs r
  | .z :: r => refs r
  | .p b _ :: r => b :: refs r
  | .s b _ _ _ :: r => b :: refs r
  | .u b _ _ _ :: r => b :: refs r
  | .f _ caps :: r => caps.map Prod.fst ++ refs r
noncomputable def refsE : EV → List Nat
  | .l x => refs [x]
  | .g xs => refs xs
noncomputable def refsA : AV → List Nat
  | .e x => refsE x
  | .t xs => xs.flatMap refsE
noncomputable def addR (mark : Nat) : List Nat → List Nat → List Nat
  | [], need => need
  | a :: r, need => match Nat.ble mark a with
    | true => match memN need a with
      | true => addR mark r need
      | false => addR mark r (a :: need)
    | false => addR mark r need
/-- what is needed by what is needed -/
noncomputable def pass (mark : Nat) : Hp → List Nat → List Nat
  | [], need => need
  | b :: r, need => match Nat.ble mark b.id with
    | true => match memN need b.id with
      | true => pass mark r (addR mark (refs b.cs) need)
      | false => pass mark r need
    | false => need
noncomputable def sweep (mark : Nat) (need : List Nat) : Hp → Hp
  | [] => []
  | b :: r => match Nat.ble mark b.id with
    | true => match memN need b.id with
      | true => b :: sweep mark need r
      | false => sweep mark need r
    | false => b :: r
theorem sweep_sub {mark : Nat} {need : List Nat} {b : Blk} : ∀ {h : Hp}, b ∈ sweep mark need h → b ∈ h
  | [], hb => hb
  | c :: r, hb => by
    unfold sweep at hb
    split at hb
    · split at hb
      · rcases List.mem_cons.1 hb with rfl | hb
        · exact List.mem_cons_self
        · exact List.mem_cons_of_mem _ (sweep_sub hb)
      · exact List.mem_cons_of_mem _ (sweep_sub hb)
    · exact hb
noncomputable def sweepAll (mark : Nat) (hp : Hp) : List Nat → Hp
  | [] => sweep mark [] hp
  | need => sweep mark (pass mark hp (pass mark hp (pass mark hp need))) hp
theorem sweepAll_sub {mark : Nat} {need : List Nat} {h : Hp} {b : Blk} (hb : b ∈ sweepAll mark h need) : b ∈ h := by
  cases need with
  | nil => exact sweep_sub hb
  | cons _ _ => exact sweep_sub hb
noncomputable def hasPtr : List AV → Bool
  | [] => false
  | .e (.l (.p _ _)) :: _ => true
  | _ :: r => hasPtr r
noncomputable def oldRefs (mark : Nat) : Hp → List Nat
  | [] => []
  | b :: r => match Nat.ble mark b.id with
    | true => oldRefs mark r
    | false => refs b.cs ++ oldRefs mark r
noncomputable def gc (mark lo : Nat) (args : List AV) (y : AV) (hp : Hp) : Hp :=
  sweepAll mark hp (match hasPtr args && Nat.blt lo mark with
    | true => addR mark (refsA y) (addR mark (oldRefs mark hp) [])
    | false => addR mark (refsA y) [])
theorem gc_sub {mark lo : Nat} {args : List AV} {y : AV} {hp : Hp} : ∀ b ∈ gc mark lo args y hp, b ∈ hp := fun _ hb => sweepAll_sub hb
section
variable {P : Program}
noncomputable def resF (a : Act) : ResultVar → Sem Value
  | .tmp t => pure (a.tmps.getD t undef)
  | .cell a' t => do loadVar t (← asAddr (a.tmps.getD a' undef))
theorem resA_run {φ : Mp} {hp : Hp} {nx : Nat} {w : World} (hR : R φ hp nx w) {tm : List AV} {a : Act} (hT : RT φ tm a) : ∀ {l : List ResultVar} {xs : List AV}, resA P tm hp l = some xs →
    ∃ vs : List Value, (l.mapM (resF a)).run P w = .ok vs w ∧ All2 (AV.rel φ) xs vs
  | [], xs, h => by injection h with h; subst h; exact ⟨[], by simp, .nil⟩
  | .tmp t :: r, xs, h => by
    unfold resA at h
    split at h
    case h_2 => cases h
    rename_i x hx
    split at h
    case h_2 => cases h
    rename_i l hl
    injection h with h
    subst h
    obtain ⟨vs, h1, h2⟩ := resA_run hR hT hl
    have hx' : x.rel φ (a.tmps.getD t undef) := rho_spec hT (.tmp t) x hx
    have h0 : (resF a (.tmp t)).run P w = .ok (a.tmps.getD t undef) w := rfl
    refine ⟨a.tmps.getD t undef :: vs, ?_, .cons hx' h2⟩
    rw [List.mapM_cons, Sem.run_bind, h0]
    simp only [Sem.run_pure, Result.andThen_ok, Sem.run_bind, h1]
  | .cell p t :: r, xs, h => by
    unfold resA at h
    split at h
    case h_2 => cases h
    rename_i x hx
    split at h
    case h_2 => cases h
    rename_i y hy
    split at h
    case h_2 => cases h
    rename_i l hl
    injection h with h
    subst h
    obtain ⟨vs, h1, h2⟩ := resA_run hR hT hl
    have hx' : x.rel φ (a.tmps.getD p undef) := rho_spec hT (.tmp p) x hx
    obtain ⟨ad, v', h3, h4, h5⟩ := opLoad_var (P := P) hR hy hx'
    have h0 : (resF a (.cell p t)).run P w = .ok v' w := by
      show (do loadVar t (← asAddr (a.tmps.getD p undef)) : Sem Value).run P w = _
      rw [h3]
      exact h4
    refine ⟨v' :: vs, ?_, .cons h5 h2⟩
    rw [List.mapM_cons, Sem.run_bind, h0]
    simp only [Sem.run_pure, Result.andThen_ok, Sem.run_bind, h1]
theorem tupA_spec {φ : Mp} : ∀ {l : List AV} {es : List EV} {vs : List Value}, tupA l = some es → All2 (AV.rel φ) l vs → All2 (EV.rel φ) es vs
  | [], es, vs, h, hr => by injection h with h; subst h; rw [hr.nil_inv]; exact .nil
  | .e x :: r, es, vs, h, hr => by
    obtain ⟨v, vs', rfl, h1, h2⟩ := hr.cons_inv
    unfold tupA at h
    split at h
    case h_2 => cases h
    rename_i l hl
    injection h with h
    subst h
    exact .cons h1 (tupA_spec hl h2)
  | .t _ :: _, _, _, h, _ => by cases h
theorem results_run {φ : Mp} {hp : Hp} {nx : Nat} {w : World} (hR : R φ hp nx w) {tm : List AV} {a : Act} (hT : RT φ tm a) {fn : Func} {xs : List AV} (h : resA P tm hp fn.results.toList = some xs) {y : AV} (hy : resV xs = some y) : ∃ v, (results fn a.tmps).run P w = .ok v w ∧ y.rel φ v := by
  obtain ⟨vs, h1, h2⟩ := resA_run hR hT h
  have hrun : (results fn a.tmps).run P w = .ok (if h : vs.toArray.size = 1 then vs.toArray[0] else .tuple vs.toArray) w := by
    have he : results fn a.tmps = (do let vs ← fn.results.mapM (resF a); pure (if h : vs.size = 1 then vs[0] else .tuple vs)) := by
      unfold results
      congr 1
    rw [he, Array.mapM_eq_mapM_toList]
    simp only [Sem.run_bind, map_eq_pure_bind, h1, Result.andThen_ok, Sem.run_pure]
  unfold resV at hy
  split at hy
  · rename_i x
    injection hy with hy
    subst hy
    obtain ⟨v, vs', rfl, h3, h4⟩ := h2.cons_inv
    obtain rfl := h4.nil_inv
    exact ⟨v, by simpa using hrun, h3⟩
  · rename_i hne
    split at hy
    case h_2 => cases hy
    rename_i es hes
    injection hy with hy
    subst hy
    have h1 : ¬ vs.toArray.size = 1 := fun h => by
      have := h2.len
      simp at h
      rw [h] at this
      match xs, this with
      | [x], _ => exact hne x rfl
    rw [dif_neg h1] at hrun
    exact ⟨_, hrun, vs, tupA_spec hes h2, rfl⟩
/-- the body of a function -/
noncomputable def callBody (P : Program) (rec : Rec) : Call := fun f args lo hp nx =>
  match nth P.funcs.toList f with
  | some fn => match fn.body with
    | some body => match rec false lo body ⟨args ++ List.replicate (fn.ntmps - args.length) vUnd, hp, nx⟩ with
      | some (.exit _, _) => none
      | some (_, st') => match resA P st'.tm st'.hp fn.results.toList with
        | some l => match resV l with
          | some y => some (y, gc nx lo args y st'.hp, st'.nx)
          | none => none
        | none => none
      | none => none
    | none => none
  | none => none
noncomputable def callOf (P : Program) (spec : Call) (rec : Rec) : Call := fun f args lo hp nx =>
  match spec f args lo hp nx with
  | some r => some r
  | none => callBody P rec f args lo hp nx
noncomputable def evStep (P : Program) (ok : Nat → Bool) (spec : Call) (rec : Rec) : Rec := fun lp lo c st =>
  match lp with
  | true => match rec false lo c st with
    | some (.normal, st') => rec true lo c st'
    | r => r
  | false => match c with
    | .skip => some (.normal, st)
    | .label _ => some (.normal, st)
    | .exit id => some (.exit id, st)
    | .ret => some (.ret, st)
    | .seq a b => match rec false lo a st with
      | some (.normal, st') => rec false lo b st'
      | r => r
    | .cond c a b => match rho st.tm c with
      | some (.e (.l (.c (.bool true)))) => rec false lo a st
      | some (.e (.l (.c (.bool false)))) => rec false lo b st
      | _ => none
    | .block id b => match rec false lo b st with
      | some (.exit id', st') => match Nat.beq id' id with
        | true => some (.normal, st')
        | false => some (.exit id', st')
      | r => r
    | .loop b => rec true lo b st
    | .scope b => rec false lo b st
    | .region _ ops draw => match draw with
      | false => match evOps P ok (callOf P spec rec) ops.toList lo ops.toList st with
        | some st' => some (.normal, st')
        | none => none
      | true => match evDraw P ok (callOf P spec rec) ops.toList lo st with
        | some st' => some (.normal, st')
        | none => none
    | _ => none
noncomputable def ev (P : Program) (ok : Nat → Bool) (spec : Call) (n : Nat) : Rec := Nat.rec (fun _ _ _ _ => none) (fun _ ih => evStep P ok spec ih) n
/-- a round of a loop, and what follows -/
noncomputable def LoopB (P : Program) (c : Code) (Q : Exit → Act → World → Prop) (a : Act) (w : World) : Prop :=
  ∀ (b : Frame) (k : List Item) (cs : List Frame), ∃ e a' w', Q e a' w' ∧ Arrives P (lone (b.at a (.code c :: .inLoop c :: k)) cs w) b k cs e a' w'
theorem loopB_of {c : Code} {Q : Exit → Act → World → Prop} {a : Act} {w : World} (h : c.wp P (Exit.then (LoopB P c Q) Q) a w) : LoopB P c Q a w := by
  intro b k cs
  obtain ⟨e, a₁, w₁, hq, harr⟩ := h b (.inLoop c :: k) cs
  cases e with
  | normal =>
    obtain ⟨e₂, a₂, w₂, hq₂, harr₂⟩ := hq b k cs
    exact ⟨e₂, a₂, w₂, hq₂, .of_steps (Steps.trans harr (.one step_inLoop)) harr₂⟩
  | exit id => exact ⟨_, a₁, w₁, hq, .pass (x := .inLoop c) rfl (fun _ _ => .inl (by simp)) harr⟩
  | goto l => exact ⟨_, a₁, w₁, hq, .pass (x := .inLoop c) rfl (fun _ _ => .inl (by simp)) harr⟩
  | ret => exact ⟨_, a₁, w₁, hq, .pass (x := .inLoop c) rfl (fun _ _ => .inl (by simp)) harr⟩
  | panic ch => exact ⟨_, a₁, w₁, hq, .pass (x := .inLoop c) rfl (fun _ _ => .inl (by simp)) harr⟩
  | outgrown => exact ⟨_, a₁, w₁, hq, .pass (x := .inLoop c) rfl (fun _ _ => .inl (by simp)) harr⟩
theorem wp_loopB {c : Code} {Q : Exit → Act → World → Prop} {a : Act} {w : World} (h : LoopB P c Q a w) : (Code.loop c).wp P Q a w := by
  intro b k cs
  obtain ⟨e, a', w', hq, harr⟩ := h b k cs
  exact ⟨e, a', w', hq, .of_steps (.one step_loop) harr⟩
noncomputable def RecSound (P : Program) (rec : Rec) : Prop := ∀ lp lo c st e st', rec lp lo c st = some (e, st') → st.nx ≤ st'.nx ∧ ∀ (φ : Mp) (a : Act) (w : World) (Q : Exit → Act → World → Prop), RT φ st.tm a → R φ st.hp st.nx w → Fresh φ st.nx st'.nx →
  (∀ φ' a' w', Goes lo φ st a w φ' st' a' w' → Q e.to a' w') → if lp = true then LoopB P c Q a w else c.wp P Q a w
theorem callBody_sound {rec : Rec} (hr : RecSound P rec) : CallSound P (callBody P rec) := by
  intro f args lo hp nx y hp' nx' h φ w args' hargs hR hf
  unfold callBody at h
  split at h
  case h_2 => cases h
  rename_i fn hfn
  have hfn : P.funcs[f]? = some fn := by rw [← nth_get hfn]; simp
  split at h
  case h_2 => cases h
  rename_i body hb
  have fin_ : ∀ {e : Ex} {st' : St}, rec false lo body ⟨args ++ List.replicate (fn.ntmps - args.length) vUnd, hp, nx⟩ = some (e, st') → (∀ id, e ≠ .exit id) → (match resA P st'.tm st'.hp fn.results.toList with
        | some l => match resV l with
          | some y => some (y, gc nx lo args y st'.hp, st'.nx)
          | none => none
        | none => none) = some (y, hp', nx') → Calls P f args' w fun e w' => ∃ v, e = .returned v ∧ Out lo φ hp nx w y hp' nx' v w' := by
    intro e st' hrec hne hres
    split at hres
    case h_2 => cases hres
    rename_i l hl
    split at hres
    case h_2 => cases hres
    rename_i y' hy'
    simp only [Option.some.injEq, Prod.mk.injEq] at hres
    obtain ⟨rfl, rfl, rfl⟩ := hres
    have hT : RT φ (args ++ List.replicate (fn.ntmps - args.length) vUnd) { tmps := args' ++ Array.replicate (fn.ntmps - args'.size) undef, defers := [] } := by
      have hal : args.length = args'.size := by have := hargs.len; simpa using this
      show All2 _ _ (args' ++ Array.replicate (fn.ntmps - args'.size) undef).toList
      rw [Array.toList_append, Array.toList_replicate, ← hal]
      refine hargs.append ⟨by simp, fun i x v h1 h2 => ?_⟩
      rw [List.getElem?_replicate] at h1 h2
      split at h1
      · rename_i hi
        rw [if_pos hi] at h2
        injection h1 with h1
        injection h2 with h2
        subst h1; subst h2
        rfl
      · cases h1
    have := (hr _ _ _ _ _ _ hrec).2 φ _ w (bodyPost P fn fun e w' => ∃ v, e = .returned v ∧ Out lo φ hp nx w y' (gc nx lo args y' st'.hp) st'.nx v w') hT hR hf (fun φ' a' w' hg => by
      obtain ⟨v, h1, h2⟩ := results_run (P := P) hg.r hg.rt hl hy'
      have hend : a'.defers = [] ∧ ∃ v, (results fn a'.tmps).run P w' = .ok v w' ∧ ∃ v', Ending.returned v = .returned v' ∧ Out lo φ hp nx w y' (gc nx lo args y' st'.hp) st'.nx v' w' :=
        ⟨hg.defers, v, h1, v, rfl, φ', hg.ext, h2, hg.r.drop gc_sub, hg.fr.drop gc_sub⟩
      cases e with
      | normal => exact hend
      | ret => exact hend
      | exit id => exact absurd rfl (hne id))
    exact calls_of_wp hfn hb (by simpa using this)
  split at h
  · cases h
  · rename_i e st' hne hrec
    exact fin_ hrec (fun id he => hne id he) h
  · cases h
theorem callOf_sound {spec : Call} (hs : CallSound P spec) {rec : Rec} (hr : RecSound P rec) : CallSound P (callOf P spec rec) := by
  intro f args lo hp nx y hp' nx' h
  unfold callOf at h
  split at h
  · rename_i r hsp
    injection h with h
    subst h
    exact hs f args lo hp nx _ _ _ hsp
  · exact callBody_sound hr f args lo hp nx _ _ _ h
theorem evStep_sound (hm : P.follows .mixedOrders = true) {ok : Nat → Bool} (hok : ∀ g, ok g = true → ∀ args w, (callFunc g args).run P w = .ok (.enter g args) w) {spec : Call} (hs : CallSound P spec) {rec : Rec} (hr : RecSound P rec) : RecSound P (evStep P ok spec rec) := by
  have hO : OkP P ok (callOf P spec rec) := ⟨hok, callOf_sound hs hr⟩
  intro lp lo c st e st' h
  unfold evStep at h
  cases lp with
  | true =>
    simp only at h
    split at h
    · rename_i st1 h1
      obtain ⟨l1, s1⟩ := hr _ _ _ _ _ _ h1
      obtain ⟨l2, s2⟩ := hr _ _ _ _ _ _ h
      refine ⟨Nat.le_trans l1 l2, fun φ a w Q hT hR hf hQ => ?_⟩
      rw [if_pos rfl]
      refine loopB_of ?_
      have := s1 φ a w (Exit.then (LoopB P c Q) Q) hT hR (hf.left l2) (fun φ' a' w' hg => by
        have := s2 φ' a' w' Q hg.rt hg.r (hf.right hg.ext) (fun φ'' a'' w'' hg' => hQ φ'' a'' w'' (hg.trans hg'))
        rw [if_pos rfl] at this
        exact this)
      simpa using this
    · rename_i r hne
      obtain ⟨l1, s1⟩ := hr _ _ _ _ _ _ h
      refine ⟨l1, fun φ a w Q hT hR hf hQ => ?_⟩
      rw [if_pos rfl]
      refine loopB_of ?_
      have := s1 φ a w (Exit.then (LoopB P c Q) Q) hT hR hf (fun φ' a' w' hg => by
        have := hQ φ' a' w' hg
        cases e with
        | normal => exact absurd h (hne st')
        | exit id => exact this
        | ret => exact this)
      simpa using this
  | false =>
    simp only at h
    have done : ∀ {e' : Ex} {c' : Code}, (∀ {Q : Exit → Act → World → Prop} {a : Act} {w : World}, Q e'.to a w → c'.wp P Q a w) → some (e', st) = some (e, st') → st.nx ≤ st'.nx ∧ ∀ (φ : Mp) (a : Act) (w : World) (Q : Exit → Act → World → Prop), RT φ st.tm a → R φ st.hp st.nx w → Fresh φ st.nx st'.nx → (∀ φ' a' w', Goes lo φ st a w φ' st' a' w' → Q e.to a' w') → if false = true then LoopB P c' Q a w else c'.wp P Q a w := by
      intro e' c' hwp he
      simp only [Option.some.injEq, Prod.mk.injEq] at he
      obtain ⟨rfl, rfl⟩ := he
      refine ⟨Nat.le_refl _, fun φ a w Q hT hR hf hQ => ?_⟩
      rw [if_neg (by simp)]
      exact hwp (hQ φ a w (.refl hT hR))
    split at h
    · exact done (e' := .normal) (fun hq => wp_skip hq) h
    · exact done (e' := .normal) (fun hq => wp_label hq) h
    · exact done (e' := .exit _) (fun hq => wp_exit hq) h
    · exact done (e' := .ret) (fun hq => wp_ret hq) h
    · -- seq
      rename_i x y
      split at h
      · rename_i st1 h1
        obtain ⟨l1, s1⟩ := hr _ _ _ _ _ _ h1
        obtain ⟨l2, s2⟩ := hr _ _ _ _ _ _ h
        refine ⟨Nat.le_trans l1 l2, fun φ a w Q hT hR hf hQ => ?_⟩
        rw [if_neg (by simp)]
        refine wp_seq ?_
        have := s1 φ a w (Exit.then (y.wp P Q) Q) hT hR (hf.left l2) (fun φ' a' w' hg => by
          have := s2 φ' a' w' Q hg.rt hg.r (hf.right hg.ext) (fun φ'' a'' w'' hg' => hQ φ'' a'' w'' (hg.trans hg'))
          rw [if_neg (by simp)] at this
          exact this)
        simpa using this
      · rename_i r hne
        obtain ⟨l1, s1⟩ := hr _ _ _ _ _ _ h
        refine ⟨l1, fun φ a w Q hT hR hf hQ => ?_⟩
        rw [if_neg (by simp)]
        refine wp_seq ?_
        have := s1 φ a w (Exit.then (y.wp P Q) Q) hT hR hf (fun φ' a' w' hg => by
          have := hQ φ' a' w' hg
          cases e with
          | normal => exact absurd h (hne st')
          | exit id => exact this
          | ret => exact this)
        simpa using this
    · -- cond
      rename_i c0 x y
      split at h
      · rename_i hc
        obtain ⟨l1, s1⟩ := hr _ _ _ _ _ _ h
        refine ⟨l1, fun φ a w Q hT hR hf hQ => ?_⟩
        rw [if_neg (by simp)]
        have hc : a.eval c0 = .bool true := rho_spec hT c0 _ hc
        exact wp_cond_true hc (by simpa using s1 φ a w Q hT hR hf hQ)
      · rename_i hc
        obtain ⟨l1, s1⟩ := hr _ _ _ _ _ _ h
        refine ⟨l1, fun φ a w Q hT hR hf hQ => ?_⟩
        rw [if_neg (by simp)]
        have hc : a.eval c0 = .bool false := rho_spec hT c0 _ hc
        exact wp_cond_false hc (by simpa using s1 φ a w Q hT hR hf hQ)
      · cases h
    · -- block
      rename_i id x
      split at h
      · rename_i id' st1 h1
        obtain ⟨l1, s1⟩ := hr _ _ _ _ _ _ h1
        split at h
        · rename_i hid
          simp only [Option.some.injEq, Prod.mk.injEq] at h
          obtain ⟨rfl, rfl⟩ := h
          refine ⟨l1, fun φ a w Q hT hR hf hQ => ?_⟩
          rw [if_neg (by simp)]
          refine wp_block ?_
          have := s1 φ a w (Exit.inBlock id Q) hT hR hf (fun φ' a' w' hg => by
            show Exit.inBlock id Q (.exit id') a' w'
            simp only [Exit.inBlock]
            rw [if_pos (Nat.eq_of_beq_eq_true hid)]
            exact hQ φ' a' w' hg)
          simpa using this
        · rename_i hid
          simp only [Option.some.injEq, Prod.mk.injEq] at h
          obtain ⟨rfl, rfl⟩ := h
          refine ⟨l1, fun φ a w Q hT hR hf hQ => ?_⟩
          rw [if_neg (by simp)]
          refine wp_block ?_
          have := s1 φ a w (Exit.inBlock id Q) hT hR hf (fun φ' a' w' hg => by
            show Exit.inBlock id Q (.exit id') a' w'
            simp only [Exit.inBlock]
            rw [if_neg (fun e => by rw [e, Nat.beq_refl] at hid; cases hid)]
            exact hQ φ' a' w' hg)
          simpa using this
      · rename_i r hne
        obtain ⟨l1, s1⟩ := hr _ _ _ _ _ _ h
        refine ⟨l1, fun φ a w Q hT hR hf hQ => ?_⟩
        rw [if_neg (by simp)]
        refine wp_block ?_
        have := s1 φ a w (Exit.inBlock id Q) hT hR hf (fun φ' a' w' hg => by
          have := hQ φ' a' w' hg
          cases e with
          | normal => exact this
          | exit id' => exact absurd h (hne id' st')
          | ret => exact this)
        simpa using this
    · -- loop
      rename_i b
      obtain ⟨l1, s1⟩ := hr _ _ _ _ _ _ h
      refine ⟨l1, fun φ a w Q hT hR hf hQ => ?_⟩
      rw [if_neg (by simp)]
      exact wp_loopB (by simpa using s1 φ a w Q hT hR hf hQ)
    · -- scope
      rename_i b
      obtain ⟨l1, s1⟩ := hr _ _ _ _ _ _ h
      refine ⟨l1, fun φ a w Q hT hR hf hQ => ?_⟩
      rw [if_neg (by simp)]
      refine wp_scope_straight ?_
      have := s1 φ a w (Exit.noGoto Q) hT hR hf (fun φ' a' w' hg => by
        have := hQ φ' a' w' hg
        cases e with
        | normal => exact this
        | exit id' => exact this
        | ret => exact this)
      simpa using this
    · -- region
      rename_i id ops draw
      split at h
      · split at h
        case h_2 => cases h
        rename_i st1 h1
        simp only [Option.some.injEq, Prod.mk.injEq] at h
        obtain ⟨rfl, rfl⟩ := h
        refine ⟨evOps_le h1, fun φ a w Q hT hR hf hQ => ?_⟩
        rw [if_neg (by simp)]
        have := evOps_sound hO h1 hT hR hf (Q := Q) hQ
        exact wp_region_list (by simpa using this)
      · split at h
        case h_2 => cases h
        rename_i st1 h1
        simp only [Option.some.injEq, Prod.mk.injEq] at h
        obtain ⟨rfl, rfl⟩ := h
        refine ⟨evDraw_le h1, fun φ a w Q hT hR hf hQ => ?_⟩
        rw [if_neg (by simp)]
        have := evDraw_sound hm hO h1 hT hR hf (Q := Q) (id := id) hQ
        simpa using this
    · cases h
theorem ev_sound (hm : P.follows .mixedOrders = true) {ok : Nat → Bool} (hok : ∀ g, ok g = true → ∀ args w, (callFunc g args).run P w = .ok (.enter g args) w) {spec : Call} (hs : CallSound P spec) : ∀ n, RecSound P (ev P ok spec n)
  | 0 => fun lp lo c st e st' h => by cases h
  | n + 1 => evStep_sound hm hok hs (ev_sound hm hok hs n)
end
end Go.Proofs.YthiblfkmcdnalaaGreat.Ae

namespace Go.Proofs.YthiblfkmcdnalaaGreat.Ae
open Go.RowKit

noncomputable def eqV : Value → Value → Bool
  | .int k a, .int k' b => decide (k = k') && eqI a b
  | .bool a, .bool b => sameB a b
  | .string a, .string b => bytesEq a.data.toList b.data.toList
  | .pointer none, .pointer none => true
  | .slice none a b, .slice none c d => Nat.beq a c && Nat.beq b d
  | _, _ => false
theorem eqV_spec {x y : Value} (h : eqV x y = true) : x = y := by
  unfold eqV at h
  split at h
  · simp only [Bool.and_eq_true, decide_eq_true_eq, eqI_eq, beq_iff_eq] at h
    rw [h.1, h.2]
  · rename_i a b
    cases a <;> cases b <;> first | rfl | cases h
  · rename_i a b
    rw [bytesEq_eq, beq_iff_eq] at h
    congr 1
    apply ByteArray.ext
    exact Array.ext' h
  · rfl
  · simp only [Bool.and_eq_true] at h
    rw [Nat.eq_of_beq_eq_true h.1, Nat.eq_of_beq_eq_true h.2]
  · cases h
noncomputable def isAt (σ : List Nat) (i j : Nat) : Bool :=
  match nth σ i with
  | some k => Nat.beq k j
  | none => false
theorem isAt_spec {σ : List Nat} {i j : Nat} (h : isAt σ i j = true) : nth σ i = some j := by
  unfold isAt at h
  split at h
  · rename_i k hk
    rw [hk, Nat.eq_of_beq_eq_true h]
  · cases h
/-- a pattern and what is there -/
noncomputable def mLV (σ : List Nat) : LV → LV → Bool
  | .c a, .c b => eqV a b
  | .p b o, .p b' o' => isAt σ b b' && Nat.beq o o'
  | .s b o l c, .s b' o' l' c' => isAt σ b b' && Nat.beq o o' && Nat.beq l l' && Nat.beq c c'
  | .u b o l d, .u b' o' l' d' => isAt σ b b' && Nat.beq o o' && Nat.beq l l' && Nat.beq d d'
  | .z, .z => true
  | _, _ => false
noncomputable def back (σ : List Nat) (φ : Mp) : Mp := fun i => match nth σ i with
  | some j => φ j
  | none => none
theorem back_at {σ : List Nat} {φ : Mp} {i j : Nat} (h : nth σ i = some j) : back σ φ i = φ j := by unfold back; rw [h]
theorem mLV_spec {σ : List Nat} {φ : Mp} {x y : LV} (h : mLV σ x y = true) {v : Value} (hv : y.rel φ v) : x.rel (back σ φ) v := by
  unfold mLV at h
  split at h
  · rw [eqV_spec h]; exact hv
  · simp only [Bool.and_eq_true] at h
    obtain ⟨g, κ, h1, rfl⟩ := hv
    obtain rfl := Nat.eq_of_beq_eq_true h.2
    exact ⟨g, κ, by rw [back_at (isAt_spec h.1)]; exact h1, rfl⟩
  · simp only [Bool.and_eq_true] at h
    obtain ⟨g, κ, h1, rfl⟩ := hv
    obtain rfl := Nat.eq_of_beq_eq_true h.1.1.2
    obtain rfl := Nat.eq_of_beq_eq_true h.1.2
    obtain rfl := Nat.eq_of_beq_eq_true h.2
    exact ⟨g, κ, by rw [back_at (isAt_spec h.1.1.1)]; exact h1, rfl⟩
  · simp only [Bool.and_eq_true] at h
    obtain ⟨g, κ, h1, h2, rfl⟩ := hv
    obtain rfl := Nat.eq_of_beq_eq_true h.1.1.2
    obtain rfl := Nat.eq_of_beq_eq_true h.1.2
    obtain rfl := Nat.eq_of_beq_eq_true h.2
    exact ⟨g, κ, by rw [back_at (isAt_spec h.1.1.1)]; exact h1, h2, rfl⟩
  · exact hv
  · cases h
noncomputable def mL (σ : List Nat) : List LV → List LV → Bool
  | [], [] => true
  | x :: xs, y :: ys => match mLV σ x y with
    | true => mL σ xs ys
    | false => false
  | _, _ => false
theorem mL_spec {σ : List Nat} {φ : Mp} : ∀ {xs ys : List LV} {vs : List Value}, mL σ xs ys = true → All2 (LV.rel φ) ys vs → All2 (LV.rel (back σ φ)) xs vs
  | [], [], vs, _, hv => by rw [hv.nil_inv]; exact .nil
  | x :: xs, y :: ys, vs, h, hv => by
    obtain ⟨v, vs', rfl, h1, h2⟩ := hv.cons_inv
    unfold mL at h
    split at h
    · rename_i hx
      exact .cons (mLV_spec hx h1) (mL_spec h h2)
    · cases h
  | [], _ :: _, _, h, _ => by cases h
  | _ :: _, [], _, h, _ => by cases h
noncomputable def mLen {α β : Type} : List α → List β → Bool
  | [], [] => true
  | _ :: xs, _ :: ys => mLen xs ys
  | _, _ => false
theorem mL_len {σ : List Nat} : ∀ {xs ys : List LV}, mL σ xs ys = true → xs.length = ys.length
  | [], [], _ => rfl
  | x :: xs, y :: ys, h => by
    unfold mL at h
    split at h
    · rw [List.length_cons, List.length_cons, mL_len h]
    · cases h
  | [], _ :: _, h => by cases h
  | _ :: _, [], h => by cases h
noncomputable def mAV (σ : List Nat) : AV → AV → Bool
  | .e (.l x), .e (.l y) => mLV σ x y
  | .e (.g xs), .e (.g ys) => mL σ xs ys
  | _, _ => false
theorem mAV_spec {σ : List Nat} {φ : Mp} {x y : AV} (h : mAV σ x y = true) {v : Value} (hv : y.rel φ v) : x.rel (back σ φ) v := by
  unfold mAV at h
  split at h
  · exact mLV_spec h hv
  · obtain ⟨vs, h1, h2⟩ := hv
    exact ⟨vs, mL_spec h h1, h2⟩
  · cases h
noncomputable def mArgs (σ : List Nat) : List AV → List AV → Bool
  | [], [] => true
  | x :: xs, y :: ys => match mAV σ x y with
    | true => mArgs σ xs ys
    | false => false
  | _, _ => false
theorem mArgs_spec {σ : List Nat} {φ : Mp} : ∀ {xs ys : List AV} {vs : List Value}, mArgs σ xs ys = true → All2 (AV.rel φ) ys vs → All2 (AV.rel (back σ φ)) xs vs
  | [], [], vs, _, hv => by rw [hv.nil_inv]; exact .nil
  | x :: xs, y :: ys, vs, h, hv => by
    obtain ⟨v, vs', rfl, h1, h2⟩ := hv.cons_inv
    unfold mArgs at h
    split at h
    · rename_i hx
      exact .cons (mAV_spec hx h1) (mArgs_spec h h2)
    · cases h
  | [], _ :: _, _, h, _ => by cases h
  | _ :: _, [], _, h, _ => by cases h
/-- the blocks of the pattern lie in the memory -/
noncomputable def mH (σ : List Nat) (hp : Hp) : Hp → Bool
  | [] => true
  | b :: r => match nth σ b.id with
    | some j => match look hp j with
      | some k => match mL σ b.cs k.cs && Nat.beq b.ty k.ty && Nat.beq b.sz k.sz with
        | true => mH σ hp r
        | false => false
      | none => false
    | none => false
theorem mH_spec {σ : List Nat} {hp : Hp} : ∀ {h0 : Hp}, mH σ hp h0 = true → ∀ b ∈ h0, ∃ j k, nth σ b.id = some j ∧ look hp j = some k ∧ mL σ b.cs k.cs = true ∧ b.ty = k.ty ∧ b.sz = k.sz
  | c :: r, h, b, hb => by
    unfold mH at h
    split at h
    case h_2 => cases h
    rename_i j hj
    split at h
    case h_2 => cases h
    rename_i k hk
    split at h
    case h_2 => cases h
    rename_i hq
    simp only [Bool.and_eq_true] at hq
    rcases List.mem_cons.1 hb with rfl | hb
    · exact ⟨j, k, hj, hk, hq.1.1, Nat.eq_of_beq_eq_true hq.1.2, Nat.eq_of_beq_eq_true hq.2⟩
    · exact mH_spec h b hb
noncomputable def nodupN : List Nat → Bool
  | [] => true
  | a :: r => match memN r a with
    | true => false
    | false => nodupN r
theorem nodupN_spec : ∀ {l : List Nat}, nodupN l = true → ∀ (i j : Nat) (x : Nat), l[i]? = some x → l[j]? = some x → i = j
  | [], _, i, j, x, h, _ => by simp at h
  | a :: r, h, i, j, x, hi, hj => by
    unfold nodupN at h
    split at h
    case h_1 => cases h
    rename_i hm
    have hno : ∀ q, r[q]? = some a → False := fun q hq => by
      have := memN_spec (List.mem_of_getElem? hq)
      rw [hm] at this; cases this
    cases i with
    | zero =>
      cases j with
      | zero => rfl
      | succ j => simp at hi hj; subst hi; exact (hno j hj).elim
    | succ i =>
      cases j with
      | zero => simp at hi hj; subst hj; exact (hno i hi).elim
      | succ j => simp at hi hj; rw [nodupN_spec h i j x hi hj]
structure Memo where
  f : FuncId
  args : List AV
  hp : Hp
  n : Nat
  y : AV
/-- the numbers of the blocks that the arguments name, one behind the other -/
noncomputable def sigOf : List AV → List Nat
  | [] => []
  | .e (.l x) :: r => refs [x] ++ sigOf r
  | .e (.g xs) :: r => refs xs ++ sigOf r
  | .t _ :: r => sigOf r
noncomputable def memoFitsS (e : Memo) (args : List AV) (hp : Hp) (σ : List Nat) : Bool :=
  match Nat.beq σ.length e.n with
  | true => match nodupN σ with
    | true => match mArgs σ e.args args with
      | true => mH σ hp e.hp
      | false => false
    | false => false
  | false => false
noncomputable def memoFits (e : Memo) (f : FuncId) (args : List AV) (hp : Hp) : Bool :=
  match Nat.beq e.f f with
  | true => memoFitsS e args hp (sigOf args)
  | false => false
noncomputable def memoSpec : List Memo → Call
  | [] => fun _ _ _ _ _ => none
  | e :: r => fun f args lo hp nx => match memoFits e f args hp with
    | true => some (e.y, hp, nx)
    | false => memoSpec r f args lo hp nx
section
variable {P : Program}
/-- what is known of a memo: it was reckoned, and its answer is a value -/
def MemoOk (P : Program) (e : Memo) : Prop := ∃ (call : Call) (hp' : Hp) (nx' : Nat) (v : Value), CallSound P call ∧ call e.f e.args e.n e.hp e.n = some (e.y, hp', nx') ∧ e.y.val = some v ∧ (∀ φ, e.y.rel φ v) ∧ ∀ b ∈ e.hp, b.id < e.n
theorem memoFits_sound {e : Memo} (he : MemoOk P e) {f : FuncId} {args : List AV} {hp : Hp} (h : memoFits e f args hp = true) {φ : Mp} {w : World} {args' : Array Value} {nx lo : Nat} (hargs : All2 (AV.rel φ) args args'.toList) (hR : R φ hp nx w) :
    Calls P f args' w fun e' w' => ∃ v, e' = .returned v ∧ Out lo φ hp nx w e.y hp nx v w' := by
  unfold memoFits at h
  split at h
  case h_2 => cases h
  rename_i hf
  obtain rfl := Nat.eq_of_beq_eq_true hf
  unfold memoFitsS at h
  split at h
  case h_2 => cases h
  rename_i hlen
  have hlen := Nat.eq_of_beq_eq_true hlen
  split at h
  case h_2 => cases h
  rename_i hnd
  split at h
  case h_2 => cases h
  rename_i hma
  obtain ⟨call, hp', nx', v, hc, hev, hy, hyv, hids⟩ := he
  have hb := mH_spec h
  have hR0 : R (back (sigOf args) φ) e.hp e.n w := by
    refine ⟨fun b hbm => ?_, hids, fun b hbm b' hbm' g κ κ' h1 h2 => ?_⟩
    · obtain ⟨j, k, h1, h2, h3, h4, h5⟩ := hb b hbm
      obtain ⟨hk1, hk2⟩ := look_spec h2
      obtain ⟨g, κ, arr, a1, a2, a3, a4, a5⟩ := hR.blk k hk1
      refine ⟨g, κ, arr, by rw [back_at h1, ← hk2]; exact a1, by rw [h4]; exact a2, ?_, by rw [h5, mL_len h3]; exact a4, by rw [h5]; exact a5⟩
      rw [mL_len h3]
      exact mL_spec h3 a3
    · obtain ⟨j, k, e1, e2, _⟩ := hb b hbm
      obtain ⟨j', k', e1', e2', _⟩ := hb b' hbm'
      obtain ⟨hk1, hk2⟩ := look_spec e2
      obtain ⟨hk1', hk2'⟩ := look_spec e2'
      rw [back_at e1] at h1
      rw [back_at e1'] at h2
      have := hR.inj k hk1 k' hk1' g κ κ' (by rw [hk2]; exact h1) (by rw [hk2']; exact h2)
      rw [hk2, hk2'] at this
      subst this
      exact nodupN_spec hnd b.id b'.id j (nth_get e1) (nth_get e1')
  have hfr : Fresh (back (sigOf args) φ) e.n nx' := fun i h1 _ => by
    unfold back
    have : nth (sigOf args) i = none := by rw [nth_eq]; exact List.getElem?_eq_none (by omega)
    rw [this]
  refine Calls.mono (hc e.f e.args e.n e.hp e.n e.y hp' nx' hev _ w args' (mArgs_spec hma hargs) hR0 hfr) ?_
  rintro e' w' ⟨v', rfl, φ', hE, hrel, hR', hFr⟩
  have hv : v' = v := AV.val_spec hy hrel
  subst hv
  have hblk : ∀ g, g < w.heap.size → w'.heap[g]? = w.heap[g]? := fun g hg => hFr.blk g hg fun ⟨b, hbm, hlo, _⟩ => by have := hids b hbm; omega
  exact ⟨v', rfl, φ, .refl _ _, hyv φ, ⟨fun b hbm => (hR.blk b hbm).mono (fun _ _ h => h) fun g κ hg => hblk g ((hR.blk b hbm).lt hg), hR.lo, hR.inj⟩,
    ⟨hFr.os, hFr.tape, hFr.output, hFr.size, fun g hg _ => hblk g hg, fun g h => .inr h⟩⟩
theorem memoSpec_sound : ∀ {l : List Memo}, (∀ e ∈ l, MemoOk P e) → CallSound P (memoSpec l)
  | [], _ => fun f args lo hp nx y hp' nx' h => by cases h
  | e :: r, hl => fun f args lo hp nx y hp' nx' h => by
    unfold memoSpec at h
    split at h
    · rename_i hfit
      simp only [Option.some.injEq, Prod.mk.injEq] at h
      obtain ⟨rfl, rfl, rfl⟩ := h
      exact fun φ w args' hargs hR _ => memoFits_sound (hl e List.mem_cons_self) hfit hargs hR
    · exact memoSpec_sound (fun e' he => hl e' (List.mem_cons_of_mem _ he)) f args lo hp nx y hp' nx' h
theorem noSpec_sound : CallSound P (fun _ _ _ _ _ => none) := fun f args lo hp nx y hp' nx' h => by cases h
/-- two tables of contracts, one behind the other -/
noncomputable def orSpec (c d : Call) : Call := fun f args lo hp nx => match c f args lo hp nx with
  | some r => some r
  | none => d f args lo hp nx
theorem orSpec_sound {c d : Call} (hc : CallSound P c) (hd : CallSound P d) : CallSound P (orSpec c d) := fun f args lo hp nx y hp' nx' h => by
  unfold orSpec at h
  split at h
  · rename_i r hr
    injection h with h
    subst h
    exact hc f args lo hp nx _ _ _ hr
  · exact hd f args lo hp nx _ _ _ h
/-- a call that leaves what was there as it was -/
theorem out_below {lo : Nat} {φ : Mp} {hp : Hp} {nx : Nat} {w w' : World} (hR : R φ hp nx w) {y : AV} {v : Value} (hy : y.rel φ v) (hb : Below w.heap.size w w') : Out lo φ hp nx w y hp nx v w' :=
  ⟨φ, .refl _ _, hy, ⟨fun b hbm => (hR.blk b hbm).mono (fun _ _ h => h) fun g κ hg => hb.block g ((hR.blk b hbm).lt hg), hR.lo, hR.inj⟩, ⟨hb.os, hb.tape, hb.output, hb.size, fun g hg _ => hb.block g hg, fun g h => .inr h⟩⟩
end
end Go.Proofs.YthiblfkmcdnalaaGreat.Ae

namespace Go.Proofs.YthiblfkmcdnalaaGreat.Ae
open Go.RowKit Go.Proofs.YthiblfkmcdnalaaGreat
set_option maxRecDepth 1000000

/-- may the function be entered? -/
noncomputable def okB (f : Nat) : Bool := match Tryz.prog.funcs[f]? with
  | some fn => !(fn.name == "runtime.NumGoroutine") && fn.body.isSome
  | none => false
theorem okB_spec (g : Nat) (h : okB g = true) (args : Array Value) (w : World) : (callFunc g args).run Tryz.prog w = .ok (.enter g args) w := by
  unfold okB at h
  split at h
  case h_2 => cases h
  rename_i fn hfn
  simp only [Bool.and_eq_true, Bool.not_eq_true'] at h
  have hb : ¬ fn.body = none := fun e => by rw [e] at h; cases h.2
  have hn : ¬ fn.name = "runtime.NumGoroutine" := by simpa using h.1
  unfold callFunc
  simp [hfn, hn, hb]
/-- noughts -/
noncomputable def rep0 : Nat → List UInt8 := fun n => Nat.rec (motive := fun _ => List UInt8) [] (fun _ l => (0 : UInt8) :: l) n
theorem rep0_eq (n : Nat) : rep0 n = List.replicate n 0 := by
  induction n with
  | zero => rfl
  | succ n ih => show 0 :: rep0 n = _; rw [ih]; rfl
noncomputable def specRep : Call := fun f args _ hp nx =>
  match Nat.beq f 13 with
  | true => match args with
    | [.e (.l (.c (.string s))), .e (.l (.c (.int .i64 (.ofNat n))))] => match bytesEq s.data.toList [0] && Nat.ble n 1000 with
      | true => some (.e (.l (.c (.string ⟨⟨rep0 n⟩⟩))), hp, nx)
      | false => none
    | _ => none
  | false => none
theorem specRep_sound : CallSound Tryz.prog specRep := by
  intro f args lo hp nx y hp' nx' h φ w args' hargs hR hf
  unfold specRep at h
  split at h
  case h_2 => cases h
  rename_i hff
  obtain rfl := Nat.eq_of_beq_eq_true hff
  split at h
  case h_2 => cases h
  rename_i s n
  split at h
  case h_2 => cases h
  rename_i hb
  simp only [Bool.and_eq_true, bytesEq_eq, beq_iff_eq] at hb
  simp only [Option.some.injEq, Prod.mk.injEq] at h
  obtain ⟨rfl, rfl, rfl⟩ := h
  obtain ⟨v1, r1, e1, h1, h2⟩ := hargs.cons_inv
  obtain ⟨v2, r2, e2, h3, h4⟩ := h2.cons_inv
  have e3 := h4.nil_inv
  subst e3
  obtain rfl : v1 = .string s := h1
  obtain rfl : v2 = .int .i64 (.ofNat n) := h3
  subst e2
  have hargs' : args' = #[.string s, .int .i64 (.ofNat n)] := by apply Array.ext'; exact e1
  subst hargs'
  have hs : s = ⟨#[0]⟩ := by
    apply ByteArray.ext
    apply Array.ext'
    exact hb.1
  subst hs
  have := repeat_any w n (Nat.le_of_ble_eq_true hb.2)
  refine Calls.mono this ?_
  rintro e w' ⟨rfl, hbel⟩
  refine ⟨_, rfl, out_below hR ?_ hbel⟩
  show Value.string (zs n) = _
  unfold zs
  rw [rep0_eq]
noncomputable def all16 : List LV → Bool
  | [] => true
  | .c (.string s) :: r => match Nat.beq s.data.toList.length 16 with
    | true => all16 r
    | false => false
  | _ :: _ => false
noncomputable def strsOf : List LV → List ByteArray
  | [] => []
  | .c (.string s) :: r => s :: strsOf r
  | _ :: r => strsOf r
theorem all16_spec {φ : Mp} : ∀ {l : List LV} {vs : List Value}, all16 l = true → All2 (LV.rel φ) l vs → vs = (strsOf l).map .string ∧ (strsOf l).length = l.length ∧ ∀ x ∈ strsOf l, x.size = 16
  | [], vs, _, hr => by rw [hr.nil_inv]; exact ⟨rfl, rfl, fun x hx => by cases hx⟩
  | .c (.string s) :: r, vs, h, hr => by
    obtain ⟨v, vs', rfl, h1, h2⟩ := hr.cons_inv
    obtain rfl : v = .string s := h1
    unfold all16 at h
    split at h
    · rename_i hs
      obtain ⟨h3, h4, h5⟩ := all16_spec h h2
      refine ⟨by rw [h3]; rfl, by show (s :: strsOf r).length = _; simp [h4], fun x hx => ?_⟩
      rcases List.mem_cons.1 hx with rfl | hx
      · have := Nat.eq_of_beq_eq_true hs
        rw [Array.length_toList] at this
        exact this
      · exact h5 x hx
    · cases h
  | .c (.bool _) :: _, _, h, _ | .c (.int _ _) :: _, _, h, _ | .c (.float _ _) :: _, _, h, _ | .c (.complex _ _ _) :: _, _, h, _ | .c (.pointer _) :: _, _, h, _ | .c (.slice _ _ _) :: _, _, h, _ | .c (.map _) :: _, _, h, _ | .c (.chan _) :: _, _, h, _ | .c (.func _ _ _) :: _, _, h, _ | .c .nilFunc :: _, _, h, _ | .c (.iface _ _) :: _, _, h, _ | .c .nilIface :: _, _, h, _ | .c (.agg _) :: _, _, h, _ | .c (.tuple _) :: _, _, h, _
  | .p .. :: _, _, h, _ | .s .. :: _, _, h, _ | .u .. :: _, _, h, _ | .f .. :: _, _, h, _ | .z :: _, _, h, _ => by cases h
/-- disk.Read and disk.Right where nothing waits -/
noncomputable def diskArg (hp : Hp) : AV → Option (List LV)
  | .e (.g [.s b 0 35 35, .c (.slice none 0 0)]) => match look hp b with
    | some k => match Nat.beq k.ty 9 && Nat.beq k.sz 0 && Nat.beq k.cs.length 35 && all16 k.cs with
      | true => some k.cs
      | false => none
    | none => none
  | _ => none
noncomputable def specDisk : Call := fun f args _ hp nx =>
  match args with
  | [d, .e (.l (.c (.int .i64 (.ofNat k))))] => match Nat.beq f 47 && Nat.blt k 35 with
    | true => match diskArg hp d with
      | some cs => match nth cs k with
        | some y => some (.t [.l y, .l (.c (.int .i64 (.ofNat 0)))], hp, nx)
        | none => none
      | none => none
    | false => none
  | [d] => match Nat.beq f 39 with
    | true => match diskArg hp d with
      | some _ => some (.e (.l (.c (.bool true))), hp, nx)
      | none => none
    | false => none
  | _ => none
theorem diskArg_spec {φ : Mp} {hp : Hp} {nx : Nat} {w : World} (hR : R φ hp nx w) {d : AV} {cs : List LV} (h : diskArg hp d = some cs) {v : Value} (hv : d.rel φ v) :
    ∃ s c, v = .agg #[s, c] ∧ GDk ⟨strsOf cs, []⟩ ∧ MDk w s c ⟨strsOf cs, []⟩ ∧ ∀ (k : Nat) (y : LV), cs[k]? = some y → y = .c (.string ((strsOf cs).getD k ⟨#[]⟩)) := by
  unfold diskArg at h
  split at h
  case h_2 => cases h
  rename_i b
  split at h
  case h_2 => cases h
  rename_i k hk
  split at h
  case h_2 => cases h
  rename_i hq
  simp only [Bool.and_eq_true] at hq
  obtain ⟨⟨⟨q1, q2⟩, q3⟩, q4⟩ := hq
  have q1 := Nat.eq_of_beq_eq_true q1
  have q2 := Nat.eq_of_beq_eq_true q2
  have q3 := Nat.eq_of_beq_eq_true q3
  injection h with h
  subst h
  obtain ⟨vs, h1, rfl⟩ := hv
  obtain ⟨v1, r1, rfl, a1, a2⟩ := h1.cons_inv
  obtain ⟨v2, r2, rfl, a3, a4⟩ := a2.cons_inv
  obtain rfl := a4.nil_inv
  obtain ⟨g, κ, hg, rfl⟩ : ∃ g κ, φ b = some (g, κ) ∧ v1 = .slice (some ⟨g, 0, none⟩) 35 35 := a1
  obtain rfl : v2 = .slice none 0 0 := a3
  obtain ⟨hk1, hk2, arr, hw, hc, hf0, _⟩ := hR.block hk hg
  have hsz := hf0 q2
  have harr : arr.toList.take k.cs.length = arr.toList := List.take_of_length_le (by simp; omega)
  rw [harr] at hc
  obtain ⟨e1, e2, e3⟩ := all16_spec q4 hc
  refine ⟨_, _, rfl, ⟨by simpa using e2.trans q3, e3, by simp, fun x hx => by cases hx⟩, ⟨⟨some ⟨g, 0, none⟩, 35, by simp [e2, q3], by simp [e2, q3], by decide, fun _ => ?_⟩, Sl.nil⟩, fun i y hy => ?_⟩
  · refine ⟨g, 0, arr, (0, 0), rfl, by rw [hw, q1], fun i x hx j u hu => ?_⟩
    have h1 : arr.toList[i]? = some (.string x) := by rw [e1, List.getElem?_map, hx]; rfl
    cases j with
    | zero =>
      injection hu with hu
      subst hu
      rw [← Array.getElem?_toList, show 0 + i * 1 + 0 = i by omega]
      exact h1
    | succ j => simp [scells] at hu
  · obtain ⟨u, hu, hr⟩ := hc.get hy
    rw [e1, List.getElem?_map] at hu
    cases hq : (strsOf k.cs)[i]? with
    | none => rw [hq] at hu; cases hu
    | some x =>
      rw [hq] at hu
      injection hu with hu
      subst hu
      have key : ∀ {l : List LV} {i : Nat} {y : LV}, all16 l = true → l[i]? = some y → ∃ s, y = .c (.string s) := by
        intro l
        induction l with
        | nil => intro i y _ h; simp at h
        | cons a r ih =>
          intro i y h hy
          have ha : ∃ s, a = .c (.string s) ∧ all16 r = true := by
            unfold all16 at h
            split at h
            · rename_i hq; cases hq
            · rename_i s r' hq
              injection hq with hq1 hq2
              subst hq1; subst hq2
              split at h
              · exact ⟨s, rfl, h⟩
              · cases h
            · cases h
          obtain ⟨s, rfl, hr⟩ := ha
          cases i with
          | zero => injection hy with hy; exact ⟨s, hy.symm⟩
          | succ i => exact ih hr (by simpa using hy)
      obtain ⟨s, rfl⟩ := key q4 hy
      have hr : Value.string x = .string s := hr
      injection hr with hr
      subst hr
      simp [List.getD, hq]
theorem specDisk_sound : CallSound Tryz.prog specDisk := by
  intro f args lo hp nx y hp' nx' h φ w args' hargs hR hf
  unfold specDisk at h
  split at h
  · rename_i d k
    split at h
    case h_2 => cases h
    rename_i hq
    simp only [Bool.and_eq_true] at hq
    obtain rfl := Nat.eq_of_beq_eq_true hq.1
    have hk : k < 35 := Nat.le_of_ble_eq_true hq.2
    split at h
    case h_2 => cases h
    rename_i cs hcs
    split at h
    case h_2 => cases h
    rename_i y0 hy0
    simp only [Option.some.injEq, Prod.mk.injEq] at h
    obtain ⟨rfl, rfl, rfl⟩ := h
    obtain ⟨v1, r1, e1, h1, h2⟩ := hargs.cons_inv
    obtain ⟨v2, r2, e2, h3, h4⟩ := h2.cons_inv
    have e3 := h4.nil_inv
    subst e3
    obtain rfl : v2 = .int .i64 (.ofNat k) := h3
    obtain ⟨s, c, rfl, hG, hM, hy⟩ := diskArg_spec hR hcs h1
    subst e2
    have hargs' : args' = #[.agg #[s, c], .int .i64 (k : Int)] := by apply Array.ext'; exact e1
    subst hargs'
    refine Calls.mono (read_any w s c _ k hG hk hM) ?_
    rintro e w' ⟨rfl, hbel⟩
    refine ⟨_, rfl, out_below hR ?_ hbel⟩
    refine ⟨[.string ((⟨strsOf cs, []⟩ : Dk).read k), .int .i64 0], .cons ?_ (.cons rfl .nil), rfl⟩
    rw [hy k y0 (nth_get hy0)]
    rfl
  · rename_i d
    split at h
    case h_2 => cases h
    rename_i hff
    obtain rfl := Nat.eq_of_beq_eq_true hff
    split at h
    case h_2 => cases h
    rename_i cs hcs
    simp only [Option.some.injEq, Prod.mk.injEq] at h
    obtain ⟨rfl, rfl, rfl⟩ := h
    obtain ⟨v1, r1, e1, h1, h2⟩ := hargs.cons_inv
    have e3 := h2.nil_inv
    subst e3
    obtain ⟨s, c, rfl, hG, hM, _⟩ := diskArg_spec hR hcs h1
    have hargs' : args' = #[.agg #[s, c]] := by apply Array.ext'; exact e1
    subst hargs'
    refine Calls.mono (diskRight_any w s c _ hG hM) ?_
    rintro e w' ⟨rfl, hbel⟩
    exact ⟨_, rfl, out_below hR rfl hbel⟩
  · cases h
theorem mixed : Tryz.prog.follows .mixedOrders = true := by kernel_rfl
noncomputable def spec0 : Call := orSpec specRep specDisk
theorem spec0_sound : CallSound Tryz.prog spec0 := orSpec_sound specRep_sound specDisk_sound
theorem run_sound {spec : Call} (hs : CallSound Tryz.prog spec) (n : Nat) : CallSound Tryz.prog (callOf Tryz.prog spec (ev Tryz.prog okB spec n)) := callOf_sound hs (ev_sound mixed okB_spec hs n)
end Go.Proofs.YthiblfkmcdnalaaGreat.Ae
