/- The abstract evaluator, part 7: regions that run in the order of the text. -/
/- The abstract evaluator, part 8: regions that draw their order: a front, of which each operation is reckoned from what it waits for alone, and a tail in order. -/
/- The abstract evaluator, part 9: a region that draws its order does, in every order, what was reckoned. -/
import Derived.Test.YthiblfkmcdnalaaGreatAe6
namespace Go.Proofs.YthiblfkmcdnalaaGreat.Ae
open Go.RowKit

abbrev Call := FuncId → List AV → Nat → Hp → Nat → Option (AV × Hp × Nat)
structure St where
  tm : List AV
  hp : Hp
  nx : Nat
noncomputable def rho (tm : List AV) : Operand → Option AV
  | .tmp t => nth tm t
  | .const v => some (ofVal v)
  | .global _ => none
  | .func f => some (.e (.l (.c (.func (.func f) #[] #[]))))
noncomputable def RT (φ : Mp) (tm : List AV) (a : Act) : Prop := All2 (AV.rel φ) tm a.tmps.toList
theorem RT.mono {φ φ' : Mp} (h : Sub φ φ') {tm : List AV} {a : Act} (hr : RT φ tm a) : RT φ' tm a := All2.mono hr fun _ _ => AV.rel_mono h
theorem rho_spec {φ : Mp} {tm : List AV} {a : Act} (h : RT φ tm a) : ∀ x y, rho tm x = some y → y.rel φ (a.eval x) := by
  intro x y hx
  cases x with
  | tmp t =>
    obtain ⟨v, h1, h2⟩ := h.get (nth_get hx)
    have : a.eval (.tmp t) = v := by
      simp only [Act.eval, Array.getD_eq_getD_getElem?]
      rw [← Array.getElem?_toList, h1]
      rfl
    rw [this]
    exact h2
  | const v => injection hx with hx; subst hx; exact ofVal_rel φ v
  | global g => cases hx
  | func f => injection hx with hx; subst hx; rfl
/-- a state, its number and its memory reckoned -/
noncomputable def mkSt (tm : List AV) (hp : Hp) (nx : Nat) : Option St := forceN nx fun nx => forceL hp fun hp => some ⟨tm, hp, nx⟩
theorem mkSt_eq (tm : List AV) (hp : Hp) (nx : Nat) : mkSt tm hp nx = some ⟨tm, hp, nx⟩ := by unfold mkSt; rw [forceN_eq, forceL_eq]
noncomputable def setT (tm : List AV) (d : Option Tmp) (x : AV) : List AV :=
  match d with
  | some d => setN tm d x
  | none => tm
theorem RT.put {φ : Mp} {tm : List AV} {a : Act} (h : RT φ tm a) {d : Option Tmp} {x : AV} {v : Value} (hx : x.rel φ v) : RT φ (setT tm d x) (a.put d v) := by
  cases d with
  | none => exact h
  | some d =>
    show All2 _ (setN tm d x) (a.tmps.setIfInBounds d v).toList
    rw [Array.toList_setIfInBounds, setN_eq]
    exact h.set d hx
theorem vUnd_rel (φ : Mp) : vUnd.rel φ undef := rfl
noncomputable def sameB : Bool → Bool → Bool
  | true, true => true
  | false, false => true
  | _, _ => false
noncomputable def wantV (v : Value) (want : Bool) : Bool :=
  match v with
  | .bool b => sameB b want
  | _ => false
noncomputable def boolOf : Value → Option Bool
  | .bool b => some b
  | _ => none
/-- is the operation wanted? -/
noncomputable def wantA (ops : List Oper) (ρ : Operand → Option AV) (o : Oper) : Option Bool :=
  match o.guard with
  | none => some true
  | some (j, want) => match nth ops j with
    | some oj => match oj.dst with
      | some d => match ρ (.tmp d) with
        | some (.e (.l (.c v))) => some (wantV v want)
        | _ => none
      | none => none
    | none => none
theorem wantA_spec {φ : Mp} {ops : List Oper} {ρ : Operand → Option AV} {a : Act} {o : Oper} (hρ : ∀ j oj d, o.guard.map Prod.fst = some j → ops[j]? = some oj → oj.dst = some d → ∀ y, ρ (.tmp d) = some y → y.rel φ (a.eval (.tmp d))) {b : Bool} (h : wantA ops ρ o = some b) : Region.wanted o (yielded ops.toArray a.tmps) = b := by
  unfold wantA at h
  unfold Region.wanted
  split at h
  · rename_i hg
    injection h with h
    rw [hg, ← h]
  · rename_i j want hg
    split at h
    case h_2 => cases h
    rename_i oj hj
    split at h
    case h_2 => cases h
    rename_i d hd
    split at h
    case h_2 => cases h
    rename_i v hb
    injection h with h
    have h1 : a.eval (.tmp d) = v := hρ j oj d (by rw [hg]; rfl) (nth_get hj) hd _ hb
    rw [hg, ← h]
    simp only
    have hy : yielded ops.toArray a.tmps j = boolOf v := by
      unfold yielded
      simp only [Act.eval, Array.getD_eq_getD_getElem?] at h1
      cases hq : a.tmps[d]? with
      | none =>
        rw [hq] at h1
        have h1 : undef = v := h1
        subst h1
        simp [nth_get hj, hd, hq, undef, boolOf]
      | some u =>
        rw [hq] at h1
        have h1 : u = v := h1
        subst h1
        simp only [List.getElem?_toArray, nth_get hj, Option.bind_some, hd, hq]
        cases u <;> rfl
    rw [hy]
    cases v <;> first | rfl | (rename_i b; cases b <;> cases want <;> rfl)
section
variable {P : Program}
/-- what the model does at an operation, calls taken in -/
noncomputable def Does (P : Program) (ρc : Operand → Value) (o : Oper) (w : World) (ψ : Value → World → Prop) : Prop :=
  (∃ v w', DoesVal P ρc o w v w' ∧ ψ v w') ∨ (∃ f args, (execOp ρc o).run P w = .ok (.enter f args) w ∧ Calls P f args w fun e w' => ∃ v, e = .returned v ∧ ψ v w')
theorem Does.mono {ρc : Operand → Value} {o : Oper} {w : World} {ψ ψ' : Value → World → Prop} (h : Does P ρc o w ψ) (hψ : ∀ v w', ψ v w' → ψ' v w') : Does P ρc o w ψ' := by
  rcases h with ⟨v, w', h1, h2⟩ | ⟨f, args, h1, h2⟩
  · exact .inl ⟨v, w', h1, hψ _ _ h2⟩
  · exact .inr ⟨f, args, h1, Calls.mono h2 fun e w' ⟨v, he, hv⟩ => ⟨v, he, hψ _ _ hv⟩⟩
theorem Does.wp {o : Oper} {a : Act} {w : World} {ψ : Value → World → Prop} {K : Act → World → Prop} {Q : Exit → Act → World → Prop} (h : Does P a.eval o w ψ) (hK : ∀ v w', ψ v w' → K (a.put o.dst v) w') : o.wp P a w K Q := by
  unfold Oper.wp
  rcases h with ⟨v, w', h1 | ⟨h1, rfl⟩, h2⟩ | ⟨f, args, h1, h2⟩
  · rw [h1]; exact hK _ _ h2
  · rw [h1]; exact hK _ _ h2
  · rw [h1]
    exact Calls.mono h2 fun e w' ⟨v, he, hv⟩ => by subst he; exact hK _ _ hv
noncomputable def CallSound (P : Program) (call : Call) : Prop := ∀ f args lo hp nx y hp' nx', call f args lo hp nx = some (y, hp', nx') → ∀ φ w args', All2 (AV.rel φ) args (Array.toList args') → R φ hp nx w → Fresh φ nx nx' →
  Calls P f args' w fun e w' => ∃ v, e = .returned v ∧ Out lo φ hp nx w y hp' nx' v w'
/-- one operation, calls taken in -/
noncomputable def evOne (P : Program) (ok : Nat → Bool) (call : Call) (lo : Nat) (ρ : Operand → Option AV) (hp : Hp) (nx : Nat) (o : Oper) : Option (AV × Hp × Nat) :=
  match evOp P ok lo ρ hp nx o with
  | some (.val x hp' nx') => match Nat.ble nx nx' with
    | true => some (x, hp', nx')
    | false => none
  | some (.enter f args) => match call f args lo hp nx with
    | some (x, hp', nx') => match Nat.ble nx nx' with
      | true => some (x, hp', nx')
      | false => none
    | none => none
  | none => none
theorem evOne_le {ok : Nat → Bool} {call : Call} {lo : Nat} {ρ : Operand → Option AV} {hp hp' : Hp} {nx nx' : Nat} {o : Oper} {x : AV} (h : evOne P ok call lo ρ hp nx o = some (x, hp', nx')) : nx ≤ nx' := by
  unfold evOne at h
  split at h
  · split at h
    · rename_i hb
      simp only [Option.some.injEq, Prod.mk.injEq] at h
      obtain ⟨_, _, rfl⟩ := h
      exact Nat.le_of_ble_eq_true hb
    · cases h
  · split at h
    · split at h
      · rename_i hb
        simp only [Option.some.injEq, Prod.mk.injEq] at h
        obtain ⟨_, _, rfl⟩ := h
        exact Nat.le_of_ble_eq_true hb
      · cases h
    · cases h
  · cases h
structure OkP (P : Program) (ok : Nat → Bool) (call : Call) : Prop where
  ok : ∀ g, ok g = true → ∀ args w, (callFunc g args).run P w = .ok (.enter g args) w
  call : CallSound P call
theorem evOne_does {ok : Nat → Bool} {call : Call} (hO : OkP P ok call) {lo : Nat} {ρ : Operand → Option AV} {ρc : Operand → Value} {hp hp' : Hp} {nx nx' : Nat} {o : Oper} {x : AV} (h : evOne P ok call lo ρ hp nx o = some (x, hp', nx')) {φ : Mp} {w : World}
    (hR : R φ hp nx w) (hρ : ∀ x a, ρ x = some a → a.rel φ (ρc x)) (hf : Fresh φ nx nx') : Does P ρc o w fun v w' => Out lo φ hp nx w x hp' nx' v w' := by
  unfold evOne at h
  split at h
  · rename_i y hp1 nx1 hy
    split at h
    case h_2 => cases h
    simp only [Option.some.injEq, Prod.mk.injEq] at h
    obtain ⟨rfl, rfl, rfl⟩ := h
    obtain ⟨v, w', h1, h2⟩ := evOp_sound hO.ok hR hρ hy hf
    exact .inl ⟨v, w', h1, h2⟩
  · rename_i f args hy
    split at h
    case h_2 => cases h
    rename_i y hp1 nx1 hc
    split at h
    case h_2 => cases h
    simp only [Option.some.injEq, Prod.mk.injEq] at h
    obtain ⟨rfl, rfl, rfl⟩ := h
    obtain ⟨args', h1, h2⟩ := evOp_sound hO.ok hR hρ hy
    exact .inr ⟨f, args', h1, hO.call f args lo hp nx _ _ _ hc φ w args' h2 hR hf⟩
  · cases h
/-- how a piece of code ends -/
structure Goes (lo : Nat) (φ : Mp) (st : St) (a : Act) (w : World) (φ' : Mp) (st' : St) (a' : Act) (w' : World) : Prop where
  ext : Ext φ φ' st.nx st'.nx
  rt : RT φ' st'.tm a'
  r : R φ' st'.hp st'.nx w'
  fr : Fr lo φ st.hp w φ' st'.hp w'
  defers : a'.defers = a.defers
theorem Goes.refl {lo : Nat} {φ : Mp} {st : St} {a : Act} {w : World} (hT : RT φ st.tm a) (hR : R φ st.hp st.nx w) : Goes lo φ st a w φ st a w := ⟨.refl _ _, hT, hR, .refl _ _ _ _, rfl⟩
theorem Goes.trans {lo : Nat} {φ φ' φ'' : Mp} {st st' st'' : St} {a a' a'' : Act} {w w' w'' : World} (h : Goes lo φ st a w φ' st' a' w') (k : Goes lo φ' st' a' w' φ'' st'' a'' w'') : Goes lo φ st a w φ'' st'' a'' w'' :=
  ⟨h.ext.trans k.ext, k.rt, k.r, h.fr.trans k.fr, k.defers.trans h.defers⟩
theorem put_defers (a : Act) (d : Option Tmp) (v : Value) : (a.put d v).defers = a.defers := by cases d <;> rfl
theorem Goes.put {lo : Nat} {φ : Mp} {st : St} {a : Act} {w : World} (hT : RT φ st.tm a) {x : AV} {hp' : Hp} {nx' : Nat} {v : Value} {w' : World} (h : Out lo φ st.hp st.nx w x hp' nx' v w') (d : Option Tmp) : ∃ φ', Goes lo φ st a w φ' ⟨setT st.tm d x, hp', nx'⟩ (a.put d v) w' := by
  obtain ⟨φ', h1, h2, h3, h4⟩ := h
  exact ⟨φ', h1, (hT.mono h1.sub).put h2, h3, h4, put_defers _ _ _⟩
theorem Goes.skip {lo : Nat} {φ : Mp} {st : St} {a : Act} {w : World} (hT : RT φ st.tm a) (hR : R φ st.hp st.nx w) (d : Option Tmp) : Goes lo φ st a w φ ⟨setT st.tm d vUnd, st.hp, st.nx⟩ (a.put d undef) w :=
  ⟨.refl _ _, hT.put (vUnd_rel φ), hR, .refl _ _ _ _, put_defers _ _ _⟩
/-- one operation of a region that runs in order -/
noncomputable def stepS (P : Program) (ok : Nat → Bool) (call : Call) (ops : List Oper) (lo : Nat) (o : Oper) (st : St) : Option St :=
  match wantA ops (rho st.tm) o with
  | some true => match evOne P ok call lo (rho st.tm) st.hp st.nx o with
    | some (x, hp', nx') => mkSt (setT st.tm o.dst x) hp' nx'
    | none => none
  | some false => mkSt (setT st.tm o.dst vUnd) st.hp st.nx
  | none => none
theorem stepS_le {ok : Nat → Bool} {call : Call} {ops : List Oper} {lo : Nat} {o : Oper} {st st' : St} (h : stepS P ok call ops lo o st = some st') : st.nx ≤ st'.nx := by
  unfold stepS at h
  split at h
  · split at h
    · rename_i hx
      rw [mkSt_eq] at h
      injection h with h
      subst h
      exact evOne_le hx
    · cases h
  · rw [mkSt_eq] at h
    injection h with h
    subst h
    exact Nat.le_refl _
  · cases h
theorem stepS_sound {ok : Nat → Bool} {call : Call} (hO : OkP P ok call) {ops : List Oper} {lo : Nat} {o : Oper} {st st' : St} (h : stepS P ok call ops lo o st = some st') {φ : Mp} {a : Act} {w : World} (hT : RT φ st.tm a) (hR : R φ st.hp st.nx w) (hf : Fresh φ st.nx st'.nx)
    {K : Act → World → Prop} {Q : Exit → Act → World → Prop} (hK : ∀ φ' a' w', Goes lo φ st a w φ' st' a' w' → K a' w') :
    if Region.wanted o (yielded ops.toArray a.tmps) then o.wp P a w K Q else K (a.put o.dst undef) w := by
  unfold stepS at h
  have hρ := rho_spec hT
  split at h
  · rename_i hw
    rw [wantA_spec (φ := φ) (a := a) (fun _ _ _ _ _ _ y hy => hρ _ y hy) hw, if_pos rfl]
    split at h
    case h_2 => cases h
    rename_i x hp' nx' hx
    rw [mkSt_eq] at h
    injection h with h
    subst h
    refine (evOne_does hO hx hR hρ hf).wp fun v w' hv => ?_
    obtain ⟨φ', hg⟩ := Goes.put hT hv o.dst
    exact hK φ' _ _ hg
  · rename_i hw
    rw [wantA_spec (φ := φ) (a := a) (fun _ _ _ _ _ _ y hy => hρ _ y hy) hw, if_neg (by simp)]
    rw [mkSt_eq] at h
    injection h with h
    subst h
    exact hK φ _ _ (Goes.skip hT hR o.dst)
  · cases h
noncomputable def evOps (P : Program) (ok : Nat → Bool) (call : Call) (ops : List Oper) (lo : Nat) (l : List Oper) : St → Option St :=
  List.rec (motive := fun _ => St → Option St) some (fun o _ ih st => Option.rec (motive := fun _ => Option St) none ih (stepS P ok call ops lo o st)) l
theorem evOps_cons {ok : Nat → Bool} {call : Call} {ops : List Oper} {lo : Nat} {o : Oper} {r : List Oper} {st : St} : evOps P ok call ops lo (o :: r) st = match stepS P ok call ops lo o st with
    | some st' => evOps P ok call ops lo r st'
    | none => none := by
  show Option.rec (motive := fun _ => Option St) none (evOps P ok call ops lo r) (stepS P ok call ops lo o st) = _
  cases stepS P ok call ops lo o st <;> rfl
theorem evOps_le {ok : Nat → Bool} {call : Call} {ops : List Oper} {lo : Nat} : ∀ {l : List Oper} {st st' : St}, evOps P ok call ops lo l st = some st' → st.nx ≤ st'.nx
  | [], st, st', h => by injection h with h; subst h; exact Nat.le_refl _
  | o :: r, st, st', h => by
    rw [evOps_cons] at h
    split at h
    case h_2 => cases h
    rename_i st1 h1
    exact Nat.le_trans (stepS_le h1) (evOps_le h)
theorem evOps_sound {ok : Nat → Bool} {call : Call} (hO : OkP P ok call) {ops : List Oper} {lo : Nat} {Q : Exit → Act → World → Prop} : ∀ {l : List Oper} {st st' : St}, evOps P ok call ops lo l st = some st' → ∀ {φ : Mp} {a : Act} {w : World}, RT φ st.tm a → R φ st.hp st.nx w → Fresh φ st.nx st'.nx →
    (∀ φ' a' w', Goes lo φ st a w φ' st' a' w' → Q .normal a' w') → wpList P ops.toArray Q l a w
  | [], st, st', h, φ, a, w, hT, hR, hf, hQ => by injection h with h; subst h; exact hQ φ a w (.refl hT hR)
  | o :: r, st, st', h, φ, a, w, hT, hR, hf, hQ => by
    rw [evOps_cons] at h
    split at h
    case h_2 => cases h
    rename_i st1 h1
    have l1 := stepS_le h1
    have l2 := evOps_le h
    refine wpList_step fun K hK => stepS_sound hO h1 hT hR (hf.left l2) fun φ' a' w' hg => hK _ _ ?_
    exact evOps_sound hO h hg.rt hg.r (hf.right hg.ext) fun φ'' a'' w'' hg' => hQ φ'' a'' w'' (hg.trans hg')
end
end Go.Proofs.YthiblfkmcdnalaaGreat.Ae

namespace Go.Proofs.YthiblfkmcdnalaaGreat.Ae
open Go.RowKit

noncomputable def aftersE : List Edge → List Nat
  | [] => []
  | e :: r => match Region.binds .any e with
    | true => e.on :: aftersE r
    | false => aftersE r
noncomputable def afters (o : Oper) : List Nat := aftersE o.after.toList
theorem aftersE_mem {e : Edge} : ∀ {l : List Edge}, e ∈ l → Region.binds .any e = true → e.on ∈ aftersE l
  | x :: r, h, hb => by
    unfold aftersE
    rcases List.mem_cons.1 h with rfl | h
    · rw [hb]; exact List.mem_cons_self
    · have := aftersE_mem h hb
      split
      · exact List.mem_cons_of_mem _ this
      · exact this
theorem aftersE_inv {j : Nat} : ∀ {l : List Edge}, j ∈ aftersE l → ∃ e ∈ l, Region.binds .any e = true ∧ e.on = j
  | x :: r, h => by
    unfold aftersE at h
    split at h
    · rename_i hb
      rcases List.mem_cons.1 h with rfl | h
      · exact ⟨x, List.mem_cons_self, hb, rfl⟩
      · obtain ⟨e, h1, h2⟩ := aftersE_inv h
        exact ⟨e, List.mem_cons_of_mem _ h1, h2⟩
    · obtain ⟨e, h1, h2⟩ := aftersE_inv h
      exact ⟨e, List.mem_cons_of_mem _ h1, h2⟩
theorem ready_iff {ops : List Oper} {L : Array Bool} {i : Nat} : i ∈ Region.ready .any ops.toArray L ↔ ∃ o, ops[i]? = some o ∧ L.getD i true = false ∧ ∀ j ∈ afters o, L.getD j false = true := by
  unfold Region.ready
  rw [List.mem_filter, List.mem_range]
  constructor
  · rintro ⟨hi, h⟩
    have hi' : i < ops.length := by simpa using hi
    refine ⟨ops[i], List.getElem?_eq_getElem hi', ?_, fun j hj => ?_⟩
    · simp only [Bool.and_eq_true, Bool.not_eq_true'] at h
      exact h.1
    · simp only [Bool.and_eq_true] at h
      have h2 := h.2
      simp only [List.getElem?_toArray, List.getElem?_eq_getElem hi', Option.map_some, Option.getD_some, Array.all_eq_true_iff_forall_mem] at h2
      obtain ⟨e, he, hb, rfl⟩ := aftersE_inv hj
      have := h2 e (by simpa using he)
      rw [hb] at this
      simpa using this
  · rintro ⟨o, ho, h1, h2⟩
    have hi' : i < ops.length := (List.getElem?_eq_some_iff.1 ho).1
    refine ⟨by simpa using hi', ?_⟩
    simp only [Bool.and_eq_true, Bool.not_eq_true']
    refine ⟨h1, ?_⟩
    simp only [List.getElem?_toArray, ho, Option.map_some, Option.getD_some, Array.all_eq_true_iff_forall_mem]
    intro e he
    cases hb : Region.binds .any e with
    | false => rfl
    | true => simpa using h2 e.on (aftersE_mem (by simpa using he) hb)
structure Fe where
  dst : Option Tmp
  x : AV
  dl : Hp
  n0 : Nat
  n1 : Nat
  m : Nat
  lk : List Tmp
noncomputable def tmpsL : List Operand → List Tmp
  | [] => []
  | .tmp t :: r => t :: tmpsL r
  | _ :: r => tmpsL r
noncomputable def looksL (ops : List Oper) (o : Oper) : List Tmp :=
  match o.guard with
  | none => tmpsL o.op.operands.toList
  | some (j, _) => match nth ops j with
    | some oj => match oj.dst with
      | some d => d :: tmpsL o.op.operands.toList
      | none => tmpsL o.op.operands.toList
    | none => tmpsL o.op.operands.toList
noncomputable def maskOf (acc : List Fe) : List Nat → Option Nat
  | [] => some 0
  | j :: r => match nth acc j with
    | some fe => match maskOf acc r with
      | some m => some (Nat.lor (Nat.lor fe.m (2 ^ j)) m)
      | none => none
    | none => none
theorem testBit_lor (a b k : Nat) : (Nat.lor a b).testBit k = (a.testBit k || b.testBit k) := Nat.testBit_or a b k
theorem maskOf_up {acc : List Fe} : ∀ {l : List Nat} {m : Nat}, maskOf acc l = some m → ∀ j ∈ l, ∃ fe, acc[j]? = some fe ∧ m.testBit j = true ∧ ∀ k, fe.m.testBit k = true → m.testBit k = true
  | j :: r, m, h, i, hi => by
    unfold maskOf at h
    split at h
    case h_2 => cases h
    rename_i fe hfe
    split at h
    case h_2 => cases h
    rename_i m' hm'
    injection h with h
    subst h
    rcases List.mem_cons.1 hi with rfl | hi
    · refine ⟨fe, nth_get hfe, ?_, fun k hk => ?_⟩
      · rw [testBit_lor, testBit_lor, Nat.testBit_two_pow_self]; simp
      · rw [testBit_lor, testBit_lor, hk]; rfl
    · obtain ⟨fe', h1, h2, h3⟩ := maskOf_up hm' i hi
      exact ⟨fe', h1, by rw [testBit_lor, h2, Bool.or_true], fun k hk => by rw [testBit_lor, h3 k hk, Bool.or_true]⟩
theorem maskOf_down {acc : List Fe} : ∀ {l : List Nat} {m : Nat}, maskOf acc l = some m → ∀ k, m.testBit k = true → ∃ j ∈ l, k = j ∨ ∃ fe, acc[j]? = some fe ∧ fe.m.testBit k = true
  | [], m, h, k, hk => by injection h with h; subst h; simp at hk
  | j :: r, m, h, k, hk => by
    unfold maskOf at h
    split at h
    case h_2 => cases h
    rename_i fe hfe
    split at h
    case h_2 => cases h
    rename_i m' hm'
    injection h with h
    subst h
    rw [testBit_lor, testBit_lor, Nat.testBit_two_pow] at hk
    simp only [Bool.or_eq_true, decide_eq_true_eq] at hk
    rcases hk with (hk | hk) | hk
    · exact ⟨j, List.mem_cons_self, .inr ⟨fe, nth_get hfe, hk⟩⟩
    · exact ⟨j, List.mem_cons_self, .inl hk.symm⟩
    · obtain ⟨i, h1, h2⟩ := maskOf_down hm' k hk
      exact ⟨i, List.mem_cons_of_mem _ h1, h2⟩
noncomputable def memT : List Tmp → Tmp → Bool
  | [], _ => false
  | a :: r, t => match Nat.beq a t with
    | true => true
    | false => memT r t
noncomputable def sameD : Option Tmp → Option Tmp → Bool
  | some a, some b => Nat.beq a b
  | _, _ => false
noncomputable def inD (l : List Tmp) : Option Tmp → Bool
  | some d => memT l d
  | none => false
noncomputable def ckAll (m : Nat) (dst : Option Tmp) (lk : List Tmp) : Nat → List Fe → Bool
  | _, [] => true
  | k, fe :: r => match sameD fe.dst dst with
    | true => false
    | false => match m.testBit k with
      | true => ckAll m dst lk (k + 1) r
      | false => match inD fe.lk dst with
        | true => false
        | false => match inD lk fe.dst with
          | true => false
          | false => ckAll m dst lk (k + 1) r
theorem ckAll_spec {m : Nat} {dst : Option Tmp} {lk : List Tmp} : ∀ {l : List Fe} {k : Nat}, ckAll m dst lk k l = true → ∀ i fe, l[i]? = some fe → sameD fe.dst dst = false ∧ (m.testBit (k + i) = true ∨ (inD fe.lk dst = false ∧ inD lk fe.dst = false))
  | fe :: r, k, h, i, fe', hi => by
    unfold ckAll at h
    split at h
    · cases h
    · rename_i h1
      split at h
      · rename_i h2
        cases i with
        | zero => injection hi with hi; subst hi; exact ⟨h1, .inl h2⟩
        | succ i => have := ckAll_spec h i fe' hi; rwa [show k + 1 + i = k + (i + 1) by omega] at this
      · split at h
        · cases h
        · rename_i h3
          split at h
          · cases h
          · rename_i h4
            cases i with
            | zero => injection hi with hi; subst hi; exact ⟨h1, .inr ⟨h3, h4⟩⟩
            | succ i => have := ckAll_spec h i fe' hi; rwa [show k + 1 + i = k + (i + 1) by omega] at this
noncomputable def findW (m : Nat) (t : Tmp) : Nat → List Fe → Option AV
  | _, [] => none
  | k, fe :: r => match fe.dst with
    | some d => match Nat.beq d t && m.testBit k with
      | true => some fe.x
      | false => findW m t (k + 1) r
    | none => findW m t (k + 1) r
theorem findW_some {m : Nat} {t : Tmp} {x : AV} : ∀ {l : List Fe} {k : Nat}, findW m t k l = some x → ∃ i fe, l[i]? = some fe ∧ m.testBit (k + i) = true ∧ fe.dst = some t ∧ fe.x = x
  | fe :: r, k, h => by
    unfold findW at h
    have rec_ : findW m t (k + 1) r = some x → ∃ i fe', (fe :: r)[i]? = some fe' ∧ m.testBit (k + i) = true ∧ fe'.dst = some t ∧ fe'.x = x := fun h => by
      obtain ⟨i, fe', h1, h2, h3⟩ := findW_some h
      exact ⟨i + 1, fe', h1, by rwa [show k + 1 + i = k + (i + 1) by omega] at h2, h3⟩
    split at h
    · rename_i d hd
      split at h
      · rename_i hb
        simp only [Bool.and_eq_true] at hb
        injection h with h
        exact ⟨0, fe, rfl, hb.2, by rw [hd, Nat.eq_of_beq_eq_true hb.1], h⟩
      · exact rec_ h
    · exact rec_ h
theorem findW_none {m : Nat} {t : Tmp} : ∀ {l : List Fe} {k : Nat}, findW m t k l = none → ∀ i fe, l[i]? = some fe → m.testBit (k + i) = true → fe.dst ≠ some t
  | fe :: r, k, h, i, fe', hi, hm, hd => by
    unfold findW at h
    have rec_ : findW m t (k + 1) r = none → i ≠ 0 → False := fun h h0 => by
      obtain ⟨i, rfl⟩ : ∃ j, i = j + 1 := ⟨i - 1, by omega⟩
      exact findW_none h i fe' hi (by rwa [show k + 1 + i = k + (i + 1) by omega]) hd
    split at h
    · rename_i d hd'
      split at h
      · cases h
      · rename_i hb
        refine rec_ h fun h0 => ?_
        subst h0
        injection hi with hi
        subst hi
        rw [hd] at hd'
        injection hd' with hd'
        subst hd'
        rw [Nat.add_zero] at hm
        rw [Nat.beq_refl, hm] at hb
        cases hb
    · rename_i hd'
      refine rec_ h fun h0 => ?_
      subst h0
      injection hi with hi
      subst hi
      rw [hd] at hd'
      cases hd'
noncomputable def rhoF (tm : List AV) (acc : List Fe) (m : Nat) (lk : List Tmp) : Operand → Option AV
  | .tmp t => match memT lk t with
    | true => match findW m t 0 acc with
      | some x => some x
      | none => nth tm t
    | false => none
  | .const v => some (ofVal v)
  | .global _ => none
  | .func f => some (.e (.l (.c (.func (.func f) #[] #[]))))
noncomputable def hpF (S : Nat → Bool) : Nat → List Fe → Hp → Hp
  | _, [], h => h
  | k, fe :: r, h => hpF S (k + 1) r (match S k with
    | true => fe.dl ++ h
    | false => h)
theorem hpF_mem {S : Nat → Bool} {b : Blk} : ∀ {l : List Fe} {k : Nat} {h : Hp}, b ∈ hpF S k l h ↔ b ∈ h ∨ ∃ i fe, l[i]? = some fe ∧ S (k + i) = true ∧ b ∈ fe.dl
  | [], k, h => ⟨fun hb => .inl hb, fun hb => hb.elim id fun ⟨i, fe, hi, _⟩ => by simp at hi⟩
  | fe :: r, k, h => by
    unfold hpF
    rw [hpF_mem]
    constructor
    · rintro (hb | ⟨i, fe', h1, h2, h3⟩)
      · split at hb
        · rename_i hs
          rcases List.mem_append.1 hb with hb | hb
          · exact .inr ⟨0, fe, rfl, hs, hb⟩
          · exact .inl hb
        · exact .inl hb
      · exact .inr ⟨i + 1, fe', h1, by rwa [show k + 1 + i = k + (i + 1) by omega] at h2, h3⟩
    · rintro (hb | ⟨i, fe', h1, h2, h3⟩)
      · left
        split
        · exact List.mem_append_right _ hb
        · exact hb
      · cases i with
        | zero =>
          injection h1 with h1
          subst h1
          left
          rw [show S k = true from h2]
          exact List.mem_append_left _ h3
        | succ i => exact .inr ⟨i, fe', h1, by rwa [show k + 1 + i = k + (i + 1) by omega], h3⟩
noncomputable def newOf (n : Nat) : Hp → Hp
  | [] => []
  | b :: r => match Nat.ble n b.id with
    | true => b :: newOf n r
    | false => []
theorem newOf_mem {n : Nat} {b : Blk} : ∀ {h : Hp}, b ∈ newOf n h → b ∈ h ∧ n ≤ b.id
  | c :: r, hb => by
    unfold newOf at hb
    split at hb
    · rename_i hc
      rcases List.mem_cons.1 hb with rfl | hb
      · exact ⟨List.mem_cons_self, Nat.le_of_ble_eq_true hc⟩
      · have := newOf_mem hb
        exact ⟨List.mem_cons_of_mem _ this.1, this.2⟩
    · cases hb
noncomputable def memN : List Nat → Nat → Bool
  | [], _ => false
  | a :: r, t => match Nat.beq a t with
    | true => true
    | false => memN r t
theorem memN_spec : ∀ {l : List Nat} {t : Nat}, t ∈ l → memN l t = true
  | a :: r, t, h => by
    unfold memN
    split
    · rfl
    · rename_i hb
      rcases List.mem_cons.1 h with rfl | h
      · rw [Nat.beq_refl] at hb; cases hb
      · exact memN_spec h
noncomputable def filtL (ban : List Nat) : Hp → Hp
  | [] => []
  | b :: r => match memN ban b.id with
    | true => filtL ban r
    | false => b :: filtL ban r
theorem filtL_mem {ban : List Nat} {b : Blk} : ∀ {h : Hp}, b ∈ filtL ban h → b ∈ h ∧ memN ban b.id = false
  | c :: r, hb => by
    unfold filtL at hb
    split at hb
    · have := filtL_mem hb
      exact ⟨List.mem_cons_of_mem _ this.1, this.2⟩
    · rename_i hc
      rcases List.mem_cons.1 hb with rfl | hb
      · exact ⟨List.mem_cons_self, hc⟩
      · have := filtL_mem hb
        exact ⟨List.mem_cons_of_mem _ this.1, this.2⟩
/-- without the blocks that are written by what it does not wait for -/
noncomputable def filt : List Nat → Hp → Hp
  | [], h => h
  | ban, h => filtL ban h
theorem filt_mem {ban : List Nat} {b : Blk} {h : Hp} (hb : b ∈ filt ban h) : b ∈ h ∧ memN ban b.id = false := by
  cases ban with
  | nil => exact ⟨hb, rfl⟩
  | cons _ _ => exact filtL_mem hb
noncomputable def dstOk (len : Nat) : Option Tmp → Bool
  | some d => Nat.blt d len
  | none => true
section
variable {P : Program}
noncomputable def feOf (P : Program) (ok : Nat → Bool) (call : Call) (ops : List Oper) (tm : List AV) (hp0 : Hp) (ban : List Nat) (acc : List Fe) (nx : Nat) (o : Oper) : Option Fe :=
  match maskOf acc (afters o) with
  | some m => match ckAll m o.dst (looksL ops o) 0 acc && dstOk tm.length o.dst with
    | true => match wantA ops (rhoF tm acc m (looksL ops o)) o with
      | some true => match evOne P ok call nx (rhoF tm acc m (looksL ops o)) (filt ban (hpF (fun k => m.testBit k) 0 acc hp0)) nx o with
        | some (x, hp', nx') => some ⟨o.dst, x, newOf nx hp', nx, nx', m, looksL ops o⟩
        | none => none
      | some false => some ⟨o.dst, vUnd, [], nx, nx, m, looksL ops o⟩
      | none => none
    | false => none
  | none => none
noncomputable def evFront (P : Program) (ok : Nat → Bool) (call : Call) (ops : List Oper) (tm : List AV) (hp0 : Hp) (bo : Nat → List Nat) : List Oper → List Fe → Nat → List Fe × List Oper
  | [], acc, _ => (acc, [])
  | o :: r, acc, nx => match feOf P ok call ops tm hp0 (bo acc.length) acc nx o with
    | some fe => evFront P ok call ops tm hp0 bo r (acc ++ [fe]) fe.n1
    | none => (acc, o :: r)
/-- what is known of a front -/
structure FS (P : Program) (ok : Nat → Bool) (call : Call) (ops : List Oper) (tm : List AV) (hp0 : Hp) (bo : Nat → List Nat) (nx0 : Nat) (acc : List Fe) (nx : Nat) : Prop where
  ev : ∀ (i : Nat) (fe : Fe), acc[i]? = some fe → ∃ o, ops[i]? = some o ∧ feOf P ok call ops tm hp0 (bo i) (acc.take i) fe.n0 o = some fe
  rng : ∀ (i : Nat) (fe : Fe), acc[i]? = some fe → nx0 ≤ fe.n0 ∧ fe.n0 ≤ fe.n1 ∧ fe.n1 ≤ nx
  ord : ∀ (i j : Nat) (fi fj : Fe), acc[i]? = some fi → acc[j]? = some fj → i < j → fi.n1 ≤ fj.n0
  le : nx0 ≤ nx
theorem feOf_n {ok : Nat → Bool} {call : Call} {ops : List Oper} {tm : List AV} {hp0 : Hp} {ban : List Nat} {acc : List Fe} {nx : Nat} {o : Oper} {fe : Fe} (h : feOf P ok call ops tm hp0 ban acc nx o = some fe) : fe.n0 = nx ∧ nx ≤ fe.n1 := by
  unfold feOf at h
  split at h
  case h_2 => cases h
  split at h
  case h_2 => cases h
  split at h
  · split at h
    case h_2 => cases h
    rename_i hx
    injection h with h
    subst h
    exact ⟨rfl, evOne_le hx⟩
  · injection h with h
    subst h
    exact ⟨rfl, Nat.le_refl _⟩
  · cases h
theorem FS.snoc {ok : Nat → Bool} {call : Call} {ops : List Oper} {tm : List AV} {hp0 : Hp} {bo : Nat → List Nat} {nx0 nx : Nat} {acc : List Fe} (h : FS P ok call ops tm hp0 bo nx0 acc nx) {o : Oper} (ho : ops[acc.length]? = some o) {fe : Fe} (hfe : feOf P ok call ops tm hp0 (bo acc.length) acc nx o = some fe) : FS P ok call ops tm hp0 bo nx0 (acc ++ [fe]) fe.n1 := by
  obtain ⟨n1, n2⟩ := feOf_n hfe
  have split_ : ∀ i f, (acc ++ [fe])[i]? = some f → (i < acc.length ∧ acc[i]? = some f) ∨ (i = acc.length ∧ f = fe) := fun i f hi => by
    rw [List.getElem?_append] at hi
    split at hi
    · rename_i hlt; exact .inl ⟨hlt, hi⟩
    · rename_i hlt
      have : i - acc.length = 0 := by
        rcases Nat.eq_zero_or_pos (i - acc.length) with h | h
        · exact h
        · rw [List.getElem?_eq_none (by simp; omega)] at hi; cases hi
      rw [this] at hi
      injection hi with hi
      exact .inr ⟨by omega, hi.symm⟩
  refine ⟨fun i f hi => ?_, fun i f hi => ?_, fun i j fi fj hi hj hij => ?_, by have := h.le; omega⟩
  · rcases split_ i f hi with ⟨h1, h2⟩ | ⟨rfl, rfl⟩
    · obtain ⟨o', h3, h4⟩ := h.ev i f h2
      exact ⟨o', h3, by rw [List.take_append_of_le_length (by omega)]; exact h4⟩
    · exact ⟨o, ho, by rw [List.take_left' rfl, n1]; exact hfe⟩
  · rcases split_ i f hi with ⟨h1, h2⟩ | ⟨rfl, rfl⟩
    · have := h.rng i f h2; omega
    · have := h.le; omega
  · rcases split_ i fi hi with ⟨h1, h2⟩ | ⟨rfl, rfl⟩ <;> rcases split_ j fj hj with ⟨h3, h4⟩ | ⟨rfl, rfl⟩
    · exact h.ord i j fi fj h2 h4 hij
    · have := h.rng i fi h2; omega
    · omega
    · omega
theorem evFront_spec {ok : Nat → Bool} {call : Call} {ops : List Oper} {tm : List AV} {hp0 : Hp} {bo : Nat → List Nat} {nx0 : Nat} : ∀ {l : List Oper} {acc : List Fe} {nx : Nat} {fes : List Fe} {tl pre : List Oper}, evFront P ok call ops tm hp0 bo l acc nx = (fes, tl) → ops = pre ++ l → acc.length = pre.length → FS P ok call ops tm hp0 bo nx0 acc nx →
    ∃ pre' nx', ops = pre' ++ tl ∧ fes.length = pre'.length ∧ FS P ok call ops tm hp0 bo nx0 fes nx'
  | [], acc, nx, fes, tl, pre, h, ho, hl, hF => by
    simp only [evFront, Prod.mk.injEq] at h
    obtain ⟨rfl, rfl⟩ := h
    exact ⟨pre, nx, ho, hl, hF⟩
  | o :: r, acc, nx, fes, tl, pre, h, ho, hl, hF => by
    unfold evFront at h
    split at h
    · rename_i fe hfe
      refine evFront_spec (pre := pre ++ [o]) h (by rw [ho]; simp) (by simp [hl]) (hF.snoc ?_ hfe)
      rw [ho, hl, List.getElem?_append_right (Nat.le_refl _)]
      simp
    · simp only [Prod.mk.injEq] at h
      obtain ⟨rfl, rfl⟩ := h
      exact ⟨pre, nx, ho, hl, hF⟩
end
end Go.Proofs.YthiblfkmcdnalaaGreat.Ae

namespace Go.Proofs.YthiblfkmcdnalaaGreat.Ae
open Go.RowKit

theorem memT_spec : ∀ {l : List Tmp} {t : Tmp}, t ∈ l → memT l t = true
  | a :: r, t, h => by
    unfold memT
    split
    · rfl
    · rename_i hb
      rcases List.mem_cons.1 h with rfl | h
      · rw [Nat.beq_refl] at hb; cases hb
      · exact memT_spec h
theorem sameD_spec {a b : Option Tmp} (h : sameD a b = false) : ∀ t, b = some t → a ≠ some t := by
  rintro t rfl rfl
  simp [sameD] at h
theorem tmp_eval {a : Act} {t : Nat} {v : Value} (h : a.tmps.toList[t]? = some v) : a.eval (.tmp t) = v := by
  simp only [Act.eval, Array.getD_eq_getD_getElem?]
  rw [← Array.getElem?_toList, h]
  rfl
theorem put_eval_self {a : Act} {d : Nat} {v : Value} (h : d < a.tmps.size) : (a.put (some d) v).eval (.tmp d) = v := by
  simp [Act.put, Act.eval, h]
theorem put_eval_ne {a : Act} {d : Option Tmp} {t : Nat} {v : Value} (h : d ≠ some t) : (a.put d v).eval (.tmp t) = a.eval (.tmp t) := by
  cases d with
  | none => rfl
  | some d =>
    have hne : d ≠ t := fun e => h (by rw [e])
    simp [Act.put, Act.eval, Array.getElem?_setIfInBounds_ne hne]
theorem put_size (a : Act) (d : Option Tmp) (v : Value) : (a.put d v).tmps.size = a.tmps.size := by cases d <;> simp [Act.put]
section
variable {P : Program}
/-- the operations of S are done -/
structure Dy (fes : List Fe) (tm : List AV) (hp0 : Hp) (nx0 nx : Nat) (φ0 : Mp) (a0 : Act) (w0 : World) (S : Nat → Bool) (φ : Mp) (a : Act) (w : World) : Prop where
  ext : Ext φ0 φ nx0 nx
  free : ∀ (i : Nat) (fe : Fe), fes[i]? = some fe → S i = false → Fresh φ fe.n0 fe.n1
  wr : ∀ (k : Nat) (fe : Fe) (t : Tmp), fes[k]? = some fe → S k = true → fe.dst = some t → fe.x.rel φ (a.eval (.tmp t))
  nwr : ∀ t : Tmp, (∀ (k : Nat) (fe : Fe), fes[k]? = some fe → S k = true → fe.dst ≠ some t) → ∀ y, tm[t]? = some y → y.rel φ (a.eval (.tmp t))
  size : a.tmps.size = tm.length
  r : R φ (hpF S 0 fes hp0) nx w
  ids : ∀ b ∈ hp0, b.id < nx0
  new : ∀ (i : Nat) (fe : Fe), fes[i]? = some fe → S i = true → ∀ b ∈ fe.dl, fe.n0 ≤ b.id ∧ b.id < fe.n1 ∧ ∀ g κ, φ b.id = some (g, κ) → w0.heap.size ≤ g
  below : Below w0.heap.size w0 w
  cl : ∀ (i : Nat) (fe : Fe), fes[i]? = some fe → S i = true → ∀ k, fe.m.testBit k = true → S k = true
  defers : a.defers = a0.defers
noncomputable def addS (S : Nat → Bool) (j : Nat) : Nat → Bool := fun k => if k = j then true else S k
theorem addS_self (S : Nat → Bool) (j : Nat) : addS S j j = true := if_pos rfl
theorem addS_ne {S : Nat → Bool} {j k : Nat} (h : k ≠ j) : addS S j k = S k := if_neg h
theorem addS_of {S : Nat → Bool} {j k : Nat} (h : S k = true) : addS S j k = true := by
  unfold addS
  split
  · rfl
  · exact h
theorem addS_inv {S : Nat → Bool} {j k : Nat} (h : addS S j k = true) : k = j ∨ S k = true := by
  by_cases hk : k = j
  · exact .inl hk
  · rw [addS_ne hk] at h; exact .inr h
theorem dy_step {ok : Nat → Bool} {call : Call} (hO : OkP P ok call) {ops : List Oper} {fes : List Fe} {tm : List AV} {hp0 : Hp} {nx0 nx : Nat} {φ0 φ : Mp} {a0 a : Act} {w0 w : World} {S : Nat → Bool} {bo : Nat → List Nat} (hF : FS P ok call ops tm hp0 bo nx0 fes nx) (hD : Dy fes tm hp0 nx0 nx φ0 a0 w0 S φ a w)
    {j : Nat} {o : Oper} {fe : Fe} (hj : fes[j]? = some fe) (ho : ops[j]? = some o) (hS : S j = false) (haf : ∀ k ∈ afters o, S k = true) {K : Act → World → Prop} {Q : Exit → Act → World → Prop}
    (hK : ∀ φ' a' w', Dy fes tm hp0 nx0 nx φ0 a0 w0 (addS S j) φ' a' w' → K a' w') : if Region.wanted o (yielded ops.toArray a.tmps) then o.wp P a w K Q else K (a.put o.dst undef) w := by
  obtain ⟨o', ho', hfe⟩ := hF.ev j fe hj
  rw [ho] at ho'
  injection ho' with ho'
  subst ho'
  obtain ⟨r1, r2, r3⟩ := hF.rng j fe hj
  have hjl : j < fes.length := (List.getElem?_eq_some_iff.1 hj).1
  have take_get : ∀ {i : Nat} {f : Fe}, (fes.take j)[i]? = some f → i < j ∧ fes[i]? = some f := fun h => by
    rw [List.getElem?_take] at h
    split at h
    · rename_i hlt; exact ⟨hlt, h⟩
    · cases h
  have get_take : ∀ {i : Nat} {f : Fe}, i < j → fes[i]? = some f → (fes.take j)[i]? = some f := fun h1 h2 => by rw [List.getElem?_take, if_pos h1]; exact h2
  unfold feOf at hfe
  split at hfe
  case h_2 => cases hfe
  rename_i m hm
  split at hfe
  case h_2 => cases hfe
  rename_i hck
  simp only [Bool.and_eq_true] at hck
  obtain ⟨hck, hdst⟩ := hck
  have hck := ckAll_spec hck
  simp only [Nat.zero_add] at hck
  -- the mask lies in S
  have hmS : ∀ k, m.testBit k = true → S k = true := fun k hk => by
    obtain ⟨i, h1, h2⟩ := maskOf_down hm k hk
    rcases h2 with rfl | ⟨f, h3, h4⟩
    · exact haf k h1
    · exact hD.cl i f (take_get h3).2 (haf i h1) k h4
  -- the operands
  have hlk : fe.lk = looksL ops o ∧ fe.dst = o.dst ∧ fe.m = m := by
    split at hfe
    · split at hfe
      case h_2 => cases hfe
      injection hfe with hfe; rw [← hfe]; exact ⟨rfl, rfl, rfl⟩
    · injection hfe with hfe; rw [← hfe]; exact ⟨rfl, rfl, rfl⟩
    · cases hfe
  have hckF : ∀ (k : Nat) (f : Fe), fes[k]? = some f → j < k → sameD fe.dst f.dst = false ∧ (f.m.testBit j = true ∨ (inD fe.lk f.dst = false ∧ inD f.lk fe.dst = false)) := fun k f hk hjk => by
    obtain ⟨ok', hok, hfk⟩ := hF.ev k f hk
    unfold feOf at hfk
    split at hfk
    case h_2 => cases hfk
    rename_i m2 hm2
    split at hfk
    case h_2 => cases hfk
    rename_i hc2
    simp only [Bool.and_eq_true] at hc2
    have hq : f.lk = looksL ops ok' ∧ f.dst = ok'.dst ∧ f.m = m2 := by
      split at hfk
      · split at hfk
        case h_2 => cases hfk
        injection hfk with hfk; rw [← hfk]; exact ⟨rfl, rfl, rfl⟩
      · injection hfk with hfk; rw [← hfk]; exact ⟨rfl, rfl, rfl⟩
      · cases hfk
    have := ckAll_spec hc2.1 j fe (by rw [List.getElem?_take, if_pos hjk]; exact hj)
    rw [Nat.zero_add] at this
    rw [hq.1, hq.2.1, hq.2.2]
    exact this
  have hρ : ∀ x y, rhoF tm (fes.take j) m (looksL ops o) x = some y → y.rel φ (a.eval x) := by
    intro x y hx
    cases x with
    | tmp t =>
      simp only [rhoF] at hx
      split at hx
      case h_2 => cases hx
      rename_i hin
      split at hx
      · rename_i x' hfw
        injection hx with hx
        subst hx
        obtain ⟨i, f, h1, h2, h3, rfl⟩ := findW_some hfw
        rw [Nat.zero_add] at h2
        exact hD.wr i f t (take_get h1).2 (hmS i h2) h3
      · rename_i hfw
        refine hD.nwr t (fun k f hk hSk hd => ?_) y (nth_get hx)
        rcases Nat.lt_trichotomy k j with hlt | rfl | hlt
        · have hk' := get_take hlt hk
          have := (hck k f hk').2
          rcases this with h | ⟨_, h⟩
          · exact findW_none hfw k f hk' (by rw [Nat.zero_add]; exact h) hd
          · rw [hd] at h
            rw [show inD (looksL ops o) (some t) = memT (looksL ops o) t from rfl, hin] at h
            cases h
        · rw [hS] at hSk; cases hSk
        · have := (hckF k f hk hlt).2
          rcases this with h | ⟨h, _⟩
          · have := hD.cl k f hk hSk j h
            rw [hS] at this; cases this
          · rw [hd, hlk.1] at h
            rw [show inD (looksL ops o) (some t) = memT (looksL ops o) t from rfl, hin] at h
            cases h
    | const v => injection hx with hx; subst hx; exact ofVal_rel φ v
    | global g => cases hx
    | func f => injection hx with hx; subst hx; rfl
  have hwant : ∀ {b}, wantA ops (rhoF tm (fes.take j) m (looksL ops o)) o = some b → Region.wanted o (yielded ops.toArray a.tmps) = b := fun hw => wantA_spec (φ := φ) (a := a) (fun _ _ d _ _ _ y hy => hρ _ y hy) hw
  -- what lies in the memory that the operation is reckoned from
  have hsub : ∀ b ∈ filt (bo j) (hpF (fun k => m.testBit k) 0 (fes.take j) hp0), b ∈ hpF S 0 fes hp0 := fun b hb => by
    rcases hpF_mem.1 (filt_mem hb).1 with hb | ⟨i, f, h1, h2, h3⟩
    · exact hpF_mem.2 (.inl hb)
    · rw [Nat.zero_add] at h2
      exact hpF_mem.2 (.inr ⟨i, f, (take_get h1).2, by rw [Nat.zero_add]; exact hmS i h2, h3⟩)
  have hids : ∀ b ∈ filt (bo j) (hpF (fun k => m.testBit k) 0 (fes.take j) hp0), b.id < fe.n0 := fun b hb => by
    rcases hpF_mem.1 (filt_mem hb).1 with hb | ⟨i, f, h1, h2, h3⟩
    · have := hD.ids b hb; omega
    · rw [Nat.zero_add] at h2
      have hi := take_get h1
      have h4 := hD.new i f hi.2 (hmS i h2) b h3
      have h5 := hF.ord i j f fe hi.2 hj hi.1
      omega
  have hRj : R φ (filt (bo j) (hpF (fun k => m.testBit k) 0 (fes.take j) hp0)) fe.n0 w := ⟨(hD.r.drop hsub).blk, hids, (hD.r.drop hsub).inj⟩
  have hfr := hD.free j fe hj hS
  -- the end, whatever the operation came to
  have fin_ : ∀ {x : AV} {hp' : Hp} {v : Value} {w' : World}, fe.x = x → fe.dl = newOf fe.n0 hp' → Out fe.n0 φ (filt (bo j) (hpF (fun k => m.testBit k) 0 (fes.take j) hp0)) fe.n0 w x hp' fe.n1 v w' → K (a.put o.dst v) w' := by
    intro x hp' v w' hx hdl hout
    obtain ⟨φ', hE, hxv, hR', hFr⟩ := hout
    have hnoW : ∀ g, ¬ Wr fe.n0 φ (filt (bo j) (hpF (fun k => m.testBit k) 0 (fes.take j) hp0)) g := fun g ⟨b, hb, hlo, _⟩ => by have := hids b hb; omega
    have hblk : ∀ g, g < w.heap.size → w'.heap[g]? = w.heap[g]? := fun g hg => hFr.blk g hg (hnoW g)
    have hnew : ∀ b ∈ fe.dl, b ∈ hp' ∧ fe.n0 ≤ b.id ∧ b.id < fe.n1 ∧ ∀ g κ, φ' b.id = some (g, κ) → w.heap.size ≤ g := fun b hb => by
      rw [hdl] at hb
      obtain ⟨h1, h2⟩ := newOf_mem hb
      exact ⟨h1, h2, hR'.lo b h1, fun g κ hg => (hFr.wr g ⟨b, h1, h2, κ, hg⟩).elim id fun h => absurd h (hnoW g)⟩
    have hold : ∀ b ∈ hpF S 0 fes hp0, ∀ g κ, φ' b.id = some (g, κ) → g < w.heap.size := fun b hb g κ hg => by
      obtain ⟨g', κ', arr, h1, h2, _⟩ := hD.r.blk b hb
      rw [hE.sub _ _ h1] at hg
      injection hg with hg
      injection hg with hg _
      subst hg
      exact (Array.getElem?_eq_some_iff.1 h2).1
    have hcases : ∀ b ∈ hpF (addS S j) 0 fes hp0, b ∈ fe.dl ∨ b ∈ hpF S 0 fes hp0 := fun b hb => by
      rcases hpF_mem.1 hb with hb | ⟨i, f, h1, h2, h3⟩
      · exact .inr (hpF_mem.2 (.inl hb))
      · rw [Nat.zero_add] at h2
        rcases addS_inv h2 with rfl | h2
        · rw [hj] at h1; injection h1 with h1; subst h1; exact .inl h3
        · exact .inr (hpF_mem.2 (.inr ⟨i, f, h1, by rw [Nat.zero_add]; exact h2, h3⟩))
    have hszw : w.heap.size ≤ w'.heap.size := hFr.size
    refine hK φ' _ w' ⟨⟨fun i p hp => hE.sub i p (hD.ext.sub i p hp), fun i hi => (hE.off i (by omega)).trans (hD.ext.off i hi), hD.ext.le⟩, ?_, ?_, ?_, by rw [put_size]; exact hD.size, ⟨?_, ?_, ?_⟩, hD.ids, ?_, ?_, ?_, by rw [put_defers]; exact hD.defers⟩
    · -- free
      intro i f hi hSi q hq1 hq2
      have hij : i ≠ j := fun e => by rw [e, addS_self] at hSi; cases hSi
      rw [addS_ne hij] at hSi
      rw [hE.off q ?_]
      · exact hD.free i f hi hSi q hq1 hq2
      · rcases Nat.lt_or_ge i j with h | h
        · have := hF.ord i j f fe hi hj h; left; omega
        · have := hF.ord j i fe f hj hi (by omega); right; omega
    · -- written
      intro k f t hk hSk hd
      rcases addS_inv hSk with rfl | hSk'
      · rw [hj] at hk
        injection hk with hk
        subst hk
        rw [hlk.2.1] at hd
        rw [hd, hx]
        rw [put_eval_self]
        · exact hxv
        · rw [hD.size]
          rw [hd] at hdst
          exact Nat.le_of_ble_eq_true hdst
      · rw [put_eval_ne]
        · exact AV.rel_mono hE.sub (hD.wr k f t hk hSk' hd)
        · rw [← hlk.2.1]
          rcases Nat.lt_trichotomy k j with h | rfl | h
          · have h1 := (hck k f (get_take h hk)).1
            rw [← hlk.2.1] at h1
            intro e
            exact sameD_spec h1 t e hd
          · rw [hS] at hSk'; cases hSk'
          · have h1 := (hckF k f hk h).1
            exact sameD_spec h1 t hd
    · -- not written
      intro t hno y hy
      rw [put_eval_ne]
      · exact AV.rel_mono hE.sub (hD.nwr t (fun k f hk hSk => hno k f hk (addS_of hSk)) y hy)
      · rw [← hlk.2.1]
        exact hno j fe hj (addS_self S j)
    · intro b hb
      rcases hcases b hb with hb | hb
      · exact hR'.blk b (hnew b hb).1
      · exact (hD.r.blk b hb).mono hE.sub fun g κ hg => hblk g ((hD.r.blk b hb).lt hg)
    · intro b hb
      rcases hcases b hb with hb | hb
      · have := (hnew b hb).2.2.1; omega
      · exact hD.r.lo b hb
    · intro b hb b' hb' g κ κ' h1 h2
      rcases hcases b hb with hb | hb <;> rcases hcases b' hb' with hb' | hb'
      · exact hR'.inj b (hnew b hb).1 b' (hnew b' hb').1 g κ κ' h1 h2
      · have := (hnew b hb).2.2.2 g κ h1
        have := hold b' hb' g κ' h2
        omega
      · have := (hnew b' hb').2.2.2 g κ' h2
        have := hold b hb g κ h1
        omega
      · refine hD.r.inj b hb b' hb' g κ κ' ?_ ?_
        · obtain ⟨g', κ'', arr, e1, _⟩ := hD.r.blk b hb
          rw [hE.sub _ _ e1] at h1
          rw [e1]; exact h1
        · obtain ⟨g', κ'', arr, e1, _⟩ := hD.r.blk b' hb'
          rw [hE.sub _ _ e1] at h2
          rw [e1]; exact h2
    · -- new
      intro i f hi hSi b hb
      rcases addS_inv hSi with rfl | hSi
      · rw [hj] at hi
        injection hi with hi
        subst hi
        obtain ⟨h1, h2, h3, h4⟩ := hnew b hb
        exact ⟨h2, h3, fun g κ hg => by have := h4 g κ hg; have := hD.below.size; omega⟩
      · obtain ⟨h1, h2, h3⟩ := hD.new i f hi hSi b hb
        refine ⟨h1, h2, fun g κ hg => h3 g κ ?_⟩
        have hb' : b ∈ hpF S 0 fes hp0 := hpF_mem.2 (.inr ⟨i, f, hi, by rw [Nat.zero_add]; exact hSi, hb⟩)
        obtain ⟨g', κ'', arr, e1, _⟩ := hD.r.blk b hb'
        rw [hE.sub _ _ e1] at hg
        rw [e1]; exact hg
    · exact hD.below.trans ⟨hFr.os, hFr.tape, hFr.output, hFr.size, fun k hk => hblk k (by have := hD.below.size; omega)⟩
    · intro i f hi hSi k hk
      rcases addS_inv hSi with rfl | hSi
      · rw [hj] at hi
        injection hi with hi
        subst hi
        rw [hlk.2.2] at hk
        exact addS_of (hmS k hk)
      · exact addS_of (hD.cl i f hi hSi k hk)
  split at hfe
  · rename_i hw
    rw [hwant hw, if_pos rfl]
    split at hfe
    case h_2 => cases hfe
    rename_i x hp' nx' hev
    injection hfe with hfe
    have e0 : fe.x = x := by rw [← hfe]
    have e1 : fe.n1 = nx' := by rw [← hfe]
    have e2 : fe.dl = newOf fe.n0 hp' := by rw [← hfe]
    rw [← e1] at hev
    exact (evOne_does hO hev hRj hρ hfr).wp fun v w' hv => fin_ e0 e2 hv
  · rename_i hw
    rw [hwant hw, if_neg (by simp)]
    injection hfe with hfe
    have e0 : fe.x = vUnd := by rw [← hfe]
    have e1 : fe.n1 = fe.n0 := by rw [← hfe]
    have e2 : fe.dl = newOf fe.n0 [] := by rw [← hfe]; rfl
    refine fin_ (hp' := []) e0 e2 ?_
    rw [e1]
    exact ⟨φ, .refl _ _, vUnd_rel φ, hRj.drop (fun b hb => by cases hb), (Fr.refl _ _ _ _).drop (fun b hb => by cases hb)⟩
  · cases hfe
end
end Go.Proofs.YthiblfkmcdnalaaGreat.Ae
